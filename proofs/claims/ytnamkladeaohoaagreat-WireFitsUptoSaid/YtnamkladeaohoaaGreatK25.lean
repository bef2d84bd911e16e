/- Rows laid anew in place; MarkMessage's memory on the way. -/
import Derived.Test.YtnamkladeaohoaaGreatK24
import Derived.Deep.MidRow
import Derived.Laws.OwnMore
namespace Go.Proofs.YtnamkladeaohoaaGreat.markP
open Go.RowKit Go.Proofs.YtnamkladeaohoaaGreat.kit Go.Proofs.YtnamkladeaohoaaGreat.nspec Go.Proofs.YtnamkladeaohoaaGreat.wireP Go.Proofs.YtnamkladeaohoaaGreat.wireM Go.Proofs.YtnamkladeaohoaaGreat.wireC Go.Proofs.YtnamkladeaohoaaGreat.wpack Go.Proofs.YtnamkladeaohoaaGreat.rows Go.Proofs.YtnamkladeaohoaaGreat.putM Go.Proofs.YtnamkladeaohoaaGreat.ust
set_option linter.unusedVariables false

def putL : List Value → Nat → List Value → List Value
  | xs, _, [] => xs
  | xs, o, v :: r => putL (xs.set o v) (o + 1) r
theorem putL_skip (A : List Value) : ∀ (vs : List Value) (B : List Value) (o : Nat), putL (A ++ B) (A.length + o) vs = A ++ putL B o vs
  | [], _, _ => rfl
  | v :: r, B, o => by
    show putL ((A ++ B).set (A.length + o) v) (A.length + o + 1) r = A ++ putL (B.set o v) (o + 1) r
    rw [List.set_append_right _ _ (by omega), Nat.add_sub_cancel_left, Nat.add_assoc]
    exact putL_skip A r _ _
theorem putL_head : ∀ (vs A B : List Value), A.length = vs.length → putL (A ++ B) 0 vs = vs ++ B
  | [], A, B, h => by
    have : A = [] := List.eq_nil_of_length_eq_zero h
    subst this; rfl
  | v :: r, a :: A, B, h => by
    show putL (v :: (A ++ B)) (0 + 1) r = v :: (r ++ B)
    have h1 := putL_skip [v] r (A ++ B) 0
    rw [putL_head r A B (by simpa using h)] at h1
    exact h1
theorem putL_flat {α : Type} (f : α → List Value) (n : Nat) (hf : ∀ x, (f x).length = n) : ∀ (L : List α) (k : Nat) (x : α), k < L.length → putL (L.flatMap f) (k * n) (f x) = (L.set k x).flatMap f
  | [], k, x, h => by simp at h
  | y :: L, 0, x, _ => by rw [Nat.zero_mul, List.flatMap_cons, putL_head _ _ _ (by rw [hf, hf]), List.set_cons_zero, List.flatMap_cons]
  | y :: L, k + 1, x, h => by
    rw [List.flatMap_cons, show (k + 1) * n = (f y).length + k * n by rw [hf, Nat.succ_mul]; omega, putL_skip, putL_flat f n hf L k x (by simpa using h), List.set_cons_succ, List.flatMap_cons]
theorem own_putL {base size g n cap : Nat} {e : TypeId} : ∀ (vs : List Value) (o : Nat) (w : World) (xs : List Value), w.ownsRow base e size (.slice (some ⟨g, 0, none⟩) n cap) n xs →
    (w.setCells g o vs).ownsRow base e size (.slice (some ⟨g, 0, none⟩) n cap) n (putL xs o vs) ∧ w.grownBy (w.setCells g o vs) (some g)
  | [], o, w, xs, h => ⟨h, rfl, rfl, rfl, Nat.le_refl _, fun _ _ _ => rfl⟩
  | v :: r, o, w, xs, h => by
    obtain ⟨h1, g1⟩ := h.stored o v
    obtain ⟨h2, g2⟩ := own_putL r (o + 1) _ _ h1
    exact ⟨h2, g2.os.trans g1.os, g2.tape.trans g1.tape, g2.output.trans g1.output, Nat.le_trans g1.size g2.size, fun k hk hn => (g2.block k (Nat.lt_of_lt_of_le hk g1.size) hn).trans (g1.block k hk hn)⟩
/-- row k of one's own list laid anew -/
theorem own_put {α : Type} (f : α → List Value) (m : Nat) (hf : ∀ x, (f x).length = m) {base g n cap : Nat} {e : TypeId} {w : World} {L : List α} (h : w.ownsRow base e m (.slice (some ⟨g, 0, none⟩) n cap) n (L.flatMap f)) (k : Nat) (hk : k < L.length) (x : α) :
    (w.setCells g (k * m) (f x)).ownsRow base e m (.slice (some ⟨g, 0, none⟩) n cap) n ((L.set k x).flatMap f) ∧ w.grownBy (w.setCells g (k * m) (f x)) (some g) := by
  have := own_putL (f x) (k * m) w _ h
  rw [putL_flat f m hf L k x hk] at this
  exact this
/-- what is there, to be written -/
theorem own_there {base g n cap m : Nat} {e : TypeId} {w : World} {xs : List Value} (h : w.ownsRow base e m (.slice (some ⟨g, 0, none⟩) n cap) n xs) (k : Nat) (hk : k < n) : w.there g (k * m) m := by
  obtain ⟨g', cap', e1, _, _, h2, h3, _⟩ := own_at h (by omega)
  cases e1
  intro j hj
  have hlt : k * m + j < n * m := by
    have h4 : (k + 1) * m ≤ n * m := Nat.mul_le_mul_right m hk
    rw [Nat.succ_mul] at h4; omega
  obtain ⟨u, hu⟩ := h2 _ hlt
  exact ⟨by rw [hu]; rfl, h3 _⟩
/-- kept: all but what lies between -/
structure EffB (lo hi : Nat) (w w' : World) : Prop where
  os : w'.os = w.os
  tape : w'.tape = w.tape
  output : w'.output = w.output
  size : w.heap.size ≤ w'.heap.size
  block : ∀ k, k < w.heap.size → (k < lo ∨ hi ≤ k) → w'.heap[k]? = w.heap[k]?
def InB (lo hi S : Nat) (a : Option Addr) : Prop := ∀ ad, a = some ad → (lo ≤ ad.block ∧ ad.block < hi) ∨ S ≤ ad.block
theorem EffB.refl (lo hi : Nat) (w : World) : EffB lo hi w w := ⟨rfl, rfl, rfl, Nat.le_refl _, fun _ _ _ => rfl⟩
theorem EffB.below {lo hi : Nat} {w w1 w2 : World} (h : EffB lo hi w w1) (hB : Below w.heap.size w1 w2) : EffB lo hi w w2 :=
  ⟨hB.os.trans h.os, hB.tape.trans h.tape, hB.output.trans h.output, Nat.le_trans h.size hB.size, fun k hk hn => (hB.block k hk).trans (h.block k hk hn)⟩
theorem EffB.grown {lo hi : Nat} {w w1 w2 : World} {row : Option Nat} (h : EffB lo hi w w1) (hg : w1.grownBy w2 row) (hr : ∀ g, row = some g → (lo ≤ g ∧ g < hi) ∨ w.heap.size ≤ g) : EffB lo hi w w2 :=
  ⟨hg.os.trans h.os, hg.tape.trans h.tape, hg.output.trans h.output, Nat.le_trans h.size hg.size, fun k hk hn => (hg.block k (Nat.lt_of_lt_of_le hk h.size) (fun e => by rcases hr k e.symm with h1 | h1 <;> omega)).trans (h.block k hk hn)⟩
theorem EffB.out {lo hi B : Nat} {w w' : World} (h : EffB lo hi w w') (hB : B ≤ lo) (hs : B ≤ w.heap.size) : Below B w w' :=
  ⟨h.os, h.tape, h.output, h.size, fun k hk => h.block k (by omega) (by omega)⟩
/-- what a record is, marked or grown -/
def grownR (j k : Nat) : Rc := ⟨⟨#[103, 114, 111, 119, 110]⟩, -1000 * (j : Int) - 500 - (k : Int), 0, 0, ⟨#[]⟩⟩
def markR (j k : Nat) : Rc := ⟨⟨#[109, 97, 114, 107]⟩, -1000 * (j : Int) - (k : Int) - 1, 0, 0, ⟨#[]⟩⟩
def contR (j n k : Nat) : Rc := if k < n then markR j k else grownR j (k - n)
def contL (j n c : Nat) : List Rc := (List.range c).map (contR j n)
theorem contL_len (j n c : Nat) : (contL j n c).length = c := by simp [contL]
theorem contL_at {j n c k : Nat} (h : k < c) : (contL j n c)[k]? = some (contR j n k) := by simp [contL, h]
theorem contL_succ (j n c : Nat) : contL j n (c + 1) = contL j n c ++ [contR j n c] := by simp [contL, List.range_succ]
theorem take_mark {j n k : Nat} {L : List Rc} (h : L.take k = contL j n k) (hk : k < L.length) (hn : k < n) : (L.set k (markR j k)).take (k + 1) = contL j n (k + 1) := by
  rw [contL_succ, ← h]
  have e : contR j n k = markR j k := by unfold contR; rw [if_pos hn]
  rw [e, List.take_add_one, List.take_set_of_le (Nat.le_refl k)]
  simp [hk]
/-- MarkMessage's memory: the lists, the parameter's box -/
structure MkS (lo hi : Nat) (w0 wr : World) (p0 : Pl) (m0 : Mg) (pl : Pl) (m : Mg) : Prop where
  own : Own4 lo wr pl m
  iq : InB lo hi w0.heap.size pl.qa
  is : ∀ s, s < 3 → InB lo hi w0.heap.size (secA pl s)
  msg : MsgAt wr w0.heap.size p0 m0
  eff : EffB lo hi w0 wr
theorem secN {lo : Nat} {wr : World} {pl : Pl} {m : Mg} (h : Own4 lo wr pl m) {s : Nat} (hs : s < 3) : wr.ownsRow lo 43 5 (.slice (secA pl s) (secL m s).length (secC pl s)) (secL m s).length ((secL m s).flatMap Rc.cells) := by
  match s, hs with
  | 0, _ => exact h.n
  | 1, _ => exact h.u
  | 2, _ => exact h.r
section
variable {lo hi : Nat} {w0 wr w1 : World} {p0 : Pl} {m0 : Mg} {pl : Pl} {m : Mg}
/-- what lies behind the beginning may change, but for the lists -/
theorem MkS.keep (h : MkS lo hi w0 wr p0 m0 pl m) (hk : ∀ (k : Nat) (c : Array Value) (t : TypeId), wr.heap[k]? = some (.cells c t (0, 0)) → t = 35 ∨ t = 43 ∨ t = 25 → w1.heap[k]? = some (.cells c t (0, 0))) (hB : Below w0.heap.size wr w1) : MkS lo hi w0 w1 p0 m0 pl m :=
  ⟨h.own.keep fun k c t hj ht => hk k c t hj (by rcases ht with h1 | h1; exact .inl h1; exact .inr (.inl h1)), h.iq, h.is, hk _ _ _ h.msg (.inr (.inr rfl)), h.eff.below hB⟩
theorem MkS.below (h : MkS lo hi w0 wr p0 m0 pl m) (hB : Below wr.heap.size wr w1) : MkS lo hi w0 w1 p0 m0 pl m :=
  h.keep (fun k c t hj _ => (hB.block k (blk_lt hj)).trans hj) (hB.mono h.eff.size)
theorem MkS.far (h : MkS lo hi w0 wr p0 m0 pl m) {X i : Nat} {v : Value} {c : Array Value} {t : TypeId} (hX : wr.heap[X]? = some (.cells c t (0, 0))) (h1 : t ≠ 35) (h2 : t ≠ 43) (h3 : t ≠ 25) (hl : w0.heap.size ≤ X) : MkS lo hi w0 (wr.setCell ⟨X, i, none⟩ v) p0 m0 pl m :=
  h.keep (fun k c' t' hj ht => (far_one (other_t hj hX (by rcases ht with rfl | rfl | rfl; exact fun e => h1 e.symm; exact fun e => h2 e.symm; exact fun e => h3 e.symm))).trans hj) (below_one (Below.refl _ _) hl)
/-- a question laid anew -/
theorem MkS.putQ {g cap k : Nat} (h : MkS lo hi w0 wr p0 m0 pl m) (hq : Value.slice pl.qa m.qs.length pl.qc = .slice (some ⟨g, 0, none⟩) m.qs.length cap) (hk : k < m.qs.length) (x : Qn) :
    MkS lo hi w0 (wr.setCells g (k * 3) x.cells) p0 m0 pl { m with qs := m.qs.set k x } := by
  have hown := h.own.q
  rw [hq] at hown
  obtain ⟨h1, h2⟩ := own_put Qn.cells 3 (fun _ => rfl) hown k hk x
  have hq2 := h.own.q
  have hgr : wr.grownBy (wr.setCells g (k * 3) x.cells) (Value.slice pl.qa m.qs.length pl.qc).ownBlock := by rw [hq]; exact h2
  have ha : pl.qa = some ⟨g, 0, none⟩ := by injection hq
  refine ⟨⟨?_, own_far h.own.n hq2 hgr (by decide), own_far h.own.u hq2 hgr (by decide), own_far h.own.r hq2 hgr (by decide), h.own.nu, h.own.nr, h.own.ur⟩, h.iq, h.is, ?_, h.eff.grown h2 (fun g' e => by cases e; exact h.iq _ ha)⟩
  · dsimp only
    rw [List.length_set, hq]; exact h1
  · exact (hgr.block _ (blk_lt h.msg) (row_neG hq2 h.msg (fun c' f e => by injection e with _ e2 _; exact absurd e2 (by decide)))).trans h.msg
theorem grown_own {W : World} {s n : Nat} {L' : List Rc} {a' : Option Addr} {c' : Nat} (hs : s < 3) (h : Own4 lo W pl m) (hgr : W.grownBy w1 (Value.slice (secA pl s) n (secC pl s)).ownBlock) (hn : (secL m s).length = n)
    (ho : w1.ownsRow lo 43 5 (.slice a' L'.length c') L'.length (L'.flatMap Rc.cells)) (hat : ∀ g3 o q, a' = some ⟨g3, o, q⟩ → (Value.slice (secA pl s) n (secC pl s)).ownBlock = some g3 ∨ g3 = W.heap.size) :
    Own4 lo w1 (updP pl s a' c') (updM m s L') := by
  subst hn
  have hsec := secN h hs
  have na : ∀ {x y : Option Addr} {n' c2 : Nat} {xs' : List Value} {sz' : Nat} {t' : TypeId}, W.ownsRow lo t' sz' (.slice y n' c2) n' xs' → Apart x y → x = secA pl s → Apart a' y := by
    intro x y n' c2 xs' sz' t' hy ha hx
    cases a' with
    | none => exact .none_l _
    | some ad =>
      intro p q hp hq e
      cases hp
      have := hat ad.block ad.off ad.spot (by cases ad; rfl)
      subst hx
      rcases this with h1 | h1
      · rw [ownB] at h1
        cases hxa : secA pl s with
        | none => rw [hxa] at h1; cases h1
        | some z => rw [hxa] at h1 ha; injection h1 with h1; exact ha z q rfl hq (h1.trans e)
      · subst hq
        rcases hy.2 with ⟨e1, _⟩ | ⟨g', cap', cur, e1, _, hg', _⟩
        · cases e1
        · injection e1 with e1 _ _; injection e1 with e1
          have := blk_lt hg'
          rw [e1] at e; simp only at e; omega
  match s, hs with
  | 0, _ => exact ⟨own_far h.q hsec hgr (by decide), ho, own_apart h.u hgr h.nu, own_apart h.r hgr h.nr, na h.u h.nu rfl, na h.r h.nr rfl, h.ur⟩
  | 1, _ => exact ⟨own_far h.q hsec hgr (by decide), own_apart h.n hgr h.nu.symm, ho, own_apart h.r hgr h.ur, (na h.n h.nu.symm rfl).symm, h.nr, na h.r h.ur rfl⟩
  | 2, _ => exact ⟨own_far h.q hsec hgr (by decide), own_apart h.n hgr h.nr.symm, own_apart h.u hgr h.ur.symm, ho, h.nu, (na h.n h.nr.symm rfl).symm, (na h.u h.ur.symm rfl).symm⟩
theorem secA_upd (pl : Pl) (s : Nat) (a : Option Addr) (c : Nat) : secA (updP pl s a c) s = a := by match s with | 0 => rfl | 1 => rfl | _ + 2 => rfl
theorem secC_upd (pl : Pl) (s : Nat) (a : Option Addr) (c : Nat) : secC (updP pl s a c) s = c := by match s with | 0 => rfl | 1 => rfl | _ + 2 => rfl
theorem secA_other (pl : Pl) {s r : Nat} (a : Option Addr) (c : Nat) (hs : s < 3) (hr : r < 3) (h : r ≠ s) : secA (updP pl s a c) r = secA pl r := by
  match s, r, hs, hr with
  | 0, 0, _, _ => exact absurd rfl h
  | 1, 1, _, _ => exact absurd rfl h
  | 2, 2, _, _ => exact absurd rfl h
  | 0, 1, _, _ | 0, 2, _, _ | 1, 0, _, _ | 1, 2, _, _ | 2, 0, _, _ | 2, 1, _, _ => rfl
theorem secL_other (m : Mg) {s r : Nat} (L : List Rc) (hs : s < 3) (hr : r < 3) (h : r ≠ s) : secL (updM m s L) r = secL m r := by
  match s, r, hs, hr with
  | 0, 0, _, _ => exact absurd rfl h
  | 1, 1, _, _ => exact absurd rfl h
  | 2, 2, _, _ => exact absurd rfl h
  | 0, 1, _, _ | 0, 2, _, _ | 1, 0, _, _ | 1, 2, _, _ | 2, 0, _, _ | 2, 1, _, _ => rfl
theorem updP_self (pl : Pl) (s : Nat) : updP pl s (secA pl s) (secC pl s) = pl := by match s with | 0 => rfl | 1 => rfl | _ + 2 => rfl
theorem MkS.grow {s n : Nat} {L' : List Rc} {a' : Option Addr} {c' : Nat} (hs : s < 3) (h : MkS lo hi w0 wr p0 m0 pl m) (hgr : wr.grownBy w1 (Value.slice (secA pl s) n (secC pl s)).ownBlock) (hn : (secL m s).length = n)
    (ho : w1.ownsRow lo 43 5 (.slice a' L'.length c') L'.length (L'.flatMap Rc.cells)) (hat : ∀ g3 o q, a' = some ⟨g3, o, q⟩ → (Value.slice (secA pl s) n (secC pl s)).ownBlock = some g3 ∨ g3 = wr.heap.size) :
    MkS lo hi w0 w1 p0 m0 (updP pl s a' c') (updM m s L') := by
  have ho4 := grown_own hs h.own hgr hn ho hat
  have hrow : ∀ g, (Value.slice (secA pl s) n (secC pl s)).ownBlock = some g → (lo ≤ g ∧ g < hi) ∨ w0.heap.size ≤ g := by
    intro g e
    rw [ownB] at e
    cases hx : secA pl s with
    | none => rw [hx] at e; cases e
    | some ad => rw [hx] at e; injection e with e; rw [← e]; exact h.is s hs ad hx
  refine ⟨ho4, ?_, ?_, ?_, h.eff.grown hgr hrow⟩
  · match s, hs with
    | 0, _ | 1, _ | 2, _ => exact h.iq
  · intro r hr
    by_cases e : r = s
    · subst e
      rw [secA_upd]
      intro ad had
      rcases hat ad.block ad.off ad.spot (by rw [had]) with h1 | h1
      · exact hrow _ h1
      · right; have := h.eff.size; omega
    · rw [secA_other pl a' c' hs hr e]; exact h.is r hr
  · have hsec := secN h.own hs
    rw [hn] at hsec
    exact (hgr.block _ (blk_lt h.msg) (row_neG hsec h.msg (fun c' f e => by injection e with _ e2 _; exact absurd e2 (by decide)))).trans h.msg
/-- a record laid anew -/
theorem MkS.put {g cap k s : Nat} (hs : s < 3) (h : MkS lo hi w0 wr p0 m0 pl m) (hq : Value.slice (secA pl s) (secL m s).length (secC pl s) = .slice (some ⟨g, 0, none⟩) (secL m s).length cap) (hk : k < (secL m s).length) (x : Rc) :
    MkS lo hi w0 (wr.setCells g (k * 5) x.cells) p0 m0 pl (updM m s ((secL m s).set k x)) := by
  have hown := secN h.own hs
  have ha : secA pl s = some ⟨g, 0, none⟩ := by injection hq
  have hc : secC pl s = cap := by injection hq
  rw [hq] at hown
  obtain ⟨h1, h2⟩ := own_put Rc.cells 5 (fun _ => rfl) hown k hk x
  have h3 := MkS.grow (a' := some ⟨g, 0, none⟩) (c' := cap) (L' := (secL m s).set k x) hs h (by rw [hq]; exact h2) rfl (by rw [List.length_set]; exact h1) (fun g3 o q e => by cases e; left; rw [hq]; rfl)
  have e := updP_self pl s
  rw [ha, hc] at e
  rw [e] at h3; exact h3
end
/-- the three lists, as they stand in the list of lists -/
def lbC (pl : Pl) (m : Mg) : Array Value := #[.slice pl.na m.an.length pl.nc, .slice pl.ua m.au.length pl.uc, .slice pl.ra m.ar.length pl.rc]
theorem lbC_at (pl : Pl) (m : Mg) {s : Nat} (hs : s < 3) : (lbC pl m)[s]? = some (.slice (secA pl s) (secL m s).length (secC pl s)) := by
  match s, hs with
  | 0, _ | 1, _ | 2, _ => rfl
theorem lbC_set (pl : Pl) (m : Mg) {s : Nat} (hs : s < 3) (a : Option Addr) (c : Nat) (L : List Rc) : (lbC pl m).setIfInBounds s (.slice a L.length c) = lbC (updP pl s a c) (updM m s L) := by
  match s, hs with
  | 0, _ | 1, _ | 2, _ => rfl
theorem lbC_len (pl : Pl) (m : Mg) {s : Nat} (hs : s < 3) (L : List Rc) (h : L.length = (secL m s).length) : lbC pl (updM m s L) = lbC pl m := by
  match s, hs with
  | 0, _ => show #[Value.slice pl.na L.length pl.nc, Value.slice pl.ua m.au.length pl.uc, Value.slice pl.ra m.ar.length pl.rc] = _; rw [show L.length = m.an.length from h]; rfl
  | 1, _ => show #[Value.slice pl.na m.an.length pl.nc, Value.slice pl.ua L.length pl.uc, Value.slice pl.ra m.ar.length pl.rc] = _; rw [show L.length = m.au.length from h]; rfl
  | 2, _ => show #[Value.slice pl.na m.an.length pl.nc, Value.slice pl.ua m.au.length pl.uc, Value.slice pl.ra L.length pl.rc] = _; rw [show L.length = m.ar.length from h]; rfl
structure MkL (lo hi LB : Nat) (w0 wr : World) (p0 : Pl) (m0 : Mg) (pl : Pl) (m : Mg) : Prop where
  st : MkS lo hi w0 wr p0 m0 pl m
  lb : wr.heap[LB]? = some (.cells (lbC pl m) 23 (0, 0))
  lo : w0.heap.size ≤ LB
section
variable {lo hi LB : Nat} {w0 wr w1 : World} {p0 : Pl} {m0 : Mg} {pl : Pl} {m : Mg}
theorem MkL.below (h : MkL lo hi LB w0 wr p0 m0 pl m) (hB : Below wr.heap.size wr w1) : MkL lo hi LB w0 w1 p0 m0 pl m :=
  ⟨h.st.below hB, (hB.block _ (blk_lt h.lb)).trans h.lb, h.lo⟩
theorem MkL.cell (h : MkL lo hi LB w0 wr p0 m0 pl m) {s : Nat} (hs : s < 3) : wr.cell? ⟨LB, s, none⟩ = some (.slice (secA pl s) (secL m s).length (secC pl s)) := by
  simp only [World.cell?, h.lb]
  exact lbC_at pl m hs
theorem MkL.frozen (h : MkL lo hi LB w0 wr p0 m0 pl m) (s : Nat) : wr.frozen? ⟨LB, s, none⟩ = false := by simp [World.frozen?, h.lb]
theorem lb_grown {s n : Nat} (hs : s < 3) (h : MkL lo hi LB w0 wr p0 m0 pl m) (hgr : wr.grownBy w1 (Value.slice (secA pl s) n (secC pl s)).ownBlock) (hn : (secL m s).length = n) : w1.heap[LB]? = some (.cells (lbC pl m) 23 (0, 0)) := by
  have hsec := secN h.st.own hs
  rw [hn] at hsec
  exact (hgr.block _ (blk_lt h.lb) (row_neG hsec h.lb (fun c' f e => by injection e with _ e2 _; exact absurd e2 (by decide)))).trans h.lb
theorem MkL.far (h : MkL lo hi LB w0 wr p0 m0 pl m) {X i : Nat} {v : Value} {c : Array Value} {t : TypeId} (hX : wr.heap[X]? = some (.cells c t (0, 0))) (h1 : t ≠ 35) (h2 : t ≠ 43) (h3 : t ≠ 25) (h4 : t ≠ 23) (hl : w0.heap.size ≤ X) : MkL lo hi LB w0 (wr.setCell ⟨X, i, none⟩ v) p0 m0 pl m :=
  ⟨h.st.far hX h1 h2 h3 hl, (far_one (other_t h.lb hX (fun e => h4 e.symm))).trans h.lb, h.lo⟩
theorem MkL.put {g k s n : Nat} (hs : s < 3) (h : MkL lo hi LB w0 wr p0 m0 pl m) (hn : (secL m s).length = n) (ha : secA pl s = some ⟨g, 0, none⟩) (hk : k < n) (x : Rc) :
    MkL lo hi LB w0 (wr.setCells g (k * 5) x.cells) p0 m0 pl (updM m s ((secL m s).set k x)) := by
  subst hn
  have hq : Value.slice (secA pl s) (secL m s).length (secC pl s) = .slice (some ⟨g, 0, none⟩) (secL m s).length (secC pl s) := by rw [ha]
  have hown := secN h.st.own hs
  rw [hq] at hown
  obtain ⟨_, h2⟩ := own_put Rc.cells 5 (fun _ => rfl) hown k hk x
  refine ⟨h.st.put hs hq hk x, ?_, h.lo⟩
  rw [lbC_len pl m hs _ (List.length_set ..)]
  exact lb_grown hs h (by rw [hq]; exact h2) rfl
theorem MkL.push {s n g3 cp : Nat} {x : Rc} (hs : s < 3) (h : MkL lo hi LB w0 wr p0 m0 pl m) (hn : (secL m s).length = n)
    (ho : w1.ownsRow lo 43 5 (.slice (some ⟨g3, 0, none⟩) (n + 1) cp) (n + 1) ((secL m s).flatMap Rc.cells ++ x.cells)) (hgr : wr.grownBy w1 (Value.slice (secA pl s) n (secC pl s)).ownBlock) (hat : (Value.slice (secA pl s) n (secC pl s)).ownBlock = some g3 ∨ g3 = wr.heap.size) :
    MkL lo hi LB w0 (w1.setCell ⟨LB, s, none⟩ (.slice (some ⟨g3, 0, none⟩) (n + 1) cp)) p0 m0 (updP pl s (some ⟨g3, 0, none⟩) cp) (updM m s (secL m s ++ [x])) := by
  have hl : (secL m s ++ [x]).length = n + 1 := by simp [hn]
  have hf : (secL m s ++ [x]).flatMap Rc.cells = (secL m s).flatMap Rc.cells ++ x.cells := by simp
  have hb1 := lb_grown hs h hgr hn
  have h3 := h.st.grow (L' := secL m s ++ [x]) (a' := some ⟨g3, 0, none⟩) (c' := cp) hs hgr hn (by rw [hl, hf]; exact ho) (fun g o q e => by cases e; exact hat)
  refine ⟨h3.far hb1 (by decide) (by decide) (by decide) h.lo, ?_, h.lo⟩
  rw [heap_setCell_same _ _ s _ _ _ hb1, ← hl, lbC_set pl m hs]
/-- what a record of a list holds -/
theorem MkL.at (h : MkL lo hi LB w0 wr p0 m0 pl m) {s k : Nat} {x : Rc} (hs : s < 3) {g : Nat} (ha : secA pl s = some ⟨g, 0, none⟩) (hx : (secL m s)[k]? = some x) : wr.rangeAt g (k * 5) x.cells := by
  have hown := secN h.st.own hs
  rw [ha] at hown
  intro i u hu
  have h1 := hown.cells (g := g) rfl (k * 5 + i) u (flat_at Rc.cells 5 (fun _ => rfl) _ k x i u hx hu)
  rw [addr_at, Nat.zero_add] at h1; exact h1
end
end Go.Proofs.YtnamkladeaohoaaGreat.markP
