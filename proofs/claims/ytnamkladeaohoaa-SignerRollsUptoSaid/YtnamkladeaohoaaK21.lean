/- (*wire.packer).data: walk. (*wire.cursor).data: walk. (*wire.cursor).record: walk . wire.Unpack's sign: walk. -/
import Derived.Test.YtnamkladeaohoaaK20
import Derived.Test.YtnamkladeaohoaaK18
import Derived.Deep.QuietTactic
import Derived.BigQuiet
import Derived.BigRegion
import Derived.Lib.OthersKept
namespace Go.Proofs.Ytnamkladeaohoaa.pdata
open Go.RowKit Go.Proofs.Ytnamkladeaohoaa.kit Go.Proofs.Ytnamkladeaohoaa.takes Go.Proofs.Ytnamkladeaohoaa.nspec Go.Proofs.Ytnamkladeaohoaa.bits Go.Proofs.Ytnamkladeaohoaa.bld Go.Proofs.Ytnamkladeaohoaa.coded Go.Proofs.Ytnamkladeaohoaa.fld Go.Proofs.Ytnamkladeaohoaa.wireP Go.Proofs.Ytnamkladeaohoaa.packP Go.Proofs.Ytnamkladeaohoaa.buf Go.Proofs.Ytnamkladeaohoaa.pname Go.Proofs.Ytnamkladeaohoaa.psmall Go.Proofs.Ytnamkladeaohoaa.fits
set_option linter.unusedVariables false

theorem notU8_iter (s : ByteArray) (k : Nat) : NotU8 (.stringIter s k) := by intro cur f e; cases e
theorem own_set {w : World} {base : Nat} {e : TypeId} {g n cap size : Nat} {xs : List Value} (h : w.ownsRow base e size (.slice (some ⟨g, 0, none⟩) n cap) n xs) (k : Nat) (hk : k < n * size) (u : Value) :
    (w.setCell ⟨g, k, none⟩ u).ownsRow base e size (.slice (some ⟨g, 0, none⟩) n cap) n (xs.set k u) := by
  obtain ⟨h1, h2⟩ := h
  rcases h2 with ⟨h2, _⟩ | ⟨g', cap', cur, hv, hg, hh, r1, r2, r3, r4⟩
  · cases h2
  · cases hv
    refine ⟨by rw [List.length_set]; exact h1, .inr ⟨g, cap, _, rfl, hg, heap_setCell_same w g k cur e u hh, r1, r2, by simpa using r3, ?_⟩⟩
    rw [← r4, Array.toList_setIfInBounds, List.take_set]
theorem own_cells {w : World} {base : Nat} {e : TypeId} {v : Value} {n size : Nat} {xs : List Value} (h : w.ownsRow base e size v n xs) (hn : 1 ≤ n) : ∃ g cap, v = .slice (some ⟨g, 0, none⟩) n cap ∧ base ≤ g ∧ g < w.heap.size ∧ (∀ j, j < n * size → ∃ u, w.cell? ⟨g, j, none⟩ = some u) ∧ (∀ j, w.frozen? ⟨g, j, none⟩ = false) ∧ ∃ cur, w.heap[g]? = some (.cells cur e (0, 0)) := by
  rcases h.2 with ⟨_, h0⟩ | ⟨g, cap, cur, rfl, hb, hg, h1, h2, _, _⟩
  · omega
  · refine ⟨g, cap, rfl, hb, (Array.getElem?_eq_some_iff.1 hg).1, fun j hj => ?_, fun j => by simp [World.frozen?, hg], cur, hg⟩
    have hl : j < xs.length := by rw [h.1]; exact hj
    refine ⟨xs[j], ?_⟩
    have := h.cells (g := g) rfl j xs[j] (List.getElem?_eq_getElem hl)
    rw [addr_add] at this; exact this
theorem _root_.Go.Proofs.Ytnamkladeaohoaa.buf.Eff.set {b0 : Nat} {T : Nat → Prop} {w w1 : World} (h : Eff b0 T w w1) {g k : Nat} {cur : Array Value} {v : Value} (hg : w1.heap[g]? = some (.cells cur 5 (0, 0))) (hb : b0 ≤ g) : Eff b0 T w (w1.setCell ⟨g, k, none⟩ v) := by
  refine ⟨h.os, h.tape, h.output, by simpa using h.size, fun j hj => ?_, fun j o hj hn hT => ?_⟩
  · rw [Below.heap_setCell _ _ _ _ (by show j ≠ g; omega)]; exact h.low j hj
  · have h1 := h.kept j o hj hn hT
    rw [Below.heap_setCell _ _ _ _ (by show j ≠ g; intro e; subst e; rw [hg] at h1; cases h1; exact hn _ _ rfl)]
    exact h1
theorem _root_.Go.Proofs.Ytnamkladeaohoaa.buf.Eff.iterAt {b0 k : Nat} {T : Nat → Prop} {w w1 : World} {s : ByteArray} (h : Eff b0 T w w1) (hk : w.heap.size ≤ k) (hb : b0 ≤ w.heap.size) (pos' : Nat) : Eff b0 T w (w1.iterAt k s pos') := by
  refine ⟨h.os, h.tape, h.output, by rw [Lib.iterAt_size]; exact h.size, fun j hj => (Lib.iterAt_other _ _ _ _ _ (by omega)).trans (h.low j hj), fun j o hj hn hT => (Lib.iterAt_other _ _ _ _ _ ?_).trans (h.kept j o hj hn hT)⟩
  have := (Array.getElem?_eq_some_iff.1 hj).1
  omega
theorem _root_.Go.Proofs.Ytnamkladeaohoaa.buf.Eff.alloc {b0 : Nat} {T : Nat → Prop} {w w1 : World} (h : Eff b0 T w w1) (o : Obj) (hb : b0 ≤ w1.heap.size) : Eff b0 T w (w1.alloc o) := h.trans (Eff.of_below ((Below.refl _ _).alloc (Nat.le_refl _) _) hb)

theorem eff_drewN (b0 : Nat) (T : Nat → Prop) (w : World) (n : Nat) : Eff b0 T w (w.drewN n) := ⟨rfl, rfl, rfl, Nat.le_refl _, fun _ _ => rfl, fun _ _ h _ _ => h⟩
theorem dataP_len : ∀ (fs : List (Option Nat)) (d : Bs) (p : Pp), p.out.length ≤ (dataP fs d p).out.length
  | [], d, p => by simp [dataP]
  | none :: fs, d, p => by
    simp only [dataP]
    exact Nat.le_trans (nameF_len _ _ _).2 (dataP_len fs _ _)
  | some k :: fs, d, p => by
    simp only [dataP]
    exact Nat.le_trans (by simp) (dataP_len fs _ _)
theorem nameF_few : ∀ (f : Nat) (ls : List Bs) (p : Pp), okL ls → p.N.length ≤ p.out.length → (nameF f (put ls) p).N.length ≤ (nameF f (put ls) p).out.length
  | 0, ls, p, _, h => h
  | f + 1, [], p, _, h => by simp only [put, nameF]; simp; omega
  | f + 1, x :: r, p, ho, h => by
    have hx := (okL_cons.1 ho).1
    have hcn : (UInt8.ofNat x.length).toNat = x.length := UInt8.toNat_ofNat_of_lt' (by show x.length < 256; omega)
    have hc0 : UInt8.ofNat x.length ≠ 0 := by intro e; rw [e] at hcn; simp at hcn; omega
    simp only [put, nameF, if_neg hc0]
    cases findN p.N (UInt8.ofNat x.length :: (x ++ put r)) with
    | some k => simp only [be2, List.length_append, List.length_cons, List.length_nil]; omega
    | none =>
      have hd := drop_put x r hx.2
      simp only [put] at hd
      rw [hd]
      refine nameF_few f r _ (okL_cons.1 ho).2 ?_
      simp only [List.length_append, List.length_take, List.length_cons, hcn]
      split <;> ((try simp only [List.length_append, List.length_cons, List.length_nil]); omega)
theorem nameP_few (ls : List Bs) (p : Pp) (ho : okL ls) (h : p.N.length ≤ p.out.length) : (nameP (put ls) p).N.length ≤ (nameP (put ls) p).out.length := nameF_few _ ls p ho h
theorem bmem (S : ByteArray) (k : Nat) (h : k < S.size) : S[k] ∈ S.data.toList := by
  have := drop_cons S k h
  have h2 : S[k] ∈ S.data.toList.drop k := by rw [this]; exact List.mem_cons_self
  exact List.mem_of_mem_drop h2
def okC (c : UInt8) : Prop := c = 110 ∨ (49 ≤ c.toNat ∧ c.toNat ≤ 57)
theorem short_ok (t : Int) : ∀ c ∈ (shortB t).data.toList, okC c := by
  intro c hc
  unfold shortB at hc
  split at hc
  · simp at hc; exact .inl hc
  split at hc
  · simp at hc; rcases hc with rfl | rfl
    · exact .inr ⟨by decide, by decide⟩
    · exact .inl rfl
  split at hc
  · simp at hc; rcases hc with rfl | rfl
    · exact .inl rfl
    · exact .inr ⟨by decide, by decide⟩
  · simp at hc
theorem short_size (t : Int) : (shortB t).size ≤ 4 := by
  unfold shortB; split; · simp [ByteArray.size]
  split; · simp [ByteArray.size]
  split; · simp [ByteArray.size]
  · simp [ByteArray.size]

end Go.Proofs.Ytnamkladeaohoaa.pdata
namespace Go.Proofs.Ytnamkladeaohoaa.cdata
open Go.RowKit Go.Proofs.Ytnamkladeaohoaa.kit Go.Proofs.Ytnamkladeaohoaa.takes Go.Proofs.Ytnamkladeaohoaa.nspec Go.Proofs.Ytnamkladeaohoaa.rsplit Go.Proofs.Ytnamkladeaohoaa.check Go.Proofs.Ytnamkladeaohoaa.bits Go.Proofs.Ytnamkladeaohoaa.bld Go.Proofs.Ytnamkladeaohoaa.coded Go.Proofs.Ytnamkladeaohoaa.fld Go.Proofs.Ytnamkladeaohoaa.wireP Go.Proofs.Ytnamkladeaohoaa.wireM Go.Proofs.Ytnamkladeaohoaa.packP Go.Proofs.Ytnamkladeaohoaa.buf Go.Proofs.Ytnamkladeaohoaa.psmall Go.Proofs.Ytnamkladeaohoaa.fits Go.Proofs.Ytnamkladeaohoaa.pdata Go.Proofs.Ytnamkladeaohoaa.unpP Go.Proofs.Ytnamkladeaohoaa.rows Go.Proofs.Ytnamkladeaohoaa.cur Go.Proofs.Ytnamkladeaohoaa.cname
set_option linter.unusedVariables false

theorem cut_cat (b : Bs) (i j k : Nat) (h1 : i ≤ j) (h2 : j ≤ k) : cutB b i j ++ cutB b j k = cutB b i k := by
  unfold cutB
  have e : k - i = (j - i) + (k - j) := by omega
  rw [e, List.take_add, List.drop_drop, show i + (j - i) = j by omega]
theorem ten_two (b : Bs) (i lim : Nat) (A : Bs) : dataU [some 10, some 10] b i lim A = dataU [some 20] b i lim A := by
  have e1 : dataU [some 10, some 10] b i lim A = if lim < i + 10 then .bad 7 else if lim < i + 10 + 10 then .bad 7 else if i + 10 + 10 = lim then .ok (A ++ cutB b i (i + 10) ++ cutB b (i + 10) (i + 10 + 10)) lim else .bad 7 := rfl
  have e2 : dataU [some 20] b i lim A = if lim < i + 20 then .bad 7 else if i + 20 = lim then .ok (A ++ cutB b i (i + 20)) lim else .bad 7 := rfl
  rw [e1, e2]
  have hc : A ++ cutB b i (i + 10) ++ cutB b (i + 10) (i + 10 + 10) = A ++ cutB b i (i + 20) := by
    rw [List.append_assoc, cut_cat b i (i + 10) (i + 10 + 10) (by omega) (by omega)]
  rw [hc]
  by_cases c1 : lim < i + 10
  · rw [if_pos c1, if_pos (show lim < i + 20 by omega)]
  · rw [if_neg c1]
/-- two tens are twenty -/
theorem dataU_w {t : Int} (b : Bs) (k lim : Nat) (acc : Bs) : dataU (fieldsW t) b k lim acc = dataU (shortL t) b k lim acc := by
  by_cases h2 : t = 2 ∨ t = 5 ∨ t = 12
  · have e : fieldsW t = [none] := by simp only [fieldsW, shortB, if_pos h2]; rfl
    rw [e]; simp only [shortL, if_pos h2]
  by_cases h15 : t = 15
  · subst h15; rfl
  by_cases h6 : t = 6
  · subst h6
    have e : fieldsW 6 = [none, none, some 10, some 10] := rfl
    have e2 : shortL 6 = [none, none, some 20] := rfl
    rw [e, e2]
    have u : ∀ fs k acc, dataU (none :: fs) b k lim acc = match nameAt b k lim 7 with | .bad e => .bad e | .ok s j => dataU fs b j lim (acc ++ s) := fun _ _ _ => rfl
    rw [u, u]
    cases nameAt b k lim 7 with
    | bad x => rfl
    | ok s j =>
      show dataU [none, some 10, some 10] b j lim _ = dataU [none, some 20] b j lim _
      rw [u, u]
      cases nameAt b j lim 7 with
      | bad x => rfl
      | ok s2 i => exact ten_two b i lim _
  · have e : fieldsW t = [] := by simp only [fieldsW, shortB, if_neg h2, if_neg h15, if_neg h6]; rfl
    rw [e]; simp only [shortL, if_neg h2, if_neg h15, if_neg h6]
theorem short_nil (t : Int) : (shortB t).size = 0 ↔ shortL t = [] := by
  by_cases h2 : t = 2 ∨ t = 5 ∨ t = 12
  · simp only [shortB, shortL, if_pos h2]; simp [ByteArray.size]
  by_cases h15 : t = 15
  · subst h15; simp [shortB, shortL, ByteArray.size]
  by_cases h6 : t = 6
  · subst h6; simp [shortB, shortL, ByteArray.size]
  · simp only [shortB, shortL, if_neg h2, if_neg h15, if_neg h6]; simp [ByteArray.size]
/-- data of so many bytes, from a place on -/
def dataC (t : Int) (b : Bs) (k n : Nat) : Got Bs := if n = 0 ∨ shortL t = [] then .ok (cutB b k (k + n)) (k + n) else dataU (shortL t) b k (k + n) []
theorem dataC_eq {t : Int} (b : Bs) (k : Nat) {n : Nat} {S : ByteArray} (hS : S = if n = 0 then (⟨#[]⟩ : ByteArray) else shortB t) : (if S.size = 0 then Got.ok (cutB b k (k + n)) (k + n) else dataU (S.data.toList.map fieldB) b k (k + n) []) = dataC t b k n := by
  unfold dataC
  by_cases hn : n = 0
  · rw [if_pos hn] at hS
    have h0 : S.size = 0 := by rw [hS]; rfl
    rw [if_pos h0, if_pos (Or.inl hn)]
  · rw [if_neg hn] at hS
    subst hS
    by_cases hs : shortL t = []
    · rw [if_pos ((short_nil t).2 hs), if_pos (Or.inr hs)]
    · rw [if_neg (fun h => hs ((short_nil t).1 h)), if_neg (fun h => h.elim hn hs), ← dataU_w]; rfl
theorem dataU_len : ∀ (fs : List (Option Nat)) (b : Bs) (k lim : Nat) (acc : Bs) (s : Bs) (j : Nat), dataU fs b k lim acc = .ok s j → j = lim
  | [], b, k, lim, acc, s, j, h => by
    simp only [dataU] at h; split at h
    · cases h; rfl
    · cases h
  | none :: fs, b, k, lim, acc, s, j, h => by
    simp only [dataU] at h
    cases hn : nameAt b k lim 7 with
    | bad e => rw [hn] at h; cases h
    | ok r i => rw [hn] at h; exact dataU_len fs b i lim _ s j h
  | some n :: fs, b, k, lim, acc, s, j, h => by
    simp only [dataU] at h; split at h
    · cases h
    · exact dataU_len fs b _ lim _ s j h
theorem iter_eff {w w1 : World} {C Q : Nat} {s : ByteArray} {pos : Nat} (h : w.heap[Q]? = some (.stringIter s pos)) (he : EffC C w w1) (hne : Q ≠ C) : w1.heap[Q]? = some (.stringIter s pos) :=
  (he.kept Q (Array.getElem?_eq_some_iff.1 h).1 hne).trans h
theorem nameAt_len {b : Bs} {j T : Nat} {x : Int} {s : Bs} {i : Nat} (hT : T ≤ b.length) (h : nameAt b j T x = .ok s i) : s.length ≤ 255 ∧ i ≤ T := by
  obtain ⟨ls, h1, h2, h3⟩ := nameU_is _ b j j T x 0 s i (by omega) hT h
  exact ⟨by omega, (nameU_next _ b j j T x 0 s i h).2⟩
/-- the iterator moved on: nothing of old -/
theorem iter_below {w wr : World} {Q : Nat} {S : ByteArray} (pos : Nat) (hQ : w.heap.size ≤ Q) : Below w.heap.size wr (wr.iterAt Q S pos) :=
  ⟨rfl, rfl, rfl, by rw [Lib.iterAt_size]; exact Nat.le_refl _, fun k hk => Lib.iterAt_other _ _ _ _ _ (by omega)⟩
theorem iter_own {wr : World} {Q base pos pos' : Nat} {S : ByteArray} {v : Value} {n : Nat} {xs : List Value} (h : wr.ownsRow base 5 1 v n xs) (hQ : wr.heap[Q]? = some (.stringIter S pos)) : (wr.iterAt Q S pos').ownsRow base 5 1 v n xs :=
  own_keptG h (fun k cu hk => (Lib.iterAt_other _ _ _ _ _ (by intro e; subst e; rw [hQ] at hk; cases hk)).trans hk)
theorem not_empty {S : ByteArray} (h : S.size ≠ 0) : S.toList.isEmpty = false := by
  rw [Lib.toList_data]
  cases hx : S.data.toList with
  | nil => exact absurd (by rw [← size_len, hx]; rfl) h
  | cons a l => rfl
/-- what is still to read -/
def DRel (S : ByteArray) (b : Bs) (k T : Nat) (R : Got Bs) (pos j : Nat) (l : Bs) : Prop :=
  (S.size = 0 ∧ l = [] ∧ j = k) ∨ (S.size ≠ 0 ∧ dataU ((S.data.toList.drop pos).map fieldB) b j T l = R)
theorem DRel.start {S : ByteArray} {b : Bs} {k T : Nat} {R : Got Bs} (h : (if S.size = 0 then Got.ok (cutB b k T) T else dataU (S.data.toList.map fieldB) b k T []) = R) : DRel S b k T R 0 k [] := by
  by_cases h0 : S.size = 0
  · exact .inl ⟨h0, rfl, rfl⟩
  · right; rw [if_neg h0] at h; rw [List.drop_zero]; exact ⟨h0, h⟩
theorem DRel.go {S : ByteArray} {b : Bs} {k T : Nat} {R : Got Bs} {pos j : Nat} {l : Bs} (h : DRel S b k T R pos j l) (hlt : pos < S.size) : dataU (fieldB (S[pos]'hlt) :: (S.data.toList.drop (pos + 1)).map fieldB) b j T l = R := by
  rcases h with ⟨h0, _⟩ | ⟨_, h⟩
  · omega
  · rw [drop_cons S pos hlt, List.map_cons] at h; exact h
/-- the end: the rest is all, or nothing -/
theorem DRel.stop {S : ByteArray} {b : Bs} {k T : Nat} {R : Got Bs} {pos j : Nat} {l : Bs} (h : DRel S b k T R pos j l) (hge : S.size ≤ pos) (hR : (if S.size = 0 then Got.ok (cutB b k T) T else dataU (S.data.toList.map fieldB) b k T []) = R) : (S.size = 0 ∧ l = [] ∧ j = k ∧ R = .ok (cutB b k T) T) ∨ (S.size ≠ 0 ∧ j = T ∧ R = .ok l T) ∨ (S.size ≠ 0 ∧ j ≠ T ∧ R = .bad 7) := by
  rcases h with ⟨h0, h1, h2⟩ | ⟨h0, h⟩
  · rw [if_pos h0] at hR; exact .inl ⟨h0, h1, h2, hR.symm⟩
  · have hd : S.data.toList.drop pos = [] := List.drop_eq_nil_of_le (by simpa using hge)
    rw [hd] at h
    simp only [List.map_nil, dataU] at h
    by_cases hj : j = T
    · rw [if_pos hj] at h; exact .inr (.inl ⟨h0, hj, h.symm⟩)
    · rw [if_neg hj] at h; exact .inr (.inr ⟨h0, hj, h.symm⟩)
end Go.Proofs.Ytnamkladeaohoaa.cdata
namespace Go.Proofs.Ytnamkladeaohoaa.crec
open Go.RowKit Go.Proofs.Ytnamkladeaohoaa.kit Go.Proofs.Ytnamkladeaohoaa.takes Go.Proofs.Ytnamkladeaohoaa.nspec Go.Proofs.Ytnamkladeaohoaa.rsplit Go.Proofs.Ytnamkladeaohoaa.check Go.Proofs.Ytnamkladeaohoaa.bits Go.Proofs.Ytnamkladeaohoaa.bld Go.Proofs.Ytnamkladeaohoaa.coded Go.Proofs.Ytnamkladeaohoaa.fld Go.Proofs.Ytnamkladeaohoaa.wireP Go.Proofs.Ytnamkladeaohoaa.wireM Go.Proofs.Ytnamkladeaohoaa.packP Go.Proofs.Ytnamkladeaohoaa.buf Go.Proofs.Ytnamkladeaohoaa.psmall Go.Proofs.Ytnamkladeaohoaa.fits Go.Proofs.Ytnamkladeaohoaa.pdata Go.Proofs.Ytnamkladeaohoaa.unpP Go.Proofs.Ytnamkladeaohoaa.rows Go.Proofs.Ytnamkladeaohoaa.cur Go.Proofs.Ytnamkladeaohoaa.cname Go.Proofs.Ytnamkladeaohoaa.cdata
set_option linter.unusedVariables false

/-- a record as it is read -/
def recG (b : Bs) (k : Nat) : Got Rc :=
  match nameAt b k b.length 10 with
  | .bad e => .bad e
  | .ok o j =>
    if b.length < j + 10 then .bad 10
    else if b.length < j + 10 + num2 b (j + 8) then .bad 10
    else match dataC (num2 b j) b (j + 10) (num2 b (j + 8)) with
      | .bad e => .bad e
      | .ok d i =>
        if rightB ⟨mkB o, num2 b j, num2 b (j + 2), num4 b (j + 4), mkB d⟩ = true then .ok ⟨mkB o, num2 b j, num2 b (j + 2), num4 b (j + 4), mkB d⟩ i else .bad 7
theorem dataC_next {t : Int} {b : Bs} {k n : Nat} {d : Bs} {i : Nat} (h : dataC t b k n = .ok d i) : i = k + n := by
  unfold dataC at h
  split at h
  · cases h; rfl
  · exact dataU_len _ b k _ _ d i h
theorem recG_eq (b : Bs) (k : Nat) : recU b k = recG b k := by
  unfold recU recG
  cases nameAt b k b.length 10 with
  | bad e => rfl
  | ok o j =>
    by_cases c1 : b.length < j + 10
    · simp only [if_pos c1]
    by_cases c2 : b.length < j + 10 + num2 b (j + 8)
    · simp only [if_neg c1, if_pos c2]
    simp only [if_neg c1, if_neg c2]
    by_cases c3 : num2 b (j + 8) = 0 ∨ shortL (num2 b j) = []
    · have e : dataC (num2 b j) b (j + 10) (num2 b (j + 8)) = .ok (cutB b (j + 10) (j + 10 + num2 b (j + 8))) (j + 10 + num2 b (j + 8)) := by unfold dataC; rw [if_pos c3]
      rw [e, if_pos c3]
    · have e : dataC (num2 b j) b (j + 10) (num2 b (j + 8)) = dataU (shortL (num2 b j)) b (j + 10) (j + 10 + num2 b (j + 8)) [] := by unfold dataC; rw [if_neg c3]
      rw [e, if_neg c3]
      cases hd : dataU (shortL (num2 b j)) b (j + 10) (j + 10 + num2 b (j + 8)) [] with
      | bad x => rfl
      | ok d i =>
        have hi := dataU_len _ b _ _ _ d i hd
        subst hi; rfl
theorem eff_set {w w1 : World} {C B i : Nat} (he : EffC C w w1) (hB : w.heap.size ≤ B) (v : Value) : EffC C w (w1.setCell ⟨B, i, none⟩ v) :=
  he.then_below ⟨rfl, rfl, rfl, by simp, fun k hk => Below.heap_setCell _ ⟨B, i, none⟩ _ k (by show k ≠ B; omega)⟩
theorem blk_set {w1 : World} {C B i : Nat} {o : Obj} (hb : w1.heap[C]? = some o) (hB : B ≠ C) (v : Value) : (w1.setCell ⟨B, i, none⟩ v).heap[C]? = some o := by
  rw [Below.heap_setCell _ ⟨B, i, none⟩ _ C (by show C ≠ B; omega)]; exact hb
theorem num2_le (b : Bs) (k : Nat) : num2 b k ≤ 65535 := by unfold num2; have := atB_lt b k; have := atB_lt b (k + 1); omega
theorem num4_le (b : Bs) (k : Nat) : num4 b k ≤ 4294967295 := by unfold num4; have := num2_le b k; have := num2_le b (k + 2); omega
theorem right_read {s d : Bs} {t c l : Nat} (hs : ∃ ls, s = put ls ∧ okL ls ∧ 0 + s.length ≤ 255) (ht : t ≤ 65535) (hc : c ≤ 65535) (hl : l ≤ 4294967295) (hd : t = 41 → d.length ≤ 65535) :
    rightB ⟨mkB s, (t : Int), (c : Int), (l : Int), mkB d⟩ = (decide ((t : Int) = 41) || (emptyB ⟨mkB s, (t : Int), (c : Int), (l : Int), mkB d⟩ || decide (checkS (t : Int) d = 0))) := by
  obtain ⟨ls, h1, h2, h3⟩ := hs
  unfold rightB
  have hz : (mkB d).size = d.length := by unfold mkB; rw [mk_size]
  rw [isB_yes (s := mkB s) (ls := ls) ⟨by unfold mkB; simpa using h1, h2, by unfold mkB; simp; omega⟩, inB_yes (v := (t : Int)) (by omega) (by omega), inB_yes (v := (c : Int)) (by omega) (by omega), inB_yes (v := (l : Int)) (by omega) (by omega)]
  simp only [Bool.true_and]
  by_cases h : t = 41
  · have h' : (t : Int) = 41 := by omega
    rw [if_pos h', hz, decide_eq_true h', decide_eq_true (hd h), Bool.true_or]
  · have h' : ¬ (t : Int) = 41 := by omega
    rw [if_neg h', decide_eq_false h', Bool.false_or]; rfl
theorem data_41 {b : Bs} {k n : Nat} {d : Bs} {i t : Nat} (h : dataC (t : Int) b k n = .ok d i) (hn : n ≤ 65535) : t = 41 → d.length ≤ 65535 := by
  intro h41; subst h41
  have e : shortL ((41 : Nat) : Int) = [] := rfl
  unfold dataC at h
  rw [if_pos (Or.inr e)] at h
  cases h
  unfold cutB
  rw [List.length_take]; omega
theorem dataU_room : ∀ (fs : List (Option Nat)) (b : Bs) (k lim : Nat) (acc : Bs) (s : Bs) (j : Nat), lim ≤ b.length → b.length ≤ 65535 → dataU fs b k lim acc = .ok s j → s.length ≤ acc.length + fs.length * 65535
  | [], b, k, lim, acc, s, j, h1, h2, h => by
    simp only [dataU] at h; split at h
    · cases h; omega
    · cases h
  | none :: fs, b, k, lim, acc, s, j, h1, h2, h => by
    simp only [dataU] at h
    cases hn : nameAt b k lim 7 with
    | bad e => rw [hn] at h; cases h
    | ok r i =>
      rw [hn] at h
      have h3 := dataU_room fs b i lim _ s j h1 h2 h
      have h4 := (nameAt_len h1 hn).1
      rw [List.length_append] at h3
      rw [List.length_cons]; omega
  | some n :: fs, b, k, lim, acc, s, j, h1, h2, h => by
    simp only [dataU] at h; split at h
    · cases h
    · have h3 := dataU_room fs b _ lim _ s j h1 h2 h
      have h4 : (cutB b k (k + n)).length ≤ n := by unfold cutB; rw [List.length_take]; omega
      rw [List.length_append] at h3
      rw [List.length_cons]; omega
theorem short_three (t : Int) : (shortL t).length ≤ 3 := by
  unfold shortL
  by_cases h2 : t = 2 ∨ t = 5 ∨ t = 12
  · rw [if_pos h2]; simp
  by_cases h15 : t = 15
  · subst h15; decide
  by_cases h6 : t = 6
  · subst h6; decide
  · simp [h2, h15, h6]
theorem dataC_room {t : Int} {b : Bs} {k n : Nat} {d : Bs} {i : Nat} (h : dataC t b k n = .ok d i) (hk : k + n ≤ b.length) (hl : b.length ≤ 65535) : d.length ≤ 262140 := by
  unfold dataC at h
  split at h
  · cases h; unfold cutB; rw [List.length_take]; omega
  · have h1 := dataU_room _ b k _ _ d i hk hl h
    have h2 := short_three t
    simp only [List.length_nil] at h1
    omega
def setRc (w : World) (P : Nat) (x : Rc) : World := ((((w.setCell ⟨P, 0, none⟩ (.string x.o)).setCell ⟨P, 1, none⟩ (.int .i64 x.t)).setCell ⟨P, 2, none⟩ (.int .i64 x.c)).setCell ⟨P, 3, none⟩ (.int .i64 x.l)).setCell ⟨P, 4, none⟩ (.string x.d)
theorem setRc_eff {w W : World} {C P : Nat} (h : EffC C w W) (hP : w.heap.size ≤ P) (x : Rc) : EffC C w (setRc W P x) := eff_set (eff_set (eff_set (eff_set (eff_set h hP _) hP _) hP _) hP _) hP _
theorem setRc_blk {W : World} {C P : Nat} {o : Obj} (h : W.heap[C]? = some o) (hP : P ≠ C) (x : Rc) : (setRc W P x).heap[C]? = some o := blk_set (blk_set (blk_set (blk_set (blk_set h hP _) hP _) hP _) hP _) hP _
end Go.Proofs.Ytnamkladeaohoaa.crec
namespace Go.Proofs.Ytnamkladeaohoaa.usign
open Go.RowKit Go.Proofs.Ytnamkladeaohoaa.kit Go.Proofs.Ytnamkladeaohoaa.unpP
set_option linter.unusedVariables false

theorem and_mask {x : Int} {n : Nat} (hn : n ≤ 39) (h₀ : 0 ≤ x) (h₁ : x < 2 ^ 39) : bits .and .i64 x (2 ^ n - 1) = x % 2 ^ n :=
  bits_mask .i64 40 (by decide) psmall.wraps40 n (by omega) x (by omega) (by omega)
theorem sign_is (v k : Nat) (hv : v ≤ 65535) : (bits .and .i64 ((v : Int) / 2 ^ k) 1 == 1) = signB v k := by
  have e : ((v : Int) / 2 ^ k) = ((v / 2 ^ k : Nat) : Int) := by simp
  have hb : v / 2 ^ k ≤ 65535 := Nat.le_trans (Nat.div_le_self _ _) hv
  rw [e]
  unfold signB
  generalize v / 2 ^ k = x at hb
  have h : bits .and .i64 (x : Int) 1 = (x : Int) % 2 := bits_mask .i64 40 (by decide) psmall.wraps40 1 (by decide) _ (by omega) (by omega)
  rw [h]
  by_cases hx : x % 2 = 1
  · rw [decide_eq_true hx, beq_iff_eq]; omega
  · rw [decide_eq_false hx, beq_eq_false_iff_ne]; omega
end Go.Proofs.Ytnamkladeaohoaa.usign
