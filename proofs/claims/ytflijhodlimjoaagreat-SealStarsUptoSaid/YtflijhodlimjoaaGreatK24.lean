/- Lines in memory: rows of one cell. -/
import Derived.Test.YtflijhodlimjoaaGreatK17
import Derived.Test.YtflijhodlimjoaaGreatK19
import Derived.Test.YtflijhodlimjoaaGreatK23
import Derived.Deep.MidRow
import Derived.Laws.OwnMore
namespace Go.Proofs.YtflijhodlimjoaaGreat.lnP
open Go.RowKit Go.Proofs.YtflijhodlimjoaaGreat.kit Go.Proofs.YtflijhodlimjoaaGreat.nspec Go.Proofs.YtflijhodlimjoaaGreat.sortT Go.Proofs.YtflijhodlimjoaaGreat.rows Go.Proofs.YtflijhodlimjoaaGreat.timed
set_option linter.unusedVariables false

def putL : List Value → Nat → List Value → List Value
  | xs, _, [] => xs
  | xs, o, v :: r => putL (xs.set o v) (o + 1) r
theorem putL_skip (A : List Value) : ∀ (vs : List Value) (B : List Value) (o : Nat), putL (A ++ B) (A.length + o) vs = A ++ putL B o vs
  | [], _, _ => rfl
  | v :: r, B, o => by
    show putL ((A ++ B).set (A.length + o) v) (A.length + o + 1) r = A ++ putL (B.set o v) (o + 1) r
    rw [List.set_append_right _ _ (by omega), Nat.add_sub_cancel_left, Nat.add_assoc]
    exact putL_skip A r _ _
theorem putL_head : ∀ (vs A B : List Value), A.length = vs.length → putL (A ++ B) 0 vs = vs ++ B
  | [], A, B, h => by
    have : A = [] := List.eq_nil_of_length_eq_zero h
    subst this; rfl
  | v :: r, a :: A, B, h => by
    show putL (v :: (A ++ B)) (0 + 1) r = v :: (r ++ B)
    have h1 := putL_skip [v] r (A ++ B) 0
    rw [putL_head r A B (by simpa using h)] at h1
    exact h1
theorem putL_flat {α : Type} (f : α → List Value) (n : Nat) (hf : ∀ x, (f x).length = n) : ∀ (L : List α) (k : Nat) (x : α), k < L.length → putL (L.flatMap f) (k * n) (f x) = (L.set k x).flatMap f
  | [], k, x, h => by simp at h
  | y :: L, 0, x, _ => by rw [Nat.zero_mul, List.flatMap_cons, putL_head _ _ _ (by rw [hf, hf]), List.set_cons_zero, List.flatMap_cons]
  | y :: L, k + 1, x, h => by
    rw [List.flatMap_cons, show (k + 1) * n = (f y).length + k * n by rw [hf, Nat.succ_mul]; omega, putL_skip, putL_flat f n hf L k x (by simpa using h), List.set_cons_succ, List.flatMap_cons]
theorem own_putL {base size g n cap : Nat} {e : TypeId} : ∀ (vs : List Value) (o : Nat) (w : World) (xs : List Value), w.ownsRow base e size (.slice (some ⟨g, 0, none⟩) n cap) n xs →
    (w.setCells g o vs).ownsRow base e size (.slice (some ⟨g, 0, none⟩) n cap) n (putL xs o vs) ∧ w.grownBy (w.setCells g o vs) (some g)
  | [], o, w, xs, h => ⟨h, rfl, rfl, rfl, Nat.le_refl _, fun _ _ _ => rfl⟩
  | v :: r, o, w, xs, h => by
    obtain ⟨h1, g1⟩ := h.stored o v
    obtain ⟨h2, g2⟩ := own_putL r (o + 1) _ _ h1
    exact ⟨h2, g2.os.trans g1.os, g2.tape.trans g1.tape, g2.output.trans g1.output, Nat.le_trans g1.size g2.size, fun k hk hn => (g2.block k (Nat.lt_of_lt_of_le hk g1.size) hn).trans (g1.block k hk hn)⟩
/-- row k of one's own list laid anew -/
theorem own_put {α : Type} (f : α → List Value) (m : Nat) (hf : ∀ x, (f x).length = m) {base g n cap : Nat} {e : TypeId} {w : World} {L : List α} (h : w.ownsRow base e m (.slice (some ⟨g, 0, none⟩) n cap) n (L.flatMap f)) (k : Nat) (hk : k < L.length) (x : α) :
    (w.setCells g (k * m) (f x)).ownsRow base e m (.slice (some ⟨g, 0, none⟩) n cap) n ((L.set k x).flatMap f) ∧ w.grownBy (w.setCells g (k * m) (f x)) (some g) := by
  have := own_putL (f x) (k * m) w _ h
  rw [putL_flat f m hf L k x hk] at this
  exact this
def lnC (d : Bs) : List Value := [strV d]
theorem ln_len (d : Bs) : (lnC d).length = 1 := rfl
theorem infoLn : (Tryz.prog.info? 137).map (fun i => (i.zero, i.size, i.bytes)) = some (some (.agg #[.string ByteArray.empty]), 1, 16) := by kernel_rfl
theorem ln_one (x : Bs) (u : Value) (h : u ∈ lnC x) : u.oneCell' = true := by
  simp only [lnC, List.mem_singleton] at h; subst h; rfl
theorem ln_flat (l : List Bs) : l.flatMap lnC = l.map strV := by
  induction l with
  | nil => rfl
  | cons x r ih => rw [List.flatMap_cons, ih]; rfl
theorem at_ln {w : World} {a : Option Addr} {L : List Bs} (h : RdC w a 1 (L.map lnC)) {j : Nat} {x : Bs} (hj : L[j]? = some x) : ∃ g o, a = some ⟨g, o, none⟩ ∧ g < w.heap.size ∧ w.cell? ⟨g, o + j, none⟩ = some (strV x) := by
  obtain ⟨_, g, o, h1, h2, h3⟩ := h j (lnC x) (by rw [List.getElem?_map, hj]; rfl)
  have := h3 0 (strV x) rfl
  exact ⟨g, o, h1, h2, by simpa using this⟩
theorem own_ln {w : World} {base g n c : Nat} {e : TypeId} {L : List Bs} (h : w.ownsRow base e 1 (.slice (some ⟨g, 0, none⟩) n c) n (L.flatMap lnC)) (j : Nat) (y : Bs) (hy : L[j]? = some y) : w.cell? ⟨g, j, none⟩ = some (strV y) := by
  rw [ln_flat] at h
  have := h.cells (g := g) rfl j (strV y) (by rw [List.getElem?_map, hy]; rfl)
  rw [addr_add] at this; exact this
theorem own_drewN {w : World} {base e z n : Nat} {v : Value} {xs : List Value} (h : w.ownsRow base e z v n xs) (q : Nat) : (w.drewN q).ownsRow base e z v n xs := ⟨h.1, h.2⟩
theorem own_thaw {w : World} {base e z n g c : Nat} {xs : List Value} (h : w.ownsRow base e z (.slice (some ⟨g, 0, none⟩) n c) n xs) (j : Nat) : w.frozen? ⟨g, j, none⟩ = false := by
  rcases h.2 with ⟨h1, _⟩ | ⟨g', cap, cur, h1, hb, hg, _⟩
  · cases h1
  · cases h1; simp [World.frozen?, hg]
theorem own_some {w : World} {base g n c : Nat} {e : TypeId} {L : List Bs} (h : w.ownsRow base e 1 (.slice (some ⟨g, 0, none⟩) n c) n (L.flatMap lnC)) (j : Nat) (hj : j < n) : (w.cell? ⟨g, j, none⟩).isSome = true := by
  obtain ⟨g', cap, h1, _, _, h2, _⟩ := own_at h (by omega)
  cases h1
  obtain ⟨u, hu⟩ := h2 j (by omega)
  rw [hu]; rfl
theorem own_set {w : World} {base g n c : Nat} {e : TypeId} {L : List Bs} {k : Nat} (h : w.ownsRow base e 1 (.slice (some ⟨g, 0, none⟩) n c) n (L.flatMap lnC)) (x : Bs) :
    (w.setCell ⟨g, k, none⟩ (strV x)).ownsRow base e 1 (.slice (some ⟨g, 0, none⟩) n c) n ((L.set k x).flatMap lnC) ∧ w.grownBy (w.setCell ⟨g, k, none⟩ (strV x)) (some g) := by
  rw [ln_flat] at h
  have h1 := h.stored k (strV x)
  rw [ln_flat, List.map_set]
  exact h1
theorem own_clear {w : World} {base g n c : Nat} {e : TypeId} {xs : List Value} (h : w.ownsRow base e 1 (.slice (some ⟨g, 0, none⟩) n c) n xs) (k : Nat) (vs : List Value) : w.grownBy (w.setCells g k vs) (some g) := (own_putL vs k w xs h).2
theorem drewN_add (w : World) (a b : Nat) : (w.drewN a).drewN b = w.drewN (a + b) := by
  simp only [World.drewN]
  first | rfl | (congr 1; omega) | (simp; omega) | simp [Nat.add_assoc]
theorem dup_yes {l : List Bs} {k : Nat} {x : Bs} (h1 : l[k]? = some x) (h2 : l[k + 1]? = some x) : dupN (l.drop k) = true := by
  obtain ⟨a1, a2⟩ := List.getElem?_eq_some_iff.1 h1
  obtain ⟨b1, b2⟩ := List.getElem?_eq_some_iff.1 h2
  rw [List.drop_eq_getElem_cons a1, List.drop_eq_getElem_cons b1, a2, b2]
  simp [dupN]
theorem dup_go {l : List Bs} {k : Nat} {x y : Bs} (h1 : l[k]? = some x) (h2 : l[k + 1]? = some y) (hne : x ≠ y) : dupN (l.drop k) = dupN (l.drop (k + 1)) := by
  obtain ⟨a1, a2⟩ := List.getElem?_eq_some_iff.1 h1
  obtain ⟨b1, b2⟩ := List.getElem?_eq_some_iff.1 h2
  rw [List.drop_eq_getElem_cons a1, List.drop_eq_getElem_cons b1, a2, b2]
  conv => lhs; unfold dupN
  rw [decide_eq_false hne, Bool.false_or]
theorem dup_end {l : List Bs} {k : Nat} (h : l.length ≤ k + 1) : dupN (l.drop k) = false := by
  have hl : (l.drop k).length ≤ 1 := by rw [List.length_drop]; omega
  match l.drop k, hl with
  | [], _ => rfl
  | [a], _ => rfl
end Go.Proofs.YtflijhodlimjoaaGreat.lnP
