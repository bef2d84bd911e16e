/- The law SignerPlans: walk. -/
import Derived.Test.YtabhiangjomaeaaPlanAt
import Derived.Deep.DeepCutAuto
import Derived.Deep.RegionHeld3
namespace Go.Proofs.Ytabhiangjomaeaa.signerPlans
open Go.RowKit Go.Proofs.Ytabhiangjomaeaa.kit Go.Proofs.Ytabhiangjomaeaa.timed Go.Proofs.Ytabhiangjomaeaa.planAt
set_option linter.unusedVariables false
set_option linter.unusedSimpArgs false

theorem infoTm : (Try.prog.info? 79).map (fun i => (i.zero, i.size, i.bytes)) = some (some (.agg #[.int .i64 0, .int .i64 0, .int .i64 0, .int .i64 0, .int .i64 0, .int .i64 0, .int .i64 0, .int .i64 0]), 8, 64) := by kernel_rfl
def flatT (L : List Tm) : List Value := L.flatMap Tm.cells
theorem flatT_len (L : List Tm) : (flatT L).length = L.length * 8 := by
  induction L with
  | nil => rfl
  | cons x L ih => simp only [flatT, List.flatMap_cons, List.length_append, List.length_cons] at *; rw [ih]; simp [Tm.cells]; omega
theorem flat_at {α : Type} (f : α → List Value) (n : Nat) (hf : ∀ x, (f x).length = n) : ∀ (L : List α) (j : Nat) (x : α) (i : Nat) (u : Value), L[j]? = some x → (f x)[i]? = some u → (L.flatMap f)[j * n + i]? = some u
  | [], j, x, i, u, h, _ => by simp at h
  | y :: L, 0, x, i, u, h, hu => by
    simp at h; subst h
    rw [List.flatMap_cons, Nat.zero_mul, Nat.zero_add, List.getElem?_append_left (List.getElem?_eq_some_iff.1 hu).1]; exact hu
  | y :: L, j + 1, x, i, u, h, hu => by
    rw [List.flatMap_cons, List.getElem?_append_right (by rw [hf, Nat.succ_mul]; omega), hf, show (j + 1) * n + i - n = j * n + i by rw [Nat.succ_mul]; omega]
    exact flat_at f n hf L j x i u (by simpa using h) hu
/-- a row of one's own reads as its rows -/
theorem RdC.of_own {α : Type} (f : α → List Value) (m : Nat) (hf : ∀ x, (f x).length = m) {w : World} {base : Nat} {e : TypeId} {v : Value} {L : List α} {n : Nat} (hn : n = L.length) (h : w.ownsRow base e m v n (L.flatMap f)) :
    ∃ a c, v = .slice a n c ∧ n ≤ c ∧ c ≤ maxLen ∧ RdC w a m (L.map f) := by
  subst hn
  rcases h.2 with ⟨rfl, h0⟩ | ⟨g, cap, cur, rfl, hb, hg, h1, h2, _, htake⟩
  · have : L = [] := List.eq_nil_of_length_eq_zero h0
    subst this
    exact ⟨none, 0, rfl, Nat.le_refl _, Nat.zero_le _, RdC.nil _ _ _⟩
  · refine ⟨_, cap, rfl, h1, h2, ?_⟩
    intro j x hx
    rw [List.getElem?_map] at hx
    obtain ⟨y, hy, rfl⟩ := Option.map_eq_some_iff.1 hx
    refine ⟨hf y, g, 0, rfl, (Array.getElem?_eq_some_iff.1 hg).1, fun i u hu => ?_⟩
    have := h.cells (g := g) rfl (j * m + i) u (flat_at f m hf L j y i u hy hu)
    have hadd : (⟨g, 0, none⟩ : Addr).add (j * m + i) = ⟨g, 0 + j * m + i, none⟩ := by
      rw [addr_add, Nat.zero_add]
    rw [hadd] at this
    exact this
theorem cells_of_rd {w : World} {a : Option Addr} {L : List Tm} (h : RdC w a 8 (L.map Tm.cells)) (hc : a = none → L = []) (c : Nat) (hc0 : a = none → c = 0) : (a = none ∧ L.length = 0 ∧ c = 0) ∨ ∃ ad, a = some ad ∧ ∀ (j : Nat) (u : Value), (flatT L)[j]? = some u → w.cell? (ad.add j) = some u := by
  cases a with
  | none => exact .inl ⟨rfl, by rw [hc rfl]; rfl, hc0 rfl⟩
  | some ad =>
    right
    refine ⟨ad, rfl, fun j u hj => ?_⟩
    have hl : j < L.length * 8 := by rw [← flatT_len]; exact (List.getElem?_eq_some_iff.1 hj).1
    obtain ⟨x, hx⟩ : ∃ x, L[j / 8]? = some x := ⟨_, List.getElem?_eq_getElem (by omega)⟩
    obtain ⟨_, g, o, h1, _, h3⟩ := h (j / 8) x.cells (by rw [List.getElem?_map, hx]; rfl)
    cases h1
    obtain ⟨u', hu'⟩ : ∃ u', x.cells[j % 8]? = some u' := ⟨_, List.getElem?_eq_getElem (by simp [Tm.cells]; omega)⟩
    have h4 := flat_at Tm.cells 8 (fun _ => rfl) L (j / 8) x (j % 8) u' hx hu'
    rw [show j / 8 * 8 + j % 8 = j by omega] at h4
    unfold flatT at hj
    rw [h4] at hj; cases hj
    have e : (⟨g, o, none⟩ : Addr).add j = ⟨g, o + j / 8 * 8 + j % 8, none⟩ := by
      have : o + j / 8 * 8 + j % 8 = o + j := by omega
      rw [this]
      unfold Addr.add; split <;> simp_all
    rw [e]; exact h3 _ _ hu'

theorem bel_frozen {N : Nat} {w w' : World} (hB : Below N w w') (b j : Nat) (h : b < N) : w'.frozen? ⟨b, j, none⟩ = w.frozen? ⟨b, j, none⟩ := by
  simp only [World.frozen?, hB.block b h]
theorem AtP.all {w : World} {b : Nat} {v : Value} {h : Bool} {s : ByteArray} {r f u k : Int} (p : AtP w b v h s r f u k) : w.cell? ⟨b, 0, none⟩ = some (v) ∧ w.cell? ⟨b, 1, none⟩ = some (.bool h) ∧ w.cell? ⟨b, 2, none⟩ = some (.string s) ∧ w.cell? ⟨b, 3, none⟩ = some (.int .i64 r) ∧ w.cell? ⟨b, 4, none⟩ = some (.int .i64 f) ∧ w.cell? ⟨b, 5, none⟩ = some (.int .i64 u) ∧ w.cell? ⟨b, 6, none⟩ = some (.int .i64 k) ∧ w.frozen? ⟨b, 0, none⟩ = false ∧ w.frozen? ⟨b, 1, none⟩ = false ∧ w.frozen? ⟨b, 2, none⟩ = false ∧ w.frozen? ⟨b, 3, none⟩ = false ∧ w.frozen? ⟨b, 4, none⟩ = false ∧ w.frozen? ⟨b, 5, none⟩ = false ∧ w.frozen? ⟨b, 6, none⟩ = false :=
  ⟨p.c0, p.c1, p.c2, p.c3, p.c4, p.c5, p.c6, p.z 0, p.z 1, p.z 2, p.z 3, p.z 4, p.z 5, p.z 6⟩
theorem size_set (w : World) (a : Addr) (v : Value) : (w.setCell a v).heap.size = w.heap.size := by simp
theorem size_set7 (w : World) (b : Nat) (x0 x1 x2 x3 x4 x5 x6 : Value) : (((((((w.setCell ⟨b, 0, none⟩ x0).setCell ⟨b, 1, none⟩ x1).setCell ⟨b, 2, none⟩ x2).setCell ⟨b, 3, none⟩ x3).setCell ⟨b, 4, none⟩ x4).setCell ⟨b, 5, none⟩ x5).setCell ⟨b, 6, none⟩ x6).heap.size = w.heap.size := by simp
theorem size_drew (w : World) : w.drew.heap.size = w.heap.size := rfl
theorem AtP.dr {w : World} {B : Nat} {v : Value} {h : Bool} {s : ByteArray} {r f u k : Int} (p : AtP w B v h s r f u k) : AtP w.drew B v h s r f u k := ⟨p.lt, p.c0, p.c1, p.c2, p.c3, p.c4, p.c5, p.c6, p.z⟩
theorem AtP.fill {w : World} {b : Nat} {v0 v : Value} {h0 h : Bool} {s0 s : ByteArray} {r0 f0 u0 k0 r f u k : Int} (p : AtP w b v0 h0 s0 r0 f0 u0 k0) :
    AtP (((((((w.setCell ⟨b, 0, none⟩ v).setCell ⟨b, 1, none⟩ (.bool h)).setCell ⟨b, 2, none⟩ (.string s)).setCell ⟨b, 3, none⟩ (.int .i64 r)).setCell ⟨b, 4, none⟩ (.int .i64 f)).setCell ⟨b, 5, none⟩ (.int .i64 u)).setCell ⟨b, 6, none⟩ (.int .i64 k)) b v h s r f u k := by
  have o : ∀ (w : World) (i j : Nat) (x : Value), i ≠ j → (w.setCell ⟨b, j, none⟩ x).cell? ⟨b, i, none⟩ = w.cell? ⟨b, i, none⟩ := fun w i j x h => World.cell?_setCell_other _ _ _ _ (by intro e; injection e with _ e2; first | exact h e2 | exact h e2.symm)
  have e : ∀ (w : World) (j : Nat) (x : Value), (w.cell? ⟨b, j, none⟩).isSome = true → (w.setCell ⟨b, j, none⟩ x).cell? ⟨b, j, none⟩ = some x := fun w j x h => World.cell?_setCell_same' _ _ _ h
  refine ⟨by simpa using p.lt, ?_, ?_, ?_, ?_, ?_, ?_, ?_, fun j => by simp only [World.frozen?_setCell]; exact p.z j⟩
  · rw [o _ 0 6 _ (by omega), o _ 0 5 _ (by omega), o _ 0 4 _ (by omega), o _ 0 3 _ (by omega), o _ 0 2 _ (by omega), o _ 0 1 _ (by omega), e _ 0 _ (by rw [p.c0]; rfl)]
  · rw [o _ 1 6 _ (by omega), o _ 1 5 _ (by omega), o _ 1 4 _ (by omega), o _ 1 3 _ (by omega), o _ 1 2 _ (by omega), e _ 1 _ (by rw [o _ 1 0 _ (by omega), p.c1]; rfl)]
  · rw [o _ 2 6 _ (by omega), o _ 2 5 _ (by omega), o _ 2 4 _ (by omega), o _ 2 3 _ (by omega), e _ 2 _ (by rw [o _ 2 1 _ (by omega), o _ 2 0 _ (by omega), p.c2]; rfl)]
  · rw [o _ 3 6 _ (by omega), o _ 3 5 _ (by omega), o _ 3 4 _ (by omega), e _ 3 _ (by rw [o _ 3 2 _ (by omega), o _ 3 1 _ (by omega), o _ 3 0 _ (by omega), p.c3]; rfl)]
  · rw [o _ 4 6 _ (by omega), o _ 4 5 _ (by omega), e _ 4 _ (by rw [o _ 4 3 _ (by omega), o _ 4 2 _ (by omega), o _ 4 1 _ (by omega), o _ 4 0 _ (by omega), p.c4]; rfl)]
  · rw [o _ 5 6 _ (by omega), e _ 5 _ (by rw [o _ 5 4 _ (by omega), o _ 5 3 _ (by omega), o _ 5 2 _ (by omega), o _ 5 1 _ (by omega), o _ 5 0 _ (by omega), p.c5]; rfl)]
  · rw [e _ 6 _ (by rw [o _ 6 5 _ (by omega), o _ 6 4 _ (by omega), o _ 6 3 _ (by omega), o _ 6 2 _ (by omega), o _ 6 1 _ (by omega), o _ 6 0 _ (by omega), p.c6]; rfl)]
theorem AtP.past {w : World} {B : Nat} {v : Value} {h : Bool} {s : ByteArray} {r f u k : Int} (p : AtP w B v h s r f u k) (b j : Nat) (hb : b ≠ B) (x : Value) : AtP (w.setCell ⟨b, j, none⟩ x) B v h s r f u k := by
  have o : ∀ i, (w.setCell ⟨b, j, none⟩ x).cell? ⟨B, i, none⟩ = w.cell? ⟨B, i, none⟩ := fun i => World.cell?_setCell_other _ _ _ _ (by intro e; injection e with e1 e2; first | exact hb e1 | exact hb e1.symm)
  exact ⟨by simpa using p.lt, (o 0).trans p.c0, (o 1).trans p.c1, (o 2).trans p.c2, (o 3).trans p.c3, (o 4).trans p.c4, (o 5).trans p.c5, (o 6).trans p.c6, fun j => by rw [World.frozen?_setCell]; exact p.z j⟩
theorem AtP.past7 {w : World} {B : Nat} {v : Value} {h : Bool} {s : ByteArray} {r f u k : Int} (p : AtP w B v h s r f u k) (b : Nat) (hb : b ≠ B) (x0 x1 x2 x3 x4 x5 x6 : Value) : AtP (((((((w.setCell ⟨b, 0, none⟩ x0).setCell ⟨b, 1, none⟩ x1).setCell ⟨b, 2, none⟩ x2).setCell ⟨b, 3, none⟩ x3).setCell ⟨b, 4, none⟩ x4).setCell ⟨b, 5, none⟩ x5).setCell ⟨b, 6, none⟩ x6) B v h s r f u k :=
  AtP.past (AtP.past (AtP.past (AtP.past (AtP.past (AtP.past (AtP.past p b 0 hb _) b 1 hb _) b 2 hb _) b 3 hb _) b 4 hb _) b 5 hb _) b 6 hb _
theorem own_past {w : World} {base : Nat} {e : TypeId} {size : Nat} {v : Value} {n : Nat} {xs : List Value} (h : w.ownsRow base e size v n xs) (b j : Nat) (hb : v.ownBlock ≠ some b) (x : Value) : (w.setCell ⟨b, j, none⟩ x).ownsRow base e size v n xs := by
  have h0 := h
  obtain ⟨h1, h2⟩ := h
  refine ⟨h1, ?_⟩
  rcases h2 with h2 | ⟨g, cap, cur, hv, hg, hh, r⟩
  · exact Or.inl h2
  · subst hv
    exact Or.inr ⟨g, cap, cur, rfl, hg, by rw [Below.heap_setCell _ _ _ _ (fun e => hb (by simp [Value.ownBlock, e]))]; exact hh, r⟩
theorem own_past7 {w : World} {base : Nat} {e : TypeId} {size : Nat} {v : Value} {n : Nat} {xs : List Value} (h : w.ownsRow base e size v n xs) (b : Nat) (hb : v.ownBlock ≠ some b) (x0 x1 x2 x3 x4 x5 x6 : Value) : (((((((w.setCell ⟨b, 0, none⟩ x0).setCell ⟨b, 1, none⟩ x1).setCell ⟨b, 2, none⟩ x2).setCell ⟨b, 3, none⟩ x3).setCell ⟨b, 4, none⟩ x4).setCell ⟨b, 5, none⟩ x5).setCell ⟨b, 6, none⟩ x6).ownsRow base e size v n xs :=
  own_past (own_past (own_past (own_past (own_past (own_past (own_past h b 0 hb _) b 1 hb _) b 2 hb _) b 3 hb _) b 4 hb _) b 5 hb _) b 6 hb _
theorem ownsRow_below {w w' : World} {base : Nat} {e : TypeId} {size n : Nat} {v : Value} {xs : List Value} (h : w.ownsRow base e size v n xs) (hB : Below w.heap.size w w') : w'.ownsRow base e size v n xs := by
  refine ⟨h.1, ?_⟩
  rcases h.2 with h1 | ⟨g, cap, cur, h1, h2, h3, h4⟩
  · exact .inl h1
  · exact .inr ⟨g, cap, cur, h1, h2, (hB.block g (Array.getElem?_eq_some_iff.1 h3).1).trans h3, h4⟩
theorem own_in {w : World} {base : Nat} {e : TypeId} {size : Nat} {v : Value} {n : Nat} {xs : List Value} (h : w.ownsRow base e size v n xs) : ∀ g, v.ownBlock = some g → base ≤ g ∧ g < w.heap.size := by
  intro g hg
  rcases h.2 with ⟨rfl, _⟩ | ⟨g', cap, cur, rfl, hb, hh, _⟩
  · cases hg
  · cases hg; exact ⟨hb, (Array.getElem?_eq_some_iff.1 hh).1⟩
/-- the two plans that the law holds, and their rows -/
structure Two (w1 wx : World) (b8 b9 : Nat) (v8 v9 : Value) (hd : Bool) (sl : ByteArray) (ro fr un kt : Int) (K : List Pk) : Prop where
  p8 : AtP wx b8 v8 hd sl ro fr un kt
  p9 : AtP wx b9 v9 hd sl ro fr un kt
  o8 : wx.ownsRow w1.heap.size 32 5 v8 K.length (flat K)
  o9 : wx.ownsRow w1.heap.size 32 5 v9 K.length (flat K)
  n8 : w1.heap.size ≤ b8
  n9 : w1.heap.size ≤ b9
  ne : b8 ≠ b9
  a8 : v8.ownBlock ≠ some b8
  a9 : v8.ownBlock ≠ some b9
  c8 : v9.ownBlock ≠ some b8
  c9 : v9.ownBlock ≠ some b9
  rows : ∀ g, v8.ownBlock = some g → v9.ownBlock ≠ some g
  below : Below w1.heap.size w1 wx
theorem held {w1 w' : World} {B : Nat} {v : Value} {hd : Bool} {sl : ByteArray} {ro fr un kt : Int} (p : AtP w1 B v hd sl ro fr un kt) (h : Below w1.heap.size w1 w') :
    w'.cell? ⟨B, 0, none⟩ = some v ∧ w'.cell? ⟨B, 1, none⟩ = some (.bool hd) ∧ w'.cell? ⟨B, 2, none⟩ = some (.string sl) ∧ w'.cell? ⟨B, 3, none⟩ = some (.int .i64 ro) ∧ w'.cell? ⟨B, 4, none⟩ = some (.int .i64 fr) ∧ w'.cell? ⟨B, 5, none⟩ = some (.int .i64 un) ∧ w'.cell? ⟨B, 6, none⟩ = some (.int .i64 kt) ∧ Below w1.heap.size w1 w' := by
  have q := p.below h p.lt
  exact ⟨q.c0, q.c1, q.c2, q.c3, q.c4, q.c5, q.c6, h⟩
theorem plan_sl (a : Option Addr) (n c : Nat) (L : List Tm) (a0 : Option Addr) (n0 c0 : Nat) (hd : Bool) (sl : ByteArray) (ro fr un kt now : Int) (w : World) (hn : n = L.length) (hr : RdC w a 8 (L.map Tm.cells)) (hbig : n ≤ 1099511627776) :
    Calls Try.prog 13 #[.slice a n c, .agg #[.slice a0 n0 c0, .bool hd, .string sl, .int .i64 ro, .int .i64 fr, .int .i64 un, .int .i64 kt], .int .i64 now] w fun e w' =>
      ∃ av cv, e = .returned (.agg #[.slice av (keysAt now L).length cv, .bool hd, .string sl, .int .i64 ro, .int .i64 fr, .int .i64 un, .int .i64 kt]) ∧ w'.ownsRow w.heap.size 32 5 (.slice av (keysAt now L).length cv) (keysAt now L).length (flat (keysAt now L)) ∧ Below w.heap.size w w' :=
  (plan_any a n c L a0 n0 c0 hd sl ro fr un kt now w hn hr hbig).mono fun e w' ⟨v, h1, h2, h3⟩ => by
    obtain ⟨a, c, rfl⟩ := own_slice5 h2
    exact ⟨a, c, h1, h2, h3⟩
theorem rplan_sl (a : Option Addr) (n c : Nat) (L : List Tm) (a0 : Option Addr) (n0 c0 : Nat) (hd : Bool) (sl : ByteArray) (ro fr un kt now : Int) (w : World) (hn : n = L.length) (hr : RdC w a 8 (L.map Tm.cells)) (hbig : n ≤ 1099511627776) :
    Calls Try.prog 14 #[.slice a n c, .agg #[.slice a0 n0 c0, .bool hd, .string sl, .int .i64 ro, .int .i64 fr, .int .i64 un, .int .i64 kt], .int .i64 now] w fun e w' =>
      ∃ av cv, e = .returned (.agg #[.slice av (keysAt now L).length cv, .bool hd, .string sl, .int .i64 ro, .int .i64 fr, .int .i64 un, .int .i64 kt]) ∧ w'.ownsRow w.heap.size 32 5 (.slice av (keysAt now L).length cv) (keysAt now L).length (flat (keysAt now L)) ∧ Below w.heap.size w w' :=
  (rplan_any a n c L a0 n0 c0 hd sl ro fr un kt now w hn hr hbig).mono fun e w' ⟨v, h1, h2, h3⟩ => by
    obtain ⟨a, c, rfl⟩ := own_slice5 h2
    exact ⟨a, c, h1, h2, h3⟩

theorem own_set {w : World} {base : Nat} {e : TypeId} {g n cap size : Nat} {xs : List Value} (h : w.ownsRow base e size (.slice (some ⟨g, 0, none⟩) n cap) n xs) (k : Nat) (hk : k < n * size) (u : Value) :
    (w.setCell ⟨g, k, none⟩ u).ownsRow base e size (.slice (some ⟨g, 0, none⟩) n cap) n (xs.set k u) := by
  obtain ⟨h1, h2⟩ := h
  rcases h2 with ⟨h2, _⟩ | ⟨g', cap', cur, hv, hg, hh, r1, r2, r3, r4⟩
  · cases h2
  · cases hv
    refine ⟨by rw [List.length_set]; exact h1, .inr ⟨g, cap, _, rfl, hg, heap_setCell_same w g k cur e u hh, r1, r2, by simpa using r3, ?_⟩⟩
    rw [← r4, Array.toList_setIfInBounds, List.take_set]
theorem own_cells {w : World} {base : Nat} {e : TypeId} {v : Value} {n size : Nat} {xs : List Value} (h : w.ownsRow base e size v n xs) (hn : 1 ≤ n) : ∃ g cap, v = .slice (some ⟨g, 0, none⟩) n cap ∧ base ≤ g ∧ g < w.heap.size ∧ (∀ j, j < n * size → ∃ u, w.cell? ⟨g, j, none⟩ = some u) ∧ (∀ j, w.frozen? ⟨g, j, none⟩ = false) := by
  rcases h.2 with ⟨_, h0⟩ | ⟨g, cap, cur, rfl, hb, hg, h1, h2, _, _⟩
  · omega
  · refine ⟨g, cap, rfl, hb, (Array.getElem?_eq_some_iff.1 hg).1, fun j hj => ?_, fun j => by simp [World.frozen?, hg]⟩
    have hl : j < xs.length := by rw [h.1]; exact hj
    refine ⟨xs[j], ?_⟩
    have := h.cells (g := g) rfl j xs[j] (List.getElem?_eq_getElem hl)
    rw [addr_add] at this; exact this
/-- the plans and their rows, the first's written over -/
structure Mid (w1 wx : World) (b8 b9 : Nat) (v8 v9 : Value) (hd : Bool) (sl : ByteArray) (ro fr un kt : Int) (K : List Pk) (m : Nat) : Prop where
  p8 : AtP wx b8 v8 hd sl ro fr un kt
  p9 : AtP wx b9 v9 hd sl ro fr un kt
  o8 : ∃ xs, wx.ownsRow w1.heap.size 32 5 v8 m xs
  o9 : wx.ownsRow w1.heap.size 32 5 v9 K.length (flat K)
  below : Below w1.heap.size w1 wx
theorem Two.mid {w1 wx wy : World} {b8 b9 : Nat} {v8 v9 : Value} {hd : Bool} {sl : ByteArray} {ro fr un kt : Int} {K : List Pk} (h : Two w1 wx b8 b9 v8 v9 hd sl ro fr un kt K) (hB : Below wx.heap.size wx wy) {m : Nat} (hm : K.length = m) : Mid w1 wy b8 b9 v8 v9 hd sl ro fr un kt K m :=
  ⟨h.p8.below hB h.p8.lt, h.p9.below hB h.p9.lt, by subst hm; exact ⟨_, ownsRow_below h.o8 hB⟩, ownsRow_below h.o9 hB, h.below.trans (hB.mono h.below.size)⟩
theorem Mid.set {w1 wx : World} {b8 b9 g cap : Nat} {v9 : Value} {hd : Bool} {sl : ByteArray} {ro fr un kt : Int} {K : List Pk} {m : Nat} (h : Mid w1 wx b8 b9 (.slice (some ⟨g, 0, none⟩) m cap) v9 hd sl ro fr un kt K m) (h8 : g ≠ b8) (h9 : g ≠ b9) (hv : v9.ownBlock ≠ some g) (hg : w1.heap.size ≤ g) (k : Nat) (hk : k < m * 5) (u : Value) :
    Mid w1 (wx.setCell ⟨g, k, none⟩ u) b8 b9 (.slice (some ⟨g, 0, none⟩) m cap) v9 hd sl ro fr un kt K m := by
  obtain ⟨xs, ho⟩ := h.o8
  exact ⟨AtP.past h.p8 g k h8 u, AtP.past h.p9 g k h9 u, ⟨_, own_set ho k hk u⟩, own_past h.o9 g k hv u, h.below.setCell (p := ⟨g, k, none⟩) hg u⟩
theorem keys_len (now : Int) : ∀ L : List Tm, (keysAt now L).length ≤ L.length
  | [] => by simp [keysAt]
  | x :: L => by
    have := keys_len now L
    simp only [keysAt, List.flatMap_cons, List.length_append, List.length_cons] at *
    have : (keyAt now x).length ≤ 1 := by unfold keyAt; split <;> simp
    omega

set_option maxRecDepth 100000 in
set_option maxHeartbeats 40000000 in
theorem law (a : Option Addr) (n c : Nat) (L : List Tm) (a0 : Option Addr) (n0 c0 : Nat) (hd : Bool) (sl : ByteArray) (ro fr un kt now : Int) (w : World) (hn : n = L.length) (hr : RdC w a 8 (L.map Tm.cells)) (ha : a = none → n = 0 ∧ c = 0) (hbig : n ≤ 1048576) (hnow : (Lit.int .i64 now).wf = true) :
    Calls Try.prog 3 #[.slice a n c, .agg #[.slice a0 n0 c0, .bool hd, .string sl, .int .i64 ro, .int .i64 fr, .int .i64 un, .int .i64 kt], .int .i64 now] w fun e w' => e = .returned (.bool true) ∧ Below w.heap.size w w' := by
  obtain ⟨i0, hi, hz0, hz1, hz2⟩ := info_parts infoTm
  have hsrc := fun (w' : World) (hB : Below w.heap.size w w') => cells_of_rd (hr.below hB rfl) (fun h => List.eq_nil_of_length_eq_zero (by rw [← hn]; exact (ha h).1)) c (fun h => (ha h).2)
  have HSRC := Lib.hid hsrc; have HR := Lib.hid hr; have HN := Lib.hid hn
  clear hsrc hr hn ha
  go_enter Try.func3, Try.ntmps3
  go_wp2_with (at_builtin; refine wpList_append_src rfl _ _ 22 rfl (w.heap.size + 1) 79 i0 _ 8 64 Try.underlying22 hi hz0 hz1 hz2 rfl (by decide) _ 0 [] rfl (World.ownsRow_nil _ _ _ _) a n c (flatT L) rfl (by rw [flatT_len, HN.out]) ?c1 ?c2 ?c3 ?c4 ?c5 ?_)
  case c1 =>
    rw [HN.out]
    exact HSRC.out _ ((Below.refl _ _).alloc (Nat.le_refl _) _)
  case c2 =>
    intro u hu
    obtain ⟨x, _, hx⟩ := List.mem_flatMap.1 hu
    simp only [Tm.cells, List.mem_cons, List.not_mem_nil, or_false] at hx
    rcases hx with rfl | rfl | rfl | rfl | rfl | rfl | rfl | rfl <;> rfl
  case c3 => unfold maxLen; omega
  case c4 => omega
  case c5 => simp
  intro v1 w1 hown1 hgr
  have hB1s := below_append' (Below.refl (w.heap.size + 1) (w.alloc (.cells #[.slice a0 n0 c0, .bool hd, .string sl, .int .i64 ro, .int .i64 fr, .int .i64 un, .int .i64 kt] 25))) (by simp) (World.ownsRow_nil _ (w.heap.size + 1) 79 8) hgr
  have hB1 : Below w.heap.size w w1 := ((Below.refl w.heap.size w).alloc (Nat.le_refl _) _).trans (hB1s.mono (by omega))
  have hPl : AtP w1 w.heap.size (.slice a0 n0 c0) hd sl ro fr un kt := (AtP.fresh w _ _ rfl _ _ _ _ _ _ _).below hB1s (by omega)
  obtain ⟨a1, c1, rfl, hc1, hcm1, hr1⟩ := RdC.of_own Tm.cells 8 (fun _ => rfl) HN.out hown1
  have HR1 := Lib.hid hr1
  have HRw := Lib.hid (HR.out.below hB1 rfl)
  have HB1 := Lib.hid hB1; have HPl := Lib.hid hPl
  have C1 := Lib.hid (fun w' hr => plan_sl a1 n c1 L a0 n0 c0 hd sl ro fr un kt now w' HN.out hr (by omega))
  have C2 := Lib.hid (fun w' hr => rplan_sl a n c L a0 n0 c0 hd sl ro fr un kt now w' HN.out hr (by omega))
  clear hr1 hB1s hB1 hgr hown1
  go_wp2_with fail
  obtain ⟨K, hK⟩ : ∃ K, keysAt now L = K := ⟨_, rfl⟩
  rw [hK] at C1 C2
  have q0 := hPl.c0; have q1 := hPl.c1; have q2 := hPl.c2; have q3 := hPl.c3; have q4 := hPl.c4; have q5 := hPl.c5; have q6 := hPl.c6
  clear hPl
  have hD0 : Below w1.heap.size w1 w1.drew := bel_drewN (Below.refl _ _) 1
  go_cut [8, 9] (fun s8 s9 wx => ∃ (b8 b9 : Nat) (a8 a9 : Option Addr) (c8 c9 : Nat), s8 = .pointer (some ⟨b8, 0, none⟩) ∧ s9 = .pointer (some ⟨b9, 0, none⟩) ∧ Hid (Two w1 wx b8 b9 (.slice a8 K.length c8) (.slice a9 K.length c9) hd sl ro fr un kt K))
  case first =>
    go_region_held3 (fun w' => w'.cell? ⟨w.heap.size, 0, none⟩ = some (.slice a0 n0 c0) ∧ w'.cell? ⟨w.heap.size, 1, none⟩ = some (.bool hd) ∧ w'.cell? ⟨w.heap.size, 2, none⟩ = some (.string sl) ∧ w'.cell? ⟨w.heap.size, 3, none⟩ = some (.int .i64 ro) ∧ w'.cell? ⟨w.heap.size, 4, none⟩ = some (.int .i64 fr) ∧ w'.cell? ⟨w.heap.size, 5, none⟩ = some (.int .i64 un) ∧ w'.cell? ⟨w.heap.size, 6, none⟩ = some (.int .i64 kt) ∧ Below w1.heap.size w1 w')
      ((refine held HPl.out ?_; repeat (first | with_reducible exact hD9 | with_reducible exact hD8 | with_reducible exact hD0 | with_reducible exact Below.refl _ _ | with_reducible refine Below.drew ?_ | with_reducible refine Below.setCell ?_ (by dsimp only; omega) _ | with_reducible refine Below.alloc ?_ (by first | omega | (simp only [size_alloc, size_drew, size_set]; omega)) _)))
      (first
        | (go_at_call 13; refine (C1.out _ (HR1.out.below (‹_ ∧ _ ∧ _ ∧ _ ∧ _ ∧ _ ∧ _ ∧ Below _ _ _›).2.2.2.2.2.2.2 rfl)).mono ?_; rintro e w3 ⟨av8, cv8, rfl, hown8x, hB8⟩; have hD8 := (‹_ ∧ _ ∧ _ ∧ _ ∧ _ ∧ _ ∧ _ ∧ Below _ _ _›).2.2.2.2.2.2.2.trans (hB8.mono (‹_ ∧ _ ∧ _ ∧ _ ∧ _ ∧ _ ∧ _ ∧ Below _ _ _›).2.2.2.2.2.2.2.size); have hS8 := hD8.size; have hown8 := own_base (base' := w1.heap.size) (‹_ ∧ _ ∧ _ ∧ _ ∧ _ ∧ _ ∧ _ ∧ Below _ _ _›).2.2.2.2.2.2.2.size hown8x; have hi8 := own_in hown8x; have hL8 := hB8.size; (try simp only [size_alloc, size_drew] at hL8); (try (have hM8 : w1.heap.size < w3.heap.size := by omega)); (try (have hM8' : w1.heap.size + 1 < w3.heap.size := by omega)); (try (have ka : AtP w3 (w1.heap.size) (.slice none 0 0) false ⟨#[]⟩ 0 0 0 0 := AtP.below (by first | with_reducible exact AtP.fresh _ _ _ rfl _ _ _ _ _ _ _ | with_reducible exact AtP.dr (AtP.fresh _ _ _ rfl _ _ _ _ _ _ _) | with_reducible exact (AtP.fresh _ _ _ rfl _ _ _ _ _ _ _).alloc _ | with_reducible exact AtP.dr ((AtP.fresh _ _ _ rfl _ _ _ _ _ _ _).alloc _) | with_reducible exact AtP.fresh _ _ _ (size_alloc _ _).symm _ _ _ _ _ _ _ | with_reducible exact AtP.dr (AtP.fresh _ _ _ (size_alloc _ _).symm _ _ _ _ _ _ _) | with_reducible exact (AtP.fresh _ _ _ (size_alloc _ _).symm _ _ _ _ _ _ _).alloc _ | with_reducible exact AtP.dr ((AtP.fresh _ _ _ (size_alloc _ _).symm _ _ _ _ _ _ _).alloc _)) hB8 (by first | omega | (simp only [size_alloc, size_drew]; omega)); obtain ⟨ka_0, ka_1, ka_2, ka_3, ka_4, ka_5, ka_6, ka_7, ka_8, ka_9, ka_10, ka_11, ka_12, ka_13⟩ := AtP.all ka)); (try (have kb : AtP w3 (w1.heap.size + 1) (.slice none 0 0) false ⟨#[]⟩ 0 0 0 0 := AtP.below (by first | with_reducible exact AtP.fresh _ _ _ rfl _ _ _ _ _ _ _ | with_reducible exact AtP.dr (AtP.fresh _ _ _ rfl _ _ _ _ _ _ _) | with_reducible exact (AtP.fresh _ _ _ rfl _ _ _ _ _ _ _).alloc _ | with_reducible exact AtP.dr ((AtP.fresh _ _ _ rfl _ _ _ _ _ _ _).alloc _) | with_reducible exact AtP.fresh _ _ _ (size_alloc _ _).symm _ _ _ _ _ _ _ | with_reducible exact AtP.dr (AtP.fresh _ _ _ (size_alloc _ _).symm _ _ _ _ _ _ _) | with_reducible exact (AtP.fresh _ _ _ (size_alloc _ _).symm _ _ _ _ _ _ _).alloc _ | with_reducible exact AtP.dr ((AtP.fresh _ _ _ (size_alloc _ _).symm _ _ _ _ _ _ _).alloc _)) hB8 (by first | omega | (simp only [size_alloc, size_drew]; omega)); obtain ⟨kb_0, kb_1, kb_2, kb_3, kb_4, kb_5, kb_6, kb_7, kb_8, kb_9, kb_10, kb_11, kb_12, kb_13⟩ := AtP.all kb)))
        | (go_at_call 14; refine (C2.out _ (HRw.out.below (‹_ ∧ _ ∧ _ ∧ _ ∧ _ ∧ _ ∧ _ ∧ Below _ _ _›).2.2.2.2.2.2.2 rfl)).mono ?_; rintro e w4 ⟨av9, cv9, rfl, hown9x, hB9⟩; have hD9 := (‹_ ∧ _ ∧ _ ∧ _ ∧ _ ∧ _ ∧ _ ∧ Below _ _ _›).2.2.2.2.2.2.2.trans (hB9.mono (‹_ ∧ _ ∧ _ ∧ _ ∧ _ ∧ _ ∧ _ ∧ Below _ _ _›).2.2.2.2.2.2.2.size); have hS9 := hD9.size; have hown9 := own_base (base' := w1.heap.size) (‹_ ∧ _ ∧ _ ∧ _ ∧ _ ∧ _ ∧ _ ∧ Below _ _ _›).2.2.2.2.2.2.2.size hown9x; have hown8w := ownsRow_below (by first | with_reducible exact hown8 | with_reducible exact hown8.alloc _ | with_reducible exact (hown8.alloc _).alloc _) hB9; have hi9 := own_in hown9x; (try simp only [size_alloc, size_drew] at hi8); (try simp only [size_alloc, size_drew] at hi9); have hL9 := hB9.size; (try simp only [size_alloc, size_drew] at hL9); (try (have hM9 : w3.heap.size < w4.heap.size := by omega)); (try (have hM9' : w3.heap.size + 1 < w4.heap.size := by omega)); (try (have hM9a : w1.heap.size < w4.heap.size := by omega)); (try (have hM9b : w1.heap.size + 1 < w4.heap.size := by omega)); (try (have kc : AtP w4 (w1.heap.size) (.slice none 0 0) false ⟨#[]⟩ 0 0 0 0 := AtP.below (by first | with_reducible exact ka | with_reducible exact ka.alloc _ | with_reducible exact (ka.alloc _).alloc _) hB9 (by first | omega | (simp only [size_alloc, size_drew]; omega)); obtain ⟨kc_0, kc_1, kc_2, kc_3, kc_4, kc_5, kc_6, kc_7, kc_8, kc_9, kc_10, kc_11, kc_12, kc_13⟩ := AtP.all kc)); (try (have kd : AtP w4 (w1.heap.size + 1) (.slice none 0 0) false ⟨#[]⟩ 0 0 0 0 := AtP.below (by first | with_reducible exact kb | with_reducible exact kb.alloc _ | with_reducible exact (kb.alloc _).alloc _) hB9 (by first | omega | (simp only [size_alloc, size_drew]; omega)); obtain ⟨kd_0, kd_1, kd_2, kd_3, kd_4, kd_5, kd_6, kd_7, kd_8, kd_9, kd_10, kd_11, kd_12, kd_13⟩ := AtP.all kd)); (try (have ke : AtP w4 (w3.heap.size) (.slice none 0 0) false ⟨#[]⟩ 0 0 0 0 := AtP.below (by first | with_reducible exact AtP.fresh _ _ _ rfl _ _ _ _ _ _ _ | with_reducible exact AtP.dr (AtP.fresh _ _ _ rfl _ _ _ _ _ _ _) | with_reducible exact (AtP.fresh _ _ _ rfl _ _ _ _ _ _ _).alloc _ | with_reducible exact AtP.dr ((AtP.fresh _ _ _ rfl _ _ _ _ _ _ _).alloc _) | with_reducible exact AtP.fresh _ _ _ (size_alloc _ _).symm _ _ _ _ _ _ _ | with_reducible exact AtP.dr (AtP.fresh _ _ _ (size_alloc _ _).symm _ _ _ _ _ _ _) | with_reducible exact (AtP.fresh _ _ _ (size_alloc _ _).symm _ _ _ _ _ _ _).alloc _ | with_reducible exact AtP.dr ((AtP.fresh _ _ _ (size_alloc _ _).symm _ _ _ _ _ _ _).alloc _)) hB9 (by first | omega | (simp only [size_alloc, size_drew]; omega)); obtain ⟨ke_0, ke_1, ke_2, ke_3, ke_4, ke_5, ke_6, ke_7, ke_8, ke_9, ke_10, ke_11, ke_12, ke_13⟩ := AtP.all ke)); (try (have kf : AtP w4 (w3.heap.size + 1) (.slice none 0 0) false ⟨#[]⟩ 0 0 0 0 := AtP.below (by first | with_reducible exact AtP.fresh _ _ _ rfl _ _ _ _ _ _ _ | with_reducible exact AtP.dr (AtP.fresh _ _ _ rfl _ _ _ _ _ _ _) | with_reducible exact (AtP.fresh _ _ _ rfl _ _ _ _ _ _ _).alloc _ | with_reducible exact AtP.dr ((AtP.fresh _ _ _ rfl _ _ _ _ _ _ _).alloc _) | with_reducible exact AtP.fresh _ _ _ (size_alloc _ _).symm _ _ _ _ _ _ _ | with_reducible exact AtP.dr (AtP.fresh _ _ _ (size_alloc _ _).symm _ _ _ _ _ _ _) | with_reducible exact (AtP.fresh _ _ _ (size_alloc _ _).symm _ _ _ _ _ _ _).alloc _ | with_reducible exact AtP.dr ((AtP.fresh _ _ _ (size_alloc _ _).symm _ _ _ _ _ _ _).alloc _)) hB9 (by first | omega | (simp only [size_alloc, size_drew]; omega)); obtain ⟨kf_0, kf_1, kf_2, kf_3, kf_4, kf_5, kf_6, kf_7, kf_8, kf_9, kf_10, kf_11, kf_12, kf_13⟩ := AtP.all kf))))
    all_goals
      go_wp2_with fail
      go_meet
      refine ⟨_, _, av8, av9, cv8, cv9, rfl, rfl, Lib.hid ⟨?_, ?_, ?_, ?_, ?_, ?_, ?_, ?_, ?_, ?_, ?_, ?_, ?_⟩⟩
      · first | with_reducible exact AtP.fresh _ _ _ rfl _ _ _ _ _ _ _ | with_reducible exact (AtP.fresh _ _ _ rfl _ _ _ _ _ _ _).alloc _ | with_reducible exact AtP.fresh _ _ _ (size_alloc _ _).symm _ _ _ _ _ _ _ | with_reducible exact (AtP.fresh _ _ _ (size_alloc _ _).symm _ _ _ _ _ _ _).alloc _ | with_reducible exact AtP.fresh _ _ _ (size_set7 _ _ _ _ _ _ _ _ _).symm _ _ _ _ _ _ _ | with_reducible exact (AtP.fresh _ _ _ (size_set7 _ _ _ _ _ _ _ _ _).symm _ _ _ _ _ _ _).alloc _ | with_reducible exact AtP.fill kc | with_reducible exact (AtP.fill kc).alloc _ | with_reducible exact AtP.past7 (AtP.fill kc) _ (by omega) _ _ _ _ _ _ _ | with_reducible exact AtP.fill (AtP.past7 kc _ (by omega) _ _ _ _ _ _ _) | with_reducible exact AtP.fill kd | with_reducible exact (AtP.fill kd).alloc _ | with_reducible exact AtP.past7 (AtP.fill kd) _ (by omega) _ _ _ _ _ _ _ | with_reducible exact AtP.fill (AtP.past7 kd _ (by omega) _ _ _ _ _ _ _) | with_reducible exact AtP.fill ke | with_reducible exact (AtP.fill ke).alloc _ | with_reducible exact AtP.past7 (AtP.fill ke) _ (by omega) _ _ _ _ _ _ _ | with_reducible exact AtP.fill (AtP.past7 ke _ (by omega) _ _ _ _ _ _ _) | with_reducible exact AtP.fill kf | with_reducible exact (AtP.fill kf).alloc _ | with_reducible exact AtP.past7 (AtP.fill kf) _ (by omega) _ _ _ _ _ _ _ | with_reducible exact AtP.fill (AtP.past7 kf _ (by omega) _ _ _ _ _ _ _)
      · first | with_reducible exact AtP.fresh _ _ _ rfl _ _ _ _ _ _ _ | with_reducible exact (AtP.fresh _ _ _ rfl _ _ _ _ _ _ _).alloc _ | with_reducible exact AtP.fresh _ _ _ (size_alloc _ _).symm _ _ _ _ _ _ _ | with_reducible exact (AtP.fresh _ _ _ (size_alloc _ _).symm _ _ _ _ _ _ _).alloc _ | with_reducible exact AtP.fresh _ _ _ (size_set7 _ _ _ _ _ _ _ _ _).symm _ _ _ _ _ _ _ | with_reducible exact (AtP.fresh _ _ _ (size_set7 _ _ _ _ _ _ _ _ _).symm _ _ _ _ _ _ _).alloc _ | with_reducible exact AtP.fill kc | with_reducible exact (AtP.fill kc).alloc _ | with_reducible exact AtP.past7 (AtP.fill kc) _ (by omega) _ _ _ _ _ _ _ | with_reducible exact AtP.fill (AtP.past7 kc _ (by omega) _ _ _ _ _ _ _) | with_reducible exact AtP.fill kd | with_reducible exact (AtP.fill kd).alloc _ | with_reducible exact AtP.past7 (AtP.fill kd) _ (by omega) _ _ _ _ _ _ _ | with_reducible exact AtP.fill (AtP.past7 kd _ (by omega) _ _ _ _ _ _ _) | with_reducible exact AtP.fill ke | with_reducible exact (AtP.fill ke).alloc _ | with_reducible exact AtP.past7 (AtP.fill ke) _ (by omega) _ _ _ _ _ _ _ | with_reducible exact AtP.fill (AtP.past7 ke _ (by omega) _ _ _ _ _ _ _) | with_reducible exact AtP.fill kf | with_reducible exact (AtP.fill kf).alloc _ | with_reducible exact AtP.past7 (AtP.fill kf) _ (by omega) _ _ _ _ _ _ _ | with_reducible exact AtP.fill (AtP.past7 kf _ (by omega) _ _ _ _ _ _ _)
      · (repeat (first | with_reducible exact hown9 | with_reducible exact hown8w | with_reducible refine World.ownsRow.alloc ?_ _ | with_reducible refine own_past ?_ _ _ (fun h => by first | (have := hi8 _ h; omega) | (have := hi9 _ h; omega)) _))
      · (repeat (first | with_reducible exact hown9 | with_reducible exact hown8w | with_reducible refine World.ownsRow.alloc ?_ _ | with_reducible refine own_past ?_ _ _ (fun h => by first | (have := hi8 _ h; omega) | (have := hi9 _ h; omega)) _))
      · omega
      · omega
      · omega
      · intro h; have := hi8 _ h; omega
      · intro h; have := hi8 _ h; omega
      · intro h; have := hi9 _ h; omega
      · intro h; have := hi9 _ h; omega
      · intro g h h'; have := hi8 _ h; have := hi9 _ h'; omega
      · repeat (first | with_reducible exact hD9 | with_reducible refine Below.setCell ?_ (by dsimp only; omega) _ | with_reducible refine Below.alloc ?_ (by first | omega | (simp only [size_alloc, size_drew, size_set]; omega)) _)
  case rest =>
    obtain ⟨b8, b9, a8, a9, c8, c9, rfl, rfl, HT⟩ := hcut
    obtain ⟨m, hm⟩ : ∃ m, K.length = m := ⟨_, rfl⟩
    have hT := HT.out
    have t0 := hT.p8.c0
    have t1 := hT.p9.c0
    obtain ⟨_, _, e8, _, _, hr8⟩ := RdC.of_own Pk.cells 5 (fun _ => rfl) rfl hT.o8
    obtain ⟨_, _, e9, _, _, hr9⟩ := RdC.of_own Pk.cells 5 (fun _ => rfl) rfl hT.o9
    cases e8; cases e9
    have hml : m ≤ 1048576 := by
      rw [← hm, ← hK]; have := keys_len now L; have := HN.out; omega
    have HR8 := Lib.hid hr8; have HR9 := Lib.hid hr9
    have HM := Lib.hid hm
    rw [hm] at t0 t1
    have CK := Lib.hid (fun w hx hy => same_keys a8 a9 m c8 c9 K w HM.out.symm hx hy (by omega))
    have CL := Lib.hid (fun w hx hy => same_line a1 a n c1 c L w HN.out hx hy (by omega))
    have CQ := Lib.hid (CK.out _ HR8.out HR9.out)
    clear hT hr8 hr9 hm q0 q1 q2 q3 q4 q5 q6 hD0
    go_wp2_with fail
    refine CQ.out.mono ?_
    rintro e w2 ⟨rfl, hB2⟩
    have CR := Lib.hid (CL.out w2 (HR1.out.below (HT.out.below.trans (hB2.mono HT.out.below.size)) rfl) (HRw.out.below (HT.out.below.trans (hB2.mono HT.out.below.size)) rfl))
    have HB2 := Lib.hid hB2; clear hB2 CQ
    go_wp2_with fail
    refine CR.out.mono ?_
    rintro e w3 ⟨rfl, hB3⟩
    have HB3 := Lib.hid (HB2.out.trans (hB3.mono HB2.out.size)); clear hB3 CR HB2
    have t2 := (HT.out.p8.below HB3.out HT.out.p8.lt).c0
    rw [HM.out] at t2
    have hMID := HT.out.mid HB3.out HM.out
    rw [HM.out] at hMID
    have HMID := Lib.hid hMID; clear hMID
    clear t0 t1
    go_wp2_with fail
    go_loopg [10, 36] (m + 1) (fun gas _ kv wq => ∃ (k : Nat), kv = .int .i64 k ∧ k ≤ m ∧ k + gas = m + 1 ∧ Hid (Mid w1 wq b8 b9 (.slice a8 m c8) (.slice a9 m c9) hd sl ro fr un kt K m))
    case atStart => exact ⟨0, rfl, by omega, by omega, HMID⟩
    case round =>
      clear HMID t2
      obtain ⟨k, rfl, hk, hkg, HI⟩ := hrel
      have HKG := Lib.hid hkg; clear hkg
      have t2 := HI.out.p8.c0
      by_cases hlt : k < m
      · obtain ⟨xs, ho8⟩ := HI.out.o8
        obtain ⟨g, cap, hgv, hg1, hg2, hcs, hfz⟩ := own_cells ho8 (by omega)
        cases hgv
        obtain ⟨u0, hu0⟩ := hcs (k * 5) (by omega)
        obtain ⟨u1, hu1⟩ := hcs (k * 5 + 1) (by omega)
        obtain ⟨u2, hu2⟩ := hcs (k * 5 + 2) (by omega)
        obtain ⟨u3, hu3⟩ := hcs (k * 5 + 3) (by omega)
        obtain ⟨u4, hu4⟩ := hcs (k * 5 + 4) (by omega)
        have f0 := hfz (k * 5); have f1 := hfz (k * 5 + 1); have f2 := hfz (k * 5 + 2); have f3 := hfz (k * 5 + 3); have f4 := hfz (k * 5 + 4)
        have hn8 : g ≠ b8 := fun h => HT.out.a8 (by rw [← h]; simp [Value.ownBlock])
        have hn9 : g ≠ b9 := fun h => HT.out.a9 (by rw [← h]; simp [Value.ownBlock])
        have hnr := HT.out.rows g (by simp [Value.ownBlock])
        rw [HM.out] at hnr
        have HI2 := Lib.hid (((((HI.out.set hn8 hn9 hnr hg1 (k * 5) (by omega) (.int .i64 0)).set hn8 hn9 hnr hg1 (k * 5 + 1) (by omega) (.int .i64 0)).set hn8 hn9 hnr hg1 (k * 5 + 2) (by omega) (.int .i64 0)).set hn8 hn9 hnr hg1 (k * 5 + 3) (by omega) (.int .i64 0)).set hn8 hn9 hnr hg1 (k * 5 + 4) (by omega) (.bool false))
        have zl : (k : Int) < (m : Int) := by omega
        clear ho8 hcs hfz
        go_wp2_with fail
        have hkg := HKG.out
        go_roundg (gk - 1)
        case rel => exact ⟨k + 1, by go_num, by omega, by omega, HI2⟩
        case measure => omega
      · have hq := HPl.out.below HI.out.below HPl.out.lt
        have q0 := hq.c0; have q1 := hq.c1; have q2 := hq.c2; have q3 := hq.c3; have q4 := hq.c4; have q5 := hq.c5; have q6 := hq.c6
        have CC := Lib.hid (C1.out wr (HR1.out.below HI.out.below rfl))
        clear hq t2
        go_wp2_with fail
        refine CC.out.mono ?_
        rintro e w5 ⟨av, cv, rfl, hown5, hB5⟩
        rw [HM.out] at hown5 ⊢
        have hP8 := HI.out.p8.below hB5 HI.out.p8.lt
        have hP9 := HI.out.p9.below hB5 HI.out.p9.lt
        have ho9 := ownsRow_below HI.out.o9 hB5
        have hne := HT.out.ne
        have z0 := hP8.c0; have z1 := hP8.c1; have z2 := hP8.c2; have z3 := hP8.c3; have z4 := hP8.c4; have z5 := hP8.c5; have z6 := hP8.c6
        have y0 := hP8.z 0; have y1 := hP8.z 1; have y2 := hP8.z 2; have y3 := hP8.z 3; have y4 := hP8.z 4; have y5 := hP8.z 5; have y6 := hP8.z 6
        have hi5 := own_in hown5
        have hFin : Hid (Two w1 (((((((w5.setCell ⟨b8, 0, none⟩ (.slice av m cv)).setCell ⟨b8, 1, none⟩ (.bool hd)).setCell ⟨b8, 2, none⟩ (.string sl)).setCell ⟨b8, 3, none⟩ (.int .i64 ro)).setCell ⟨b8, 4, none⟩ (.int .i64 fr)).setCell ⟨b8, 5, none⟩ (.int .i64 un)).setCell ⟨b8, 6, none⟩ (.int .i64 kt)) b8 b9 (.slice av m cv) (.slice a9 m c9) hd sl ro fr un kt K) := Lib.hid (by
          have hz := HI.out.below.size
          have l8 := HI.out.p8.lt
          have l9 := HI.out.p9.lt
          refine ⟨AtP.fill hP8, AtP.past7 hP9 b8 hne _ _ _ _ _ _ _, own_past7 (own_base hz (by rw [HM.out]; exact hown5)) b8 ?_ _ _ _ _ _ _ _, own_past7 ho9 b8 ?_ _ _ _ _ _ _ _, HT.out.n8, HT.out.n9, hne, ?_, ?_, ?_, ?_, ?_, ?_⟩
          · intro h; have := hi5 _ h; omega
          · have := HT.out.c8; rw [HM.out] at this; exact this
          · intro h; have := hi5 _ h; omega
          · intro h; have := hi5 _ h; omega
          · have := HT.out.c8; rw [HM.out] at this; exact this
          · have := HT.out.c9; rw [HM.out] at this; exact this
          · intro g h h'
            have h1 := hi5 _ h
            have h2 := (own_in HI.out.o9 g h').2
            omega
          · exact ((((((((HI.out.below.trans (hB5.mono hz)).setCell (p := ⟨b8, 0, none⟩) HT.out.n8 _).setCell (p := ⟨b8, 1, none⟩) HT.out.n8 _).setCell (p := ⟨b8, 2, none⟩) HT.out.n8 _).setCell (p := ⟨b8, 3, none⟩) HT.out.n8 _).setCell (p := ⟨b8, 4, none⟩) HT.out.n8 _).setCell (p := ⟨b8, 5, none⟩) HT.out.n8 _).setCell (p := ⟨b8, 6, none⟩) HT.out.n8 _))
        clear hP8 hP9 ho9 hown5 hB5 q0 q1 q2 q3 q4 q5 q6 hi5
        go_upto_region 11 with (fail)
        obtain ⟨w6, hw6⟩ : ∃ w6, (((((((w5.setCell ⟨b8, 0, none⟩ (.slice av m cv)).setCell ⟨b8, 1, none⟩ (.bool hd)).setCell ⟨b8, 2, none⟩ (.string sl)).setCell ⟨b8, 3, none⟩ (.int .i64 ro)).setCell ⟨b8, 4, none⟩ (.int .i64 fr)).setCell ⟨b8, 5, none⟩ (.int .i64 un)).setCell ⟨b8, 6, none⟩ (.int .i64 kt)) = w6 := ⟨_, rfl⟩
        rw [hw6] at hFin ⊢
        clear hw6 z0 z1 z2 z3 z4 z5 z6 y0 y1 y2 y3 y4 y5 y6 hne
        have hT := hFin.out
        have t0 := hT.p8.c0
        have t1 := hT.p9.c0
        obtain ⟨_, _, e8, _, _, hr8⟩ := RdC.of_own Pk.cells 5 (fun _ => rfl) rfl hT.o8
        obtain ⟨_, _, e9, _, _, hr9⟩ := RdC.of_own Pk.cells 5 (fun _ => rfl) rfl hT.o9
        injection e8 with g1 g2 g3
        injection e9 with g4 g5 g6
        rw [← g1] at hr8
        rw [← g4] at hr9
        have HR8 := Lib.hid hr8; have HR9 := Lib.hid hr9
        clear hT hr8 hr9 g1 g2 g3 g4 g5 g6
        have CQ := Lib.hid (same_keys av a9 m cv c9 K w6 HM.out.symm HR8.out HR9.out (by omega))
        go_wp2_with fail
        refine CQ.out.mono ?_
        rintro e w7 ⟨rfl, hB7⟩
        have hB7' := hFin.out.below.trans (hB7.mono hFin.out.below.size)
        have CR := Lib.hid (CL.out w7 (HR1.out.below hB7' rfl) (HRw.out.below hB7' rfl))
        have HB7 := Lib.hid hB7; have HB7' := Lib.hid hB7'; clear hB7 hB7' CQ
        go_wp2_with fail
        refine CR.out.mono ?_
        rintro e w8 ⟨rfl, hB8⟩
        have HB8 := Lib.hid (HB7.out.trans (hB8.mono HB7.out.size))
        have HB8' := Lib.hid (HB7'.out.trans (hB8.mono HB7'.out.size))
        clear hB8 CR t0 t1
        have hP8 := hFin.out.p8.below HB8.out hFin.out.p8.lt
        have hP9 := hFin.out.p9.below HB8.out hFin.out.p9.lt
        have z1 := hP8.c1; have z2 := hP8.c2; have z3 := hP8.c3; have z4 := hP8.c4; have z5 := hP8.c5; have z6 := hP8.c6
        have y1 := hP9.c1; have y2 := hP9.c2; have y3 := hP9.c3; have y4 := hP9.c4; have y5 := hP9.c5; have y6 := hP9.c6
        have hsl : (sl.toList == sl.toList) = true := by simp
        have hhd : (hd == hd) = true := by simp
        clear hP8 hP9
        go_wp2_with fail
        go_ret
        exact ⟨rfl, HB1.out.trans (HB8'.out.mono HB1.out.size)⟩
end Go.Proofs.Ytabhiangjomaeaa.signerPlans
