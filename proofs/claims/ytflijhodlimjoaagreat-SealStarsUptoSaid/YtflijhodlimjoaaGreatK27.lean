/- seal.inverse: walk. -/
import Derived.Test.YtflijhodlimjoaaGreatK26
namespace Go.Proofs.YtflijhodlimjoaaGreat.inverse
open Go.RowKit Go.Proofs.YtflijhodlimjoaaGreat.kit Go.Proofs.YtflijhodlimjoaaGreat.keysP Go.Proofs.YtflijhodlimjoaaGreat.keyW
set_option linter.unusedVariables false

def Two (w : World) (g : Nat) (a b : Int) : Prop := w.heap[g]? = some (.cells #[.int .i64 a, .int .i64 b] 150 (0, 0))
theorem Two.c {w : World} {g : Nat} {a b : Int} (h : Two w g a b) : w.cell? ⟨g, 0, none⟩ = some (.int .i64 a) ∧ w.cell? ⟨g, 1, none⟩ = some (.int .i64 b) ∧ w.frozen? ⟨g, 0, none⟩ = false ∧ w.frozen? ⟨g, 1, none⟩ = false :=
  ⟨by rw [Lib.cell_of_heap h]; rfl, by rw [Lib.cell_of_heap h]; rfl, Lib.frozen_of_heap h 0, Lib.frozen_of_heap h 1⟩

theorem heap_set {w : World} {b : Nat} {cs : Array Value} {t : TypeId} (h : w.heap[b]? = some (.cells cs t (0, 0))) (i : Nat) (u : Value) : (w.setCell ⟨b, i, none⟩ u).heap[b]? = some (.cells (cs.setIfInBounds i u) t (0, 0)) := by
  simp [World.setCell, Array.getElem?_modify, h]
theorem Two.set {w : World} {g : Nat} {a b : Int} (h : Two w g a b) (c d : Int) : Two ((w.setCell ⟨g, 0, none⟩ (.int .i64 c)).setCell ⟨g, 1, none⟩ (.int .i64 d)) g c d := heap_set (heap_set h 0 _) 1 _
theorem Two.far {w : World} {g g' : Nat} {a b : Int} (h : Two w g a b) (hne : g ≠ g') (i : Nat) (u : Value) : Two (w.setCell ⟨g', i, none⟩ u) g a b := (Below.heap_setCell w ⟨g', i, none⟩ u g hne).trans h

/-- what is said of an inverse -/
def SaysI (e m : Nat) (w : World) (en : Ending) (w' : World) : Prop := Below w.heap.size w w' ∧ ((Nat.gcd e m ≠ 1 ∧ en = .returned (.int .i64 0)) ∨ ∃ d : Nat, Nat.gcd e m = 1 ∧ Inv e m d ∧ en = .returned (.int .i64 (d : Int)))

set_option maxRecDepth 100000 in
set_option maxHeartbeats 2000000 in
theorem inverse_any (e m : Nat) (w : World) (he : e ≤ 2147483648) (hm2 : 2 ≤ m) (hm : m ≤ 2147483648) :
    Calls Tryz.prog 89 #[.int .i64 (e : Int), .int .i64 (m : Int)] w (SaysI e m w) := by
  have hm1 : (1 : Int) ≤ (m : Int) := by omega
  go_enter Tryz.func89, Tryz.ntmps89
  go_wp2
  obtain ⟨r, hr⟩ : ∃ r, e % m = r := ⟨_, rfl⟩
  have e1 : ((e : Int) % (m : Int)) = (r : Int) := by rw [← hr]; simp
  have HE := Lib.hid (Euc.start (e := e) (m := m) (by omega))
  have hrm : r < m := by rw [← hr]; exact Nat.mod_lt e (by omega)
  rw [hr] at HE
  clear hr
  obtain ⟨w2, hw2⟩ : ∃ w2, (w.alloc (.cells #[.int .i64 (m : Int), .int .i64 ((e : Int) % (m : Int))] 150)).alloc (.cells #[.int .i64 0, .int .i64 1] 150) = w2 := ⟨_, rfl⟩
  obtain ⟨g, hg⟩ : ∃ g, w.heap.size = g := ⟨_, rfl⟩
  have hR0 : Two w2 g (m : Int) (r : Int) := by
    rw [← hw2, ← hg]
    have h1 : ((w.alloc (.cells #[.int .i64 (m : Int), .int .i64 ((e : Int) % (m : Int))] 150)).alloc (.cells #[.int .i64 0, .int .i64 1] 150)).heap[w.heap.size]? = (w.alloc (.cells #[.int .i64 (m : Int), .int .i64 ((e : Int) % (m : Int))] 150)).heap[w.heap.size]? := Lib.alloc_old _ _ _ (by rw [World.size_alloc]; omega)
    have h2 := h1.trans (heap_alloc_new w _)
    unfold Two
    rw [h2, e1]
  have hS0 : Two w2 (g + 1) 0 1 := by
    rw [← hw2, ← hg]
    have h1 := heap_alloc_new (w.alloc (.cells #[.int .i64 (m : Int), .int .i64 ((e : Int) % (m : Int))] 150)) (.cells #[.int .i64 0, .int .i64 1] 150)
    rw [World.size_alloc] at h1
    exact h1
  have hB0 : Below w.heap.size w w2 := by
    rw [← hw2]
    exact ((Below.refl w.heap.size w).alloc (Nat.le_refl _) _).alloc (by rw [World.size_alloc]; omega) _
  rw [hw2]
  have HG := Lib.hid hg
  rw [hg] at hB0
  rw [hg]
  clear hw2 hg e1
  go_loopg [7] (m + 2) (fun gas _ wr => ∃ (r0 r1 : Nat) (s0 s1 : Int), Hid (Euc e m r0 r1 s0 s1) ∧ r0 ≤ 2147483648 ∧ r1 ≤ 2147483648 ∧ r1 + 1 < gas + 1 ∧ Two wr g (r0 : Int) (r1 : Int) ∧ Two wr (g + 1) s0 s1 ∧ Below g w wr)
  case atStart => exact ⟨m, r, 0, 1, HE, by omega, by omega, by omega, hR0, hS0, hB0⟩
  case round =>
    clear hR0 hS0 hB0
    obtain ⟨r0, r1, s0, s1, HE, hr0, hr1, hgas, hR, hS, hB⟩ := hrel
    obtain ⟨c0, c1, f0, f1⟩ := hR.c
    obtain ⟨d0, d1, k0, k1⟩ := hS.c
    by_cases hz : r1 = 0
    · subst hz
      have hno := HE.out.no
      have hb : ((((0 : Nat) : Int)) != 0) = false := rfl
      by_cases h1 : r0 = 1
      · subst h1
        have hI := HE.out.yes hm2
        obtain ⟨d, hd⟩ : ∃ d : Nat, s0 % (m : Int) = d := ⟨(s0 % (m : Int)).toNat, by have := Int.emod_nonneg s0 (show (m : Int) ≠ 0 by omega); omega⟩
        rw [hd, Int.toNat_natCast] at hI
        have HF : Hid (Nat.gcd e m = 1 ∧ Inv e m d) := Lib.hid ⟨hno, hI⟩
        obtain ⟨T, hT⟩ : ∃ T, s0.tmod (m : Int) = T := ⟨_, rfl⟩
        have hT1 : T < (m : Int) := by rw [← hT]; exact Int.tmod_lt_of_pos _ (by omega)
        have hT2 : -(m : Int) < T := by
          have := Int.tmod_lt_of_pos (-s0) (show (0 : Int) < (m : Int) by omega)
          rw [Int.neg_tmod, hT] at this; omega
        have hTd : (T + (m : Int)) % (m : Int) = (d : Int) := by
          rw [← hd, ← hT, Int.add_emod_right, Int.tmod_def, Int.sub_mul_emod_self_left]
        have HFIN : Hid ((wrap64 (s0.tmod (m : Int) + (m : Int))).tmod (m : Int) = (d : Int)) := Lib.hid (by
          rw [hT, IntWalk.wrap64_in _ (by omega), Int.tmod_eq_emod_of_nonneg (by omega), hTd])
        have ha0 := HE.out.a0
        have y3 : s0 ≤ 2147483648 := by omega
        have y4 : -2147483648 ≤ s0 := by omega
        have hb1 : ((((1 : Nat) : Int)) != 1) = false := rfl
        have HT := Lib.hid hT
        clear hno hI hd hT hTd
        go_wp2
        go_ret
        refine ⟨by rw [HG.out]; exact hB, .inr ⟨d, HF.out.1, HF.out.2, ?_⟩⟩
        rw [← HFIN.out]; rfl
      · have HF : Hid (Nat.gcd e m ≠ 1) := Lib.hid (by rw [hno]; exact h1)
        have hb1 : ((r0 : Int) != 1) = true := by rw [bne_iff_ne]; omega
        clear hno h1
        go_wp2
        go_ret
        refine ⟨by rw [HG.out]; exact hB, .inl ⟨HF.out, rfl⟩⟩
    · have hst := HE.out.step (by omega)
      have hbd := HE.out.bound
      have hnx := HE.out.next (by omega)
      have ha0 := HE.out.a0
      have hbd2 := hst.bound
      obtain ⟨q, hq⟩ : ∃ q, r0 / r1 = q := ⟨_, rfl⟩
      obtain ⟨t, ht⟩ : ∃ t, r0 % r1 = t := ⟨_, rfl⟩
      have htl := Nat.mod_lt r0 (show 0 < r1 by omega)
      have hdm := Nat.div_add_mod r0 r1
      rw [hq, ht] at hdm
      rw [ht] at htl
      rw [hq, ht] at hst
      rw [hq] at hnx hbd2
      obtain ⟨P, hP⟩ : ∃ P, q * r1 = P := ⟨_, rfl⟩
      rw [Nat.mul_comm, hP] at hdm
      obtain ⟨Z, hZ⟩ : ∃ Z, (q : Int) * s1 = Z := ⟨_, rfl⟩
      rw [hZ] at hst hnx hbd2
      have hql : q ≤ r0 := by rw [← hq]; exact Nat.div_le_self _ _
      have x1 : Value.int .i64 (wrap64 ((r0 : Int) / (r1 : Int))) = Value.int .i64 (q : Int) := by
        have h5 : (r0 : Int) / (r1 : Int) = (q : Int) := by rw [← hq]; simp
        rw [h5, IntWalk.wrap64_in _ (by omega)]
      have x2 : Value.int .i64 (wrap64 ((q : Int) * (r1 : Int))) = Value.int .i64 (P : Int) := by
        have h5 : (q : Int) * (r1 : Int) = (P : Int) := by rw [← hP]; simp
        rw [h5, IntWalk.wrap64_in _ (by omega)]
      have x3 : Value.int .i64 ((r0 : Int) - (P : Int)) = Value.int .i64 (t : Int) := by congr 1; omega
      have x4 : Value.int .i64 (wrap64 ((q : Int) * s1)) = Value.int .i64 Z := by rw [hZ, IntWalk.wrap64_in _ (by omega)]
      have HST := Lib.hid hst
      have hb : ((r1 : Int) != 0) = true := by rw [bne_iff_ne]; omega
      have hr1i : (1 : Int) ≤ (r1 : Int) := by omega
      have y1 : s1 ≤ 2147483648 := by omega
      have y2 : -2147483648 ≤ s1 := by omega
      have y3 : s0 ≤ 2147483648 := by omega
      have y4 : -2147483648 ≤ s0 := by omega
      have y5 : Z ≤ 2147483648 := by omega
      have y6 : -2147483648 ≤ Z := by omega
      clear hst hbd hnx ha0 hbd2 hq ht hP hZ hz
      have HR2 := Lib.hid (((hR.set (r1 : Int) (t : Int)).far (show g ≠ g + 1 by omega) 0 (.int .i64 s1)).far (show g ≠ g + 1 by omega) 1 (.int .i64 (s0 - Z)))
      have HS2 := Lib.hid (((hS.far (show g + 1 ≠ g by omega) 0 (.int .i64 (r1 : Int))).far (show g + 1 ≠ g by omega) 1 (.int .i64 (t : Int))).set s1 (s0 - Z))
      have HB2 := Lib.hid ((((hB.setCell (p := ⟨g, 0, none⟩) (Nat.le_refl _) (.int .i64 (r1 : Int))).setCell (p := ⟨g, 1, none⟩) (Nat.le_refl _) (.int .i64 (t : Int))).setCell (p := ⟨g + 1, 0, none⟩) (Nat.le_succ _) (.int .i64 s1)).setCell (p := ⟨g + 1, 1, none⟩) (Nat.le_succ _) (.int .i64 (s0 - Z)))
      go_wp2
      go_roundg (gk - 1)
      case rel => exact ⟨r1, _, s1, _, HST, by omega, by omega, by omega, HR2.out, HS2.out, HB2.out⟩
      case measure => omega
end Go.Proofs.YtflijhodlimjoaaGreat.inverse
