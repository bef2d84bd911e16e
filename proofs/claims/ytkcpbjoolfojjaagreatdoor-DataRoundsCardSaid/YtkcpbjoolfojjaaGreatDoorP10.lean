/- name.reader: add, end: walks. -/
import Derived.Test.YtkcpbjoolfojjaaGreatDoorP9
import Derived.Test.YtkcpbjoolfojjaaGreatDoorP6
import Derived.Deep.QuietTactic
import Derived.BigQuiet
import Derived.RegionTactic
import Derived.ChangeAlike
namespace Go.Proofs.YtkcpbjoolfojjaaGreatDoor.reader
open Go.RowKit Go.Proofs.YtkcpbjoolfojjaaGreatDoor.kit Go.Proofs.YtkcpbjoolfojjaaGreatDoor.bld Go.Proofs.YtkcpbjoolfojjaaGreatDoor.coded
set_option linter.unusedVariables false

/-- a reader at block b: its bytes, and where the label under way begins -/
def Rdr (B b : Nat) (out : List UInt8) (start : Nat) (w : World) : Prop :=
  B ≤ b ∧ ∃ g cap, w.heap[b]? = some (.cells #[.slice (some ⟨g, 0, none⟩) out.length cap, .int .i64 (start : Int)] 181 (0, 0)) ∧ w.ownsRow B 5 1 (.slice (some ⟨g, 0, none⟩) out.length cap) out.length (Lib.byteCells out) ∧ g ≠ b
theorem Rdr.lt {B b start : Nat} {out : List UInt8} {w : World} (h : Rdr B b out start w) : b < w.heap.size := by
  obtain ⟨_, g, cap, h1, _⟩ := h
  exact (Array.getElem?_eq_some_iff.1 h1).1
theorem Rdr.drewN {B b start : Nat} {out : List UInt8} {w : World} (h : Rdr B b out start w) (n : Nat) : Rdr B b out start (w.drewN n) := h

theorem heap_set {w : World} {b : Nat} {cs : Array Value} {t : TypeId} (h : w.heap[b]? = some (.cells cs t (0, 0))) (i : Nat) (u : Value) : (w.setCell ⟨b, i, none⟩ u).heap[b]? = some (.cells (cs.setIfInBounds i u) t (0, 0)) := by
  simp [World.setCell, Array.getElem?_modify, h]
theorem own_set {w : World} {B e size n b i : Nat} {v u : Value} {xs : List Value} {cs : Array Value} {t : TypeId} (h : w.ownsRow B e size v n xs) (hb : w.heap[b]? = some (.cells cs t (0, 0))) (hne : e ≠ t) : (w.setCell ⟨b, i, none⟩ u).ownsRow B e size v n xs := by
  refine ⟨h.1, h.2.imp id ?_⟩
  rintro ⟨g, cap, cur, h1, h2, h3, h4⟩
  refine ⟨g, cap, cur, h1, h2, ?_, h4⟩
  rw [Below.heap_setCell w ⟨b, i, none⟩ u g (fun e' => ?_)]
  · exact h3
  · subst e'
    rw [hb] at h3
    injection h3 with h3
    injection h3 with _ h5
    exact hne h5.symm
theorem own_block {w : World} {B e size n g cap b : Nat} {xs : List Value} {cs : Array Value} {t : TypeId} (h : w.ownsRow B e size (.slice (some ⟨g, 0, none⟩) n cap) n xs) (hb : w.heap[b]? = some (.cells cs t (0, 0))) (hne : e ≠ t) : g ≠ b := by
  rcases h.2 with ⟨h0, _⟩ | ⟨g', cap', cur, h1, h2, h3, h4⟩
  · cases h0
  · cases h1
    rintro rfl
    rw [hb] at h3
    injection h3 with h3
    injection h3 with _ h5
    exact hne h5.symm
theorem Rdr.put {B b start g cap n : Nat} {old : Value} {out' : List UInt8} {w : World} (hB : B ≤ b) (hn : n = out'.length) (hb : w.heap[b]? = some (.cells #[old, .int .i64 (start : Int)] 181 (0, 0))) (hown : w.ownsRow B 5 1 (.slice (some ⟨g, 0, none⟩) n cap) n (Lib.byteCells out')) :
    Rdr B b out' start (w.setCell ⟨b, 0, none⟩ (.slice (some ⟨g, 0, none⟩) n cap)) := by
  subst hn
  exact ⟨hB, g, cap, by rw [heap_set hb]; rfl, own_set hown hb (by decide), own_block hown hb (by decide)⟩
theorem Rdr.below {B b start : Nat} {out : List UInt8} {w w' : World} (h : Rdr B b out start w) (hb : Below w.heap.size w w') : Rdr B b out start w' := by
  obtain ⟨hB, g, cap, hbk, hown, hne⟩ := h
  exact ⟨hB, g, cap, (hb.block b (Array.getElem?_eq_some_iff.1 hbk).1).trans hbk, own_below hown hb, hne⟩
theorem below_drewN (B : Nat) (w : World) (n : Nat) : Below B w (w.drewN n) := ⟨rfl, rfl, rfl, Nat.le_refl _, fun _ _ => rfl⟩

set_option maxRecDepth 100000 in
set_option maxHeartbeats 1000000 in
theorem add_no (B b start : Nat) (out : List UInt8) (c : UInt8) (w : World) (h : Rdr B b out start w) (hl : out.length ≤ 1099511627776) (hs : start + 63 < out.length) :
    Calls Tryz.prog 148 #[.pointer (some ⟨b, 0, none⟩), .int .u8 (c.toNat : Int)] w fun e w' => e = .returned (.bool false) ∧ Rdr B b out start w' ∧ Below B w w' := by
  have HR := Lib.hid h
  obtain ⟨hB, g, cap, hbk, hown, hne⟩ := h
  have c0 : w.cell? ⟨b, 0, none⟩ = some (.slice (some ⟨g, 0, none⟩) out.length cap) := by rw [Lib.cell_of_heap hbk]; rfl
  have c1 : w.cell? ⟨b, 1, none⟩ = some (.int .i64 (start : Int)) := by rw [Lib.cell_of_heap hbk]; rfl
  have h1 : (63 : Int) < (out.length : Int) - (start : Int) := by omega
  clear hbk hown
  go_enter Tryz.func148, Tryz.ntmps148
  go_wp2
  go_quiet (fail)
  go_wp2
  go_ret
  exact ⟨rfl, HR.out.drewN _, below_drewN _ _ _⟩

set_option maxRecDepth 100000 in
set_option maxHeartbeats 1000000 in
theorem add_yes (B b start : Nat) (out : List UInt8) (c : UInt8) (w : World) (h : Rdr B b out start w) (hl : out.length ≤ 1099511627776) (hs0 : start ≤ out.length) (hs : out.length ≤ start + 63) :
    Calls Tryz.prog 148 #[.pointer (some ⟨b, 0, none⟩), .int .u8 (c.toNat : Int)] w fun e w' => e = .returned (.bool true) ∧ Rdr B b (out ++ [c]) start w' ∧ Below B w w' := by
  obtain ⟨i0, hi, hz0, hz1, hz2⟩ := info_parts infoByte
  have hlt := h.lt
  obtain ⟨hB, g, cap, hbk, hown, hne⟩ := h
  have c0 : w.cell? ⟨b, 0, none⟩ = some (.slice (some ⟨g, 0, none⟩) out.length cap) := by rw [Lib.cell_of_heap hbk]; rfl
  have c1 : w.cell? ⟨b, 1, none⟩ = some (.int .i64 (start : Int)) := by rw [Lib.cell_of_heap hbk]; rfl
  have h1 : (out.length : Int) - (start : Int) ≤ 63 := by omega
  have h2 : (start : Int) ≤ (out.length : Int) := by omega
  have HBK := Lib.hid hbk; clear hbk
  have HOWN := Lib.hid hown; clear hown
  go_enter Tryz.func148, Tryz.ntmps148
  go_wp2
  go_quiet (fail)
  obtain ⟨wq, hwq⟩ : ∃ wq, w.drewN nq = wq := ⟨_, rfl⟩
  have hbk : wq.heap[b]? = some (.cells #[.slice (some ⟨g, 0, none⟩) out.length cap, .int .i64 (start : Int)] 181 (0, 0)) := by rw [← hwq]; exact HBK.out
  have hown : wq.ownsRow B 5 1 (.slice (some ⟨g, 0, none⟩) out.length cap) out.length (Lib.byteCells out) := by rw [← hwq]; exact HOWN.out
  have hBq : Below B w wq := by rw [← hwq]; exact below_drewN _ _ _
  have hlt2 : b < wq.heap.size := by rw [← hwq]; exact hlt
  rw [hwq]
  clear c0 c1 hwq
  have c0 : wq.cell? ⟨b, 0, none⟩ = some (.slice (some ⟨g, 0, none⟩) out.length cap) := by rw [Lib.cell_of_heap hbk]; rfl
  have HBQ := Lib.hid hbk; clear hbk
  go_wp2_with (at_builtin; refine wpList_append_own _ rfl _ _ 50 rfl B 5 i0 (.int .u8 0) 1 1 Tryz.underlying50 hi hz0 hz1 hz2 rfl (by decide) _ _ _ rfl (hown.alloc _) ⟨wq.heap.size, 0, none⟩ 1 1 [.int .u8 (c.toNat : Int)] rfl rfl ?c1 ?c2 ?c3 ?c4 ?c5 ?_)
  case c1 => exact cell_one_new _ _ _
  case c2 => simp [Value.oneCell']
  case c3 => unfold maxLen; omega
  case c4 => omega
  case c5 => simp; omega
  intro v' w2 hown' hgrow _
  have hb2 : w2.heap[b]? = some (.cells #[.slice (some ⟨g, 0, none⟩) out.length cap, .int .i64 (start : Int)] 181 (0, 0)) := by
    rw [hgrow.block b (by simp; omega) (fun e => hne (by simpa [Value.ownBlock] using e.symm)), Lib.alloc_old wq _ b hlt2]
    exact HBQ.out
  have d0 : w2.cell? ⟨b, 0, none⟩ = some (.slice (some ⟨g, 0, none⟩) out.length cap) := by rw [Lib.cell_of_heap hb2]; rfl
  have f0 : w2.frozen? ⟨b, 0, none⟩ = false := Lib.frozen_of_heap hb2 0
  rw [← bytes_snoc] at hown'
  obtain ⟨g', cap', rfl⟩ : ∃ g cap, v' = .slice (some ⟨g, 0, none⟩) (out.length + 1) cap := by
    rcases hown'.2 with ⟨_, h0⟩ | ⟨g, cap, cur, hv, _⟩
    · omega
    · exact ⟨g, cap, hv⟩
  have HOW2 := Lib.hid hown'
  have HG := Lib.hid hgrow
  have HB2 := Lib.hid hb2
  clear hown' hgrow hb2 c0
  go_wp2
  go_ret
  refine ⟨rfl, Rdr.put hB (by simp) HB2.out (out' := out ++ [c]) HOW2.out, ?_⟩
  exact (((hBq.alloc (by have := hBq.size; omega) _).grown HG.out (by have := hBq.size; simp; omega) (fun k hk => (hown.lt k hk).1))).setCell (p := ⟨b, 0, none⟩) hB _
set_option maxRecDepth 100000 in
set_option maxHeartbeats 1000000 in
theorem end_no (B b start : Nat) (out : List UInt8) (w : World) (h : Rdr B b out start w) (hl : out.length ≤ 1099511627776) (hs : out.length = start + 1) :
    Calls Tryz.prog 146 #[.pointer (some ⟨b, 0, none⟩)] w fun e w' => e = .returned (.bool false) ∧ ∃ n, w' = w.drewN n := by
  obtain ⟨hB, g, cap, hbk, hown, hne⟩ := h
  have c0 : w.cell? ⟨b, 0, none⟩ = some (.slice (some ⟨g, 0, none⟩) out.length cap) := by rw [Lib.cell_of_heap hbk]; rfl
  have c1 : w.cell? ⟨b, 1, none⟩ = some (.int .i64 (start : Int)) := by rw [Lib.cell_of_heap hbk]; rfl
  have h0 : ((out.length : Int) - (start : Int) - 1 == 0) = true := by rw [beq_iff_eq]; omega
  have h1 : (start : Int) ≤ (out.length : Int) := by omega
  clear hbk hown hs
  go_enter Tryz.func146, Tryz.ntmps146
  go_wp2
  go_quiet (fail)
  go_wp2
  go_ret
  exact ⟨rfl, _, rfl⟩

theorem set_mid (x y : List UInt8) (a c : UInt8) : (x ++ a :: y).set x.length c = x ++ c :: y := by
  induction x with
  | nil => rfl
  | cons d r ih => simp [ih]
theorem byteCells_set (l : List UInt8) (i : Nat) (c : UInt8) : (Lib.byteCells l).set i (.int .u8 (c.toNat : Int)) = Lib.byteCells (l.set i c) := by
  simp [Lib.byteCells, List.map_set]

set_option maxRecDepth 100000 in
set_option maxHeartbeats 2000000 in
theorem end_yes (B b : Nat) (x y : List UInt8) (a : UInt8) (w : World) (h : Rdr B b (x ++ a :: y) x.length w) (hl : x.length ≤ 1099511627776) (hy : 1 ≤ y.length) (hy63 : y.length ≤ 63) :
    Calls Tryz.prog 146 #[.pointer (some ⟨b, 0, none⟩)] w fun e w' => e = .returned (.bool true) ∧ Rdr B b (x ++ (UInt8.ofNat y.length :: y) ++ [0]) (x ++ (UInt8.ofNat y.length :: y)).length w' ∧ Below B w w' := by
  obtain ⟨i0, hi, hz0, hz1, hz2⟩ := info_parts infoByte
  have hlt := h.lt
  obtain ⟨hB, g, cap, hbk, hown, hne⟩ := h
  obtain ⟨start, hst⟩ : ∃ n, x.length = n := ⟨_, rfl⟩
  obtain ⟨m, hm⟩ : ∃ m, (x ++ a :: y).length = m := ⟨_, rfl⟩
  obtain ⟨n, hn⟩ : ∃ n, y.length = n := ⟨_, rfl⟩
  have hmn : m = start + 1 + n := by rw [← hm, List.length_append, List.length_cons]; omega
  rw [hm, hst] at hbk
  rw [hm] at hown
  have c0 : w.cell? ⟨b, 0, none⟩ = some (.slice (some ⟨g, 0, none⟩) m cap) := by rw [Lib.cell_of_heap hbk]; rfl
  have c1 : w.cell? ⟨b, 1, none⟩ = some (.int .i64 (start : Int)) := by rw [Lib.cell_of_heap hbk]; rfl
  have hg1 : w.cell? ⟨g, start, none⟩ = some (.int .u8 (a.toNat : Int)) := by
    rw [hown.cellAt start (by omega)]
    simp [Lib.byteCells, ← hst]
  have hg2 : w.frozen? ⟨g, start, none⟩ = false := hown.frozenAt start
  have hn1 : (1 : Int) ≤ (n : Int) := by omega
  have hn63 : (n : Int) ≤ 63 := by omega
  have hs0 : (start : Int) ≤ (m : Int) := by omega
  have hs1 : start < m := by omega
  have hs2 : (m : Int) ≤ 1099511627900 := by omega
  have hsub : Value.int .i64 ((m : Int) - (start : Int) - 1) = Value.int .i64 (n : Int) := by congr 1; omega
  have hd0 : (((n : Int)) == 0) = false := by rw [beq_eq_false_iff_ne]; omega
  have HBK := Lib.hid hbk; clear hbk
  have HOWN := Lib.hid hown; clear hown
  have HMN := Lib.hid hmn; have HST := Lib.hid hst; have HN := Lib.hid hn; have HM := Lib.hid hm
  clear hmn hst hn hm
  go_enter Tryz.func146, Tryz.ntmps146
  go_wp2
  go_quiet (fail)
  go_wp2
  have hs3 : (1 : Int) ≤ (m : Int) - (start : Int) - 1 := by have := HMN.out; omega
  have hs4 : (m : Int) - (start : Int) - 1 ≤ 63 := by have := HMN.out; omega
  have hs5 : (start : Int) < (m : Int) := by omega
  go_region
  obtain ⟨w1, hw1⟩ : ∃ w1, (w.drewN (nq + 1)).setCell ⟨g, start, none⟩ (.int .u8 (n : Int)) = w1 := ⟨_, rfl⟩
  have hown1 : w1.ownsRow B 5 1 (.slice (some ⟨g, 0, none⟩) m cap) m (Lib.byteCells (x ++ UInt8.ofNat n :: y)) := by
    rw [← hw1]
    have h1 : (w.drewN (nq + 1)).ownsRow B 5 1 (.slice (some ⟨g, 0, none⟩) m cap) m (Lib.byteCells (x ++ a :: y)) := HOWN.out
    have h2 := (h1.stored start (.int .u8 (n : Int))).1
    have hnn : (n : Int) = ((UInt8.ofNat n).toNat : Int) := by rw [UInt8.toNat_ofNat']; omega
    rw [hnn, byteCells_set, ← HST.out, set_mid] at h2
    rw [hnn, ← HST.out]
    exact h2
  have hbk1 : w1.heap[b]? = some (.cells #[.slice (some ⟨g, 0, none⟩) m cap, .int .i64 (start : Int)] 181 (0, 0)) := by
    rw [← hw1, Below.heap_setCell _ _ _ b (fun e => hne e.symm)]
    exact HBK.out
  have hB1 : Below B w w1 := by
    rw [← hw1]
    exact (below_drewN B w _).setCell (p := ⟨g, start, none⟩) (hown1.lt g rfl).1 _
  rw [hw1]
  clear c0 c1 hg1 hg2 hw1
  have c0 : w1.cell? ⟨b, 0, none⟩ = some (.slice (some ⟨g, 0, none⟩) m cap) := by rw [Lib.cell_of_heap hbk1]; rfl
  have c1 : w1.cell? ⟨b, 1, none⟩ = some (.int .i64 (start : Int)) := by rw [Lib.cell_of_heap hbk1]; rfl
  have f0 : w1.frozen? ⟨b, 0, none⟩ = false := Lib.frozen_of_heap hbk1 0
  have f1 : w1.frozen? ⟨b, 1, none⟩ = false := Lib.frozen_of_heap hbk1 1
  have hown2 := own_set (i := 1) (u := .int .i64 (m : Int)) hown1 hbk1 (by decide)
  have hbk2 := heap_set hbk1 1 (.int .i64 (m : Int))
  have hB2 := hB1.setCell (p := ⟨b, 1, none⟩) hB (.int .i64 (m : Int))
  have hzB : B ≤ w1.heap.size := by have := hB1.size; omega
  have hlt1 : b < w1.heap.size := (Array.getElem?_eq_some_iff.1 hbk1).1
  have HBK2 := Lib.hid hbk2
  have HB2 := Lib.hid hB2
  clear hbk1 hown1 hB1 hbk2 hB2
  go_wp2_with (at_builtin; refine wpList_append_own _ rfl _ _ 50 rfl B 5 i0 (.int .u8 0) 1 1 Tryz.underlying50 hi hz0 hz1 hz2 rfl (by decide) _ _ _ rfl (hown2.alloc _) ⟨w1.heap.size, 0, none⟩ 1 1 [.int .u8 0] rfl rfl ?c1 ?c2 ?c3 ?c4 ?c5 ?_)
  case c1 =>
    have h5 := cell_one_new (w1.setCell ⟨b, 1, none⟩ (.int .i64 (m : Int))) (.int .u8 0) 5
    rwa [show (w1.setCell ⟨b, 1, none⟩ (.int .i64 (m : Int))).heap.size = w1.heap.size from by simp [World.setCell]] at h5
  case c2 => simp [Value.oneCell']
  case c3 => unfold maxLen; omega
  case c4 => omega
  case c5 => simp; omega
  intro v' w2 hown' hgrow _
  have hb2 : w2.heap[b]? = some (.cells #[.slice (some ⟨g, 0, none⟩) m cap, .int .i64 (m : Int)] 181 (0, 0)) := by
    rw [hgrow.block b (by simp; omega) (fun e => hne (by simpa [Value.ownBlock] using e.symm)), Lib.alloc_old _ _ b (by simp; omega)]
    exact HBK2.out
  have d0 : w2.cell? ⟨b, 0, none⟩ = some (.slice (some ⟨g, 0, none⟩) m cap) := by rw [Lib.cell_of_heap hb2]; rfl
  have f0 : w2.frozen? ⟨b, 0, none⟩ = false := Lib.frozen_of_heap hb2 0
  rw [show Lib.byteCells (x ++ UInt8.ofNat n :: y) ++ [.int .u8 0] = Lib.byteCells (x ++ UInt8.ofNat n :: y ++ [0]) from (bytes_snoc _ 0).symm] at hown'
  obtain ⟨g', cap', rfl⟩ : ∃ g cap, v' = .slice (some ⟨g, 0, none⟩) (m + 1) cap := by
    rcases hown'.2 with ⟨_, h0⟩ | ⟨g, cap, cur, hv, _⟩
    · omega
    · exact ⟨g, cap, hv⟩
  have HOW2 := Lib.hid hown'
  have HG := Lib.hid hgrow
  have HBK3 := Lib.hid hb2
  clear hown' hgrow hb2 c0 c1
  go_wp2
  go_ret
  have hme : m = (x ++ UInt8.ofNat n :: y).length := by rw [HMN.out, List.length_append, List.length_cons, HST.out, HN.out]; omega
  rw [HN.out, ← hme]
  refine ⟨rfl, Rdr.put hB (by rw [List.length_append, ← hme]; rfl) HBK3.out (out' := x ++ UInt8.ofNat n :: y ++ [0]) HOW2.out, ?_⟩
  exact (((HB2.out.alloc (by simp; omega) _).grown HG.out (by simp; omega) (fun k hk => (hown2.lt k hk).1))).setCell (p := ⟨b, 0, none⟩) hB _
theorem own_cut {w : World} {B : Nat} {e : TypeId} {g cap n : Nat} {x y : List UInt8} (h : w.ownsRow B e 1 (.slice (some ⟨g, 0, none⟩) n cap) n (Lib.byteCells (x ++ y))) : w.ownsRow B e 1 (.slice (some ⟨g, 0, none⟩) x.length cap) x.length (Lib.byteCells x) := by
  have hl := h.1
  rw [Lib.byteCells_length, List.length_append] at hl
  refine ⟨by rw [Lib.byteCells_length, Nat.mul_one], .inr ?_⟩
  rcases h.2 with ⟨h0, _⟩ | ⟨g', cap', cur, h1, h2, h3, h4, h5, h6, h7⟩
  · cases h0
  · cases h1
    have hn : n = x.length + y.length := by omega
    refine ⟨g, cap, cur, rfl, h2, h3, by omega, h5, h6, ?_⟩
    have h8 : Lib.byteCells (x ++ y) = Lib.byteCells x ++ Lib.byteCells y := by simp [Lib.byteCells]
    rw [h8] at h7
    have h9 := congrArg (List.take x.length) h7
    rw [List.take_take, List.take_left' (Lib.byteCells_length x), Nat.mul_one, Nat.min_eq_left (by omega)] at h9
    rw [Nat.mul_one]; exact h9
theorem Rdr.fresh (w : World) : Rdr w.heap.size (w.heap.size + 1) [0] 0 ((w.alloc (.cells #[.int .u8 0] 5)).alloc (.cells #[.slice (some ⟨w.heap.size, 0, none⟩) 1 1, .int .i64 0] 181)) := by
  refine ⟨by omega, w.heap.size, 1, ?_, ⟨rfl, .inr ⟨w.heap.size, 1, #[.int .u8 0], rfl, Nat.le_refl _, ?_, by decide, by decide, rfl, rfl⟩⟩, by omega⟩
  · have := heap_alloc_new (w.alloc (.cells #[.int .u8 0] 5)) (.cells #[.slice (some ⟨w.heap.size, 0, none⟩) 1 1, .int .i64 0] 181)
    rw [World.size_alloc] at this
    exact this
  · rw [Lib.alloc_old _ _ _ (by rw [World.size_alloc]; omega)]
    exact heap_alloc_new w _
end Go.Proofs.YtkcpbjoolfojjaaGreatDoor.reader
