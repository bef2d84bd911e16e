/- name.Check: its walk. -/
import Derived.Test.YtabhiangjomaeaaLabels
namespace Go.Proofs.Ytabhiangjomaeaa.check
open Go.RowKit Go.Shelf Go.Proofs.Ytabhiangjomaeaa.kit Go.Proofs.Ytabhiangjomaeaa.labels
attribute [local go_sem] Oper.semAt_some

/-- the pair that ends a name of so many bytes -/
def ends (N : Nat) (p : Nat × ByteArray) : Bool := p.2.toList.isEmpty && decide ((p.1 : Int) = (N : Int) - 1)
def chkE (s : ByteArray) : Int := if 255 < s.size then 1 else if (pairs s).any (ends s.size) then 0 else 1

theorem any_yes {N M : Nat} {pre : List (Lab N)} {x : Lab N} (h1 : x.val.2.toList = []) (h2 : ((x.val.1 : Int) == (M : Int) - 1) = true) : (raw (pre ++ [x])).any (ends M) = true := by
  rw [raw_snoc, List.any_append]; simp only [List.any_cons, List.any_nil, ends, Bool.or_false, h1, List.isEmpty_nil, Bool.true_and]
  rw [decide_eq_true (eq_of_beq h2)]; simp
theorem any_no {N M : Nat} {pre : List (Lab N)} {x : Lab N} (h : (raw pre).any (ends M) = false) (h2 : ((x.val.1 : Int) == (M : Int) - 1) = false) : (raw (pre ++ [x])).any (ends M) = false := by
  rw [raw_snoc, List.any_append, h]; simp only [List.any_cons, List.any_nil, ends, Bool.or_false]
  rw [decide_eq_false (ne_of_beq_false h2)]; simp
theorem any_no' {N M : Nat} {pre : List (Lab N)} {x : Lab N} (h : (raw pre).any (ends M) = false) (h2 : x.val.2.toList.isEmpty = false) : (raw (pre ++ [x])).any (ends M) = false := by
  rw [raw_snoc, List.any_append, h]; simp only [List.any_cons, List.any_nil, ends, Bool.or_false, h2, Bool.false_and]
theorem ret_chk_end {s : ByteArray} {ys : List (Lab s.size)} (h : (s.size : Int) ≤ 255) (hS : raw ys = pairs s) (hA : (raw ys).any (ends s.size) = false) : Ending.returned (.int .i64 1) = .returned (.int .i64 (chkE s)) := by
  simp only [chkE]; rw [if_neg (by omega), ← hS, hA]; rfl
theorem ret_chk_ok {s : ByteArray} {ys : List (Lab s.size)} (h : (s.size : Int) ≤ 255) (hS : raw ys <+: pairs s) (hA : (raw ys).any (ends s.size) = true) : Ending.returned (.int .i64 0) = .returned (.int .i64 (chkE s)) := by
  obtain ⟨t, ht⟩ := hS
  simp only [chkE]; rw [if_neg (by omega), ← ht, List.any_append, hA]; rfl
theorem ret_chk_long (s : ByteArray) (h : 255 < (s.size : Int)) : Ending.returned (.int .i64 1) = .returned (.int .i64 (chkE s)) := by
  simp only [chkE]; rw [if_pos (by omega)]
theorem check_long (s : ByteArray) (w : World) (h : 255 < (s.size : Int)) :
    Calls Try.prog 57 #[.string s] w fun e w' => e = .returned (.int .i64 (chkE s)) ∧ Below w.heap.size w w' := by
  go_enter Try.func57, Try.ntmps57
  go_wp2
  refine bodyPost_ret (v := .int .i64 1) (by simp [results, Try.results57, go_sem]) rfl ⟨ret_chk_long s h, ((Below.refl _ _).alloc (Nat.le_refl _) _).alloc (by simp) _⟩

set_option maxRecDepth 100000 in
set_option maxHeartbeats 2000000 in
theorem check_in (s : ByteArray) (w : World) (hs : s.size ≤ 1099511627776) (hlong' : (s.size : Int) ≤ 255) :
    CallsIn Fence.wide 3 Try.prog 57 #[.string s] w fun e w' => e = .returned (.int .i64 (chkE s)) ∧ Below w.heap.size w w' := by
  refine callsIn_of_wp_marks Try.func57 rfl trivial ?_ rfl
  simp only [Try.ntmps57, List.size_toArray, List.length_cons, List.length_nil, Nat.reduceAdd, Nat.reduceSub, Array.replicate_succ, Array.replicate_zero, List.push_toArray, List.append_toArray, List.nil_append, List.cons_append]
  gi_wp2_with (refine ⟨trivial, ?_⟩; gi_at_call 98; refine (labels_in Fence.wide _ trivial rfl _ _).mono ?_; rintro e w' ⟨rfl, rfl⟩)
  obtain ⟨w2, hw2⟩ : ∃ w2, ((w.alloc (.cells #[.string s] 9)).alloc (.cells #[.int .i64 0] 40)).alloc (.cells #[.string s] 9) = w2 := ⟨_, rfl⟩
  rw [hw2]
  have hz : w2.heap.size = w.heap.size + 3 := by rw [← hw2]; simp
  have hB : Below w.heap.size w w2 := by rw [← hw2]; exact (((Below.refl _ w).alloc (Nat.le_refl _) _).alloc (by simp) _).alloc (by simp; omega) _
  have h1 : Boxed w2 w.heap.size 9 (.string s) := by rw [← hw2]; exact ((Boxed.new w _ _).alloc _).alloc _
  have h2 : Boxed w2 (w.heap.size + 1) 40 (.int .i64 0) := by
    rw [← hw2]; have := (Boxed.new (w.alloc (.cells #[.string s] 9)) 40 (.int .i64 0)).alloc (.cells #[.string s] 9); simpa using this
  have h3 : w2.cell? ⟨w.heap.size + 2, 0, none⟩ = some (.string s) := by
    rw [← hw2]; have := (Boxed.new ((w.alloc (.cells #[.string s] 9)).alloc (.cells #[.int .i64 0] 40)) 9 (.string s)).cell; simpa using this
  clear hw2
  refine wpIn_rangeFunc_ownG rfl (by omega) (gf := 113) (lb := #[.pointer (some ⟨w.heap.size + 2, 0, none⟩)]) rfl trivial (enters_of Try.func113 (by kernel_rfl) rfl)
    (labels_stops Fence.wide _ trivial rfl (by omega) (w.heap.size + 2) s hs w2 (by omega) h3) (keepBox_t _) (fun W l o o' hl _ _ _ => keepBox_b W l o' (by omega)) (Below.refl _ _) (fun _ => rfl)
    (fun pre W => Boxed W w.heap.size 9 (.string s) ∧ Boxed W (w.heap.size + 1) 40 (.int .i64 0) ∧ Below w.heap.size w W ∧ Hid ((raw pre).any (ends s.size) = false))
    (fun c pre W => c = .ret ∧ Boxed W (w.heap.size + 1) 40 (.int .i64 0) ∧ Below w.heap.size w W ∧ Hid ((raw pre).any (ends s.size) = true))
    (((boxed_own _ _ (fun _ => .string s)).from _).and (((boxed_own _ _ (fun _ => .int .i64 0)).from _).and ((ownFrom_below (Nat.le_refl _) (by omega)).and (ownFrom_pure _ _))))
    (fun c => (ownFrom_pure _ _).and (((boxed_own _ _ (fun _ => .int .i64 0)).from _).and ((ownFrom_below (Nat.le_refl _) (by omega)).and (ownFrom_pure _ _))))
    ⟨h1, h2, hB, Lib.hid (by simp [raw])⟩
    (fun x => { tmps := #[.string s, .pointer (some ⟨w.heap.size, 0, none⟩), .pointer (some ⟨w.heap.size + 1, 0, none⟩), .int .i64 (x.val.1 : Int), .string x.val.2, .string s, .int .i64 (s.size : Int), .bool (decide (255 < (s.size : Int))), .string s, .func (.func 113) #[] #[.pointer (some ⟨w.heap.size + 2, 0, none⟩)], .int .i64 (x.val.1 : Int), .string x.val.2, undef, undef, undef, undef, undef, undef, undef, undef, undef], defers := [] }) ?assign ?body ?done ?stop
  case assign =>
    intro l x W K hK
    gi_wp2
    exact hK
  case body =>
    rintro l pre x W ⟨hb1, hb2, hBl, HA⟩ _
    have hc1 := hb1.cell
    have hc2 := hb2.cell
    have hf2 := hb2.frozen
    by_cases he : x.val.2.toList = []
    · by_cases hn : ((x.val.1 : Int) == (s.size : Int) - 1) = true
      · have HY := Lib.hid (any_yes (pre := pre) he hn)
        gi_wp2
        exact ⟨(KeepsOthers.setCell _ _ _).from _, rfl, hb2.set _, hBl.setCell (by simp) _, HY⟩
      · have hn' : ((x.val.1 : Int) == (s.size : Int) - 1) = false := by simpa using hn
        have HY := Lib.hid (any_no HA.out hn')
        clear hn
        gi_wp2
        exact ⟨KeepsFrom.refl _ _, rfl, hb1, hb2, hBl, HY⟩
    · have he' : x.val.2.toList.isEmpty = false := by simpa using he
      have HY := Lib.hid (any_no' HA.out he')
      clear he
      gi_wp2
      exact ⟨KeepsFrom.refl _ _, rfl, hb1, hb2, hBl, HY⟩
  case done =>
    rintro D ys W hD hS ⟨hb1, hb2, hBl, HA⟩ hK
    have HS := Lib.hid hS; clear hS
    have hc2 := hb2.cell
    have hf2 := hb2.frozen
    gi_wp2
    refine ⟨by simp, .inl ⟨_, _, rfl, run_takeDeferred ((KeepsOthers.setCell W _ _).same D _ hK rfl), ?_⟩⟩
    have hcf := (boxed_putObj (hb2.set (.int .i64 1)) (show w.heap.size + 1 ≠ D by omega) (.deferred none)).cell
    exact ⟨.int .i64 1, by simp [results, Try.results57, go_sem, hcf], ret_chk_end hlong' HS.out HA.out, below_putObj (hBl.setCell (by simp) _) (by omega) _⟩
  case stop =>
    rintro D c pre W hD hS ⟨rfl, hb2, hBl, HA⟩ hK
    have HS := Lib.hid hS; clear hS
    have hc2 := hb2.cell
    gi_wp2
    refine ⟨by simp, .inl ⟨_, _, rfl, run_takeDeferred hK, ?_⟩⟩
    have hcf := (boxed_putObj hb2 (show w.heap.size + 1 ≠ D by omega) (.deferred none)).cell
    exact ⟨.int .i64 0, by simp [results, Try.results57, go_sem, hcf], ret_chk_ok hlong' HS.out HA.out, below_putObj hBl (by omega) _⟩
theorem check_any (s : ByteArray) (w : World) (hs : s.size ≤ 1099511627776) :
    Calls Try.prog 57 #[.string s] w fun e w' => e = .returned (.int .i64 (chkE s)) ∧ Below w.heap.size w w' := by
  by_cases h : 255 < (s.size : Int)
  · exact check_long s w h
  · exact callsIn_wide.1 (check_in s w hs (by omega))
end Go.Proofs.Ytabhiangjomaeaa.check
