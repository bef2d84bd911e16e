/- name.Check: its walk. -/
import Derived.Test.YtjejmgdpjfdhjaaDoorLabels
namespace Go.Proofs.YtjejmgdpjfdhjaaDoor.check
open Go.RowKit Go.Shelf Go.Proofs.YtjejmgdpjfdhjaaDoor.kit Go.Proofs.YtjejmgdpjfdhjaaDoor.labels
attribute [local go_sem] Oper.semAt_some

/-- the pair that ends a name of so many bytes -/
def ends (N : Nat) (p : Nat × ByteArray) : Bool := p.2.toList.isEmpty && decide ((p.1 : Int) = (N : Int) - 1)
def chkE (s : ByteArray) : Int := if 255 < s.size then 1 else if (pairs s).any (ends s.size) then 0 else 1

theorem any_yes {N M : Nat} {pre : List (Lab N)} {x : Lab N} (h1 : x.val.2.toList = []) (h2 : ((x.val.1 : Int) == (M : Int) - 1) = true) : (raw (pre ++ [x])).any (ends M) = true := by
  rw [raw_snoc, List.any_append]; simp only [List.any_cons, List.any_nil, ends, Bool.or_false, h1, List.isEmpty_nil, Bool.true_and]
  rw [decide_eq_true (eq_of_beq h2)]; simp
theorem any_no {N M : Nat} {pre : List (Lab N)} {x : Lab N} (h : (raw pre).any (ends M) = false) (h2 : ((x.val.1 : Int) == (M : Int) - 1) = false) : (raw (pre ++ [x])).any (ends M) = false := by
  rw [raw_snoc, List.any_append, h]; simp only [List.any_cons, List.any_nil, ends, Bool.or_false]
  rw [decide_eq_false (ne_of_beq_false h2)]; simp
theorem any_no' {N M : Nat} {pre : List (Lab N)} {x : Lab N} (h : (raw pre).any (ends M) = false) (h2 : x.val.2.toList.isEmpty = false) : (raw (pre ++ [x])).any (ends M) = false := by
  rw [raw_snoc, List.any_append, h]; simp only [List.any_cons, List.any_nil, ends, Bool.or_false, h2, Bool.false_and]
theorem ret_chk_end {s : ByteArray} {ys : List (Lab s.size)} (h : (s.size : Int) ≤ 255) (hS : raw ys = pairs s) (hA : (raw ys).any (ends s.size) = false) : Ending.returned (.int .i64 1) = .returned (.int .i64 (chkE s)) := by
  simp only [chkE]; rw [if_neg (by omega), ← hS, hA]; rfl
theorem ret_chk_ok {s : ByteArray} {ys : List (Lab s.size)} (h : (s.size : Int) ≤ 255) (hS : raw ys <+: pairs s) (hA : (raw ys).any (ends s.size) = true) : Ending.returned (.int .i64 0) = .returned (.int .i64 (chkE s)) := by
  obtain ⟨t, ht⟩ := hS
  simp only [chkE]; rw [if_neg (by omega), ← ht, List.any_append, hA]; rfl
theorem ret_chk_long (s : ByteArray) (h : 255 < (s.size : Int)) : Ending.returned (.int .i64 1) = .returned (.int .i64 (chkE s)) := by
  simp only [chkE]; rw [if_pos (by omega)]
end Go.Proofs.YtjejmgdpjfdhjaaDoor.check
