/- How many bytes a set of types takes: data.kinds.take: walk. -/
import Derived.Test.YthblaldkpjilhaaTypesW
namespace Go.Proofs.Ythblaldkpjilhaa.kindsT
open Go.RowKit Go.Proofs.Ythblaldkpjilhaa.kit Go.Proofs.Ythblaldkpjilhaa.nspec Go.Proofs.Ythblaldkpjilhaa.fld Go.Proofs.Ythblaldkpjilhaa.typesW
set_option linter.unusedVariables false

set_option maxRecDepth 100000 in
set_option maxHeartbeats 1000000 in
theorem kinds_any (s : ByteArray) (w : World) (hs : s.size ≤ 1048576) :
    Calls Try.prog 219 #[.agg #[], .string s] w fun e w' => e = .returned (.int .i64 (takeS .kinds s.data.toList)) ∧ Below w.heap.size w w' := by
  have C := Lib.hid (fun w => types_any s w hs)
  have hBa := Lib.hid ((Below.refl w.heap.size w).alloc (Nat.le_refl _) (.cells #[] 183))
  obtain ⟨R, HR⟩ : ∃ R, Hid (takeS .kinds s.data.toList = R) := ⟨_, Lib.hid rfl⟩
  rw [HR.out]
  go_enter Try.func219, Try.ntmps219
  go_wp2_with fail
  refine (C.out _).mono ?_
  rintro e w1 ⟨hB1, ⟨v, l, hl, rfl, _⟩ | ⟨hl, rfl⟩⟩
  · have HB := Lib.hid (hBa.out.trans (hB1.mono hBa.out.size))
    have HN : Hid ((s.size : Int) = R) := Lib.hid (by rw [← HR.out]; simp only [takeS]; rw [if_neg (by rw [hl]; simp), size_len])
    clear hB1 hl
    go_wp2_with fail
    go_ret
    exact ⟨by rw [← HN.out]; rfl, HB.out⟩
  · have HB := Lib.hid (hBa.out.trans (hB1.mono hBa.out.size))
    have HN : Hid ((-1 : Int) = R) := Lib.hid (by rw [← HR.out]; simp only [takeS]; rw [if_pos hl])
    clear hB1 hl
    go_wp2_with fail
    go_ret
    exact ⟨by rw [← HN.out]; rfl, HB.out⟩
end Go.Proofs.Ythblaldkpjilhaa.kindsT
