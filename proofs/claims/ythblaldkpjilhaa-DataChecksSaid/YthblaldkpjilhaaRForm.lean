/- The fields of a type: gazetteerref1.Form: walk. -/
import Derived.Test.YthblaldkpjilhaaRSizeB
import Derived.Test.YthblaldkpjilhaaDCheck
namespace Go.Proofs.Ythblaldkpjilhaa.rform
open Go.RowKit Go.Proofs.Ythblaldkpjilhaa.kit Go.Proofs.Ythblaldkpjilhaa.nspec Go.Proofs.Ythblaldkpjilhaa.fld Go.Proofs.Ythblaldkpjilhaa.rsize Go.Proofs.Ythblaldkpjilhaa.dcheck
set_option linter.unusedVariables false

def lettersB (fs : List Fld) : Bs := fs.map (fun f => UInt8.ofNat (letterOf f))
def formB (t : Int) : Bs := match formS t with | some fs => lettersB fs | none => if holdsB t = true then [45] else []
def FormIs (l : Bs) (w : World) (e : Ending) (w' : World) : Prop := e = .returned (.string ⟨l.toArray⟩) ∧ w = w'

set_option maxRecDepth 100000 in
set_option maxHeartbeats 1000000 in
theorem rform_1 (w : World) : Calls Try.prog 70 #[.int .i64 1] w (FormIs [97] w) := by
  go_enter Try.func70, Try.ntmps70
  go_wp2_with fail
  go_ret
  exact ⟨rfl, rfl⟩

set_option maxRecDepth 100000 in
set_option maxHeartbeats 1000000 in
theorem rform_2 (w : World) : Calls Try.prog 70 #[.int .i64 2] w (FormIs [110] w) := by
  go_enter Try.func70, Try.ntmps70
  go_wp2_with fail
  go_ret
  exact ⟨rfl, rfl⟩

set_option maxRecDepth 100000 in
set_option maxHeartbeats 1000000 in
theorem rform_5 (w : World) : Calls Try.prog 70 #[.int .i64 5] w (FormIs [110] w) := by
  go_enter Try.func70, Try.ntmps70
  go_wp2_with fail
  go_ret
  exact ⟨rfl, rfl⟩

set_option maxRecDepth 100000 in
set_option maxHeartbeats 1000000 in
theorem rform_12 (w : World) : Calls Try.prog 70 #[.int .i64 12] w (FormIs [110] w) := by
  go_enter Try.func70, Try.ntmps70
  go_wp2_with fail
  go_ret
  exact ⟨rfl, rfl⟩

set_option maxRecDepth 100000 in
set_option maxHeartbeats 1000000 in
theorem rform_39 (w : World) : Calls Try.prog 70 #[.int .i64 39] w (FormIs [110] w) := by
  go_enter Try.func70, Try.ntmps70
  go_wp2_with fail
  go_ret
  exact ⟨rfl, rfl⟩

set_option maxRecDepth 100000 in
set_option maxHeartbeats 1000000 in
theorem rform_6 (w : World) : Calls Try.prog 70 #[.int .i64 6] w (FormIs [110, 110, 52, 52, 52, 52, 52] w) := by
  go_enter Try.func70, Try.ntmps70
  go_wp2_with fail
  go_ret
  exact ⟨rfl, rfl⟩

set_option maxRecDepth 100000 in
set_option maxHeartbeats 1000000 in
theorem rform_13 (w : World) : Calls Try.prog 70 #[.int .i64 13] w (FormIs [116, 116] w) := by
  go_enter Try.func70, Try.ntmps70
  go_wp2_with fail
  go_ret
  exact ⟨rfl, rfl⟩

set_option maxRecDepth 100000 in
set_option maxHeartbeats 1000000 in
theorem rform_15 (w : World) : Calls Try.prog 70 #[.int .i64 15] w (FormIs [50, 110] w) := by
  go_enter Try.func70, Try.ntmps70
  go_wp2_with fail
  go_ret
  exact ⟨rfl, rfl⟩

set_option maxRecDepth 100000 in
set_option maxHeartbeats 1000000 in
theorem rform_16 (w : World) : Calls Try.prog 70 #[.int .i64 16] w (FormIs [84] w) := by
  go_enter Try.func70, Try.ntmps70
  go_wp2_with fail
  go_ret
  exact ⟨rfl, rfl⟩

set_option maxRecDepth 100000 in
set_option maxHeartbeats 1000000 in
theorem rform_28 (w : World) : Calls Try.prog 70 #[.int .i64 28] w (FormIs [54] w) := by
  go_enter Try.func70, Try.ntmps70
  go_wp2_with fail
  go_ret
  exact ⟨rfl, rfl⟩

set_option maxRecDepth 100000 in
set_option maxHeartbeats 1000000 in
theorem rform_33 (w : World) : Calls Try.prog 70 #[.int .i64 33] w (FormIs [50, 50, 50, 110] w) := by
  go_enter Try.func70, Try.ntmps70
  go_wp2_with fail
  go_ret
  exact ⟨rfl, rfl⟩

set_option maxRecDepth 100000 in
set_option maxHeartbeats 1000000 in
theorem rform_35 (w : World) : Calls Try.prog 70 #[.int .i64 35] w (FormIs [50, 50, 116, 116, 116, 110] w) := by
  go_enter Try.func70, Try.ntmps70
  go_wp2_with fail
  go_ret
  exact ⟨rfl, rfl⟩

set_option maxRecDepth 100000 in
set_option maxHeartbeats 1000000 in
theorem rform_43 (w : World) : Calls Try.prog 70 #[.int .i64 43] w (FormIs [50, 49, 49, 104] w) := by
  go_enter Try.func70, Try.ntmps70
  go_wp2_with fail
  go_ret
  exact ⟨rfl, rfl⟩

set_option maxRecDepth 100000 in
set_option maxHeartbeats 1000000 in
theorem rform_46 (w : World) : Calls Try.prog 70 #[.int .i64 46] w (FormIs [107, 49, 49, 52, 52, 52, 50, 110, 98] w) := by
  go_enter Try.func70, Try.ntmps70
  go_wp2_with fail
  go_ret
  exact ⟨rfl, rfl⟩

set_option maxRecDepth 100000 in
set_option maxHeartbeats 1000000 in
theorem rform_47 (w : World) : Calls Try.prog 70 #[.int .i64 47] w (FormIs [110, 75] w) := by
  go_enter Try.func70, Try.ntmps70
  go_wp2_with fail
  go_ret
  exact ⟨rfl, rfl⟩

set_option maxRecDepth 100000 in
set_option maxHeartbeats 1000000 in
theorem rform_48 (w : World) : Calls Try.prog 70 #[.int .i64 48] w (FormIs [50, 49, 49, 98] w) := by
  go_enter Try.func70, Try.ntmps70
  go_wp2_with fail
  go_ret
  exact ⟨rfl, rfl⟩

set_option maxRecDepth 100000 in
set_option maxHeartbeats 1000000 in
theorem rform_50 (w : World) : Calls Try.prog 70 #[.int .i64 50] w (FormIs [49, 49, 50, 115, 72, 75] w) := by
  go_enter Try.func70, Try.ntmps70
  go_wp2_with fail
  go_ret
  exact ⟨rfl, rfl⟩

set_option maxRecDepth 100000 in
set_option maxHeartbeats 1000000 in
theorem rform_51 (w : World) : Calls Try.prog 70 #[.int .i64 51] w (FormIs [49, 49, 50, 115] w) := by
  go_enter Try.func70, Try.ntmps70
  go_wp2_with fail
  go_ret
  exact ⟨rfl, rfl⟩

set_option maxRecDepth 100000 in
set_option maxHeartbeats 1000000 in
theorem rform_257 (w : World) : Calls Try.prog 70 #[.int .i64 257] w (FormIs [49, 116, 114] w) := by
  go_enter Try.func70, Try.ntmps70
  go_wp2_with fail
  go_ret
  exact ⟨rfl, rfl⟩

set_option maxRecDepth 100000 in
set_option maxHeartbeats 4000000 in
theorem rform_no (t : Int) (w : World) (h0 : formS t = none) : Calls Try.prog 70 #[.int .i64 t] w (FormIs (if holdsB t = true then [45] else []) w) := by
  have b1 : (t == 1) = false := by rw [beq_eq_false_iff_ne]; intro h; subst h; simp [formS] at h0
  have b2 : (t == 2) = false := by rw [beq_eq_false_iff_ne]; intro h; subst h; simp [formS] at h0
  have b5 : (t == 5) = false := by rw [beq_eq_false_iff_ne]; intro h; subst h; simp [formS] at h0
  have b12 : (t == 12) = false := by rw [beq_eq_false_iff_ne]; intro h; subst h; simp [formS] at h0
  have b39 : (t == 39) = false := by rw [beq_eq_false_iff_ne]; intro h; subst h; simp [formS] at h0
  have b6 : (t == 6) = false := by rw [beq_eq_false_iff_ne]; intro h; subst h; simp [formS] at h0
  have b13 : (t == 13) = false := by rw [beq_eq_false_iff_ne]; intro h; subst h; simp [formS] at h0
  have b15 : (t == 15) = false := by rw [beq_eq_false_iff_ne]; intro h; subst h; simp [formS] at h0
  have b16 : (t == 16) = false := by rw [beq_eq_false_iff_ne]; intro h; subst h; simp [formS] at h0
  have b28 : (t == 28) = false := by rw [beq_eq_false_iff_ne]; intro h; subst h; simp [formS] at h0
  have b33 : (t == 33) = false := by rw [beq_eq_false_iff_ne]; intro h; subst h; simp [formS] at h0
  have b35 : (t == 35) = false := by rw [beq_eq_false_iff_ne]; intro h; subst h; simp [formS] at h0
  have b43 : (t == 43) = false := by rw [beq_eq_false_iff_ne]; intro h; subst h; simp [formS] at h0
  have b46 : (t == 46) = false := by rw [beq_eq_false_iff_ne]; intro h; subst h; simp [formS] at h0
  have b47 : (t == 47) = false := by rw [beq_eq_false_iff_ne]; intro h; subst h; simp [formS] at h0
  have b48 : (t == 48) = false := by rw [beq_eq_false_iff_ne]; intro h; subst h; simp [formS] at h0
  have b50 : (t == 50) = false := by rw [beq_eq_false_iff_ne]; intro h; subst h; simp [formS] at h0
  have b51 : (t == 51) = false := by rw [beq_eq_false_iff_ne]; intro h; subst h; simp [formS] at h0
  have b257 : (t == 257) = false := by rw [beq_eq_false_iff_ne]; intro h; subst h; simp [formS] at h0
  have H0 := Lib.hid h0
  clear h0
  obtain ⟨l, hl⟩ : ∃ l, (if holdsB t = true then [45] else ([] : Bs)) = l := ⟨_, rfl⟩
  rw [hl]
  by_cases h1 : t < 1
  · have HL : Hid (l = []) := Lib.hid (by rw [← hl, holds_no (.inl h1)]; rfl)
    clear hl
    go_enter Try.func70, Try.ntmps70
    go_wp2_with fail
    go_ret
    rw [HL.out]
    exact ⟨rfl, rfl⟩
  have h1i : 1 ≤ t := by omega
  clear h1
  by_cases h2 : 65535 < t
  · have HL : Hid (l = []) := Lib.hid (by rw [← hl, holds_no (.inr (.inl h2))]; rfl)
    clear hl
    go_enter Try.func70, Try.ntmps70
    go_wp2_with fail
    go_ret
    rw [HL.out]
    exact ⟨rfl, rfl⟩
  have h2i : t ≤ 65535 := by omega
  clear h2
  by_cases h3 : t = 41
  · have HL : Hid (l = []) := Lib.hid (by rw [← hl, holds_no (.inr (.inr (.inl h3)))]; rfl)
    have h3b : (t == 41) = true := by rw [beq_iff_eq]; exact h3
    clear hl h3
    go_enter Try.func70, Try.ntmps70
    go_wp2_with fail
    go_ret
    rw [HL.out]
    exact ⟨rfl, rfl⟩
  have h3b : (t == 41) = false := by rw [beq_eq_false_iff_ne]; exact h3
  have H3 := Lib.hid h3; clear h3
  by_cases h4 : t < 128
  · have HL : Hid (l = [45]) := Lib.hid (by rw [← hl, holds_yes h1i h2i H3.out (.inl h4)]; rfl)
    have d4 : decide (128 ≤ t) = false := by rw [decide_eq_false_iff_not]; omega
    clear hl
    go_enter Try.func70, Try.ntmps70
    go_wp2_with fail
    go_ret
    rw [HL.out]
    exact ⟨rfl, rfl⟩
  have h4i : 128 ≤ t := by omega
  have d4 : decide (128 ≤ t) = true := by rw [decide_eq_true_eq]; omega
  clear h4
  by_cases h5 : 255 < t
  · have HL : Hid (l = [45]) := Lib.hid (by rw [← hl, holds_yes h1i h2i H3.out (.inr h5)]; rfl)
    have d5 : decide (t ≤ 255) = false := by rw [decide_eq_false_iff_not]; omega
    clear hl
    go_enter Try.func70, Try.ntmps70
    go_wp2_with fail
    go_ret
    rw [HL.out]
    exact ⟨rfl, rfl⟩
  · have h5i : t ≤ 255 := by omega
    have HL : Hid (l = []) := Lib.hid (by rw [← hl, holds_no (.inr (.inr (.inr ⟨h4i, h5i⟩)))]; rfl)
    have d5 : decide (t ≤ 255) = true := by rw [decide_eq_true_eq]; omega
    clear hl h5
    go_enter Try.func70, Try.ntmps70
    go_wp2_with fail
    go_ret
    rw [HL.out]
    exact ⟨rfl, rfl⟩
theorem rform_any (t : Int) (w : World) : Calls Try.prog 70 #[.int .i64 t] w (FormIs (formB t) w) := by
  by_cases h1 : t = 1
  · subst h1; exact rform_1 w
  by_cases h2 : t = 2
  · subst h2; exact rform_2 w
  by_cases h5 : t = 5
  · subst h5; exact rform_5 w
  by_cases h12 : t = 12
  · subst h12; exact rform_12 w
  by_cases h39 : t = 39
  · subst h39; exact rform_39 w
  by_cases h6 : t = 6
  · subst h6; exact rform_6 w
  by_cases h13 : t = 13
  · subst h13; exact rform_13 w
  by_cases h15 : t = 15
  · subst h15; exact rform_15 w
  by_cases h16 : t = 16
  · subst h16; exact rform_16 w
  by_cases h28 : t = 28
  · subst h28; exact rform_28 w
  by_cases h33 : t = 33
  · subst h33; exact rform_33 w
  by_cases h35 : t = 35
  · subst h35; exact rform_35 w
  by_cases h43 : t = 43
  · subst h43; exact rform_43 w
  by_cases h46 : t = 46
  · subst h46; exact rform_46 w
  by_cases h47 : t = 47
  · subst h47; exact rform_47 w
  by_cases h48 : t = 48
  · subst h48; exact rform_48 w
  by_cases h50 : t = 50
  · subst h50; exact rform_50 w
  by_cases h51 : t = 51
  · subst h51; exact rform_51 w
  by_cases h257 : t = 257
  · subst h257; exact rform_257 w
  have h : formS t = none := by simp [formS, h1, h2, h5, h12, h39, h6, h13, h15, h16, h28, h33, h35, h43, h46, h47, h48, h50, h51, h257]
  have := rform_no t w h
  unfold formB
  rw [h]
  exact this
end Go.Proofs.Ythblaldkpjilhaa.rform
