/- The fields of a type: data.form: walk. -/
import Derived.Test.YthblaldkpjilhaaFldP
import Derived.Below
namespace Go.Proofs.Ythblaldkpjilhaa.formW
open Go.RowKit Go.Proofs.Ythblaldkpjilhaa.kit Go.Proofs.Ythblaldkpjilhaa.nspec Go.Proofs.Ythblaldkpjilhaa.fld
set_option linter.unusedVariables false

/-- a field as the program has it -/
def fldV : Fld → Value
  | .ip4 => .iface 176 (.agg #[])
  | .ip6 => .iface 179 (.agg #[])
  | .host => .iface 120 (.agg #[])
  | .text => .iface 177 (.agg #[])
  | .texts => .iface 178 (.agg #[])
  | .tail => .iface 186 (.agg #[])
  | .hexes => .iface 180 (.agg #[])
  | .b64 => .iface 182 (.agg #[])
  | .kind => .iface 181 (.agg #[])
  | .kinds => .iface 183 (.agg #[])
  | .salt => .iface 184 (.agg #[])
  | .hash => .iface 185 (.agg #[])
  | .num k => .iface 175 (.int .i64 (k : Int))
def fieldsO (fs : List Fld) : Obj := .cells (fs.map fldV).toArray 118
def FormPost (fs : List Fld) (w : World) (e : Ending) (w' : World) : Prop := e = .returned (.tuple #[.slice (some ⟨w.heap.size, 0, none⟩) fs.length fs.length, .bool true]) ∧ w' = w.alloc (fieldsO fs)

set_option maxRecDepth 100000 in
set_option maxHeartbeats 1000000 in
theorem form_1 (w : World) : Calls Try.prog 68 #[.int .i64 1] w (FormPost [.ip4] w) := by
  go_enter Try.func68, Try.ntmps68
  go_wp2_with fail
  go_ret2
  exact ⟨rfl, rfl⟩
set_option maxRecDepth 100000 in
set_option maxHeartbeats 1000000 in
theorem form_2 (w : World) : Calls Try.prog 68 #[.int .i64 2] w (FormPost [.host] w) := by
  go_enter Try.func68, Try.ntmps68
  go_wp2_with fail
  go_ret2
  exact ⟨rfl, rfl⟩
set_option maxRecDepth 100000 in
set_option maxHeartbeats 1000000 in
theorem form_5 (w : World) : Calls Try.prog 68 #[.int .i64 5] w (FormPost [.host] w) := by
  go_enter Try.func68, Try.ntmps68
  go_wp2_with fail
  go_ret2
  exact ⟨rfl, rfl⟩
set_option maxRecDepth 100000 in
set_option maxHeartbeats 1000000 in
theorem form_12 (w : World) : Calls Try.prog 68 #[.int .i64 12] w (FormPost [.host] w) := by
  go_enter Try.func68, Try.ntmps68
  go_wp2_with fail
  go_ret2
  exact ⟨rfl, rfl⟩
set_option maxRecDepth 100000 in
set_option maxHeartbeats 1000000 in
theorem form_39 (w : World) : Calls Try.prog 68 #[.int .i64 39] w (FormPost [.host] w) := by
  go_enter Try.func68, Try.ntmps68
  go_wp2_with fail
  go_ret2
  exact ⟨rfl, rfl⟩
set_option maxRecDepth 100000 in
set_option maxHeartbeats 1000000 in
theorem form_6 (w : World) : Calls Try.prog 68 #[.int .i64 6] w (FormPost [.host, .host, .num 4, .num 4, .num 4, .num 4, .num 4] w) := by
  go_enter Try.func68, Try.ntmps68
  go_wp2_with fail
  go_ret2
  exact ⟨rfl, rfl⟩
set_option maxRecDepth 100000 in
set_option maxHeartbeats 1000000 in
theorem form_13 (w : World) : Calls Try.prog 68 #[.int .i64 13] w (FormPost [.text, .text] w) := by
  go_enter Try.func68, Try.ntmps68
  go_wp2_with fail
  go_ret2
  exact ⟨rfl, rfl⟩
set_option maxRecDepth 100000 in
set_option maxHeartbeats 1000000 in
theorem form_15 (w : World) : Calls Try.prog 68 #[.int .i64 15] w (FormPost [.num 2, .host] w) := by
  go_enter Try.func68, Try.ntmps68
  go_wp2_with fail
  go_ret2
  exact ⟨rfl, rfl⟩
set_option maxRecDepth 100000 in
set_option maxHeartbeats 1000000 in
theorem form_16 (w : World) : Calls Try.prog 68 #[.int .i64 16] w (FormPost [.texts] w) := by
  go_enter Try.func68, Try.ntmps68
  go_wp2_with fail
  go_ret2
  exact ⟨rfl, rfl⟩
set_option maxRecDepth 100000 in
set_option maxHeartbeats 1000000 in
theorem form_28 (w : World) : Calls Try.prog 68 #[.int .i64 28] w (FormPost [.ip6] w) := by
  go_enter Try.func68, Try.ntmps68
  go_wp2_with fail
  go_ret2
  exact ⟨rfl, rfl⟩
set_option maxRecDepth 100000 in
set_option maxHeartbeats 1000000 in
theorem form_33 (w : World) : Calls Try.prog 68 #[.int .i64 33] w (FormPost [.num 2, .num 2, .num 2, .host] w) := by
  go_enter Try.func68, Try.ntmps68
  go_wp2_with fail
  go_ret2
  exact ⟨rfl, rfl⟩
set_option maxRecDepth 100000 in
set_option maxHeartbeats 1000000 in
theorem form_35 (w : World) : Calls Try.prog 68 #[.int .i64 35] w (FormPost [.num 2, .num 2, .text, .text, .text, .host] w) := by
  go_enter Try.func68, Try.ntmps68
  go_wp2_with fail
  go_ret2
  exact ⟨rfl, rfl⟩
set_option maxRecDepth 100000 in
set_option maxHeartbeats 1000000 in
theorem form_43 (w : World) : Calls Try.prog 68 #[.int .i64 43] w (FormPost [.num 2, .num 1, .num 1, .hexes] w) := by
  go_enter Try.func68, Try.ntmps68
  go_wp2_with fail
  go_ret2
  exact ⟨rfl, rfl⟩
set_option maxRecDepth 100000 in
set_option maxHeartbeats 1000000 in
theorem form_46 (w : World) : Calls Try.prog 68 #[.int .i64 46] w (FormPost [.kind, .num 1, .num 1, .num 4, .num 4, .num 4, .num 2, .host, .b64] w) := by
  go_enter Try.func68, Try.ntmps68
  go_wp2_with fail
  go_ret2
  exact ⟨rfl, rfl⟩
set_option maxRecDepth 100000 in
set_option maxHeartbeats 1000000 in
theorem form_47 (w : World) : Calls Try.prog 68 #[.int .i64 47] w (FormPost [.host, .kinds] w) := by
  go_enter Try.func68, Try.ntmps68
  go_wp2_with fail
  go_ret2
  exact ⟨rfl, rfl⟩
set_option maxRecDepth 100000 in
set_option maxHeartbeats 1000000 in
theorem form_48 (w : World) : Calls Try.prog 68 #[.int .i64 48] w (FormPost [.num 2, .num 1, .num 1, .b64] w) := by
  go_enter Try.func68, Try.ntmps68
  go_wp2_with fail
  go_ret2
  exact ⟨rfl, rfl⟩
set_option maxRecDepth 100000 in
set_option maxHeartbeats 1000000 in
theorem form_50 (w : World) : Calls Try.prog 68 #[.int .i64 50] w (FormPost [.num 1, .num 1, .num 2, .salt, .hash, .kinds] w) := by
  go_enter Try.func68, Try.ntmps68
  go_wp2_with fail
  go_ret2
  exact ⟨rfl, rfl⟩
set_option maxRecDepth 100000 in
set_option maxHeartbeats 1000000 in
theorem form_51 (w : World) : Calls Try.prog 68 #[.int .i64 51] w (FormPost [.num 1, .num 1, .num 2, .salt] w) := by
  go_enter Try.func68, Try.ntmps68
  go_wp2_with fail
  go_ret2
  exact ⟨rfl, rfl⟩
set_option maxRecDepth 100000 in
set_option maxHeartbeats 1000000 in
theorem form_257 (w : World) : Calls Try.prog 68 #[.int .i64 257] w (FormPost [.num 1, .text, .tail] w) := by
  go_enter Try.func68, Try.ntmps68
  go_wp2_with fail
  go_ret2
  exact ⟨rfl, rfl⟩
set_option maxRecDepth 100000 in
set_option maxHeartbeats 1000000 in
theorem form_no (t : Int) (w : World) (h0 : formS t = none) : Calls Try.prog 68 #[.int .i64 t] w fun e w' => e = .returned (.tuple #[.slice none 0 0, .bool false]) ∧ w = w' := by
  have b1 : (t == 1) = false := by rw [beq_eq_false_iff_ne]; intro h; subst h; simp [formS] at h0
  have b2 : (t == 2) = false := by rw [beq_eq_false_iff_ne]; intro h; subst h; simp [formS] at h0
  have b5 : (t == 5) = false := by rw [beq_eq_false_iff_ne]; intro h; subst h; simp [formS] at h0
  have b12 : (t == 12) = false := by rw [beq_eq_false_iff_ne]; intro h; subst h; simp [formS] at h0
  have b39 : (t == 39) = false := by rw [beq_eq_false_iff_ne]; intro h; subst h; simp [formS] at h0
  have b6 : (t == 6) = false := by rw [beq_eq_false_iff_ne]; intro h; subst h; simp [formS] at h0
  have b13 : (t == 13) = false := by rw [beq_eq_false_iff_ne]; intro h; subst h; simp [formS] at h0
  have b15 : (t == 15) = false := by rw [beq_eq_false_iff_ne]; intro h; subst h; simp [formS] at h0
  have b16 : (t == 16) = false := by rw [beq_eq_false_iff_ne]; intro h; subst h; simp [formS] at h0
  have b28 : (t == 28) = false := by rw [beq_eq_false_iff_ne]; intro h; subst h; simp [formS] at h0
  have b33 : (t == 33) = false := by rw [beq_eq_false_iff_ne]; intro h; subst h; simp [formS] at h0
  have b35 : (t == 35) = false := by rw [beq_eq_false_iff_ne]; intro h; subst h; simp [formS] at h0
  have b43 : (t == 43) = false := by rw [beq_eq_false_iff_ne]; intro h; subst h; simp [formS] at h0
  have b46 : (t == 46) = false := by rw [beq_eq_false_iff_ne]; intro h; subst h; simp [formS] at h0
  have b47 : (t == 47) = false := by rw [beq_eq_false_iff_ne]; intro h; subst h; simp [formS] at h0
  have b48 : (t == 48) = false := by rw [beq_eq_false_iff_ne]; intro h; subst h; simp [formS] at h0
  have b50 : (t == 50) = false := by rw [beq_eq_false_iff_ne]; intro h; subst h; simp [formS] at h0
  have b51 : (t == 51) = false := by rw [beq_eq_false_iff_ne]; intro h; subst h; simp [formS] at h0
  have b257 : (t == 257) = false := by rw [beq_eq_false_iff_ne]; intro h; subst h; simp [formS] at h0
  clear h0
  go_enter Try.func68, Try.ntmps68
  go_wp2_with fail
  go_ret2
  exact ⟨rfl, rfl⟩
theorem form_yes (t : Int) (fs : List Fld) (w : World) (h : formS t = some fs) : Calls Try.prog 68 #[.int .i64 t] w (FormPost fs w) := by
  by_cases h1 : t = 1
  · subst h1
    have e : fs = _ := (Option.some.inj h).symm
    subst e
    exact form_1 w
  by_cases h2 : t = 2
  · subst h2
    have e : fs = _ := (Option.some.inj h).symm
    subst e
    exact form_2 w
  by_cases h5 : t = 5
  · subst h5
    have e : fs = _ := (Option.some.inj h).symm
    subst e
    exact form_5 w
  by_cases h12 : t = 12
  · subst h12
    have e : fs = _ := (Option.some.inj h).symm
    subst e
    exact form_12 w
  by_cases h39 : t = 39
  · subst h39
    have e : fs = _ := (Option.some.inj h).symm
    subst e
    exact form_39 w
  by_cases h6 : t = 6
  · subst h6
    have e : fs = _ := (Option.some.inj h).symm
    subst e
    exact form_6 w
  by_cases h13 : t = 13
  · subst h13
    have e : fs = _ := (Option.some.inj h).symm
    subst e
    exact form_13 w
  by_cases h15 : t = 15
  · subst h15
    have e : fs = _ := (Option.some.inj h).symm
    subst e
    exact form_15 w
  by_cases h16 : t = 16
  · subst h16
    have e : fs = _ := (Option.some.inj h).symm
    subst e
    exact form_16 w
  by_cases h28 : t = 28
  · subst h28
    have e : fs = _ := (Option.some.inj h).symm
    subst e
    exact form_28 w
  by_cases h33 : t = 33
  · subst h33
    have e : fs = _ := (Option.some.inj h).symm
    subst e
    exact form_33 w
  by_cases h35 : t = 35
  · subst h35
    have e : fs = _ := (Option.some.inj h).symm
    subst e
    exact form_35 w
  by_cases h43 : t = 43
  · subst h43
    have e : fs = _ := (Option.some.inj h).symm
    subst e
    exact form_43 w
  by_cases h46 : t = 46
  · subst h46
    have e : fs = _ := (Option.some.inj h).symm
    subst e
    exact form_46 w
  by_cases h47 : t = 47
  · subst h47
    have e : fs = _ := (Option.some.inj h).symm
    subst e
    exact form_47 w
  by_cases h48 : t = 48
  · subst h48
    have e : fs = _ := (Option.some.inj h).symm
    subst e
    exact form_48 w
  by_cases h50 : t = 50
  · subst h50
    have e : fs = _ := (Option.some.inj h).symm
    subst e
    exact form_50 w
  by_cases h51 : t = 51
  · subst h51
    have e : fs = _ := (Option.some.inj h).symm
    subst e
    exact form_51 w
  by_cases h257 : t = 257
  · subst h257
    have e : fs = _ := (Option.some.inj h).symm
    subst e
    exact form_257 w
  simp [formS, h1, h2, h5, h12, h39, h6, h13, h15, h16, h28, h33, h35, h43, h46, h47, h48, h50, h51, h257] at h
end Go.Proofs.Ythblaldkpjilhaa.formW
