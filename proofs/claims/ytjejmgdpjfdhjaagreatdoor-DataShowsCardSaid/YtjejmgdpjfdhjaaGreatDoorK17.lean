/- The fields of a type: data.form: walk. How many bytes a set of types takes: data.kinds.take: walk. -/
import Derived.Test.YtjejmgdpjfdhjaaGreatDoorK2
import Derived.Test.YtjejmgdpjfdhjaaGreatDoorK13
import Derived.Below
namespace Go.Proofs.YtjejmgdpjfdhjaaGreatDoor.formW
open Go.RowKit Go.Proofs.YtjejmgdpjfdhjaaGreatDoor.kit Go.Proofs.YtjejmgdpjfdhjaaGreatDoor.nspec Go.Proofs.YtjejmgdpjfdhjaaGreatDoor.fld
set_option linter.unusedVariables false

/-- a field as the program has it -/
def fldV : Fld → Value
  | .ip4 => .iface 66 (.agg #[])
  | .ip6 => .iface 70 (.agg #[])
  | .host => .iface 67 (.agg #[])
  | .text => .iface 68 (.agg #[])
  | .texts => .iface 69 (.agg #[])
  | .tail => .iface 77 (.agg #[])
  | .hexes => .iface 71 (.agg #[])
  | .b64 => .iface 73 (.agg #[])
  | .kind => .iface 72 (.agg #[])
  | .kinds => .iface 74 (.agg #[])
  | .salt => .iface 75 (.agg #[])
  | .hash => .iface 76 (.agg #[])
  | .num k => .iface 64 (.int .i64 (k : Int))
def fieldsO (fs : List Fld) : Obj := .cells (fs.map fldV).toArray 41
def FormPost (fs : List Fld) (w : World) (e : Ending) (w' : World) : Prop := e = .returned (.tuple #[.slice (some ⟨w.heap.size, 0, none⟩) fs.length fs.length, .bool true]) ∧ w' = w.alloc (fieldsO fs)

set_option maxRecDepth 100000 in
set_option maxHeartbeats 1000000 in
theorem form_1 (w : World) : Calls Tryz.prog 12 #[.int .i64 1] w (FormPost [.ip4] w) := by
  go_enter Tryz.func12, Tryz.ntmps12
  go_wp2_with fail
  go_ret2
  exact ⟨rfl, rfl⟩
set_option maxRecDepth 100000 in
set_option maxHeartbeats 1000000 in
theorem form_2 (w : World) : Calls Tryz.prog 12 #[.int .i64 2] w (FormPost [.host] w) := by
  go_enter Tryz.func12, Tryz.ntmps12
  go_wp2_with fail
  go_ret2
  exact ⟨rfl, rfl⟩
set_option maxRecDepth 100000 in
set_option maxHeartbeats 1000000 in
theorem form_5 (w : World) : Calls Tryz.prog 12 #[.int .i64 5] w (FormPost [.host] w) := by
  go_enter Tryz.func12, Tryz.ntmps12
  go_wp2_with fail
  go_ret2
  exact ⟨rfl, rfl⟩
set_option maxRecDepth 100000 in
set_option maxHeartbeats 1000000 in
theorem form_12 (w : World) : Calls Tryz.prog 12 #[.int .i64 12] w (FormPost [.host] w) := by
  go_enter Tryz.func12, Tryz.ntmps12
  go_wp2_with fail
  go_ret2
  exact ⟨rfl, rfl⟩
set_option maxRecDepth 100000 in
set_option maxHeartbeats 1000000 in
theorem form_39 (w : World) : Calls Tryz.prog 12 #[.int .i64 39] w (FormPost [.host] w) := by
  go_enter Tryz.func12, Tryz.ntmps12
  go_wp2_with fail
  go_ret2
  exact ⟨rfl, rfl⟩
set_option maxRecDepth 100000 in
set_option maxHeartbeats 1000000 in
theorem form_6 (w : World) : Calls Tryz.prog 12 #[.int .i64 6] w (FormPost [.host, .host, .num 4, .num 4, .num 4, .num 4, .num 4] w) := by
  go_enter Tryz.func12, Tryz.ntmps12
  go_wp2_with fail
  go_ret2
  exact ⟨rfl, rfl⟩
set_option maxRecDepth 100000 in
set_option maxHeartbeats 1000000 in
theorem form_13 (w : World) : Calls Tryz.prog 12 #[.int .i64 13] w (FormPost [.text, .text] w) := by
  go_enter Tryz.func12, Tryz.ntmps12
  go_wp2_with fail
  go_ret2
  exact ⟨rfl, rfl⟩
set_option maxRecDepth 100000 in
set_option maxHeartbeats 1000000 in
theorem form_15 (w : World) : Calls Tryz.prog 12 #[.int .i64 15] w (FormPost [.num 2, .host] w) := by
  go_enter Tryz.func12, Tryz.ntmps12
  go_wp2_with fail
  go_ret2
  exact ⟨rfl, rfl⟩
set_option maxRecDepth 100000 in
set_option maxHeartbeats 1000000 in
theorem form_16 (w : World) : Calls Tryz.prog 12 #[.int .i64 16] w (FormPost [.texts] w) := by
  go_enter Tryz.func12, Tryz.ntmps12
  go_wp2_with fail
  go_ret2
  exact ⟨rfl, rfl⟩
set_option maxRecDepth 100000 in
set_option maxHeartbeats 1000000 in
theorem form_28 (w : World) : Calls Tryz.prog 12 #[.int .i64 28] w (FormPost [.ip6] w) := by
  go_enter Tryz.func12, Tryz.ntmps12
  go_wp2_with fail
  go_ret2
  exact ⟨rfl, rfl⟩
set_option maxRecDepth 100000 in
set_option maxHeartbeats 1000000 in
theorem form_33 (w : World) : Calls Tryz.prog 12 #[.int .i64 33] w (FormPost [.num 2, .num 2, .num 2, .host] w) := by
  go_enter Tryz.func12, Tryz.ntmps12
  go_wp2_with fail
  go_ret2
  exact ⟨rfl, rfl⟩
set_option maxRecDepth 100000 in
set_option maxHeartbeats 1000000 in
theorem form_35 (w : World) : Calls Tryz.prog 12 #[.int .i64 35] w (FormPost [.num 2, .num 2, .text, .text, .text, .host] w) := by
  go_enter Tryz.func12, Tryz.ntmps12
  go_wp2_with fail
  go_ret2
  exact ⟨rfl, rfl⟩
set_option maxRecDepth 100000 in
set_option maxHeartbeats 1000000 in
theorem form_43 (w : World) : Calls Tryz.prog 12 #[.int .i64 43] w (FormPost [.num 2, .num 1, .num 1, .hexes] w) := by
  go_enter Tryz.func12, Tryz.ntmps12
  go_wp2_with fail
  go_ret2
  exact ⟨rfl, rfl⟩
set_option maxRecDepth 100000 in
set_option maxHeartbeats 1000000 in
theorem form_46 (w : World) : Calls Tryz.prog 12 #[.int .i64 46] w (FormPost [.kind, .num 1, .num 1, .num 4, .num 4, .num 4, .num 2, .host, .b64] w) := by
  go_enter Tryz.func12, Tryz.ntmps12
  go_wp2_with fail
  go_ret2
  exact ⟨rfl, rfl⟩
set_option maxRecDepth 100000 in
set_option maxHeartbeats 1000000 in
theorem form_47 (w : World) : Calls Tryz.prog 12 #[.int .i64 47] w (FormPost [.host, .kinds] w) := by
  go_enter Tryz.func12, Tryz.ntmps12
  go_wp2_with fail
  go_ret2
  exact ⟨rfl, rfl⟩
set_option maxRecDepth 100000 in
set_option maxHeartbeats 1000000 in
theorem form_48 (w : World) : Calls Tryz.prog 12 #[.int .i64 48] w (FormPost [.num 2, .num 1, .num 1, .b64] w) := by
  go_enter Tryz.func12, Tryz.ntmps12
  go_wp2_with fail
  go_ret2
  exact ⟨rfl, rfl⟩
set_option maxRecDepth 100000 in
set_option maxHeartbeats 1000000 in
theorem form_50 (w : World) : Calls Tryz.prog 12 #[.int .i64 50] w (FormPost [.num 1, .num 1, .num 2, .salt, .hash, .kinds] w) := by
  go_enter Tryz.func12, Tryz.ntmps12
  go_wp2_with fail
  go_ret2
  exact ⟨rfl, rfl⟩
set_option maxRecDepth 100000 in
set_option maxHeartbeats 1000000 in
theorem form_51 (w : World) : Calls Tryz.prog 12 #[.int .i64 51] w (FormPost [.num 1, .num 1, .num 2, .salt] w) := by
  go_enter Tryz.func12, Tryz.ntmps12
  go_wp2_with fail
  go_ret2
  exact ⟨rfl, rfl⟩
set_option maxRecDepth 100000 in
set_option maxHeartbeats 1000000 in
theorem form_257 (w : World) : Calls Tryz.prog 12 #[.int .i64 257] w (FormPost [.num 1, .text, .tail] w) := by
  go_enter Tryz.func12, Tryz.ntmps12
  go_wp2_with fail
  go_ret2
  exact ⟨rfl, rfl⟩
set_option maxRecDepth 100000 in
set_option maxHeartbeats 1000000 in
theorem form_no (t : Int) (w : World) (h0 : formS t = none) : Calls Tryz.prog 12 #[.int .i64 t] w fun e w' => e = .returned (.tuple #[.slice none 0 0, .bool false]) ∧ w = w' := by
  have b1 : (t == 1) = false := by rw [beq_eq_false_iff_ne]; intro h; subst h; simp [formS] at h0
  have b2 : (t == 2) = false := by rw [beq_eq_false_iff_ne]; intro h; subst h; simp [formS] at h0
  have b5 : (t == 5) = false := by rw [beq_eq_false_iff_ne]; intro h; subst h; simp [formS] at h0
  have b12 : (t == 12) = false := by rw [beq_eq_false_iff_ne]; intro h; subst h; simp [formS] at h0
  have b39 : (t == 39) = false := by rw [beq_eq_false_iff_ne]; intro h; subst h; simp [formS] at h0
  have b6 : (t == 6) = false := by rw [beq_eq_false_iff_ne]; intro h; subst h; simp [formS] at h0
  have b13 : (t == 13) = false := by rw [beq_eq_false_iff_ne]; intro h; subst h; simp [formS] at h0
  have b15 : (t == 15) = false := by rw [beq_eq_false_iff_ne]; intro h; subst h; simp [formS] at h0
  have b16 : (t == 16) = false := by rw [beq_eq_false_iff_ne]; intro h; subst h; simp [formS] at h0
  have b28 : (t == 28) = false := by rw [beq_eq_false_iff_ne]; intro h; subst h; simp [formS] at h0
  have b33 : (t == 33) = false := by rw [beq_eq_false_iff_ne]; intro h; subst h; simp [formS] at h0
  have b35 : (t == 35) = false := by rw [beq_eq_false_iff_ne]; intro h; subst h; simp [formS] at h0
  have b43 : (t == 43) = false := by rw [beq_eq_false_iff_ne]; intro h; subst h; simp [formS] at h0
  have b46 : (t == 46) = false := by rw [beq_eq_false_iff_ne]; intro h; subst h; simp [formS] at h0
  have b47 : (t == 47) = false := by rw [beq_eq_false_iff_ne]; intro h; subst h; simp [formS] at h0
  have b48 : (t == 48) = false := by rw [beq_eq_false_iff_ne]; intro h; subst h; simp [formS] at h0
  have b50 : (t == 50) = false := by rw [beq_eq_false_iff_ne]; intro h; subst h; simp [formS] at h0
  have b51 : (t == 51) = false := by rw [beq_eq_false_iff_ne]; intro h; subst h; simp [formS] at h0
  have b257 : (t == 257) = false := by rw [beq_eq_false_iff_ne]; intro h; subst h; simp [formS] at h0
  clear h0
  go_enter Tryz.func12, Tryz.ntmps12
  go_wp2_with fail
  go_ret2
  exact ⟨rfl, rfl⟩
theorem form_yes (t : Int) (fs : List Fld) (w : World) (h : formS t = some fs) : Calls Tryz.prog 12 #[.int .i64 t] w (FormPost fs w) := by
  by_cases h1 : t = 1
  · subst h1
    have e : fs = _ := (Option.some.inj h).symm
    subst e
    exact form_1 w
  by_cases h2 : t = 2
  · subst h2
    have e : fs = _ := (Option.some.inj h).symm
    subst e
    exact form_2 w
  by_cases h5 : t = 5
  · subst h5
    have e : fs = _ := (Option.some.inj h).symm
    subst e
    exact form_5 w
  by_cases h12 : t = 12
  · subst h12
    have e : fs = _ := (Option.some.inj h).symm
    subst e
    exact form_12 w
  by_cases h39 : t = 39
  · subst h39
    have e : fs = _ := (Option.some.inj h).symm
    subst e
    exact form_39 w
  by_cases h6 : t = 6
  · subst h6
    have e : fs = _ := (Option.some.inj h).symm
    subst e
    exact form_6 w
  by_cases h13 : t = 13
  · subst h13
    have e : fs = _ := (Option.some.inj h).symm
    subst e
    exact form_13 w
  by_cases h15 : t = 15
  · subst h15
    have e : fs = _ := (Option.some.inj h).symm
    subst e
    exact form_15 w
  by_cases h16 : t = 16
  · subst h16
    have e : fs = _ := (Option.some.inj h).symm
    subst e
    exact form_16 w
  by_cases h28 : t = 28
  · subst h28
    have e : fs = _ := (Option.some.inj h).symm
    subst e
    exact form_28 w
  by_cases h33 : t = 33
  · subst h33
    have e : fs = _ := (Option.some.inj h).symm
    subst e
    exact form_33 w
  by_cases h35 : t = 35
  · subst h35
    have e : fs = _ := (Option.some.inj h).symm
    subst e
    exact form_35 w
  by_cases h43 : t = 43
  · subst h43
    have e : fs = _ := (Option.some.inj h).symm
    subst e
    exact form_43 w
  by_cases h46 : t = 46
  · subst h46
    have e : fs = _ := (Option.some.inj h).symm
    subst e
    exact form_46 w
  by_cases h47 : t = 47
  · subst h47
    have e : fs = _ := (Option.some.inj h).symm
    subst e
    exact form_47 w
  by_cases h48 : t = 48
  · subst h48
    have e : fs = _ := (Option.some.inj h).symm
    subst e
    exact form_48 w
  by_cases h50 : t = 50
  · subst h50
    have e : fs = _ := (Option.some.inj h).symm
    subst e
    exact form_50 w
  by_cases h51 : t = 51
  · subst h51
    have e : fs = _ := (Option.some.inj h).symm
    subst e
    exact form_51 w
  by_cases h257 : t = 257
  · subst h257
    have e : fs = _ := (Option.some.inj h).symm
    subst e
    exact form_257 w
  simp [formS, h1, h2, h5, h12, h39, h6, h13, h15, h16, h28, h33, h35, h43, h46, h47, h48, h50, h51, h257] at h
end Go.Proofs.YtjejmgdpjfdhjaaGreatDoor.formW
namespace Go.Proofs.YtjejmgdpjfdhjaaGreatDoor.kindsT
open Go.RowKit Go.Proofs.YtjejmgdpjfdhjaaGreatDoor.kit Go.Proofs.YtjejmgdpjfdhjaaGreatDoor.nspec Go.Proofs.YtjejmgdpjfdhjaaGreatDoor.fld Go.Proofs.YtjejmgdpjfdhjaaGreatDoor.typesW
set_option linter.unusedVariables false

set_option maxRecDepth 100000 in
set_option maxHeartbeats 1000000 in
theorem kinds_any (s : ByteArray) (w : World) (hs : s.size ≤ 1048576) :
    Calls Tryz.prog 131 #[.agg #[], .string s] w fun e w' => e = .returned (.int .i64 (takeS .kinds s.data.toList)) ∧ Below w.heap.size w w' := by
  have C := Lib.hid (fun w => types_any s w hs)
  have hBa := Lib.hid ((Below.refl w.heap.size w).alloc (Nat.le_refl _) (.cells #[] 74))
  obtain ⟨R, HR⟩ : ∃ R, Hid (takeS .kinds s.data.toList = R) := ⟨_, Lib.hid rfl⟩
  rw [HR.out]
  go_enter Tryz.func131, Tryz.ntmps131
  go_wp2_with fail
  refine (C.out _).mono ?_
  rintro e w1 ⟨hB1, ⟨v, l, hl, rfl, _⟩ | ⟨hl, rfl⟩⟩
  · have HB := Lib.hid (hBa.out.trans (hB1.mono hBa.out.size))
    have HN : Hid ((s.size : Int) = R) := Lib.hid (by rw [← HR.out]; simp only [takeS]; rw [if_neg (by rw [hl]; simp), size_len])
    clear hB1 hl
    go_wp2_with fail
    go_ret
    exact ⟨by rw [← HN.out]; rfl, HB.out⟩
  · have HB := Lib.hid (hBa.out.trans (hB1.mono hBa.out.size))
    have HN : Hid ((-1 : Int) = R) := Lib.hid (by rw [← HR.out]; simp only [takeS]; rw [if_pos hl])
    clear hB1 hl
    go_wp2_with fail
    go_ret
    exact ⟨by rw [← HN.out]; rfl, HB.out⟩
end Go.Proofs.YtjejmgdpjfdhjaaGreatDoor.kindsT
