/- The fields of a type: data.form: walk. data.Types: walk. How many bytes a set of types takes: data.kinds.take: walk. The name that stands first: plain. How many bytes a name takes: data.host.take: walk. How many bytes a row of texts takes: data.texts.take: walk. -/
import Derived.Test.YtkcpbjoolfojjaaGreatDoorP2
import Derived.Test.YtkcpbjoolfojjaaGreatDoorP6
import Derived.Test.YtkcpbjoolfojjaaGreatDoorP11
import Derived.Test.YtkcpbjoolfojjaaGreatDoorP4
import Derived.Below
namespace Go.Proofs.YtkcpbjoolfojjaaGreatDoor.formW
open Go.RowKit Go.Proofs.YtkcpbjoolfojjaaGreatDoor.kit Go.Proofs.YtkcpbjoolfojjaaGreatDoor.nspec Go.Proofs.YtkcpbjoolfojjaaGreatDoor.fld
set_option linter.unusedVariables false

/-- a field as the program has it -/
def fldV : Fld → Value
  | .ip4 => .iface 83 (.agg #[])
  | .ip6 => .iface 87 (.agg #[])
  | .host => .iface 84 (.agg #[])
  | .text => .iface 85 (.agg #[])
  | .texts => .iface 86 (.agg #[])
  | .tail => .iface 94 (.agg #[])
  | .hexes => .iface 88 (.agg #[])
  | .b64 => .iface 90 (.agg #[])
  | .kind => .iface 89 (.agg #[])
  | .kinds => .iface 91 (.agg #[])
  | .salt => .iface 92 (.agg #[])
  | .hash => .iface 93 (.agg #[])
  | .num k => .iface 81 (.int .i64 (k : Int))
def fieldsO (fs : List Fld) : Obj := .cells (fs.map fldV).toArray 54
def FormPost (fs : List Fld) (w : World) (e : Ending) (w' : World) : Prop := e = .returned (.tuple #[.slice (some ⟨w.heap.size, 0, none⟩) fs.length fs.length, .bool true]) ∧ w' = w.alloc (fieldsO fs)

set_option maxRecDepth 100000 in
set_option maxHeartbeats 1000000 in
theorem form_1 (w : World) : Calls Tryz.prog 16 #[.int .i64 1] w (FormPost [.ip4] w) := by
  go_enter Tryz.func16, Tryz.ntmps16
  go_wp2_with fail
  go_ret2
  exact ⟨rfl, rfl⟩
set_option maxRecDepth 100000 in
set_option maxHeartbeats 1000000 in
theorem form_2 (w : World) : Calls Tryz.prog 16 #[.int .i64 2] w (FormPost [.host] w) := by
  go_enter Tryz.func16, Tryz.ntmps16
  go_wp2_with fail
  go_ret2
  exact ⟨rfl, rfl⟩
set_option maxRecDepth 100000 in
set_option maxHeartbeats 1000000 in
theorem form_5 (w : World) : Calls Tryz.prog 16 #[.int .i64 5] w (FormPost [.host] w) := by
  go_enter Tryz.func16, Tryz.ntmps16
  go_wp2_with fail
  go_ret2
  exact ⟨rfl, rfl⟩
set_option maxRecDepth 100000 in
set_option maxHeartbeats 1000000 in
theorem form_12 (w : World) : Calls Tryz.prog 16 #[.int .i64 12] w (FormPost [.host] w) := by
  go_enter Tryz.func16, Tryz.ntmps16
  go_wp2_with fail
  go_ret2
  exact ⟨rfl, rfl⟩
set_option maxRecDepth 100000 in
set_option maxHeartbeats 1000000 in
theorem form_39 (w : World) : Calls Tryz.prog 16 #[.int .i64 39] w (FormPost [.host] w) := by
  go_enter Tryz.func16, Tryz.ntmps16
  go_wp2_with fail
  go_ret2
  exact ⟨rfl, rfl⟩
set_option maxRecDepth 100000 in
set_option maxHeartbeats 1000000 in
theorem form_6 (w : World) : Calls Tryz.prog 16 #[.int .i64 6] w (FormPost [.host, .host, .num 4, .num 4, .num 4, .num 4, .num 4] w) := by
  go_enter Tryz.func16, Tryz.ntmps16
  go_wp2_with fail
  go_ret2
  exact ⟨rfl, rfl⟩
set_option maxRecDepth 100000 in
set_option maxHeartbeats 1000000 in
theorem form_13 (w : World) : Calls Tryz.prog 16 #[.int .i64 13] w (FormPost [.text, .text] w) := by
  go_enter Tryz.func16, Tryz.ntmps16
  go_wp2_with fail
  go_ret2
  exact ⟨rfl, rfl⟩
set_option maxRecDepth 100000 in
set_option maxHeartbeats 1000000 in
theorem form_15 (w : World) : Calls Tryz.prog 16 #[.int .i64 15] w (FormPost [.num 2, .host] w) := by
  go_enter Tryz.func16, Tryz.ntmps16
  go_wp2_with fail
  go_ret2
  exact ⟨rfl, rfl⟩
set_option maxRecDepth 100000 in
set_option maxHeartbeats 1000000 in
theorem form_16 (w : World) : Calls Tryz.prog 16 #[.int .i64 16] w (FormPost [.texts] w) := by
  go_enter Tryz.func16, Tryz.ntmps16
  go_wp2_with fail
  go_ret2
  exact ⟨rfl, rfl⟩
set_option maxRecDepth 100000 in
set_option maxHeartbeats 1000000 in
theorem form_28 (w : World) : Calls Tryz.prog 16 #[.int .i64 28] w (FormPost [.ip6] w) := by
  go_enter Tryz.func16, Tryz.ntmps16
  go_wp2_with fail
  go_ret2
  exact ⟨rfl, rfl⟩
set_option maxRecDepth 100000 in
set_option maxHeartbeats 1000000 in
theorem form_33 (w : World) : Calls Tryz.prog 16 #[.int .i64 33] w (FormPost [.num 2, .num 2, .num 2, .host] w) := by
  go_enter Tryz.func16, Tryz.ntmps16
  go_wp2_with fail
  go_ret2
  exact ⟨rfl, rfl⟩
set_option maxRecDepth 100000 in
set_option maxHeartbeats 1000000 in
theorem form_35 (w : World) : Calls Tryz.prog 16 #[.int .i64 35] w (FormPost [.num 2, .num 2, .text, .text, .text, .host] w) := by
  go_enter Tryz.func16, Tryz.ntmps16
  go_wp2_with fail
  go_ret2
  exact ⟨rfl, rfl⟩
set_option maxRecDepth 100000 in
set_option maxHeartbeats 1000000 in
theorem form_43 (w : World) : Calls Tryz.prog 16 #[.int .i64 43] w (FormPost [.num 2, .num 1, .num 1, .hexes] w) := by
  go_enter Tryz.func16, Tryz.ntmps16
  go_wp2_with fail
  go_ret2
  exact ⟨rfl, rfl⟩
set_option maxRecDepth 100000 in
set_option maxHeartbeats 1000000 in
theorem form_46 (w : World) : Calls Tryz.prog 16 #[.int .i64 46] w (FormPost [.kind, .num 1, .num 1, .num 4, .num 4, .num 4, .num 2, .host, .b64] w) := by
  go_enter Tryz.func16, Tryz.ntmps16
  go_wp2_with fail
  go_ret2
  exact ⟨rfl, rfl⟩
set_option maxRecDepth 100000 in
set_option maxHeartbeats 1000000 in
theorem form_47 (w : World) : Calls Tryz.prog 16 #[.int .i64 47] w (FormPost [.host, .kinds] w) := by
  go_enter Tryz.func16, Tryz.ntmps16
  go_wp2_with fail
  go_ret2
  exact ⟨rfl, rfl⟩
set_option maxRecDepth 100000 in
set_option maxHeartbeats 1000000 in
theorem form_48 (w : World) : Calls Tryz.prog 16 #[.int .i64 48] w (FormPost [.num 2, .num 1, .num 1, .b64] w) := by
  go_enter Tryz.func16, Tryz.ntmps16
  go_wp2_with fail
  go_ret2
  exact ⟨rfl, rfl⟩
set_option maxRecDepth 100000 in
set_option maxHeartbeats 1000000 in
theorem form_50 (w : World) : Calls Tryz.prog 16 #[.int .i64 50] w (FormPost [.num 1, .num 1, .num 2, .salt, .hash, .kinds] w) := by
  go_enter Tryz.func16, Tryz.ntmps16
  go_wp2_with fail
  go_ret2
  exact ⟨rfl, rfl⟩
set_option maxRecDepth 100000 in
set_option maxHeartbeats 1000000 in
theorem form_51 (w : World) : Calls Tryz.prog 16 #[.int .i64 51] w (FormPost [.num 1, .num 1, .num 2, .salt] w) := by
  go_enter Tryz.func16, Tryz.ntmps16
  go_wp2_with fail
  go_ret2
  exact ⟨rfl, rfl⟩
set_option maxRecDepth 100000 in
set_option maxHeartbeats 1000000 in
theorem form_257 (w : World) : Calls Tryz.prog 16 #[.int .i64 257] w (FormPost [.num 1, .text, .tail] w) := by
  go_enter Tryz.func16, Tryz.ntmps16
  go_wp2_with fail
  go_ret2
  exact ⟨rfl, rfl⟩
set_option maxRecDepth 100000 in
set_option maxHeartbeats 1000000 in
theorem form_no (t : Int) (w : World) (h0 : formS t = none) : Calls Tryz.prog 16 #[.int .i64 t] w fun e w' => e = .returned (.tuple #[.slice none 0 0, .bool false]) ∧ w = w' := by
  have b1 : (t == 1) = false := by rw [beq_eq_false_iff_ne]; intro h; subst h; simp [formS] at h0
  have b2 : (t == 2) = false := by rw [beq_eq_false_iff_ne]; intro h; subst h; simp [formS] at h0
  have b5 : (t == 5) = false := by rw [beq_eq_false_iff_ne]; intro h; subst h; simp [formS] at h0
  have b12 : (t == 12) = false := by rw [beq_eq_false_iff_ne]; intro h; subst h; simp [formS] at h0
  have b39 : (t == 39) = false := by rw [beq_eq_false_iff_ne]; intro h; subst h; simp [formS] at h0
  have b6 : (t == 6) = false := by rw [beq_eq_false_iff_ne]; intro h; subst h; simp [formS] at h0
  have b13 : (t == 13) = false := by rw [beq_eq_false_iff_ne]; intro h; subst h; simp [formS] at h0
  have b15 : (t == 15) = false := by rw [beq_eq_false_iff_ne]; intro h; subst h; simp [formS] at h0
  have b16 : (t == 16) = false := by rw [beq_eq_false_iff_ne]; intro h; subst h; simp [formS] at h0
  have b28 : (t == 28) = false := by rw [beq_eq_false_iff_ne]; intro h; subst h; simp [formS] at h0
  have b33 : (t == 33) = false := by rw [beq_eq_false_iff_ne]; intro h; subst h; simp [formS] at h0
  have b35 : (t == 35) = false := by rw [beq_eq_false_iff_ne]; intro h; subst h; simp [formS] at h0
  have b43 : (t == 43) = false := by rw [beq_eq_false_iff_ne]; intro h; subst h; simp [formS] at h0
  have b46 : (t == 46) = false := by rw [beq_eq_false_iff_ne]; intro h; subst h; simp [formS] at h0
  have b47 : (t == 47) = false := by rw [beq_eq_false_iff_ne]; intro h; subst h; simp [formS] at h0
  have b48 : (t == 48) = false := by rw [beq_eq_false_iff_ne]; intro h; subst h; simp [formS] at h0
  have b50 : (t == 50) = false := by rw [beq_eq_false_iff_ne]; intro h; subst h; simp [formS] at h0
  have b51 : (t == 51) = false := by rw [beq_eq_false_iff_ne]; intro h; subst h; simp [formS] at h0
  have b257 : (t == 257) = false := by rw [beq_eq_false_iff_ne]; intro h; subst h; simp [formS] at h0
  clear h0
  go_enter Tryz.func16, Tryz.ntmps16
  go_wp2_with fail
  go_ret2
  exact ⟨rfl, rfl⟩
theorem form_yes (t : Int) (fs : List Fld) (w : World) (h : formS t = some fs) : Calls Tryz.prog 16 #[.int .i64 t] w (FormPost fs w) := by
  by_cases h1 : t = 1
  · subst h1
    have e : fs = _ := (Option.some.inj h).symm
    subst e
    exact form_1 w
  by_cases h2 : t = 2
  · subst h2
    have e : fs = _ := (Option.some.inj h).symm
    subst e
    exact form_2 w
  by_cases h5 : t = 5
  · subst h5
    have e : fs = _ := (Option.some.inj h).symm
    subst e
    exact form_5 w
  by_cases h12 : t = 12
  · subst h12
    have e : fs = _ := (Option.some.inj h).symm
    subst e
    exact form_12 w
  by_cases h39 : t = 39
  · subst h39
    have e : fs = _ := (Option.some.inj h).symm
    subst e
    exact form_39 w
  by_cases h6 : t = 6
  · subst h6
    have e : fs = _ := (Option.some.inj h).symm
    subst e
    exact form_6 w
  by_cases h13 : t = 13
  · subst h13
    have e : fs = _ := (Option.some.inj h).symm
    subst e
    exact form_13 w
  by_cases h15 : t = 15
  · subst h15
    have e : fs = _ := (Option.some.inj h).symm
    subst e
    exact form_15 w
  by_cases h16 : t = 16
  · subst h16
    have e : fs = _ := (Option.some.inj h).symm
    subst e
    exact form_16 w
  by_cases h28 : t = 28
  · subst h28
    have e : fs = _ := (Option.some.inj h).symm
    subst e
    exact form_28 w
  by_cases h33 : t = 33
  · subst h33
    have e : fs = _ := (Option.some.inj h).symm
    subst e
    exact form_33 w
  by_cases h35 : t = 35
  · subst h35
    have e : fs = _ := (Option.some.inj h).symm
    subst e
    exact form_35 w
  by_cases h43 : t = 43
  · subst h43
    have e : fs = _ := (Option.some.inj h).symm
    subst e
    exact form_43 w
  by_cases h46 : t = 46
  · subst h46
    have e : fs = _ := (Option.some.inj h).symm
    subst e
    exact form_46 w
  by_cases h47 : t = 47
  · subst h47
    have e : fs = _ := (Option.some.inj h).symm
    subst e
    exact form_47 w
  by_cases h48 : t = 48
  · subst h48
    have e : fs = _ := (Option.some.inj h).symm
    subst e
    exact form_48 w
  by_cases h50 : t = 50
  · subst h50
    have e : fs = _ := (Option.some.inj h).symm
    subst e
    exact form_50 w
  by_cases h51 : t = 51
  · subst h51
    have e : fs = _ := (Option.some.inj h).symm
    subst e
    exact form_51 w
  by_cases h257 : t = 257
  · subst h257
    have e : fs = _ := (Option.some.inj h).symm
    subst e
    exact form_257 w
  simp [formS, h1, h2, h5, h12, h39, h6, h13, h15, h16, h28, h33, h35, h43, h46, h47, h48, h50, h51, h257] at h
end Go.Proofs.YtkcpbjoolfojjaaGreatDoor.formW
namespace Go.Proofs.YtkcpbjoolfojjaaGreatDoor.typesW
open Go.RowKit Go.Proofs.YtkcpbjoolfojjaaGreatDoor.kit Go.Proofs.YtkcpbjoolfojjaaGreatDoor.nspec Go.Proofs.YtkcpbjoolfojjaaGreatDoor.bits Go.Proofs.YtkcpbjoolfojjaaGreatDoor.ints Go.Proofs.YtkcpbjoolfojjaaGreatDoor.fld Go.Proofs.YtkcpbjoolfojjaaGreatDoor.typesP Go.Proofs.YtkcpbjoolfojjaaGreatDoor.takes
set_option linter.unusedVariables false

/-- what Types leaves -/
def TypesPost (w : World) (d : Bs) (e : Ending) (w' : World) : Prop := Below w.heap.size w w' ∧ ((∃ (v : Value) (l : List Nat), typesS d = some l ∧ e = .returned (.tuple #[v, .int .i64 0]) ∧ w'.ownsRow w.heap.size 3 1 v l.length (l.map bitV)) ∨ (typesS d = none ∧ e = .returned (.tuple #[.slice none 0 0, .int .i64 7])))

theorem u_two {u : ByteArray} (h : 2 ≤ u.size) : u.data.toList = u[0] :: u[1] :: u.data.toList.drop 2 := by
  have h1 := drop_cons u 0 (by omega)
  have h2 := drop_cons u 1 (by omega)
  rw [List.drop_zero] at h1
  rw [h1, h2]; rfl
theorem res_none {d : Bs} {R : Option (List Nat)} (h : typesA (-1) [] d = R) (h2 : R = none) : typesS d = none := by rw [typesS_eq, h, h2]
theorem res_zero {d : Bs} {l : List Nat} (h : typesA (-1) [] d = some l) (h2 : 0 ∈ l) : typesS d = none := by rw [typesS_eq, h]; simp [h2]
theorem res_some {d : Bs} {l : List Nat} (h : typesA (-1) [] d = some l) (h2 : 0 ∉ l) : typesS d = some l := by rw [typesS_eq, h]; simp [h2]
theorem and1 {x : Int} (h₀ : 0 ≤ x) (h₁ : x < 256) : bits .and .u8 x 1 = x % 2 := bits_mask .u8 8 (by decide) (fun n h1 h2 => by rw [IntKind.wrap_u8]; omega) 1 (by decide) x h₀ h₁

set_option maxRecDepth 100000 in
set_option maxHeartbeats 8000000 in
theorem types_any (s : ByteArray) (w : World) (hs : s.size ≤ 1048576) :
    Calls Tryz.prog 182 #[.string s] w (TypesPost w s.data.toList) := by
  obtain ⟨i0, hi, hz0, hz1, hz2⟩ := info_parts infoInt
  obtain ⟨R, HR⟩ : ∃ R, Hid (typesA (-1) [] s.data.toList = R) := ⟨_, Lib.hid rfl⟩
  go_enter Tryz.func182, Tryz.ntmps182
  go_wp2_with fail
  go_loopg [0, 4, 5] (s.size + 1) (fun gas sv ov lv wr => ∃ (u : ByteArray) (L : Int) (A : List Nat), sv = .string u ∧ lv = .int .i64 L ∧ -1 ≤ L ∧ L ≤ 255 ∧ u.size + 1 ≤ gas ∧ u.size ≤ 1048576 ∧ A.length + 8 * u.size ≤ 8388608 ∧ Hid (typesA L A u.data.toList = R) ∧ wr.ownsRow w.heap.size 3 1 ov A.length (A.map bitV) ∧ Below w.heap.size w wr)
  case atStart => exact ⟨s, -1, [], rfl, rfl, by omega, by omega, by omega, hs, by simp; omega, HR, World.ownsRow_nil _ _ _ _, Below.refl _ _⟩
  case round =>
    obtain ⟨u, L, A, rfl, rfl, hL0, hL1, hgas, hus, hAu, HW, hA, hB⟩ := hrel
    obtain ⟨gk', hgk'⟩ : ∃ g, g = gk := ⟨_, rfl⟩
    rw [← hgk'] at hgas
    have HG := Lib.hid hgas; clear hgas
    have HB := Lib.hid hB
    by_cases h0 : u.size = 0
    · have he := emp_yes h0
      have HE : Hid (typesA (-1) [] s.data.toList = some A) := Lib.hid (by
        have hd : u.data.toList = [] := by rw [← Lib.toList_data]; exact he
        rw [HR.out, ← HW.out, hd, types_end])
      have hst := Lib.hid (sorted_of HE.out)
      obtain ⟨a, c, rfl, hlc, hcm, hR⟩ := RdN.of_own hA
      have HA := Lib.hid hA
      clear hA h0
      cases A with
      | nil =>
        have HF := Lib.hid (res_some HE.out (by simp))
        clear hR
        go_wp2_with fail
        go_ret2
        exact ⟨HB.out, .inl ⟨_, _, HF.out, rfl, HA.out⟩⟩
      | cons x r =>
        obtain ⟨g, o, rfl, hg, hcell⟩ := hR 0 x rfl
        unfold bitV at hcell
        simp only [Nat.add_zero] at hcell
        obtain ⟨n, hn⟩ : ∃ n, (x :: r).length = n := ⟨_, rfl⟩
        have hn1 : 1 ≤ n := by rw [← hn]; simp
        rw [hn] at hlc ⊢
        have HN := Lib.hid hn; clear hn
        have hni : (0 : Int) < (n : Int) := by omega
        have hnb : decide (0 < n) = true := by rw [decide_eq_true_eq]; omega
        by_cases hx : x = 0
        · have HF := Lib.hid (res_zero HE.out (by rw [hx]; simp))
          have hb : ((x : Int) == 0) = true := by rw [beq_iff_eq]; omega
          clear hx hR
          go_wp2_with fail
          go_ret2
          exact ⟨HB.out, .inr ⟨HF.out, rfl⟩⟩
        · have HF := Lib.hid (res_some HE.out (fun h => hx (by have := (zero_head hst.out.1).1 h; simpa using this)))
          have hb : ((x : Int) == 0) = false := by rw [beq_eq_false_iff_ne]; omega
          clear hx hR
          go_wp2_with fail
          go_ret2
          have h := HA.out
          rw [HN.out] at h
          exact ⟨HB.out, .inl ⟨_, x :: r, HF.out, rfl, by rw [HN.out]; exact h⟩⟩
    · have hne := emp_no (s := u) (by omega)
      by_cases h3 : u.size < 3
      · have HF := Lib.hid (res_none HR.out (by
          rw [← HW.out]
          by_cases h1 : u.size = 1
          · have hl : u.data.toList = u[0] :: u.data.toList.drop 1 := data_cons (by omega)
            rw [drop_end u 1 (by omega)] at hl
            rw [hl, types_one]
          · rw [u_two (by omega), types_bad]
            rw [drop_end u 2 (by omega)]
            rcases Nat.eq_zero_or_pos (u[1]'(by omega)).toNat with h4 | h4
            · right; left; omega
            · right; right; right; left; simpa using h4))
        have h3i : (u.size : Int) < 3 := by omega
        clear h3 h0 hA
        go_wp2_with fail
        go_ret2
        exact ⟨HB.out, .inr ⟨HF.out, rfl⟩⟩
      · have h3i : (3 : Int) ≤ (u.size : Int) := by omega
        have h2s : 2 ≤ u.size := by omega
        have hd := u_two (u := u) h2s
        have hml : (u.data.toList.drop 2).length = u.size - 2 := by rw [List.length_drop, size_len]
        have hlast : ∀ j, 2 + j < u.size → (u.data.toList.drop 2).getD j 0 = u.data.toList.getD (2 + j) 0 := fun j hj => by
          rw [List.getD_eq_getElem?_getD, List.getD_eq_getElem?_getD, List.getElem?_drop]
        have h1s : 1 < u.size := by omega
        have h0s : 0 < u.size := by omega
        obtain ⟨b, hb⟩ : ∃ b, u[0] = b := ⟨_, rfl⟩
        obtain ⟨n, hn⟩ : ∃ n, u[1] = n := ⟨_, rfl⟩
        rw [hb, hn] at hd
        obtain ⟨m, hm⟩ : ∃ m, u.data.toList.drop 2 = m := ⟨_, rfl⟩
        rw [hm] at hd hml hlast
        have hb256 := byte_lt b
        have hn256 := byte_lt n
        clear h3 h0
        have HD := Lib.hid hd; have HML := Lib.hid hml; have HLAST := Lib.hid hlast; have HMM := Lib.hid hm
        clear hd hml hlast hm
        have BAD : ∀ h : ((b.toNat : Int) ≤ L ∨ n.toNat < 1 ∨ 32 < n.toNat ∨ m.length < n.toNat ∨ m.getD (n.toNat - 1) 0 = 0), typesS s.data.toList = none := fun h =>
          res_none HR.out (by rw [← HW.out, HD.out, types_bad h])
        have HBAD := Lib.hid BAD; clear BAD
        by_cases c1 : (b.toNat : Int) ≤ L
        · have HF := Lib.hid (HBAD.out (.inl c1))
          clear hA
          go_wp2_with fail
          go_ret2
          exact ⟨HB.out, .inr ⟨HF.out, rfl⟩⟩
        have c1i : L < (b.toNat : Int) := by omega
        clear c1
        by_cases c2 : n.toNat < 1
        · have HF := Lib.hid (HBAD.out (.inr (.inl c2)))
          have c2i : (n.toNat : Int) < 1 := by omega
          have c2b : decide (n.toNat < 1) = true := by rw [decide_eq_true_eq]; exact c2
          clear hA c2
          go_wp2_with fail
          go_ret2
          exact ⟨HB.out, .inr ⟨HF.out, rfl⟩⟩
        have c2i : (1 : Int) ≤ (n.toNat : Int) := by omega
        have c2b : decide (n.toNat < 1) = false := by rw [decide_eq_false_iff_not]; exact c2
        clear c2
        by_cases c3 : 32 < n.toNat
        · have HF := Lib.hid (HBAD.out (.inr (.inr (.inl c3))))
          have c3i : (32 : Int) < (n.toNat : Int) := by omega
          have c3b : decide (32 < n.toNat) = true := by rw [decide_eq_true_eq]; exact c3
          clear hA c3
          go_wp2_with fail
          go_ret2
          exact ⟨HB.out, .inr ⟨HF.out, rfl⟩⟩
        have c3i : (n.toNat : Int) ≤ 32 := by omega
        have c3b : decide (32 < n.toNat) = false := by rw [decide_eq_false_iff_not]; exact c3
        clear c3
        by_cases c4 : m.length < n.toNat
        · have HF := Lib.hid (HBAD.out (.inr (.inr (.inr (.inl c4)))))
          have c4i : (u.size : Int) < 2 + (n.toNat : Int) := by have := HML.out; omega
          clear hA c4
          go_wp2_with fail
          go_ret2
          exact ⟨HB.out, .inr ⟨HF.out, rfl⟩⟩
        have c4i : 2 + (n.toNat : Int) ≤ (u.size : Int) := by have := HML.out; omega
        have HC4 := Lib.hid c4; clear c4
        have h1N : 1 + n.toNat < u.size := by omega
        obtain ⟨z, hz⟩ : ∃ z, u[1 + n.toNat] = z := ⟨_, rfl⟩
        have hz256 := byte_lt z
        have HZ : Hid (m.getD (n.toNat - 1) 0 = z) := Lib.hid (by
          rw [HLAST.out (n.toNat - 1) (by omega), show 2 + (n.toNat - 1) = 1 + n.toNat by omega, getD_at u (1 + n.toNat) h1N]; exact hz)
        by_cases c5 : z = 0
        · have HF := Lib.hid (HBAD.out (.inr (.inr (.inr (.inr (by rw [HZ.out]; exact c5))))))
          have hzb : ((z.toNat : Int) == 0) = true := by rw [c5]; rfl
          clear hA c5
          go_wp2_with fail
          go_ret2
          exact ⟨HB.out, .inr ⟨HF.out, rfl⟩⟩
        have hzb : ((z.toNat : Int) == 0) = false := by rw [beq_eq_false_iff_ne]; intro h; exact c5 (UInt8.toNat_inj.1 (by simpa using h))
        have c2n : 1 ≤ n.toNat := by omega
        have c3n : n.toNat ≤ 32 := by omega
        have hgo := types_go (last := L) (out := A) (b := b) (n := n) (m := m) (by
          rintro (h | h | h | h | h)
          · omega
          · omega
          · omega
          · exact HC4.out h
          · rw [HZ.out] at h; exact c5 h)
        have HGO : Hid (typesA (b.toNat : Int) (A ++ blockL b.toNat (m.take n.toNat)) (m.drop n.toNat) = R) := Lib.hid (by rw [← hgo, ← HD.out]; exact HW.out)
        clear hgo c5
        obtain ⟨A2, hA2⟩ : ∃ A2, A ++ blockL b.toNat (m.take n.toNat) = A2 := ⟨_, rfl⟩
        obtain ⟨BL, hBL⟩ : ∃ BL, bitsL (m.take n.toNat) = BL := ⟨_, rfl⟩
        have hBLl : BL.length = 8 * n.toNat := by rw [← hBL, bitsL_len, List.length_take]; have := HML.out; omega
        have HA2 : Hid (A ++ pickL b.toNat 0 (BL.drop 0) = A2) := Lib.hid (by rw [← hA2, List.drop_zero, ← hBL]; rfl)
        have HBIT : Hid (∀ k, k < 8 * n.toNat → ∀ (c : UInt8), (∀ h : 2 + k / 8 < u.size, u[2 + k / 8] = c) → BL[k]? = some (c.toNat / 2 ^ (7 - k % 8) % 2)) := Lib.hid (by
          intro k hk c hc
          have hml := HML.out
          have h1 := bitsL_get (m.take n.toNat) k (by rw [List.length_take]; omega)
          rw [hBL] at h1
          rw [h1]
          have h2 : 2 + k / 8 < u.size := by omega
          have h3 : (m.take n.toNat).getD (k / 8) 0 = c := by
            rw [List.getD_eq_getElem?_getD, List.getElem?_take, if_pos (by omega), ← List.getD_eq_getElem?_getD, HLAST.out (k / 8) h2, getD_at u _ h2]
            exact hc h2
          rw [h3])
        have HBLL := Lib.hid hBLl
        rw [hA2] at HGO
        clear hA2 hBL hBLl
        go_wp2_with fail
        go_loopg [4, 6, 54] (8 * n.toNat + 1) (fun gas ov _ kv wq => ∃ (k : Nat) (A' : List Nat), kv = .int .i64 k ∧ k ≤ 8 * n.toNat ∧ 8 * n.toNat + 1 ≤ k + gas ∧ Hid (A' ++ pickL b.toNat k (BL.drop k) = A2) ∧ A'.length ≤ A.length + k ∧ wq.ownsRow w.heap.size 3 1 ov A'.length (A'.map bitV) ∧ Below w.heap.size w wq)
        case atStart => exact ⟨0, A, rfl, by omega, by omega, HA2, by omega, hA, hB⟩
        case round =>
          clear hA hB HB
          obtain ⟨k, A', rfl, hk, hkg, HV, hAl, hA', hB'⟩ := hrel
          have HKG := Lib.hid hkg; clear hkg
          have HB' := Lib.hid hB'
          by_cases hlt : k < 8 * n.toNat
          · have hjb : 2 + k / 8 < u.size := by omega
            obtain ⟨c, hc⟩ : ∃ c, u[2 + k / 8] = c := ⟨_, rfl⟩
            have hc256 := byte_lt c
            have hbit := HBIT.out k hlt c (fun h => hc)
            obtain ⟨v, hv⟩ : ∃ v, c.toNat / 2 ^ (7 - k % 8) = v := ⟨_, rfl⟩
            have hv255 : v ≤ 255 := by rw [← hv]; have := Nat.div_le_self c.toNat (2 ^ (7 - k % 8)); omega
            obtain ⟨x, hx⟩ : ∃ x, v % 2 = x := ⟨_, rfl⟩
            have HXA : Hid (bits .and .u8 ((c.toNat : Int) / 2 ^ (7 - k % 8)) 1 = (x : Int)) := Lib.hid (by
              have e : (c.toNat : Int) / 2 ^ (7 - k % 8) = (v : Int) := by rw [← hv]; simp
              rw [e, and1 (by omega) (by omega)]; omega)
            rw [hv, hx] at hbit
            have HST := Lib.hid (pick_snoc HV.out hbit)
            have hji : 2 + (k : Int) / 8 < (u.size : Int) := by omega
            have hx2 : x < 2 := by omega
            clear hbit hv hx
            by_cases hx1 : x = 1
            · have hxb : (bits .and .u8 ((c.toNat : Int) / 2 ^ (7 - k % 8)) 1 == 1) = true := by rw [HXA.out, beq_iff_eq]; omega
              obtain ⟨t, ht⟩ : ∃ t, b.toNat * 256 + k = t := ⟨_, rfl⟩
              have HXT : Hid ((b.toNat : Int) * 256 + (k : Int) = (t : Int)) := Lib.hid (by omega)
              have HST2 : Hid ((A' ++ [t]) ++ pickL b.toNat (k + 1) (BL.drop (k + 1)) = A2) := Lib.hid (by rw [← ht]; simpa [hx1] using HST.out)
              have hAb : A'.length + 1 ≤ 8388609 := by omega
              have hsz := hB'.size
              clear ht HST hx1
              go_wp2_with (at_builtin; refine wpList_append_own _ rfl _ _ 99 rfl w.heap.size 3 i0 (.int .i64 0) 1 8 Tryz.underlying99 hi hz0 hz1 hz2 rfl (by decide) _ _ _ rfl (hA'.alloc _) ⟨wr.heap.size, 0, none⟩ 1 1 [.int .i64 ((b.toNat : Int) * 256 + (k : Int))] rfl rfl ?c1 ?c2 ?c3 ?c4 ?c5 ?_)
              case c1 => exact cell_one_new _ _ _
              case c2 => simp [Value.oneCell']
              case c3 => unfold maxLen; omega
              case c4 => omega
              case c5 => simp; omega
              intro v' w1 hown' hgrow hnil
              rw [HXT.out] at hown'
              have hown2 := own_snocN hown'
              have hB2 := below_append hB' hsz hA' hgrow
              clear hown' hgrow hA' hnil
              go_wp2_with fail
              have hkg := HKG.out
              go_roundg (gk - 1)
              case rel => exact ⟨k + 1, A' ++ [t], by go_num, by omega, by omega, HST2, by simp; omega, hown2, hB2⟩
              case measure => omega
            · have hxb : (bits .and .u8 ((c.toNat : Int) / 2 ^ (7 - k % 8)) 1 == 1) = false := by rw [HXA.out, beq_eq_false_iff_ne]; omega
              have HST2 : Hid (A' ++ pickL b.toNat (k + 1) (BL.drop (k + 1)) = A2) := Lib.hid (by simpa [hx1] using HST.out)
              clear hx1 HST
              go_wp2_with fail
              have hkg := HKG.out
              go_roundg (gk - 1)
              case rel => exact ⟨k + 1, A', by go_num, by omega, by omega, HST2, by omega, hA', hB'⟩
              case measure => omega
          · have hke : k = 8 * n.toNat := by omega
            have HAE := Lib.hid (pick_end HV.out (by have := HBLL.out; omega))
            have hA2l : A2.length ≤ A.length + 8 * n.toNat := by rw [← HAE.out]; omega
            rw [HAE.out] at hA'
            subst hke
            have hu2 : (u.extract (2 + n.toNat) u.size).data.toList = m.drop n.toNat := by
              rw [Lib.extract_data, List.take_of_length_le (by rw [List.length_drop, size_len]; exact Nat.le_refl _), ← HMM.out, List.drop_drop]
            have hus2 : (u.extract (2 + n.toNat) u.size).size = u.size - (2 + n.toNat) := by rw [ByteArray.size_extract]; omega
            have HU2 := Lib.hid hu2; have HUS2 := Lib.hid hus2
            clear hu2 hus2
            go_wp2_with fail
            have hG := HG.out
            go_roundg (gk' - 1)
            case rel =>
              have h2 := HUS2.out
              exact ⟨_, _, A2, rfl, rfl, by omega, by omega, by omega, by omega, by omega, by rw [HU2.out]; exact HGO, hA', hB'⟩
            case measure => omega
end Go.Proofs.YtkcpbjoolfojjaaGreatDoor.typesW
namespace Go.Proofs.YtkcpbjoolfojjaaGreatDoor.kindsT
open Go.RowKit Go.Proofs.YtkcpbjoolfojjaaGreatDoor.kit Go.Proofs.YtkcpbjoolfojjaaGreatDoor.nspec Go.Proofs.YtkcpbjoolfojjaaGreatDoor.fld Go.Proofs.YtkcpbjoolfojjaaGreatDoor.typesW
set_option linter.unusedVariables false

set_option maxRecDepth 100000 in
set_option maxHeartbeats 1000000 in
theorem kinds_any (s : ByteArray) (w : World) (hs : s.size ≤ 1048576) :
    Calls Tryz.prog 180 #[.agg #[], .string s] w fun e w' => e = .returned (.int .i64 (takeS .kinds s.data.toList)) ∧ Below w.heap.size w w' := by
  have C := Lib.hid (fun w => types_any s w hs)
  have hBa := Lib.hid ((Below.refl w.heap.size w).alloc (Nat.le_refl _) (.cells #[] 91))
  obtain ⟨R, HR⟩ : ∃ R, Hid (takeS .kinds s.data.toList = R) := ⟨_, Lib.hid rfl⟩
  rw [HR.out]
  go_enter Tryz.func180, Tryz.ntmps180
  go_wp2_with fail
  refine (C.out _).mono ?_
  rintro e w1 ⟨hB1, ⟨v, l, hl, rfl, _⟩ | ⟨hl, rfl⟩⟩
  · have HB := Lib.hid (hBa.out.trans (hB1.mono hBa.out.size))
    have HN : Hid ((s.size : Int) = R) := Lib.hid (by rw [← HR.out]; simp only [takeS]; rw [if_neg (by rw [hl]; simp), size_len])
    clear hB1 hl
    go_wp2_with fail
    go_ret
    exact ⟨by rw [← HN.out]; rfl, HB.out⟩
  · have HB := Lib.hid (hBa.out.trans (hB1.mono hBa.out.size))
    have HN : Hid ((-1 : Int) = R) := Lib.hid (by rw [← HR.out]; simp only [takeS]; rw [if_pos hl])
    clear hB1 hl
    go_wp2_with fail
    go_ret
    exact ⟨by rw [← HN.out]; rfl, HB.out⟩
end Go.Proofs.YtkcpbjoolfojjaaGreatDoor.kindsT
namespace Go.Proofs.YtkcpbjoolfojjaaGreatDoor.hostP
open Go.Proofs.YtkcpbjoolfojjaaGreatDoor.kit Go.Proofs.YtkcpbjoolfojjaaGreatDoor.nspec Go.Proofs.YtkcpbjoolfojjaaGreatDoor.nameA Go.Proofs.YtkcpbjoolfojjaaGreatDoor.fld
set_option linter.unusedVariables false

theorem put_head (ls : List Bs) (j : Nat) (h : j ≤ ls.length) : (put ls)[room (ls.take j)]? = some (if h2 : j < ls.length then UInt8.ofNat (ls[j]).length else 0) := by
  have e : (put ls)[room (ls.take j)]? = ((put ls).drop (room (ls.take j)))[0]? := by simp
  rw [e, put_drop]
  by_cases h2 : j < ls.length
  · rw [dif_pos h2, List.drop_eq_getElem_cons h2]; rfl
  · rw [dif_neg h2, List.drop_eq_nil_iff.2 (by omega)]; rfl
theorem room_step (ls : List Bs) (j : Nat) (h : j < ls.length) : room (ls.take (j + 1)) = room (ls.take j) + 1 + (ls[j]).length := by
  rw [List.take_succ_eq_append_getElem h, room_append]; simp [room]; omega
theorem room_le (ls : List Bs) (j : Nat) : room (ls.take j) ≤ room ls := by
  have := room_append (ls.take j) (ls.drop j)
  rw [List.take_append_drop] at this; omega
theorem take_at {d : Bs} {k a : Nat} (ha : a < k) : (d.take k)[a]? = d[a]? := by rw [List.getElem?_take]; simp [ha]

/-- how far the scan has come: at the head of a label of each name that stands first -/
def Scan (d : Bs) (a : Nat) : Prop := ∀ (k : Nat) (ls : List Bs), k ≤ d.length → IsN (d.take k) ls → ∃ j, j ≤ ls.length ∧ a = room (ls.take j)
theorem name_len {d : Bs} {k : Nat} {ls : List Bs} (hk : k ≤ d.length) (h : IsN (d.take k) ls) : k = room ls + 1 := by
  have := congrArg List.length h.1
  rw [put_length, List.length_take] at this; omega
theorem Scan.start (d : Bs) : Scan d 0 := fun k ls _ _ => ⟨0, Nat.zero_le _, rfl⟩
theorem Scan.step {d : Bs} {a : Nat} {c : UInt8} (h : Scan d a) (hc : d[a]? = some c) (h0 : c.toNat ≠ 0) : Scan d (a + (1 + c.toNat)) := by
  intro k ls hk hN
  obtain ⟨j, hj, rfl⟩ := h k ls hk hN
  have hl := name_len hk hN
  have hr := room_le ls j
  have hp := put_head ls j hj
  rw [← hN.1, take_at (by omega), hc] at hp
  by_cases h2 : j < ls.length
  · rw [dif_pos h2] at hp
    have he : c = UInt8.ofNat (ls[j]).length := by simpa using hp
    have hx := hN.2.1 _ (List.getElem_mem h2)
    have hn : c.toNat = (ls[j]).length := by rw [he]; exact nat_of (by omega)
    exact ⟨j + 1, by omega, by rw [room_step ls j h2]; omega⟩
  · rw [dif_neg h2] at hp
    have he : c = 0 := by simpa using hp
    rw [he] at h0; exact absurd rfl h0
theorem host_none {d : Bs} (h : ∀ (k : Nat) (ls : List Bs), k ≤ d.length → ¬ IsN (d.take k) ls) : hostS d = -1 := by
  have : (List.range 256).find? (fun k => (split (d.take k)).isSome) = none := by
    rw [List.find?_eq_none]
    intro k _ hs
    obtain ⟨ls, hls⟩ := Option.isSome_iff_exists.1 hs
    have hN := split_iff.1 hls
    rcases Nat.lt_or_ge d.length k with h1 | h1
    · rw [List.take_of_length_le (by omega)] at hN
      exact h d.length ls (Nat.le_refl _) (by rw [List.take_of_length_le (Nat.le_refl _)]; exact hN)
    · exact h k ls h1 hN
  unfold hostS; rw [this]
theorem host_some {d : Bs} {m : Nat} {ls : List Bs} (hm : m ≤ d.length) (hN : IsN (d.take m) ls) (h : ∀ (k : Nat) (ls : List Bs), k < m → ¬ IsN (d.take k) ls) : hostS d = (m : Int) := by
  have hl := hN.2.2
  rw [List.length_take] at hl
  have : (List.range 256).find? (fun k => (split (d.take k)).isSome) = some m := by
    rw [List.find?_range_eq_some]
    refine ⟨?_, by rw [List.mem_range]; omega, ?_⟩
    · rw [split_iff.2 hN]; rfl
    · intro j hj
      cases hs : split (d.take j) with
      | none => rfl
      | some l => exact absurd (split_iff.1 hs) (h j l hj)
  unfold hostS; rw [this]
theorem Scan.far {d : Bs} {a : Nat} (h : Scan d a) (ha : d.length ≤ a) : hostS d = -1 := by
  refine host_none fun k ls hk hN => ?_
  obtain ⟨j, hj, rfl⟩ := h k ls hk hN
  have := name_len hk hN
  have := room_le ls j
  omega
theorem Scan.no {d : Bs} {a : Nat} (h : Scan d a) (hz : d[a]? = some 0) (hs : split (d.take (a + 1)) = none) : hostS d = -1 := by
  have hlt := (List.getElem?_eq_some_iff.1 hz).1
  refine host_none fun k ls hk hN => ?_
  obtain ⟨j, hj, rfl⟩ := h k ls hk hN
  have hl := name_len hk hN
  have hr := room_le ls j
  have hp := put_head ls j hj
  rw [← hN.1, take_at (by omega), hz] at hp
  by_cases h2 : j < ls.length
  · rw [dif_pos h2] at hp
    have he : (0 : UInt8) = UInt8.ofNat (ls[j]).length := by simpa using hp
    have hx := hN.2.1 _ (List.getElem_mem h2)
    have hn : (0 : UInt8).toNat = (ls[j]).length := by rw [he]; exact nat_of (by omega)
    have : (0 : UInt8).toNat = 0 := rfl
    omega
  · have hje : j = ls.length := by omega
    subst hje
    rw [List.take_of_length_le (Nat.le_refl _)] at hs
    rw [← hl] at hs
    rw [split_iff.2 hN] at hs; simp at hs
theorem Scan.yes {d : Bs} {a : Nat} (h : Scan d a) (ha : a + 1 ≤ d.length) {ls : List Bs} (hN : IsN (d.take (a + 1)) ls) : hostS d = ((a + 1 : Nat) : Int) := by
  refine host_some ha hN fun k l hk hN2 => ?_
  obtain ⟨j, hj, rfl⟩ := h k l (by omega) hN2
  have := name_len (by omega) hN2
  have := room_le l j
  omega
end Go.Proofs.YtkcpbjoolfojjaaGreatDoor.hostP
namespace Go.Proofs.YtkcpbjoolfojjaaGreatDoor.hostT
open Go.RowKit Go.Proofs.YtkcpbjoolfojjaaGreatDoor.kit Go.Proofs.YtkcpbjoolfojjaaGreatDoor.check Go.Proofs.YtkcpbjoolfojjaaGreatDoor.nspec Go.Proofs.YtkcpbjoolfojjaaGreatDoor.rsplit Go.Proofs.YtkcpbjoolfojjaaGreatDoor.fld Go.Proofs.YtkcpbjoolfojjaaGreatDoor.hostP Go.Proofs.YtkcpbjoolfojjaaGreatDoor.takes
set_option linter.unusedVariables false

theorem at_some {s : ByteArray} {a : Nat} {c : UInt8} (h : a < s.size) (hc : s[a] = c) : s.data.toList[a]? = some c := by
  have h' : a < s.data.toList.length := by rw [size_len]; exact h
  rw [List.getElem?_eq_getElem h', ← hc]; rfl
theorem ext0 (s : ByteArray) (n : Nat) : (s.extract 0 n).data.toList = s.data.toList.take n := by rw [Lib.extract_data]; simp

set_option maxRecDepth 100000 in
set_option maxHeartbeats 2000000 in
theorem host_any (s : ByteArray) (w : World) (hs : s.size ≤ 1099511627776) :
    Calls Tryz.prog 142 #[.agg #[], .string s] w fun e w' => e = .returned (.int .i64 (takeS .host s.data.toList)) ∧ Below w.heap.size w w' := by
  have hBa := Lib.hid ((Below.refl w.heap.size w).alloc (Nat.le_refl _) (.cells #[] 84))
  have HS0 := Lib.hid (Scan.start s.data.toList)
  obtain ⟨R, HR⟩ : ∃ R, Hid (hostS s.data.toList = R) := ⟨_, Lib.hid rfl⟩
  have HT : Hid (takeS .host s.data.toList = R) := Lib.hid HR.out
  rw [HT.out]
  go_enter Tryz.func142, Tryz.ntmps142
  go_wp2_with fail
  go_loopg [5] (s.size + 300) (fun gas av wr => ∃ a : Nat, av = .int .i64 a ∧ a ≤ s.size + 256 ∧ s.size + 258 ≤ a + gas ∧ Hid (Scan s.data.toList a) ∧ Below w.heap.size w wr)
  case atStart => exact ⟨0, rfl, by omega, by omega, HS0, hBa.out⟩
  case round =>
    obtain ⟨a, rfl, ha, hgas, HS, hB⟩ := hrel
    have HG := Lib.hid hgas; clear hgas
    have HB := Lib.hid hB; clear hB
    by_cases hlt : a < s.size
    · obtain ⟨c, hc⟩ : ∃ c, s[a] = c := ⟨_, rfl⟩
      have hc256 := byte_lt c
      have HC := Lib.hid (at_some hlt hc)
      by_cases h0 : c.toNat = 0
      · have hc0 : c = 0 := UInt8.toNat_inj.1 h0
        have hz : ((c.toNat : Int)) = 0 := by omega
        have hb : decide (0 < c.toNat) = false := by rw [decide_eq_false_iff_not]; omega
        have hes : (s.extract 0 (a + 1)).data.toList = s.data.toList.take (a + 1) := ext0 s (a + 1)
        have CK := Lib.hid (fun w => check_any (s.extract 0 (a + 1)) w (by rw [ByteArray.size_extract]; omega))
        have hle : (a : Int) + 1 ≤ (s.size : Int) := by omega
        have hlt2 : (a : Int) < (s.size : Int) := by omega
        rcases isB_or (s.extract 0 (a + 1)) with ⟨ls, hN⟩ | hN
        · rw [chk_yes hN] at CK
          rw [hes] at hN
          have HY := Lib.hid (HS.out.yes (by rw [size_len]; omega) hN)
          clear h0 hz hc0 hes hN
          go_wp2_with fail
          refine (CK.out _).mono ?_
          rintro e w1 ⟨rfl, hB1⟩
          have HB1 := Lib.hid (HB.out.trans (hB1.mono HB.out.size)); clear hB1
          go_wp2_with fail
          go_ret
          exact ⟨by rw [← HR.out, HY.out]; rfl, HB1.out⟩
        · rw [chk_no hN] at CK
          rw [hes] at hN
          have HY := Lib.hid (HS.out.no (by rw [HC.out, hc0]) hN)
          clear h0 hz hc0 hes hN
          go_wp2_with fail
          refine (CK.out _).mono ?_
          rintro e w1 ⟨rfl, hB1⟩
          have HB1 := Lib.hid (HB.out.trans (hB1.mono HB.out.size)); clear hB1
          go_wp2_with fail
          go_ret
          exact ⟨by rw [← HR.out, HY.out]; rfl, HB1.out⟩
      · have HS2 := Lib.hid (HS.out.step HC.out h0)
        have hb : decide (0 < c.toNat) = true := by rw [decide_eq_true_eq]; omega
        clear h0
        go_wp2_with fail
        have hgas := HG.out
        go_roundg (gk - 1)
        case rel => exact ⟨a + (1 + c.toNat), by go_num, by omega, by omega, HS2, HB.out⟩
        case measure => omega
    · have HY := Lib.hid (HS.out.far (by rw [size_len]; omega))
      have hge : (s.size : Int) ≤ (a : Int) := by omega
      clear hlt
      go_wp2_with fail
      go_ret
      exact ⟨by rw [← HR.out, HY.out]; rfl, HB.out⟩
end Go.Proofs.YtkcpbjoolfojjaaGreatDoor.hostT
namespace Go.Proofs.YtkcpbjoolfojjaaGreatDoor.textsT
open Go.RowKit Go.Proofs.YtkcpbjoolfojjaaGreatDoor.kit Go.Proofs.YtkcpbjoolfojjaaGreatDoor.nspec Go.Proofs.YtkcpbjoolfojjaaGreatDoor.fld Go.Proofs.YtkcpbjoolfojjaaGreatDoor.takes
set_option linter.unusedVariables false

def textsA (at0 : Nat) (d : Bs) : Int := textsF (d.length + 1) at0 d
theorem texts_end (at0 : Nat) : textsA at0 [] = if at0 = 0 then -1 else (at0 : Int) := rfl
theorem texts_go {at0 : Nat} {c : UInt8} {r : Bs} (h : c.toNat ≤ r.length) : textsA at0 (c :: r) = textsA (at0 + (1 + c.toNat)) (r.drop c.toNat) := by
  unfold textsA
  rw [List.length_cons, textsF, if_neg (by omega)]
  exact texts_fuel _ _ _ _ (by rw [List.length_drop]; omega) (by omega)
theorem texts_bad {at0 : Nat} {c : UInt8} {r : Bs} (h : r.length < c.toNat) : textsA at0 (c :: r) = -1 := by
  unfold textsA
  rw [List.length_cons, textsF, if_pos h]
theorem ext_end (s : ByteArray) (a : Nat) : (s.extract a s.size).data.toList = s.data.toList.drop a := by
  rw [Lib.extract_data]; rw [List.take_of_length_le (by rw [List.length_drop, size_len]; exact Nat.le_refl _)]

set_option maxRecDepth 100000 in
set_option maxHeartbeats 2000000 in
theorem texts_any (s : ByteArray) (w : World) (hs : s.size ≤ 1099511627776) :
    Calls Tryz.prog 158 #[.agg #[], .string s] w fun e w' => e = .returned (.int .i64 (takeS .texts s.data.toList)) ∧ Below w.heap.size w w' := by
  have hBa := Lib.hid ((Below.refl w.heap.size w).alloc (Nat.le_refl _) (.cells #[] 86))
  obtain ⟨R, HR⟩ : ∃ R, Hid (textsA 0 (s.data.toList.drop 0) = R) := ⟨_, Lib.hid rfl⟩
  have HT : Hid (takeS .texts s.data.toList = R) := Lib.hid HR.out
  rw [HT.out]
  go_enter Tryz.func158, Tryz.ntmps158
  go_wp2_with fail
  go_loopg [5, 6] (s.size + 1) (fun gas av _ wr => ∃ a : Nat, av = .int .i64 a ∧ a ≤ s.size ∧ s.size + 1 ≤ a + gas ∧ Hid (textsA a (s.data.toList.drop a) = R) ∧ Below w.heap.size w wr)
  case atStart => exact ⟨0, rfl, by omega, by omega, HR, hBa.out⟩
  case round =>
    obtain ⟨a, rfl, ha, hgas, HS, hB⟩ := hrel
    have HG := Lib.hid hgas; clear hgas
    have HB := Lib.hid hB; clear hB
    by_cases hlt : a < s.size
    · obtain ⟨c, hc⟩ : ∃ c, s[a] = c := ⟨_, rfl⟩
      have hd := drop_cons s a hlt
      rw [hc] at hd
      have hl : (s.data.toList.drop (a + 1)).length = s.size - (a + 1) := by rw [List.length_drop, size_len]
      have CT := Lib.hid (fun w => text_any (s.extract a s.size) w (by rw [ByteArray.size_extract]; omega))
      rw [ext_end, hd] at CT
      have h1 : (a : Int) ≤ (s.size : Int) := by omega
      by_cases h2 : (s.data.toList.drop (a + 1)).length < c.toNat
      · have e1 : textS (c :: s.data.toList.drop (a + 1)) = -1 := by simp only [textS]; rw [if_pos h2]
        have HN : Hid (-1 = R) := Lib.hid (by rw [← HS.out, hd, texts_bad h2])
        rw [e1] at CT
        clear e1 h2 hd hl
        go_wp2_with fail
        refine (CT.out _).mono ?_
        rintro e w1 ⟨rfl, hB1⟩
        have HB1 := Lib.hid (HB.out.trans (hB1.mono HB.out.size)); clear hB1
        go_wp2_with fail
        go_ret
        exact ⟨by rw [← HN.out]; rfl, HB1.out⟩
      · have e1 : textS (c :: s.data.toList.drop (a + 1)) = ((1 + c.toNat : Nat) : Int) := by simp only [textS]; rw [if_neg h2]; simp
        obtain ⟨n, hn⟩ : ∃ n, 1 + c.toNat = n := ⟨_, rfl⟩
        have hns : a + n ≤ s.size := by omega
        have HN : Hid (textsA (a + n) (s.data.toList.drop (a + n)) = R) := Lib.hid (by
          rw [← HS.out, hd, texts_go (by omega), List.drop_drop, hn, show a + 1 + c.toNat = a + n by omega])
        rw [e1, hn] at CT
        have hn1 : 1 ≤ n := by omega
        clear e1 h2 hd hl hn
        go_wp2_with fail
        refine (CT.out _).mono ?_
        rintro e w1 ⟨rfl, hB1⟩
        have HB1 := Lib.hid (HB.out.trans (hB1.mono HB.out.size)); clear hB1
        go_wp2_with fail
        have hgas := HG.out
        go_roundg (gk - 1)
        case rel => exact ⟨a + n, by go_num, by omega, by omega, HN, HB1.out⟩
        case measure => omega
    · have hae : a = s.size := by omega
      subst hae
      have HN : Hid ((if s.size = 0 then -1 else (s.size : Int)) = R) := Lib.hid (by rw [← HS.out, drop_end s s.size (Nat.le_refl _), texts_end])
      clear hlt
      by_cases h0 : s.size = 0
      · have hz : ((s.size : Int) == 0) = true := by rw [beq_iff_eq]; omega
        rw [if_pos h0] at HN
        have H0 := Lib.hid h0; clear h0
        go_wp2_with fail
        go_ret
        exact ⟨by rw [← HN.out]; rfl, HB.out⟩
      · have hz : ((s.size : Int) == 0) = false := by rw [beq_eq_false_iff_ne]; omega
        rw [if_neg h0] at HN
        clear h0
        go_wp2_with fail
        go_ret
        exact ⟨by rw [← HN.out]; rfl, HB.out⟩
end Go.Proofs.YtkcpbjoolfojjaaGreatDoor.textsT
