/- name.escaped and its closure: walks. -/
import Derived.Test.YthblaldkpjilhaaReadS
import Derived.Deep.QuietTactic
import Derived.BigQuiet
import Derived.Laws.BitsLemmas
namespace Go.Proofs.Ythblaldkpjilhaa.escaped
open Go.RowKit Go.Proofs.Ythblaldkpjilhaa.kit Go.Proofs.Ythblaldkpjilhaa.nspec Go.Proofs.Ythblaldkpjilhaa.readS
set_option linter.unusedVariables false

theorem below_drewN (B : Nat) (w : World) (n : Nat) : Below B w (w.drewN n) := ⟨rfl, rfl, rfl, Nat.le_refl _, fun _ _ => rfl⟩
def digAt (l : Bs) (j : Nat) : Bool := match l[j]? with | none => false | some c => digB c
theorem digAt_out {s : ByteArray} {j : Nat} (h : s.size ≤ j) : digAt s.data.toList j = false := by
  unfold digAt; rw [List.getElem?_eq_none (by rw [size_len]; exact h)]
theorem digAt_in {s : ByteArray} {j : Nat} (h : j < s.size) : digAt s.data.toList j = digB s[j] := by
  unfold digAt
  have : s.data.toList[j]? = some s[j] := List.getElem?_eq_getElem (by rw [size_len]; exact h)
  rw [this]

set_option maxRecDepth 100000 in
set_option maxHeartbeats 400000 in
theorem dig_any (s : ByteArray) (j : Nat) (g : Nat) (w : World) (hs : s.size ≤ 1099511627776) (hj : j ≤ 1099511627800) (hc : w.cell? ⟨g, 0, none⟩ = some (.string s)) :
    Calls Try.prog 120 #[.int .i64 (j : Int), .pointer (some ⟨g, 0, none⟩)] w fun e w' => e = .returned (.bool (digAt s.data.toList j)) ∧ w' = w := by
  by_cases hlt : j < s.size
  · rw [digAt_in hlt]
    have hc256 := byte_lt s[j]
    have hlti : (j : Int) < (s.size : Int) := by omega
    by_cases h1 : (48 : Int) ≤ (s[j].toNat : Int)
    · by_cases h2 : (s[j].toNat : Int) ≤ 57
      · have HD := Lib.hid (digB_yes (c := s[j]) ⟨by omega, by omega⟩)
        go_enter Try.func120, Try.ntmps120
        go_wp2
        go_ret
        exact ⟨by rw [HD.out]; rfl, rfl⟩
      · have HD := Lib.hid (digB_no (c := s[j]) (.inr (by omega)))
        have h2 : (57 : Int) < (s[j].toNat : Int) := by omega
        go_enter Try.func120, Try.ntmps120
        go_wp2
        go_ret
        exact ⟨by rw [HD.out]; rfl, rfl⟩
    · have HD := Lib.hid (digB_no (c := s[j]) (.inl (by omega)))
      have h2 : (s[j].toNat : Int) < 48 := by omega
      go_enter Try.func120, Try.ntmps120
      go_wp2
      go_ret
      exact ⟨by rw [HD.out]; rfl, rfl⟩
  · have HD := Lib.hid (digAt_out (s := s) (j := j) (by omega))
    have hge : (s.size : Int) ≤ (j : Int) := by omega
    go_enter Try.func120, Try.ntmps120
    go_wp2
    go_ret
    exact ⟨by rw [HD.out]; rfl, rfl⟩

theorem dig_at (s : ByteArray) (j : Int) (n : Nat) (g : Nat) (w : World) (hj : j = (n : Int)) (hs : s.size ≤ 1099511627776) (hn : n ≤ 1099511627800) (hc : w.cell? ⟨g, 0, none⟩ = some (.string s)) :
    Calls Try.prog 120 #[.int .i64 j, .pointer (some ⟨g, 0, none⟩)] w fun e w' => e = .returned (.bool (digAt s.data.toList n)) ∧ w' = w := by
  subst hj; exact dig_any s n g w hs hn hc

def retE : Option (UInt8 × Nat) → Ending
  | none => .returned (.tuple #[.int .u8 0, .int .i64 0])
  | some (b, n) => .returned (.tuple #[.int .u8 (b.toNat : Int), .int .i64 (n : Int)])
theorem esc_none {l : Bs} (h : l = []) : escS l = none := by subst h; rfl
theorem esc_plain {l r : Bs} {d : UInt8} (h : l = d :: r) (hd : digB d = false) : escS l = some (d, 2) := by
  subst h; simp [escS, hd]
theorem esc_bad {l r : Bs} {d : UInt8} (h : l = d :: r) (hd : digB d = true) (h2 : digAt r 0 = false ∨ digAt r 1 = false) : escS l = none := by
  subst h
  match r, h2 with
  | [], _ => simp [escS, hd]
  | [a], _ => simp [escS, hd]
  | a :: b :: t, h2 =>
    have h3 : (digB a && digB b) = false := by
      rw [Bool.and_eq_false_iff]
      simpa [digAt] using h2
    simp [escS, hd, h3]
theorem esc_num {l t : Bs} {d a b : UInt8} (h : l = d :: a :: b :: t) (hd : digB d = true) (ha : digB a = true) (hb : digB b = true) :
    escS l = if 255 < (d.toNat - 48) * 100 + (a.toNat - 48) * 10 + (b.toNat - 48) then none else some (UInt8.ofNat ((d.toNat - 48) * 100 + (a.toNat - 48) * 10 + (b.toNat - 48)), 4) := by
  subst h; simp [escS, hd, ha, hb]
theorem digB_cases (c : UInt8) : (digB c = true ∧ 48 ≤ c.toNat ∧ c.toNat ≤ 57) ∨ digB c = false := by
  cases h : digB c
  · exact .inr rfl
  · left
    unfold digB at h
    rw [Bool.and_eq_true, decide_eq_true_eq, decide_eq_true_eq] at h
    exact ⟨rfl, h.1, h.2⟩
theorem digAt_drop (l : Bs) (k j : Nat) : digAt (l.drop k) j = digAt l (k + j) := by unfold digAt; rw [List.getElem?_drop]

set_option maxRecDepth 100000 in
set_option maxHeartbeats 2000000 in
theorem escaped_any (s : ByteArray) (k : Nat) (w : World) (hs : s.size ≤ 1099511627776) (hk : k < s.size) :
    Calls Try.prog 60 #[.string s, .int .i64 (k : Int)] w fun e w' => e = retE (escS (s.data.toList.drop (k + 1))) ∧ Below w.heap.size w w' := by
  obtain ⟨R, HR⟩ : ∃ R, Hid (escS (s.data.toList.drop (k + 1)) = R) := ⟨_, Lib.hid rfl⟩
  rw [HR.out]
  have hBa := (Below.refl w.heap.size w).alloc (Nat.le_refl _) (.cells #[.string s] 9)
  have hbc := (Boxed.new w 9 (.string s)).cell
  by_cases h1 : k + 1 < s.size
  · have h1i : (k : Int) + 1 < (s.size : Int) := by omega
    obtain ⟨d, hd⟩ : ∃ d, s[k + 1] = d := ⟨_, rfl⟩
    have HDR : Hid (s.data.toList.drop (k + 1) = d :: s.data.toList.drop (k + 1 + 1)) := Lib.hid (by rw [drop_cons s (k + 1) h1, hd])
    have hx1 : digAt s.data.toList (k + 1) = digB d := by rw [digAt_in h1, hd]
    have C1 := Lib.hid (dig_at s ((k : Int) + 1) (k + 1) w.heap.size _ (by omega) hs (by omega) hbc)
    have C2 := Lib.hid (dig_at s ((k : Int) + 2) (k + 2) w.heap.size _ (by omega) hs (by omega) hbc)
    have C3 := Lib.hid (dig_at s ((k : Int) + 3) (k + 3) w.heap.size _ (by omega) hs (by omega) hbc)
    rw [hx1] at C1
    clear hx1
    rcases digB_cases d with ⟨hd1, hd2, hd3⟩ | hd1
    · rw [hd1] at C1
      cases h2 : digAt s.data.toList (k + 2)
      · have HN : Hid (R = none) := Lib.hid (by rw [← HR.out]; exact esc_bad HDR.out hd1 (.inl (by rw [digAt_drop]; exact h2)))
        rw [h2] at C2
        clear hd hd1 h2 hbc
        go_enter Try.func60, Try.ntmps60
        go_wp2_with fail
        refine C1.out.mono ?_
        rintro e w1 ⟨rfl, rfl⟩
        go_wp2_with fail
        refine C2.out.mono ?_
        rintro e w1 ⟨rfl, rfl⟩
        go_wp2
        go_ret2
        exact ⟨by rw [HN.out]; rfl, hBa⟩
      · cases h3 : digAt s.data.toList (k + 3)
        · have HN : Hid (R = none) := Lib.hid (by rw [← HR.out]; exact esc_bad HDR.out hd1 (.inr (by rw [digAt_drop]; exact h3)))
          rw [h2] at C2
          rw [h3] at C3
          clear hd hd1 h2 h3 hbc
          go_enter Try.func60, Try.ntmps60
          go_wp2_with fail
          refine C1.out.mono ?_
          rintro e w1 ⟨rfl, rfl⟩
          go_wp2_with fail
          refine C2.out.mono ?_
          rintro e w1 ⟨rfl, rfl⟩
          go_wp2_with fail
          refine C3.out.mono ?_
          rintro e w1 ⟨rfl, rfl⟩
          go_wp2
          go_ret2
          exact ⟨by rw [HN.out]; rfl, hBa⟩
        · have hl3 : k + 3 < s.size := by
            rcases Nat.lt_or_ge (k + 3) s.size with h | h
            · exact h
            · rw [digAt_out h] at h3; cases h3
          obtain ⟨a, ha⟩ : ∃ a, s[k + 2] = a := ⟨_, rfl⟩
          obtain ⟨b, hb⟩ : ∃ b, s[k + 3] = b := ⟨_, rfl⟩
          have da : digB a = true := by rw [← ha, ← digAt_in (by omega)]; exact h2
          have db : digB b = true := by rw [← hb, ← digAt_in (by omega)]; exact h3
          have HDR3 : Hid (s.data.toList.drop (k + 1) = d :: a :: b :: s.data.toList.drop (k + 4)) := Lib.hid (by
            rw [drop_cons s (k + 1) h1, drop_cons s (k + 2) (by omega), drop_cons s (k + 3) hl3, hd, ha, hb])
          have HE := Lib.hid (esc_num HDR3.out hd1 da db)
          obtain ⟨_, ha2, ha3⟩ := (digB_cases a).resolve_right (by rw [da]; simp)
          obtain ⟨_, hb2, hb3⟩ := (digB_cases b).resolve_right (by rw [db]; simp)
          rw [h2] at C2
          rw [h3] at C3
          have hl3i : (k : Int) + 3 < (s.size : Int) := by omega
          have hd2i : (48 : Int) ≤ (d.toNat : Int) := by omega
          have hd3i : (d.toNat : Int) ≤ 57 := by omega
          have ha2i : (48 : Int) ≤ (a.toNat : Int) := by omega
          have ha3i : (a.toNat : Int) ≤ 57 := by omega
          have hb2i : (48 : Int) ≤ (b.toNat : Int) := by omega
          have hb3i : (b.toNat : Int) ≤ 57 := by omega
          clear hd1 h2 h3 da db
          go_enter Try.func60, Try.ntmps60
          go_wp2_with fail
          refine C1.out.mono ?_
          rintro e w1 ⟨rfl, rfl⟩
          go_wp2_with fail
          refine C2.out.mono ?_
          rintro e w1 ⟨rfl, rfl⟩
          go_wp2_with fail
          refine C3.out.mono ?_
          rintro e w1 ⟨rfl, rfl⟩
          have HE2 : Hid (R = if 255 < (d.toNat - 48) * 100 + (a.toNat - 48) * 10 + (b.toNat - 48) then none else some (UInt8.ofNat ((d.toNat - 48) * 100 + (a.toNat - 48) * 10 + (b.toNat - 48)), 4)) := Lib.hid (by rw [← HR.out]; exact HE.out)
          obtain ⟨k1, hk1⟩ : ∃ k1 : Nat, k1 = k + 1 := ⟨_, rfl⟩
          obtain ⟨k2, hk2⟩ : ∃ k2 : Nat, k2 = k + 2 := ⟨_, rfl⟩
          obtain ⟨k3, hk3⟩ : ∃ k3 : Nat, k3 = k + 3 := ⟨_, rfl⟩
          obtain ⟨D, hD⟩ : ∃ D : Nat, d.toNat - 48 = D := ⟨_, rfl⟩
          obtain ⟨A, hA⟩ : ∃ A : Nat, a.toNat - 48 = A := ⟨_, rfl⟩
          obtain ⟨B, hB⟩ : ∃ B : Nat, b.toNat - 48 = B := ⟨_, rfl⟩
          obtain ⟨D1, hD1⟩ : ∃ D1 : Nat, D * 100 = D1 := ⟨_, rfl⟩
          obtain ⟨A1, hA1⟩ : ∃ A1 : Nat, A * 10 = A1 := ⟨_, rfl⟩
          obtain ⟨S1, hS1⟩ : ∃ S1 : Nat, D1 + A1 = S1 := ⟨_, rfl⟩
          obtain ⟨S, hS⟩ : ∃ S : Nat, S1 + B = S := ⟨_, rfl⟩
          rw [hD, hA, hB, hD1, hA1, hS1, hS] at HE2
          have hl1 : k1 < s.size := by omega
          have hl2 : k2 < s.size := by omega
          have hl3' : k3 < s.size := by omega
          have hD9 : (D : Int) ≤ 9 := by omega
          have hA9 : (A : Int) ≤ 9 := by omega
          have hB9 : (B : Int) ≤ 9 := by omega
          have hD19 : (D1 : Int) ≤ 900 := by omega
          have hA19 : (A1 : Int) ≤ 90 := by omega
          have hS19 : (S1 : Int) ≤ 990 := by omega
          have hS9 : (S : Int) ≤ 999 := by omega
          have e1 : Value.int .i64 (IntKind.i64.wrap ((k : Int) + 1)) = Value.int .i64 (k1 : Int) := by rw [IntWalk.i64_in _ (by omega)]; congr 1; omega
          have e2 : Value.int .i64 (IntKind.i64.wrap ((k : Int) + 2)) = Value.int .i64 (k2 : Int) := by rw [IntWalk.i64_in _ (by omega)]; congr 1; omega
          have e3 : Value.int .i64 (IntKind.i64.wrap ((k : Int) + 3)) = Value.int .i64 (k3 : Int) := by rw [IntWalk.i64_in _ (by omega)]; congr 1; omega
          have e4 : Value.int .u8 (IntKind.u8.wrap ((d.toNat : Int) - 48)) = Value.int .u8 (D : Int) := by rw [IntKind.wrap_u8]; congr 1; omega
          have e5 : Value.int .u8 (IntKind.u8.wrap ((a.toNat : Int) - 48)) = Value.int .u8 (A : Int) := by rw [IntKind.wrap_u8]; congr 1; omega
          have e6 : Value.int .u8 (IntKind.u8.wrap ((b.toNat : Int) - 48)) = Value.int .u8 (B : Int) := by rw [IntKind.wrap_u8]; congr 1; omega
          have e7 : Value.int .i64 (IntKind.i64.wrap (D : Int)) = Value.int .i64 (D : Int) := by rw [IntWalk.i64_in _ (by omega)]
          have e8 : Value.int .i64 (IntKind.i64.wrap (A : Int)) = Value.int .i64 (A : Int) := by rw [IntWalk.i64_in _ (by omega)]
          have e9 : Value.int .i64 (IntKind.i64.wrap (B : Int)) = Value.int .i64 (B : Int) := by rw [IntWalk.i64_in _ (by omega)]
          have e10 : Value.int .i64 (IntKind.i64.wrap ((D : Int) * 100)) = Value.int .i64 (D1 : Int) := by rw [IntWalk.i64_in _ (by omega)]; congr 1; omega
          have e11 : Value.int .i64 (IntKind.i64.wrap ((A : Int) * 10)) = Value.int .i64 (A1 : Int) := by rw [IntWalk.i64_in _ (by omega)]; congr 1; omega
          have e12 : Value.int .i64 (IntKind.i64.wrap ((D1 : Int) + (A1 : Int))) = Value.int .i64 (S1 : Int) := by rw [IntWalk.i64_in _ (by omega)]; congr 1; omega
          have e13 : Value.int .i64 (IntKind.i64.wrap ((S1 : Int) + (B : Int))) = Value.int .i64 (S : Int) := by rw [IntWalk.i64_in _ (by omega)]; congr 1; omega
          have hd' : s[k1] = d := by subst hk1; exact hd
          have ha' : s[k2] = a := by subst hk2; exact ha
          have hb' : s[k3] = b := by subst hk3; exact hb
          clear hk1 hk2 hk3 hD hA hB hD1 hA1 hS1 hS hd ha hb
          go_wp2
          go_quiet (fail)
          clear e1 e2 e3 e4 e5 e6 e7 e8 e9 e10 e11 e12 e13
          by_cases h255 : 255 < S
          · have h255i : (255 : Int) < (S : Int) := by omega
            go_wp2
            go_ret2
            exact ⟨by rw [HE2.out, if_pos h255]; rfl, hBa.trans (below_drewN _ _ _)⟩
          · have h255i : (S : Int) ≤ 255 := by omega
            go_wp2
            go_ret2
            exact ⟨by rw [HE2.out, if_neg h255]; simp [retE]; omega, hBa.trans (below_drewN _ _ _)⟩
    · have HN : Hid (R = some (d, 2)) := Lib.hid (by rw [← HR.out]; exact esc_plain HDR.out hd1)
      rw [hd1] at C1
      clear hd1
      go_enter Try.func60, Try.ntmps60
      go_wp2_with fail
      refine C1.out.mono ?_
      rintro e w1 ⟨rfl, rfl⟩
      go_wp2
      go_ret2
      exact ⟨by rw [HN.out]; rfl, hBa⟩
  · have hge : (s.size : Int) ≤ (k : Int) + 1 := by omega
    have HN : Hid (R = none) := Lib.hid (by rw [← HR.out]; exact esc_none (drop_end s (k + 1) (by omega)))
    clear hbc
    go_enter Try.func60, Try.ntmps60
    go_wp2
    go_ret2
    exact ⟨by rw [HN.out]; rfl, hBa⟩
end Go.Proofs.Ythblaldkpjilhaa.escaped
