/- The fields of a type: data.form: walk. Sets of types: plain. -/
import Derived.Test.YtjejmgdpjfdhjaaGreatDoorP7
import Derived.Below
namespace Go.Proofs.YtjejmgdpjfdhjaaGreatDoor.formW
open Go.RowKit Go.Proofs.YtjejmgdpjfdhjaaGreatDoor.kit Go.Proofs.YtjejmgdpjfdhjaaGreatDoor.nspec Go.Proofs.YtjejmgdpjfdhjaaGreatDoor.fld
set_option linter.unusedVariables false

/-- a field as the program has it -/
def fldV : Fld → Value
  | .ip4 => .iface 66 (.agg #[])
  | .ip6 => .iface 70 (.agg #[])
  | .host => .iface 67 (.agg #[])
  | .text => .iface 68 (.agg #[])
  | .texts => .iface 69 (.agg #[])
  | .tail => .iface 77 (.agg #[])
  | .hexes => .iface 71 (.agg #[])
  | .b64 => .iface 73 (.agg #[])
  | .kind => .iface 72 (.agg #[])
  | .kinds => .iface 74 (.agg #[])
  | .salt => .iface 75 (.agg #[])
  | .hash => .iface 76 (.agg #[])
  | .num k => .iface 64 (.int .i64 (k : Int))
def fieldsO (fs : List Fld) : Obj := .cells (fs.map fldV).toArray 41
def FormPost (fs : List Fld) (w : World) (e : Ending) (w' : World) : Prop := e = .returned (.tuple #[.slice (some ⟨w.heap.size, 0, none⟩) fs.length fs.length, .bool true]) ∧ w' = w.alloc (fieldsO fs)

set_option maxRecDepth 100000 in
set_option maxHeartbeats 1000000 in
theorem form_1 (w : World) : Calls Tryz.prog 12 #[.int .i64 1] w (FormPost [.ip4] w) := by
  go_enter Tryz.func12, Tryz.ntmps12
  go_wp2_with fail
  go_ret2
  exact ⟨rfl, rfl⟩
set_option maxRecDepth 100000 in
set_option maxHeartbeats 1000000 in
theorem form_2 (w : World) : Calls Tryz.prog 12 #[.int .i64 2] w (FormPost [.host] w) := by
  go_enter Tryz.func12, Tryz.ntmps12
  go_wp2_with fail
  go_ret2
  exact ⟨rfl, rfl⟩
set_option maxRecDepth 100000 in
set_option maxHeartbeats 1000000 in
theorem form_5 (w : World) : Calls Tryz.prog 12 #[.int .i64 5] w (FormPost [.host] w) := by
  go_enter Tryz.func12, Tryz.ntmps12
  go_wp2_with fail
  go_ret2
  exact ⟨rfl, rfl⟩
set_option maxRecDepth 100000 in
set_option maxHeartbeats 1000000 in
theorem form_12 (w : World) : Calls Tryz.prog 12 #[.int .i64 12] w (FormPost [.host] w) := by
  go_enter Tryz.func12, Tryz.ntmps12
  go_wp2_with fail
  go_ret2
  exact ⟨rfl, rfl⟩
set_option maxRecDepth 100000 in
set_option maxHeartbeats 1000000 in
theorem form_39 (w : World) : Calls Tryz.prog 12 #[.int .i64 39] w (FormPost [.host] w) := by
  go_enter Tryz.func12, Tryz.ntmps12
  go_wp2_with fail
  go_ret2
  exact ⟨rfl, rfl⟩
set_option maxRecDepth 100000 in
set_option maxHeartbeats 1000000 in
theorem form_6 (w : World) : Calls Tryz.prog 12 #[.int .i64 6] w (FormPost [.host, .host, .num 4, .num 4, .num 4, .num 4, .num 4] w) := by
  go_enter Tryz.func12, Tryz.ntmps12
  go_wp2_with fail
  go_ret2
  exact ⟨rfl, rfl⟩
set_option maxRecDepth 100000 in
set_option maxHeartbeats 1000000 in
theorem form_13 (w : World) : Calls Tryz.prog 12 #[.int .i64 13] w (FormPost [.text, .text] w) := by
  go_enter Tryz.func12, Tryz.ntmps12
  go_wp2_with fail
  go_ret2
  exact ⟨rfl, rfl⟩
set_option maxRecDepth 100000 in
set_option maxHeartbeats 1000000 in
theorem form_15 (w : World) : Calls Tryz.prog 12 #[.int .i64 15] w (FormPost [.num 2, .host] w) := by
  go_enter Tryz.func12, Tryz.ntmps12
  go_wp2_with fail
  go_ret2
  exact ⟨rfl, rfl⟩
set_option maxRecDepth 100000 in
set_option maxHeartbeats 1000000 in
theorem form_16 (w : World) : Calls Tryz.prog 12 #[.int .i64 16] w (FormPost [.texts] w) := by
  go_enter Tryz.func12, Tryz.ntmps12
  go_wp2_with fail
  go_ret2
  exact ⟨rfl, rfl⟩
set_option maxRecDepth 100000 in
set_option maxHeartbeats 1000000 in
theorem form_28 (w : World) : Calls Tryz.prog 12 #[.int .i64 28] w (FormPost [.ip6] w) := by
  go_enter Tryz.func12, Tryz.ntmps12
  go_wp2_with fail
  go_ret2
  exact ⟨rfl, rfl⟩
set_option maxRecDepth 100000 in
set_option maxHeartbeats 1000000 in
theorem form_33 (w : World) : Calls Tryz.prog 12 #[.int .i64 33] w (FormPost [.num 2, .num 2, .num 2, .host] w) := by
  go_enter Tryz.func12, Tryz.ntmps12
  go_wp2_with fail
  go_ret2
  exact ⟨rfl, rfl⟩
set_option maxRecDepth 100000 in
set_option maxHeartbeats 1000000 in
theorem form_35 (w : World) : Calls Tryz.prog 12 #[.int .i64 35] w (FormPost [.num 2, .num 2, .text, .text, .text, .host] w) := by
  go_enter Tryz.func12, Tryz.ntmps12
  go_wp2_with fail
  go_ret2
  exact ⟨rfl, rfl⟩
set_option maxRecDepth 100000 in
set_option maxHeartbeats 1000000 in
theorem form_43 (w : World) : Calls Tryz.prog 12 #[.int .i64 43] w (FormPost [.num 2, .num 1, .num 1, .hexes] w) := by
  go_enter Tryz.func12, Tryz.ntmps12
  go_wp2_with fail
  go_ret2
  exact ⟨rfl, rfl⟩
set_option maxRecDepth 100000 in
set_option maxHeartbeats 1000000 in
theorem form_46 (w : World) : Calls Tryz.prog 12 #[.int .i64 46] w (FormPost [.kind, .num 1, .num 1, .num 4, .num 4, .num 4, .num 2, .host, .b64] w) := by
  go_enter Tryz.func12, Tryz.ntmps12
  go_wp2_with fail
  go_ret2
  exact ⟨rfl, rfl⟩
set_option maxRecDepth 100000 in
set_option maxHeartbeats 1000000 in
theorem form_47 (w : World) : Calls Tryz.prog 12 #[.int .i64 47] w (FormPost [.host, .kinds] w) := by
  go_enter Tryz.func12, Tryz.ntmps12
  go_wp2_with fail
  go_ret2
  exact ⟨rfl, rfl⟩
set_option maxRecDepth 100000 in
set_option maxHeartbeats 1000000 in
theorem form_48 (w : World) : Calls Tryz.prog 12 #[.int .i64 48] w (FormPost [.num 2, .num 1, .num 1, .b64] w) := by
  go_enter Tryz.func12, Tryz.ntmps12
  go_wp2_with fail
  go_ret2
  exact ⟨rfl, rfl⟩
set_option maxRecDepth 100000 in
set_option maxHeartbeats 1000000 in
theorem form_50 (w : World) : Calls Tryz.prog 12 #[.int .i64 50] w (FormPost [.num 1, .num 1, .num 2, .salt, .hash, .kinds] w) := by
  go_enter Tryz.func12, Tryz.ntmps12
  go_wp2_with fail
  go_ret2
  exact ⟨rfl, rfl⟩
set_option maxRecDepth 100000 in
set_option maxHeartbeats 1000000 in
theorem form_51 (w : World) : Calls Tryz.prog 12 #[.int .i64 51] w (FormPost [.num 1, .num 1, .num 2, .salt] w) := by
  go_enter Tryz.func12, Tryz.ntmps12
  go_wp2_with fail
  go_ret2
  exact ⟨rfl, rfl⟩
set_option maxRecDepth 100000 in
set_option maxHeartbeats 1000000 in
theorem form_257 (w : World) : Calls Tryz.prog 12 #[.int .i64 257] w (FormPost [.num 1, .text, .tail] w) := by
  go_enter Tryz.func12, Tryz.ntmps12
  go_wp2_with fail
  go_ret2
  exact ⟨rfl, rfl⟩
set_option maxRecDepth 100000 in
set_option maxHeartbeats 1000000 in
theorem form_no (t : Int) (w : World) (h0 : formS t = none) : Calls Tryz.prog 12 #[.int .i64 t] w fun e w' => e = .returned (.tuple #[.slice none 0 0, .bool false]) ∧ w = w' := by
  have b1 : (t == 1) = false := by rw [beq_eq_false_iff_ne]; intro h; subst h; simp [formS] at h0
  have b2 : (t == 2) = false := by rw [beq_eq_false_iff_ne]; intro h; subst h; simp [formS] at h0
  have b5 : (t == 5) = false := by rw [beq_eq_false_iff_ne]; intro h; subst h; simp [formS] at h0
  have b12 : (t == 12) = false := by rw [beq_eq_false_iff_ne]; intro h; subst h; simp [formS] at h0
  have b39 : (t == 39) = false := by rw [beq_eq_false_iff_ne]; intro h; subst h; simp [formS] at h0
  have b6 : (t == 6) = false := by rw [beq_eq_false_iff_ne]; intro h; subst h; simp [formS] at h0
  have b13 : (t == 13) = false := by rw [beq_eq_false_iff_ne]; intro h; subst h; simp [formS] at h0
  have b15 : (t == 15) = false := by rw [beq_eq_false_iff_ne]; intro h; subst h; simp [formS] at h0
  have b16 : (t == 16) = false := by rw [beq_eq_false_iff_ne]; intro h; subst h; simp [formS] at h0
  have b28 : (t == 28) = false := by rw [beq_eq_false_iff_ne]; intro h; subst h; simp [formS] at h0
  have b33 : (t == 33) = false := by rw [beq_eq_false_iff_ne]; intro h; subst h; simp [formS] at h0
  have b35 : (t == 35) = false := by rw [beq_eq_false_iff_ne]; intro h; subst h; simp [formS] at h0
  have b43 : (t == 43) = false := by rw [beq_eq_false_iff_ne]; intro h; subst h; simp [formS] at h0
  have b46 : (t == 46) = false := by rw [beq_eq_false_iff_ne]; intro h; subst h; simp [formS] at h0
  have b47 : (t == 47) = false := by rw [beq_eq_false_iff_ne]; intro h; subst h; simp [formS] at h0
  have b48 : (t == 48) = false := by rw [beq_eq_false_iff_ne]; intro h; subst h; simp [formS] at h0
  have b50 : (t == 50) = false := by rw [beq_eq_false_iff_ne]; intro h; subst h; simp [formS] at h0
  have b51 : (t == 51) = false := by rw [beq_eq_false_iff_ne]; intro h; subst h; simp [formS] at h0
  have b257 : (t == 257) = false := by rw [beq_eq_false_iff_ne]; intro h; subst h; simp [formS] at h0
  clear h0
  go_enter Tryz.func12, Tryz.ntmps12
  go_wp2_with fail
  go_ret2
  exact ⟨rfl, rfl⟩
theorem form_yes (t : Int) (fs : List Fld) (w : World) (h : formS t = some fs) : Calls Tryz.prog 12 #[.int .i64 t] w (FormPost fs w) := by
  by_cases h1 : t = 1
  · subst h1
    have e : fs = _ := (Option.some.inj h).symm
    subst e
    exact form_1 w
  by_cases h2 : t = 2
  · subst h2
    have e : fs = _ := (Option.some.inj h).symm
    subst e
    exact form_2 w
  by_cases h5 : t = 5
  · subst h5
    have e : fs = _ := (Option.some.inj h).symm
    subst e
    exact form_5 w
  by_cases h12 : t = 12
  · subst h12
    have e : fs = _ := (Option.some.inj h).symm
    subst e
    exact form_12 w
  by_cases h39 : t = 39
  · subst h39
    have e : fs = _ := (Option.some.inj h).symm
    subst e
    exact form_39 w
  by_cases h6 : t = 6
  · subst h6
    have e : fs = _ := (Option.some.inj h).symm
    subst e
    exact form_6 w
  by_cases h13 : t = 13
  · subst h13
    have e : fs = _ := (Option.some.inj h).symm
    subst e
    exact form_13 w
  by_cases h15 : t = 15
  · subst h15
    have e : fs = _ := (Option.some.inj h).symm
    subst e
    exact form_15 w
  by_cases h16 : t = 16
  · subst h16
    have e : fs = _ := (Option.some.inj h).symm
    subst e
    exact form_16 w
  by_cases h28 : t = 28
  · subst h28
    have e : fs = _ := (Option.some.inj h).symm
    subst e
    exact form_28 w
  by_cases h33 : t = 33
  · subst h33
    have e : fs = _ := (Option.some.inj h).symm
    subst e
    exact form_33 w
  by_cases h35 : t = 35
  · subst h35
    have e : fs = _ := (Option.some.inj h).symm
    subst e
    exact form_35 w
  by_cases h43 : t = 43
  · subst h43
    have e : fs = _ := (Option.some.inj h).symm
    subst e
    exact form_43 w
  by_cases h46 : t = 46
  · subst h46
    have e : fs = _ := (Option.some.inj h).symm
    subst e
    exact form_46 w
  by_cases h47 : t = 47
  · subst h47
    have e : fs = _ := (Option.some.inj h).symm
    subst e
    exact form_47 w
  by_cases h48 : t = 48
  · subst h48
    have e : fs = _ := (Option.some.inj h).symm
    subst e
    exact form_48 w
  by_cases h50 : t = 50
  · subst h50
    have e : fs = _ := (Option.some.inj h).symm
    subst e
    exact form_50 w
  by_cases h51 : t = 51
  · subst h51
    have e : fs = _ := (Option.some.inj h).symm
    subst e
    exact form_51 w
  by_cases h257 : t = 257
  · subst h257
    have e : fs = _ := (Option.some.inj h).symm
    subst e
    exact form_257 w
  simp [formS, h1, h2, h5, h12, h39, h6, h13, h15, h16, h28, h33, h35, h43, h46, h47, h48, h50, h51, h257] at h
end Go.Proofs.YtjejmgdpjfdhjaaGreatDoor.formW
namespace Go.Proofs.YtjejmgdpjfdhjaaGreatDoor.typesP
open Go.Proofs.YtjejmgdpjfdhjaaGreatDoor.nspec Go.Proofs.YtjejmgdpjfdhjaaGreatDoor.bits Go.Proofs.YtjejmgdpjfdhjaaGreatDoor.fld
set_option linter.unusedVariables false

theorem tob_get : ∀ (v n j : Nat), j < n → (tob v n)[j]? = some (v / 2 ^ (n - 1 - j) % 2)
  | v, 0, j, h => by omega
  | v, n + 1, 0, h => by simp [tob]
  | v, n + 1, j + 1, h => by
    rw [tob, List.getElem?_cons_succ, tob_get v n j (by omega)]
    congr 4; omega
theorem bitsL_get : ∀ (m : Bs) (k : Nat), k < 8 * m.length → (bitsL m)[k]? = some ((m.getD (k / 8) 0).toNat / 2 ^ (7 - k % 8) % 2)
  | [], k, h => by simp at h
  | c :: r, k, h => by
    rw [bits_cons]
    have hl : (tob c.toNat 8).length = 8 := tob_length _ _
    rcases Nat.lt_or_ge k 8 with h8 | h8
    · rw [List.getElem?_append_left (by omega), tob_get _ _ _ h8]
      have e1 : k / 8 = 0 := by omega
      have e2 : k % 8 = k := by omega
      rw [e1, e2]; simp
    · rw [List.getElem?_append_right (by omega), hl, bitsL_get r (k - 8) (by simp only [List.length_cons] at h; omega)]
      have e1 : k / 8 = (k - 8) / 8 + 1 := by omega
      have e2 : k % 8 = (k - 8) % 8 := by omega
      rw [e1, e2]; simp

def typesA (last : Int) (out : List Nat) (d : Bs) : Option (List Nat) := typesF (d.length + 1) last out d
theorem types_end (last : Int) (out : List Nat) : typesA last out [] = some out := rfl
theorem types_one (last : Int) (out : List Nat) (b : UInt8) : typesA last out [b] = none := rfl
theorem types_bad {last : Int} {out : List Nat} {b n : UInt8} {m : Bs} (h : (b.toNat : Int) ≤ last ∨ n.toNat < 1 ∨ 32 < n.toNat ∨ m.length < n.toNat ∨ m.getD (n.toNat - 1) 0 = 0) : typesA last out (b :: n :: m) = none := by
  unfold typesA; rw [List.length_cons, typesF, if_pos h]
theorem types_go {last : Int} {out : List Nat} {b n : UInt8} {m : Bs} (h : ¬ ((b.toNat : Int) ≤ last ∨ n.toNat < 1 ∨ 32 < n.toNat ∨ m.length < n.toNat ∨ m.getD (n.toNat - 1) 0 = 0)) :
    typesA last out (b :: n :: m) = typesA (b.toNat : Int) (out ++ blockL b.toNat (m.take n.toNat)) (m.drop n.toNat) := by
  unfold typesA; rw [List.length_cons, typesF, if_neg h]
  exact types_fuel _ _ _ _ _ (by simp only [List.length_cons, List.length_drop]; omega) (by omega)
theorem typesS_eq (d : Bs) : typesS d = match typesA (-1) [] d with | none => none | some l => if 0 ∈ l then none else some l := rfl

theorem pick_bd : ∀ (l : List Nat) (b k : Nat), (∀ x ∈ pickL b k l, b * 256 + k ≤ x ∧ x < b * 256 + k + l.length) ∧ (pickL b k l).Pairwise (· < ·)
  | [], b, k => by simp [pickL]
  | x :: l, b, k => by
    have ⟨h1, h2⟩ := pick_bd l b (k + 1)
    simp only [pickL, List.length_cons]
    split
    · refine ⟨fun y hy => ?_, ?_⟩
      · rcases List.mem_cons.1 hy with rfl | hy
        · omega
        · have := h1 y hy; omega
      · rw [List.pairwise_cons]
        exact ⟨fun y hy => by have := h1 y hy; omega, h2⟩
    · exact ⟨fun y hy => by have := h1 y hy; omega, h2⟩
theorem pick_len : ∀ (l : List Nat) (b k : Nat), (pickL b k l).length ≤ l.length
  | [], b, k => by simp [pickL]
  | x :: l, b, k => by
    have := pick_len l b (k + 1)
    simp only [pickL, List.length_cons]
    split
    · rw [List.length_cons]; omega
    · omega
theorem pick_snoc {b k : Nat} {l : List Nat} {x : Nat} {A R : List Nat} (h : A ++ pickL b k (l.drop k) = R) (hx : l[k]? = some x) : (A ++ (if x = 1 then [b * 256 + k] else [])) ++ pickL b (k + 1) (l.drop (k + 1)) = R := by
  obtain ⟨h1, h2⟩ := List.getElem?_eq_some_iff.1 hx
  rw [List.drop_eq_getElem_cons h1, h2, pickL] at h
  rw [← h]
  split <;> simp
theorem pick_end {b k : Nat} {l : List Nat} {A R : List Nat} (h : A ++ pickL b k (l.drop k) = R) (hk : l.length ≤ k) : A = R := by
  rw [List.drop_eq_nil_iff.2 hk] at h; simpa [pickL] using h

theorem types_sorted : ∀ (f : Nat) (last : Int) (out : List Nat) (d : Bs) (l : List Nat), typesF f last out d = some l → out.Pairwise (· < ·) → (∀ x ∈ out, (x : Int) < 256 * (last + 1)) → -1 ≤ last → last ≤ 255 → l.Pairwise (· < ·) ∧ (∀ x ∈ l, x < 65536)
  | 0, last, out, d, l, h, _, _, _, _ => by simp [typesF] at h
  | f + 1, last, out, [], l, h, h1, h2, h3, h4 => by
    simp only [typesF, Option.some.injEq] at h
    subst h
    exact ⟨h1, fun x hx => by have := h2 x hx; omega⟩
  | f + 1, last, out, [b], l, h, _, _, _, _ => by simp [typesF] at h
  | f + 1, last, out, b :: n :: m, l, h, h1, h2, h3, h4 => by
    simp only [typesF] at h
    split at h
    · simp at h
    · rename_i hn
      have hb := b.toNat_lt
      have hbl : last < (b.toNat : Int) := by omega
      have hn32 : n.toNat ≤ 32 := by omega
      obtain ⟨p1, p2⟩ := pick_bd (bitsL (m.take n.toNat)) b.toNat 0
      have hlen : (bitsL (m.take n.toNat)).length ≤ 256 := by rw [bitsL_len, List.length_take]; omega
      refine types_sorted f _ _ _ l h ?_ ?_ (by omega) (by omega)
      · rw [List.pairwise_append]
        refine ⟨h1, p2, fun x hx y hy => ?_⟩
        have := h2 x hx
        have := p1 y hy
        omega
      · intro x hx
        rcases List.mem_append.1 hx with hx | hx
        · have := h2 x hx; omega
        · have := p1 x hx; omega
theorem sorted_of {d : Bs} {l : List Nat} (h : typesA (-1) [] d = some l) : l.Pairwise (· < ·) ∧ (∀ x ∈ l, x < 65536) :=
  types_sorted _ _ _ _ _ h (by simp) (by simp) (by omega) (by omega)
theorem zero_head {l : List Nat} (h : l.Pairwise (· < ·)) : 0 ∈ l ↔ l.head? = some 0 := by
  cases l with
  | nil => simp
  | cons x r =>
    rw [List.pairwise_cons] at h
    simp only [List.mem_cons, List.head?_cons, Option.some.injEq]
    constructor
    · rintro (h0 | h0)
      · exact h0.symm
      · have := h.1 0 h0; omega
    · intro h0; exact .inl h0.symm
theorem types_len : ∀ (f : Nat) (last : Int) (out : List Nat) (d : Bs) (l : List Nat), typesF f last out d = some l → l.length ≤ out.length + 8 * d.length
  | 0, last, out, d, l, h => by simp [typesF] at h
  | f + 1, last, out, [], l, h => by simp only [typesF, Option.some.injEq] at h; subst h; simp
  | f + 1, last, out, [b], l, h => by simp [typesF] at h
  | f + 1, last, out, b :: n :: m, l, h => by
    simp only [typesF] at h
    split at h
    · simp at h
    · rename_i hn
      have := types_len f _ _ _ l h
      have hp := pick_len (bitsL (m.take n.toNat)) b.toNat 0
      rw [bitsL_len, List.length_take] at hp
      simp only [blockL, List.length_append, List.length_drop, List.length_cons] at *
      omega
end Go.Proofs.YtjejmgdpjfdhjaaGreatDoor.typesP
