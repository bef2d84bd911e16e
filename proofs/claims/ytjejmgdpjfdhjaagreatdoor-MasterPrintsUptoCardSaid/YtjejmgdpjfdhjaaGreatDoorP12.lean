/- Lists of ints in memory; gazetteerref1.bits: walk. data.Types: walk. How many bytes a set of types takes: data.kinds.take: walk. The name that stands first: plain. How many bytes a name takes: data.host.take: walk. -/
import Derived.Test.YtjejmgdpjfdhjaaGreatDoorP7
import Derived.Test.YtjejmgdpjfdhjaaGreatDoorP11
import Derived.Test.YtjejmgdpjfdhjaaGreatDoorP8
import Derived.Test.YtjejmgdpjfdhjaaGreatDoorP5
import Derived.Maps.AppendAt
namespace Go.Proofs.YtjejmgdpjfdhjaaGreatDoor.ints
open Go.RowKit Go.Proofs.YtjejmgdpjfdhjaaGreatDoor.kit Go.Proofs.YtjejmgdpjfdhjaaGreatDoor.bits

theorem infoInt : (Tryz.prog.info? 3).map (fun i => (i.zero, i.size, i.bytes)) = some (some (.int .i64 0), 1, 8) := by kernel_rfl
def bitV (x : Nat) : Value := .int .i64 (x : Int)

/-- a list of numbers can be read from address a on -/
def RdN (w : World) (a : Option Addr) (ls : List Nat) : Prop :=
  ∀ (j : Nat) (x : Nat), ls[j]? = some x → ∃ g o, a = some ⟨g, o, none⟩ ∧ g < w.heap.size ∧ w.cell? ⟨g, o + j, none⟩ = some (bitV x)
theorem RdN.nil (w : World) (a : Option Addr) : RdN w a [] := by intro j x h; simp at h
theorem RdN.below {w w' : World} {a : Option Addr} {B : Nat} {ls : List Nat} (h : RdN w a ls) (hB : Below B w w') (hz : B = w.heap.size) : RdN w' a ls := by
  intro j x hx
  obtain ⟨g, o, h1, h3, h4⟩ := h j x hx
  exact ⟨g, o, h1, Nat.lt_of_lt_of_le h3 hB.size, (hB.cell (p := ⟨g, o + j, none⟩) (by rw [hz]; exact h3)).trans h4⟩
theorem RdN.of_own {w : World} {base : Nat} {v : Value} {ls : List Nat} (h : w.ownsRow base 3 1 v ls.length (ls.map bitV)) : ∃ a c, v = .slice a ls.length c ∧ ls.length ≤ c ∧ c ≤ maxLen ∧ RdN w a ls := by
  rcases h.2 with ⟨rfl, h0⟩ | ⟨g, cap, cur, rfl, hb, hg, h1, h2, _, htake⟩
  · have : ls = [] := List.eq_nil_of_length_eq_zero h0
    subst this
    exact ⟨none, 0, rfl, Nat.le_refl _, Nat.zero_le _, RdN.nil _ _⟩
  · refine ⟨_, cap, rfl, h1, h2, ?_⟩
    intro j x hx
    refine ⟨g, 0, rfl, (Array.getElem?_eq_some_iff.1 hg).1, ?_⟩
    have := h.cells (g := g) rfl j (bitV x) (by rw [List.getElem?_map, hx]; rfl)
    have hadd : (⟨g, 0, none⟩ : Addr).add j = ⟨g, 0 + j, none⟩ := by unfold Addr.add; split <;> simp_all
    rw [hadd] at this
    exact this
theorem RdN.drop {w : World} {g o : Nat} {ls : List Nat} (h : RdN w (some ⟨g, o, none⟩) ls) (k : Nat) : RdN w (some ⟨g, o + k, none⟩) (ls.drop k) := by
  intro j x hx
  rw [List.getElem?_drop] at hx
  obtain ⟨g', o', h1, h2, h3⟩ := h _ x hx
  cases h1
  exact ⟨g, o + k, rfl, h2, by rw [Nat.add_assoc]; exact h3⟩
theorem RdN.addr {w : World} {a : Option Addr} {ls : List Nat} (h : RdN w a ls) (hl : 0 < ls.length) : ∃ g o, a = some ⟨g, o, none⟩ := by
  obtain ⟨g, o, h1, _⟩ := h 0 _ (List.getElem?_eq_getElem hl)
  exact ⟨g, o, h1⟩
theorem own_snocN {w1 : World} {base : Nat} {v' : Value} {acc : List Nat} {d : Nat} (h : w1.ownsRow base 3 1 v' (acc.length + 1) (acc.map bitV ++ [.int .i64 (d : Int)])) : w1.ownsRow base 3 1 v' (acc ++ [d]).length ((acc ++ [d]).map bitV) := by
  simpa [bitV] using h

/-- the mark of the highest of r bits -/
def mOf : Nat → Nat
  | 0 => 0
  | r + 1 => 2 ^ r
theorem mOf_half (r : Nat) : mOf (r + 1) / 2 = mOf r := by
  cases r with
  | zero => rfl
  | succ r => show 2 ^ (r + 1) / 2 = 2 ^ r; rw [Nat.pow_succ]; omega
theorem mOf_pos (r : Nat) : 1 ≤ mOf (r + 1) := Nat.two_pow_pos r
theorem mOf_le (r : Nat) (h : r ≤ 8) : mOf r ≤ 128 := by
  cases r with
  | zero => exact Nat.zero_le _
  | succ r => exact Nat.pow_le_pow_right (n := 2) (by omega) (show r ≤ 7 by omega)
theorem bit_step {v r : Nat} {A l R : List Nat} (h : A ++ (tob v (r + 1) ++ l) = R) : (A ++ [v / mOf (r + 1) % 2]) ++ (tob v r ++ l) = R := by
  rw [← h]; simp [tob, mOf]
theorem bit_done {v : Nat} {A l R : List Nat} (h : A ++ (tob v 0 ++ l) = R) : A ++ l = R := by
  rw [← h]; simp [tob]

set_option maxRecDepth 100000 in
set_option maxHeartbeats 2000000 in
theorem bits_own (s : ByteArray) (w : World) (hs : s.size ≤ 1099511627776) :
    Calls Tryz.prog 41 #[.string s] w fun e w' => ∃ v, e = .returned v ∧ w'.ownsRow w.heap.size 3 1 v (bitsL s.data.toList).length ((bitsL s.data.toList).map bitV) ∧ Below w.heap.size w w' := by
  obtain ⟨i0, hi, hz0, hz1, hz2⟩ := info_parts infoInt
  obtain ⟨R, HR⟩ : ∃ R, Hid (bitsL s.data.toList = R) := ⟨_, Lib.hid rfl⟩
  have hRl : R.length = 8 * s.size := by rw [← HR.out, bitsL_len, size_len]
  have HRL := Lib.hid hRl; clear hRl
  rw [HR.out]
  go_enter Tryz.func41, Tryz.ntmps41
  go_wp2
  go_loopg [3, 4, 5] (s.size + 1) (fun gas ov kv _ wr => ∃ (k : Nat) (A : List Nat), kv = .int .i64 k ∧ k ≤ s.size ∧ k + gas = s.size + 1 ∧ Hid (A ++ bitsL (s.data.toList.drop k) = R) ∧ wr.ownsRow w.heap.size 3 1 ov A.length (A.map bitV) ∧ Below w.heap.size w wr)
  case atStart => exact ⟨0, [], rfl, by omega, by omega, HR, World.ownsRow_nil _ _ _ _, Below.refl _ _⟩
  case round =>
    obtain ⟨k, A, rfl, hk, hkg, HW, hA, hB⟩ := hrel
    obtain ⟨gk', hgk'⟩ : ∃ g, g = gk := ⟨_, rfl⟩
    rw [← hgk'] at hkg
    have HK := Lib.hid hkg; clear hkg
    by_cases hlt : k < s.size
    · have hc256 := byte_lt s[k]
      obtain ⟨C, hC⟩ : ∃ C : Nat, s[k].toNat = C := ⟨_, rfl⟩
      have HSTEP : Hid (A ++ (tob C 8 ++ bitsL (s.data.toList.drop (k + 1))) = R) := Lib.hid (by
        have h1 := HW.out
        rw [drop_cons s k hlt, bits_cons, hC] at h1
        exact h1)
      go_wp2
      go_loopg [3, 5] 9 (fun gas ov mv wq => ∃ (r : Nat) (A : List Nat) (M : Nat), mv = .int .i64 M ∧ Hid (M = mOf r) ∧ r ≤ 8 ∧ r < gas ∧ Hid (A ++ (tob C r ++ bitsL (s.data.toList.drop (k + 1))) = R) ∧ wq.ownsRow w.heap.size 3 1 ov A.length (A.map bitV) ∧ Below w.heap.size w wq)
      case atStart => exact ⟨8, A, 128, rfl, Lib.hid rfl, by omega, by omega, HSTEP, hA, hB⟩
      case round =>
        clear hA hB HW
        obtain ⟨r, A', M, rfl, HM, hr, hrg, HV, hA', hB'⟩ := hrel
        cases r with
        | succ r =>
          have hM1 : (1 : Int) ≤ (M : Int) := by have := mOf_pos r; have := HM.out; omega
          have hMl : (M : Int) ≤ 128 := by have := mOf_le (r + 1) hr; have := HM.out; omega
          obtain ⟨M', hM'⟩ : ∃ M', M / 2 = M' := ⟨_, rfl⟩
          have HM' : Hid (M' = mOf r) := Lib.hid (by rw [← hM', HM.out, mOf_half])
          have hm2 : Value.int .i64 ((M : Int) / 2) = Value.int .i64 (M' : Int) := by congr 1; omega
          have HMM := Lib.hid hM'; clear hM'
          obtain ⟨q, hqq⟩ : ∃ q, C / M = q := ⟨_, rfl⟩
          have hq255 : (q : Int) ≤ 255 := by have := Nat.div_le_self C M; omega
          obtain ⟨d, hd⟩ : ∃ d, q % 2 = d := ⟨_, rfl⟩
          have HD : Hid ((A' ++ [d]) ++ (tob C r ++ bitsL (s.data.toList.drop (k + 1))) = R) := Lib.hid (by
            have h1 := bit_step HV.out
            rw [← HM.out, hqq, hd] at h1; exact h1)
          have hqv : Value.int .i64 (wrap64 ((s[k].toNat : Int) / (M : Int))) = Value.int .i64 (q : Int) := by
            have e : (s[k].toNat : Int) / (M : Int) = (q : Int) := by rw [← hqq, ← hC]; simp
            rw [e, IntWalk.wrap64_in _ (by omega)]
          have hdv : Value.int .i64 ((q : Int) % 2) = Value.int .i64 (d : Int) := by congr 1; omega
          have hAl : A'.length ≤ R.length := by rw [← HV.out]; simp
          have hRl := HRL.out
          have hAs : A'.length + 1 ≤ 8 * 1099511627776 + 1 := by omega
          have hsz := hB'.size
          clear hd hRl hC hqq
          go_wp2_with (at_builtin; refine wpList_append_own _ rfl _ _ 83 rfl w.heap.size 3 i0 (.int .i64 0) 1 8 Tryz.underlying83 hi hz0 hz1 hz2 rfl (by decide) _ _ _ rfl (hA'.alloc _) ⟨wr.heap.size, 0, none⟩ 1 1 [.int .i64 (d : Int)] rfl rfl ?c1 ?c2 ?c3 ?c4 ?c5 ?_)
          case c2 => simp [Value.oneCell']
          case c3 => unfold maxLen; omega
          case c4 => omega
          case c5 => omega
          intro v' w1 hown' hgrow _
          have hown2 := own_snocN hown'
          have hB2 := below_append hB' hsz hA' hgrow
          clear hown' hgrow hA' hqv hdv
          go_wp2
          go_roundg (gk - 1)
          case rel => exact ⟨r, _, _, rfl, HM', by omega, by omega, HD, hown2, hB2⟩
          case measure => omega
        | zero =>
          have hM0 : (M : Int) = 0 := by rw [HM.out]; rfl
          have hMd : decide (0 < (M : Int)) = false := by rw [hM0]; rfl
          have hm0 : M = 0 := by omega
          clear hM0
          subst hm0
          have HN := Lib.hid (bit_done HV.out)
          go_wp2
          have hkg := HK.out
          go_roundg (gk' - 1)
          case rel => exact ⟨k + 1, A', by go_num, by omega, by omega, HN, hA', hB'⟩
          case measure => omega
    · have HN := HW.out
      rw [drop_end s k (by omega)] at HN
      have e : A = R := by rw [← HN]; simp [bitsL]
      rw [e] at hA
      have HE := Lib.hid e
      clear e HN
      go_wp2
      go_ret
      exact ⟨_, rfl, hA, hB⟩
theorem bits_any (s : ByteArray) (w : World) (hs : s.size ≤ 1099511627776) :
    Calls Tryz.prog 41 #[.string s] w fun e w' => ∃ a c, e = .returned (.slice a (bitsL s.data.toList).length c) ∧ (bitsL s.data.toList).length ≤ c ∧ c ≤ maxLen ∧ RdN w' a (bitsL s.data.toList) ∧ Below w.heap.size w w' :=
  (bits_own s w hs).mono fun e w' ⟨v, h1, h2, h3⟩ => by
    obtain ⟨a, c, rfl, hc1, hc2, hrd⟩ := RdN.of_own h2
    exact ⟨a, c, h1, hc1, hc2, hrd, h3⟩
end Go.Proofs.YtjejmgdpjfdhjaaGreatDoor.ints
namespace Go.Proofs.YtjejmgdpjfdhjaaGreatDoor.typesW
open Go.RowKit Go.Proofs.YtjejmgdpjfdhjaaGreatDoor.kit Go.Proofs.YtjejmgdpjfdhjaaGreatDoor.nspec Go.Proofs.YtjejmgdpjfdhjaaGreatDoor.bits Go.Proofs.YtjejmgdpjfdhjaaGreatDoor.ints Go.Proofs.YtjejmgdpjfdhjaaGreatDoor.fld Go.Proofs.YtjejmgdpjfdhjaaGreatDoor.typesP Go.Proofs.YtjejmgdpjfdhjaaGreatDoor.takes
set_option linter.unusedVariables false

/-- what Types leaves -/
def TypesPost (w : World) (d : Bs) (e : Ending) (w' : World) : Prop := Below w.heap.size w w' ∧ ((∃ (v : Value) (l : List Nat), typesS d = some l ∧ e = .returned (.tuple #[v, .int .i64 0]) ∧ w'.ownsRow w.heap.size 3 1 v l.length (l.map bitV)) ∨ (typesS d = none ∧ e = .returned (.tuple #[.slice none 0 0, .int .i64 7])))

theorem u_two {u : ByteArray} (h : 2 ≤ u.size) : u.data.toList = u[0] :: u[1] :: u.data.toList.drop 2 := by
  have h1 := drop_cons u 0 (by omega)
  have h2 := drop_cons u 1 (by omega)
  rw [List.drop_zero] at h1
  rw [h1, h2]; rfl
theorem getD_ext {u : ByteArray} (j : Nat) (h : 2 + j < u.size) : (u.data.toList.drop 2).getD j 0 = u[2 + j] := by
  rw [List.getD_eq_getElem?_getD, List.getElem?_drop]
  have h' : 2 + j < u.data.toList.length := by rw [size_len]; exact h
  rw [List.getElem?_eq_getElem h']; rfl

theorem res_none {d : Bs} {R : Option (List Nat)} (h : typesA (-1) [] d = R) (h2 : R = none) : typesS d = none := by rw [typesS_eq, h, h2]
theorem res_zero {d : Bs} {l : List Nat} (h : typesA (-1) [] d = some l) (h2 : 0 ∈ l) : typesS d = none := by rw [typesS_eq, h]; simp [h2]
theorem res_some {d : Bs} {l : List Nat} (h : typesA (-1) [] d = some l) (h2 : 0 ∉ l) : typesS d = some l := by rw [typesS_eq, h]; simp [h2]
theorem and1 {x : Int} (h₀ : 0 ≤ x) (h₁ : x < 256) : bits .and .u8 x 1 = x % 2 := bits_mask .u8 8 (by decide) (fun n h1 h2 => by rw [IntKind.wrap_u8]; omega) 1 (by decide) x h₀ h₁

set_option maxRecDepth 100000 in
set_option maxHeartbeats 8000000 in
theorem types_any (s : ByteArray) (w : World) (hs : s.size ≤ 1048576) :
    Calls Tryz.prog 132 #[.string s] w (TypesPost w s.data.toList) := by
  obtain ⟨i0, hi, hz0, hz1, hz2⟩ := info_parts infoInt
  obtain ⟨R, HR⟩ : ∃ R, Hid (typesA (-1) [] s.data.toList = R) := ⟨_, Lib.hid rfl⟩
  go_enter Tryz.func132, Tryz.ntmps132
  go_wp2_with fail
  go_loopg [0, 4, 5] (s.size + 1) (fun gas sv ov lv wr => ∃ (u : ByteArray) (L : Int) (A : List Nat), sv = .string u ∧ lv = .int .i64 L ∧ -1 ≤ L ∧ L ≤ 255 ∧ u.size + 1 ≤ gas ∧ u.size ≤ 1048576 ∧ A.length + 8 * u.size ≤ 8388608 ∧ Hid (typesA L A u.data.toList = R) ∧ wr.ownsRow w.heap.size 3 1 ov A.length (A.map bitV) ∧ Below w.heap.size w wr)
  case atStart => exact ⟨s, -1, [], rfl, rfl, by omega, by omega, by omega, hs, by simp; omega, HR, World.ownsRow_nil _ _ _ _, Below.refl _ _⟩
  case round =>
    obtain ⟨u, L, A, rfl, rfl, hL0, hL1, hgas, hus, hAu, HW, hA, hB⟩ := hrel
    obtain ⟨gk', hgk'⟩ : ∃ g, g = gk := ⟨_, rfl⟩
    rw [← hgk'] at hgas
    have HG := Lib.hid hgas; clear hgas
    have HB := Lib.hid hB
    by_cases h0 : u.size = 0
    · have he := emp_yes h0
      have HE : Hid (typesA (-1) [] s.data.toList = some A) := Lib.hid (by
        have hd : u.data.toList = [] := by rw [← Lib.toList_data]; exact he
        rw [HR.out, ← HW.out, hd, types_end])
      have hst := Lib.hid (sorted_of HE.out)
      obtain ⟨a, c, rfl, hlc, hcm, hR⟩ := RdN.of_own hA
      have HA := Lib.hid hA
      clear hA h0
      cases A with
      | nil =>
        have HF := Lib.hid (res_some HE.out (by simp))
        clear hR
        go_wp2_with fail
        go_ret2
        exact ⟨HB.out, .inl ⟨_, _, HF.out, rfl, HA.out⟩⟩
      | cons x r =>
        obtain ⟨g, o, rfl, hg, hcell⟩ := hR 0 x rfl
        unfold bitV at hcell
        simp only [Nat.add_zero] at hcell
        obtain ⟨n, hn⟩ : ∃ n, (x :: r).length = n := ⟨_, rfl⟩
        have hn1 : 1 ≤ n := by rw [← hn]; simp
        rw [hn] at hlc ⊢
        have HN := Lib.hid hn; clear hn
        have hni : (0 : Int) < (n : Int) := by omega
        have hnb : decide (0 < n) = true := by rw [decide_eq_true_eq]; omega
        by_cases hx : x = 0
        · have HF := Lib.hid (res_zero HE.out (by rw [hx]; simp))
          have hb : ((x : Int) == 0) = true := by rw [beq_iff_eq]; omega
          clear hx hR
          go_wp2_with fail
          go_ret2
          exact ⟨HB.out, .inr ⟨HF.out, rfl⟩⟩
        · have HF := Lib.hid (res_some HE.out (fun h => hx (by have := (zero_head hst.out.1).1 h; simpa using this)))
          have hb : ((x : Int) == 0) = false := by rw [beq_eq_false_iff_ne]; omega
          clear hx hR
          go_wp2_with fail
          go_ret2
          have h := HA.out
          rw [HN.out] at h
          exact ⟨HB.out, .inl ⟨_, x :: r, HF.out, rfl, by rw [HN.out]; exact h⟩⟩
    · have hne := emp_no (s := u) (by omega)
      by_cases h3 : u.size < 3
      · have HF := Lib.hid (res_none HR.out (by
          rw [← HW.out]
          by_cases h1 : u.size = 1
          · have hl : u.data.toList = u[0] :: u.data.toList.drop 1 := data_cons (by omega)
            rw [drop_end u 1 (by omega)] at hl
            rw [hl, types_one]
          · rw [u_two (by omega), types_bad]
            rw [drop_end u 2 (by omega)]
            rcases Nat.eq_zero_or_pos (u[1]'(by omega)).toNat with h4 | h4
            · right; left; omega
            · right; right; right; left; simpa using h4))
        have h3i : (u.size : Int) < 3 := by omega
        clear h3 h0 hA
        go_wp2_with fail
        go_ret2
        exact ⟨HB.out, .inr ⟨HF.out, rfl⟩⟩
      · have h3i : (3 : Int) ≤ (u.size : Int) := by omega
        have h2s : 2 ≤ u.size := by omega
        have hd := u_two (u := u) h2s
        have hml : (u.data.toList.drop 2).length = u.size - 2 := by rw [List.length_drop, size_len]
        have hlast : ∀ j, 2 + j < u.size → (u.data.toList.drop 2).getD j 0 = u.data.toList.getD (2 + j) 0 := fun j hj => by
          rw [List.getD_eq_getElem?_getD, List.getD_eq_getElem?_getD, List.getElem?_drop]
        have h1s : 1 < u.size := by omega
        have h0s : 0 < u.size := by omega
        obtain ⟨b, hb⟩ : ∃ b, u[0] = b := ⟨_, rfl⟩
        obtain ⟨n, hn⟩ : ∃ n, u[1] = n := ⟨_, rfl⟩
        rw [hb, hn] at hd
        obtain ⟨m, hm⟩ : ∃ m, u.data.toList.drop 2 = m := ⟨_, rfl⟩
        rw [hm] at hd hml hlast
        have hb256 := byte_lt b
        have hn256 := byte_lt n
        clear h3 h0
        have HD := Lib.hid hd; have HML := Lib.hid hml; have HLAST := Lib.hid hlast; have HMM := Lib.hid hm
        clear hd hml hlast hm
        have BAD : ∀ h : ((b.toNat : Int) ≤ L ∨ n.toNat < 1 ∨ 32 < n.toNat ∨ m.length < n.toNat ∨ m.getD (n.toNat - 1) 0 = 0), typesS s.data.toList = none := fun h =>
          res_none HR.out (by rw [← HW.out, HD.out, types_bad h])
        have HBAD := Lib.hid BAD; clear BAD
        by_cases c1 : (b.toNat : Int) ≤ L
        · have HF := Lib.hid (HBAD.out (.inl c1))
          clear hA
          go_wp2_with fail
          go_ret2
          exact ⟨HB.out, .inr ⟨HF.out, rfl⟩⟩
        have c1i : L < (b.toNat : Int) := by omega
        clear c1
        by_cases c2 : n.toNat < 1
        · have HF := Lib.hid (HBAD.out (.inr (.inl c2)))
          have c2i : (n.toNat : Int) < 1 := by omega
          have c2b : decide (n.toNat < 1) = true := by rw [decide_eq_true_eq]; exact c2
          clear hA c2
          go_wp2_with fail
          go_ret2
          exact ⟨HB.out, .inr ⟨HF.out, rfl⟩⟩
        have c2i : (1 : Int) ≤ (n.toNat : Int) := by omega
        have c2b : decide (n.toNat < 1) = false := by rw [decide_eq_false_iff_not]; exact c2
        clear c2
        by_cases c3 : 32 < n.toNat
        · have HF := Lib.hid (HBAD.out (.inr (.inr (.inl c3))))
          have c3i : (32 : Int) < (n.toNat : Int) := by omega
          have c3b : decide (32 < n.toNat) = true := by rw [decide_eq_true_eq]; exact c3
          clear hA c3
          go_wp2_with fail
          go_ret2
          exact ⟨HB.out, .inr ⟨HF.out, rfl⟩⟩
        have c3i : (n.toNat : Int) ≤ 32 := by omega
        have c3b : decide (32 < n.toNat) = false := by rw [decide_eq_false_iff_not]; exact c3
        clear c3
        by_cases c4 : m.length < n.toNat
        · have HF := Lib.hid (HBAD.out (.inr (.inr (.inr (.inl c4)))))
          have c4i : (u.size : Int) < 2 + (n.toNat : Int) := by have := HML.out; omega
          clear hA c4
          go_wp2_with fail
          go_ret2
          exact ⟨HB.out, .inr ⟨HF.out, rfl⟩⟩
        have c4i : 2 + (n.toNat : Int) ≤ (u.size : Int) := by have := HML.out; omega
        have HC4 := Lib.hid c4; clear c4
        have h1N : 1 + n.toNat < u.size := by omega
        obtain ⟨z, hz⟩ : ∃ z, u[1 + n.toNat] = z := ⟨_, rfl⟩
        have hz256 := byte_lt z
        have HZ : Hid (m.getD (n.toNat - 1) 0 = z) := Lib.hid (by
          rw [HLAST.out (n.toNat - 1) (by omega), show 2 + (n.toNat - 1) = 1 + n.toNat by omega, getD_at u (1 + n.toNat) h1N]; exact hz)
        by_cases c5 : z = 0
        · have HF := Lib.hid (HBAD.out (.inr (.inr (.inr (.inr (by rw [HZ.out]; exact c5))))))
          have hzb : ((z.toNat : Int) == 0) = true := by rw [c5]; rfl
          clear hA c5
          go_wp2_with fail
          go_ret2
          exact ⟨HB.out, .inr ⟨HF.out, rfl⟩⟩
        have hzb : ((z.toNat : Int) == 0) = false := by rw [beq_eq_false_iff_ne]; intro h; exact c5 (UInt8.toNat_inj.1 (by simpa using h))
        have c2n : 1 ≤ n.toNat := by omega
        have c3n : n.toNat ≤ 32 := by omega
        have hgo := types_go (last := L) (out := A) (b := b) (n := n) (m := m) (by
          rintro (h | h | h | h | h)
          · omega
          · omega
          · omega
          · exact HC4.out h
          · rw [HZ.out] at h; exact c5 h)
        have HGO : Hid (typesA (b.toNat : Int) (A ++ blockL b.toNat (m.take n.toNat)) (m.drop n.toNat) = R) := Lib.hid (by rw [← hgo, ← HD.out]; exact HW.out)
        clear hgo c5
        obtain ⟨A2, hA2⟩ : ∃ A2, A ++ blockL b.toNat (m.take n.toNat) = A2 := ⟨_, rfl⟩
        obtain ⟨BL, hBL⟩ : ∃ BL, bitsL (m.take n.toNat) = BL := ⟨_, rfl⟩
        have hBLl : BL.length = 8 * n.toNat := by rw [← hBL, bitsL_len, List.length_take]; have := HML.out; omega
        have HA2 : Hid (A ++ pickL b.toNat 0 (BL.drop 0) = A2) := Lib.hid (by rw [← hA2, List.drop_zero, ← hBL]; rfl)
        have HBIT : Hid (∀ k, k < 8 * n.toNat → ∀ (c : UInt8), (∀ h : 2 + k / 8 < u.size, u[2 + k / 8] = c) → BL[k]? = some (c.toNat / 2 ^ (7 - k % 8) % 2)) := Lib.hid (by
          intro k hk c hc
          have hml := HML.out
          have h1 := bitsL_get (m.take n.toNat) k (by rw [List.length_take]; omega)
          rw [hBL] at h1
          rw [h1]
          have h2 : 2 + k / 8 < u.size := by omega
          have h3 : (m.take n.toNat).getD (k / 8) 0 = c := by
            rw [List.getD_eq_getElem?_getD, List.getElem?_take, if_pos (by omega), ← List.getD_eq_getElem?_getD, HLAST.out (k / 8) h2, getD_at u _ h2]
            exact hc h2
          rw [h3])
        have HBLL := Lib.hid hBLl
        rw [hA2] at HGO
        clear hA2 hBL hBLl
        go_wp2_with fail
        go_loopg [4, 6, 54] (8 * n.toNat + 1) (fun gas ov _ kv wq => ∃ (k : Nat) (A' : List Nat), kv = .int .i64 k ∧ k ≤ 8 * n.toNat ∧ 8 * n.toNat + 1 ≤ k + gas ∧ Hid (A' ++ pickL b.toNat k (BL.drop k) = A2) ∧ A'.length ≤ A.length + k ∧ wq.ownsRow w.heap.size 3 1 ov A'.length (A'.map bitV) ∧ Below w.heap.size w wq)
        case atStart => exact ⟨0, A, rfl, by omega, by omega, HA2, by omega, hA, hB⟩
        case round =>
          clear hA hB HB
          obtain ⟨k, A', rfl, hk, hkg, HV, hAl, hA', hB'⟩ := hrel
          have HKG := Lib.hid hkg; clear hkg
          have HB' := Lib.hid hB'
          by_cases hlt : k < 8 * n.toNat
          · have hjb : 2 + k / 8 < u.size := by omega
            obtain ⟨c, hc⟩ : ∃ c, u[2 + k / 8] = c := ⟨_, rfl⟩
            have hc256 := byte_lt c
            have hbit := HBIT.out k hlt c (fun h => hc)
            obtain ⟨v, hv⟩ : ∃ v, c.toNat / 2 ^ (7 - k % 8) = v := ⟨_, rfl⟩
            have hv255 : v ≤ 255 := by rw [← hv]; have := Nat.div_le_self c.toNat (2 ^ (7 - k % 8)); omega
            obtain ⟨x, hx⟩ : ∃ x, v % 2 = x := ⟨_, rfl⟩
            have HXA : Hid (bits .and .u8 ((c.toNat : Int) / 2 ^ (7 - k % 8)) 1 = (x : Int)) := Lib.hid (by
              have e : (c.toNat : Int) / 2 ^ (7 - k % 8) = (v : Int) := by rw [← hv]; simp
              rw [e, and1 (by omega) (by omega)]; omega)
            rw [hv, hx] at hbit
            have HST := Lib.hid (pick_snoc HV.out hbit)
            have hji : 2 + (k : Int) / 8 < (u.size : Int) := by omega
            have hx2 : x < 2 := by omega
            clear hbit hv hx
            by_cases hx1 : x = 1
            · have hxb : (bits .and .u8 ((c.toNat : Int) / 2 ^ (7 - k % 8)) 1 == 1) = true := by rw [HXA.out, beq_iff_eq]; omega
              obtain ⟨t, ht⟩ : ∃ t, b.toNat * 256 + k = t := ⟨_, rfl⟩
              have HXT : Hid ((b.toNat : Int) * 256 + (k : Int) = (t : Int)) := Lib.hid (by omega)
              have HST2 : Hid ((A' ++ [t]) ++ pickL b.toNat (k + 1) (BL.drop (k + 1)) = A2) := Lib.hid (by rw [← ht]; simpa [hx1] using HST.out)
              have hAb : A'.length + 1 ≤ 8388609 := by omega
              have hsz := hB'.size
              clear ht HST hx1
              go_wp2_with (at_builtin; refine wpList_append_own _ rfl _ _ 83 rfl w.heap.size 3 i0 (.int .i64 0) 1 8 Tryz.underlying83 hi hz0 hz1 hz2 rfl (by decide) _ _ _ rfl (hA'.alloc _) ⟨wr.heap.size, 0, none⟩ 1 1 [.int .i64 ((b.toNat : Int) * 256 + (k : Int))] rfl rfl ?c1 ?c2 ?c3 ?c4 ?c5 ?_)
              case c1 => exact cell_one_new _ _ _
              case c2 => simp [Value.oneCell']
              case c3 => unfold maxLen; omega
              case c4 => omega
              case c5 => simp; omega
              intro v' w1 hown' hgrow hnil
              rw [HXT.out] at hown'
              have hown2 := own_snocN hown'
              have hB2 := below_append hB' hsz hA' hgrow
              clear hown' hgrow hA' hnil
              go_wp2_with fail
              have hkg := HKG.out
              go_roundg (gk - 1)
              case rel => exact ⟨k + 1, A' ++ [t], by go_num, by omega, by omega, HST2, by simp; omega, hown2, hB2⟩
              case measure => omega
            · have hxb : (bits .and .u8 ((c.toNat : Int) / 2 ^ (7 - k % 8)) 1 == 1) = false := by rw [HXA.out, beq_eq_false_iff_ne]; omega
              have HST2 : Hid (A' ++ pickL b.toNat (k + 1) (BL.drop (k + 1)) = A2) := Lib.hid (by simpa [hx1] using HST.out)
              clear hx1 HST
              go_wp2_with fail
              have hkg := HKG.out
              go_roundg (gk - 1)
              case rel => exact ⟨k + 1, A', by go_num, by omega, by omega, HST2, by omega, hA', hB'⟩
              case measure => omega
          · have hke : k = 8 * n.toNat := by omega
            have HAE := Lib.hid (pick_end HV.out (by have := HBLL.out; omega))
            have hA2l : A2.length ≤ A.length + 8 * n.toNat := by rw [← HAE.out]; omega
            rw [HAE.out] at hA'
            subst hke
            have hu2 : (u.extract (2 + n.toNat) u.size).data.toList = m.drop n.toNat := by
              rw [Lib.extract_data, List.take_of_length_le (by rw [List.length_drop, size_len]; exact Nat.le_refl _), ← HMM.out, List.drop_drop]
            have hus2 : (u.extract (2 + n.toNat) u.size).size = u.size - (2 + n.toNat) := by rw [ByteArray.size_extract]; omega
            have HU2 := Lib.hid hu2; have HUS2 := Lib.hid hus2
            clear hu2 hus2
            go_wp2_with fail
            have hG := HG.out
            go_roundg (gk' - 1)
            case rel =>
              have h2 := HUS2.out
              exact ⟨_, _, A2, rfl, rfl, by omega, by omega, by omega, by omega, by omega, by rw [HU2.out]; exact HGO, hA', hB'⟩
            case measure => omega
end Go.Proofs.YtjejmgdpjfdhjaaGreatDoor.typesW
namespace Go.Proofs.YtjejmgdpjfdhjaaGreatDoor.kindsT
open Go.RowKit Go.Proofs.YtjejmgdpjfdhjaaGreatDoor.kit Go.Proofs.YtjejmgdpjfdhjaaGreatDoor.nspec Go.Proofs.YtjejmgdpjfdhjaaGreatDoor.fld Go.Proofs.YtjejmgdpjfdhjaaGreatDoor.typesW
set_option linter.unusedVariables false

set_option maxRecDepth 100000 in
set_option maxHeartbeats 1000000 in
theorem kinds_any (s : ByteArray) (w : World) (hs : s.size ≤ 1048576) :
    Calls Tryz.prog 131 #[.agg #[], .string s] w fun e w' => e = .returned (.int .i64 (takeS .kinds s.data.toList)) ∧ Below w.heap.size w w' := by
  have C := Lib.hid (fun w => types_any s w hs)
  have hBa := Lib.hid ((Below.refl w.heap.size w).alloc (Nat.le_refl _) (.cells #[] 74))
  obtain ⟨R, HR⟩ : ∃ R, Hid (takeS .kinds s.data.toList = R) := ⟨_, Lib.hid rfl⟩
  rw [HR.out]
  go_enter Tryz.func131, Tryz.ntmps131
  go_wp2_with fail
  refine (C.out _).mono ?_
  rintro e w1 ⟨hB1, ⟨v, l, hl, rfl, _⟩ | ⟨hl, rfl⟩⟩
  · have HB := Lib.hid (hBa.out.trans (hB1.mono hBa.out.size))
    have HN : Hid ((s.size : Int) = R) := Lib.hid (by rw [← HR.out]; simp only [takeS]; rw [if_neg (by rw [hl]; simp), size_len])
    clear hB1 hl
    go_wp2_with fail
    go_ret
    exact ⟨by rw [← HN.out]; rfl, HB.out⟩
  · have HB := Lib.hid (hBa.out.trans (hB1.mono hBa.out.size))
    have HN : Hid ((-1 : Int) = R) := Lib.hid (by rw [← HR.out]; simp only [takeS]; rw [if_pos hl])
    clear hB1 hl
    go_wp2_with fail
    go_ret
    exact ⟨by rw [← HN.out]; rfl, HB.out⟩
end Go.Proofs.YtjejmgdpjfdhjaaGreatDoor.kindsT
namespace Go.Proofs.YtjejmgdpjfdhjaaGreatDoor.hostP
open Go.Proofs.YtjejmgdpjfdhjaaGreatDoor.kit Go.Proofs.YtjejmgdpjfdhjaaGreatDoor.nspec Go.Proofs.YtjejmgdpjfdhjaaGreatDoor.nameA Go.Proofs.YtjejmgdpjfdhjaaGreatDoor.fld
set_option linter.unusedVariables false

theorem put_head (ls : List Bs) (j : Nat) (h : j ≤ ls.length) : (put ls)[room (ls.take j)]? = some (if h2 : j < ls.length then UInt8.ofNat (ls[j]).length else 0) := by
  have e : (put ls)[room (ls.take j)]? = ((put ls).drop (room (ls.take j)))[0]? := by simp
  rw [e, put_drop]
  by_cases h2 : j < ls.length
  · rw [dif_pos h2, List.drop_eq_getElem_cons h2]; rfl
  · rw [dif_neg h2, List.drop_eq_nil_iff.2 (by omega)]; rfl
theorem room_step (ls : List Bs) (j : Nat) (h : j < ls.length) : room (ls.take (j + 1)) = room (ls.take j) + 1 + (ls[j]).length := by
  rw [List.take_succ_eq_append_getElem h, room_append]; simp [room]; omega
theorem room_le (ls : List Bs) (j : Nat) : room (ls.take j) ≤ room ls := by
  have := room_append (ls.take j) (ls.drop j)
  rw [List.take_append_drop] at this; omega
theorem take_at {d : Bs} {k a : Nat} (ha : a < k) : (d.take k)[a]? = d[a]? := by rw [List.getElem?_take]; simp [ha]

/-- how far the scan has come: at the head of a label of each name that stands first -/
def Scan (d : Bs) (a : Nat) : Prop := ∀ (k : Nat) (ls : List Bs), k ≤ d.length → IsN (d.take k) ls → ∃ j, j ≤ ls.length ∧ a = room (ls.take j)
theorem name_len {d : Bs} {k : Nat} {ls : List Bs} (hk : k ≤ d.length) (h : IsN (d.take k) ls) : k = room ls + 1 := by
  have := congrArg List.length h.1
  rw [put_length, List.length_take] at this; omega
theorem Scan.start (d : Bs) : Scan d 0 := fun k ls _ _ => ⟨0, Nat.zero_le _, rfl⟩
theorem Scan.step {d : Bs} {a : Nat} {c : UInt8} (h : Scan d a) (hc : d[a]? = some c) (h0 : c.toNat ≠ 0) : Scan d (a + (1 + c.toNat)) := by
  intro k ls hk hN
  obtain ⟨j, hj, rfl⟩ := h k ls hk hN
  have hl := name_len hk hN
  have hr := room_le ls j
  have hp := put_head ls j hj
  rw [← hN.1, take_at (by omega), hc] at hp
  by_cases h2 : j < ls.length
  · rw [dif_pos h2] at hp
    have he : c = UInt8.ofNat (ls[j]).length := by simpa using hp
    have hx := hN.2.1 _ (List.getElem_mem h2)
    have hn : c.toNat = (ls[j]).length := by rw [he]; exact nat_of (by omega)
    exact ⟨j + 1, by omega, by rw [room_step ls j h2]; omega⟩
  · rw [dif_neg h2] at hp
    have he : c = 0 := by simpa using hp
    rw [he] at h0; exact absurd rfl h0
theorem host_none {d : Bs} (h : ∀ (k : Nat) (ls : List Bs), k ≤ d.length → ¬ IsN (d.take k) ls) : hostS d = -1 := by
  have : (List.range 256).find? (fun k => (split (d.take k)).isSome) = none := by
    rw [List.find?_eq_none]
    intro k _ hs
    obtain ⟨ls, hls⟩ := Option.isSome_iff_exists.1 hs
    have hN := split_iff.1 hls
    rcases Nat.lt_or_ge d.length k with h1 | h1
    · rw [List.take_of_length_le (by omega)] at hN
      exact h d.length ls (Nat.le_refl _) (by rw [List.take_of_length_le (Nat.le_refl _)]; exact hN)
    · exact h k ls h1 hN
  unfold hostS; rw [this]
theorem host_some {d : Bs} {m : Nat} {ls : List Bs} (hm : m ≤ d.length) (hN : IsN (d.take m) ls) (h : ∀ (k : Nat) (ls : List Bs), k < m → ¬ IsN (d.take k) ls) : hostS d = (m : Int) := by
  have hl := hN.2.2
  rw [List.length_take] at hl
  have : (List.range 256).find? (fun k => (split (d.take k)).isSome) = some m := by
    rw [List.find?_range_eq_some]
    refine ⟨?_, by rw [List.mem_range]; omega, ?_⟩
    · rw [split_iff.2 hN]; rfl
    · intro j hj
      cases hs : split (d.take j) with
      | none => rfl
      | some l => exact absurd (split_iff.1 hs) (h j l hj)
  unfold hostS; rw [this]
theorem Scan.far {d : Bs} {a : Nat} (h : Scan d a) (ha : d.length ≤ a) : hostS d = -1 := by
  refine host_none fun k ls hk hN => ?_
  obtain ⟨j, hj, rfl⟩ := h k ls hk hN
  have := name_len hk hN
  have := room_le ls j
  omega
theorem Scan.no {d : Bs} {a : Nat} (h : Scan d a) (hz : d[a]? = some 0) (hs : split (d.take (a + 1)) = none) : hostS d = -1 := by
  have hlt := (List.getElem?_eq_some_iff.1 hz).1
  refine host_none fun k ls hk hN => ?_
  obtain ⟨j, hj, rfl⟩ := h k ls hk hN
  have hl := name_len hk hN
  have hr := room_le ls j
  have hp := put_head ls j hj
  rw [← hN.1, take_at (by omega), hz] at hp
  by_cases h2 : j < ls.length
  · rw [dif_pos h2] at hp
    have he : (0 : UInt8) = UInt8.ofNat (ls[j]).length := by simpa using hp
    have hx := hN.2.1 _ (List.getElem_mem h2)
    have hn : (0 : UInt8).toNat = (ls[j]).length := by rw [he]; exact nat_of (by omega)
    have : (0 : UInt8).toNat = 0 := rfl
    omega
  · have hje : j = ls.length := by omega
    subst hje
    rw [List.take_of_length_le (Nat.le_refl _)] at hs
    rw [← hl] at hs
    rw [split_iff.2 hN] at hs; simp at hs
theorem Scan.yes {d : Bs} {a : Nat} (h : Scan d a) (ha : a + 1 ≤ d.length) {ls : List Bs} (hN : IsN (d.take (a + 1)) ls) : hostS d = ((a + 1 : Nat) : Int) := by
  refine host_some ha hN fun k l hk hN2 => ?_
  obtain ⟨j, hj, rfl⟩ := h k l (by omega) hN2
  have := name_len (by omega) hN2
  have := room_le l j
  omega
end Go.Proofs.YtjejmgdpjfdhjaaGreatDoor.hostP
namespace Go.Proofs.YtjejmgdpjfdhjaaGreatDoor.hostT
open Go.RowKit Go.Proofs.YtjejmgdpjfdhjaaGreatDoor.kit Go.Proofs.YtjejmgdpjfdhjaaGreatDoor.check Go.Proofs.YtjejmgdpjfdhjaaGreatDoor.nspec Go.Proofs.YtjejmgdpjfdhjaaGreatDoor.rsplit Go.Proofs.YtjejmgdpjfdhjaaGreatDoor.fld Go.Proofs.YtjejmgdpjfdhjaaGreatDoor.hostP Go.Proofs.YtjejmgdpjfdhjaaGreatDoor.takes
set_option linter.unusedVariables false

theorem at_some {s : ByteArray} {a : Nat} {c : UInt8} (h : a < s.size) (hc : s[a] = c) : s.data.toList[a]? = some c := by
  have h' : a < s.data.toList.length := by rw [size_len]; exact h
  rw [List.getElem?_eq_getElem h', ← hc]; rfl
theorem ext0 (s : ByteArray) (n : Nat) : (s.extract 0 n).data.toList = s.data.toList.take n := by rw [Lib.extract_data]; simp

set_option maxRecDepth 100000 in
set_option maxHeartbeats 2000000 in
theorem host_any (s : ByteArray) (w : World) (hs : s.size ≤ 1099511627776) :
    Calls Tryz.prog 107 #[.agg #[], .string s] w fun e w' => e = .returned (.int .i64 (takeS .host s.data.toList)) ∧ Below w.heap.size w w' := by
  have hBa := Lib.hid ((Below.refl w.heap.size w).alloc (Nat.le_refl _) (.cells #[] 67))
  have HS0 := Lib.hid (Scan.start s.data.toList)
  obtain ⟨R, HR⟩ : ∃ R, Hid (hostS s.data.toList = R) := ⟨_, Lib.hid rfl⟩
  have HT : Hid (takeS .host s.data.toList = R) := Lib.hid HR.out
  rw [HT.out]
  go_enter Tryz.func107, Tryz.ntmps107
  go_wp2_with fail
  go_loopg [5] (s.size + 300) (fun gas av wr => ∃ a : Nat, av = .int .i64 a ∧ a ≤ s.size + 256 ∧ s.size + 258 ≤ a + gas ∧ Hid (Scan s.data.toList a) ∧ Below w.heap.size w wr)
  case atStart => exact ⟨0, rfl, by omega, by omega, HS0, hBa.out⟩
  case round =>
    obtain ⟨a, rfl, ha, hgas, HS, hB⟩ := hrel
    have HG := Lib.hid hgas; clear hgas
    have HB := Lib.hid hB; clear hB
    by_cases hlt : a < s.size
    · obtain ⟨c, hc⟩ : ∃ c, s[a] = c := ⟨_, rfl⟩
      have hc256 := byte_lt c
      have HC := Lib.hid (at_some hlt hc)
      by_cases h0 : c.toNat = 0
      · have hc0 : c = 0 := UInt8.toNat_inj.1 h0
        have hz : ((c.toNat : Int)) = 0 := by omega
        have hb : decide (0 < c.toNat) = false := by rw [decide_eq_false_iff_not]; omega
        have hes : (s.extract 0 (a + 1)).data.toList = s.data.toList.take (a + 1) := ext0 s (a + 1)
        have CK := Lib.hid (fun w => check_any (s.extract 0 (a + 1)) w (by rw [ByteArray.size_extract]; omega))
        have hle : (a : Int) + 1 ≤ (s.size : Int) := by omega
        have hlt2 : (a : Int) < (s.size : Int) := by omega
        rcases isB_or (s.extract 0 (a + 1)) with ⟨ls, hN⟩ | hN
        · rw [chk_yes hN] at CK
          rw [hes] at hN
          have HY := Lib.hid (HS.out.yes (by rw [size_len]; omega) hN)
          clear h0 hz hc0 hes hN
          go_wp2_with fail
          refine (CK.out _).mono ?_
          rintro e w1 ⟨rfl, hB1⟩
          have HB1 := Lib.hid (HB.out.trans (hB1.mono HB.out.size)); clear hB1
          go_wp2_with fail
          go_ret
          exact ⟨by rw [← HR.out, HY.out]; rfl, HB1.out⟩
        · rw [chk_no hN] at CK
          rw [hes] at hN
          have HY := Lib.hid (HS.out.no (by rw [HC.out, hc0]) hN)
          clear h0 hz hc0 hes hN
          go_wp2_with fail
          refine (CK.out _).mono ?_
          rintro e w1 ⟨rfl, hB1⟩
          have HB1 := Lib.hid (HB.out.trans (hB1.mono HB.out.size)); clear hB1
          go_wp2_with fail
          go_ret
          exact ⟨by rw [← HR.out, HY.out]; rfl, HB1.out⟩
      · have HS2 := Lib.hid (HS.out.step HC.out h0)
        have hb : decide (0 < c.toNat) = true := by rw [decide_eq_true_eq]; omega
        clear h0
        go_wp2_with fail
        have hgas := HG.out
        go_roundg (gk - 1)
        case rel => exact ⟨a + (1 + c.toNat), by go_num, by omega, by omega, HS2, HB.out⟩
        case measure => omega
    · have HY := Lib.hid (HS.out.far (by rw [size_len]; omega))
      have hge : (s.size : Int) ≤ (a : Int) := by omega
      clear hlt
      go_wp2_with fail
      go_ret
      exact ⟨by rw [← HR.out, HY.out]; rfl, HB.out⟩
end Go.Proofs.YtjejmgdpjfdhjaaGreatDoor.hostT
