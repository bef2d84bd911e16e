/- Lists of ints in memory; gazetteerref1.bits: walk. -/
import Derived.Test.YtjejmgdpjfdhjaaDoorBits
import Derived.Maps.AppendAt
namespace Go.Proofs.YtjejmgdpjfdhjaaDoor.ints
open Go.RowKit Go.Proofs.YtjejmgdpjfdhjaaDoor.kit Go.Proofs.YtjejmgdpjfdhjaaDoor.bits

theorem infoInt : (Tryd.prog.info? 3).map (fun i => (i.zero, i.size, i.bytes)) = some (some (.int .i64 0), 1, 8) := by kernel_rfl
def bitV (x : Nat) : Value := .int .i64 (x : Int)

/-- a list of numbers can be read from address a on -/
def RdN (w : World) (a : Option Addr) (ls : List Nat) : Prop :=
  ∀ (j : Nat) (x : Nat), ls[j]? = some x → ∃ g o, a = some ⟨g, o, none⟩ ∧ g < w.heap.size ∧ w.cell? ⟨g, o + j, none⟩ = some (bitV x)
theorem RdN.nil (w : World) (a : Option Addr) : RdN w a [] := by intro j x h; simp at h
theorem RdN.below {w w' : World} {a : Option Addr} {B : Nat} {ls : List Nat} (h : RdN w a ls) (hB : Below B w w') (hz : B = w.heap.size) : RdN w' a ls := by
  intro j x hx
  obtain ⟨g, o, h1, h3, h4⟩ := h j x hx
  exact ⟨g, o, h1, Nat.lt_of_lt_of_le h3 hB.size, (hB.cell (p := ⟨g, o + j, none⟩) (by rw [hz]; exact h3)).trans h4⟩
theorem RdN.of_own {w : World} {base : Nat} {v : Value} {ls : List Nat} (h : w.ownsRow base 3 1 v ls.length (ls.map bitV)) : ∃ a c, v = .slice a ls.length c ∧ ls.length ≤ c ∧ c ≤ maxLen ∧ RdN w a ls := by
  rcases h.2 with ⟨rfl, h0⟩ | ⟨g, cap, cur, rfl, hb, hg, h1, h2, _, htake⟩
  · have : ls = [] := List.eq_nil_of_length_eq_zero h0
    subst this
    exact ⟨none, 0, rfl, Nat.le_refl _, Nat.zero_le _, RdN.nil _ _⟩
  · refine ⟨_, cap, rfl, h1, h2, ?_⟩
    intro j x hx
    refine ⟨g, 0, rfl, (Array.getElem?_eq_some_iff.1 hg).1, ?_⟩
    have := h.cells (g := g) rfl j (bitV x) (by rw [List.getElem?_map, hx]; rfl)
    have hadd : (⟨g, 0, none⟩ : Addr).add j = ⟨g, 0 + j, none⟩ := by unfold Addr.add; split <;> simp_all
    rw [hadd] at this
    exact this
theorem RdN.drop {w : World} {g o : Nat} {ls : List Nat} (h : RdN w (some ⟨g, o, none⟩) ls) (k : Nat) : RdN w (some ⟨g, o + k, none⟩) (ls.drop k) := by
  intro j x hx
  rw [List.getElem?_drop] at hx
  obtain ⟨g', o', h1, h2, h3⟩ := h _ x hx
  cases h1
  exact ⟨g, o + k, rfl, h2, by rw [Nat.add_assoc]; exact h3⟩
theorem RdN.addr {w : World} {a : Option Addr} {ls : List Nat} (h : RdN w a ls) (hl : 0 < ls.length) : ∃ g o, a = some ⟨g, o, none⟩ := by
  obtain ⟨g, o, h1, _⟩ := h 0 _ (List.getElem?_eq_getElem hl)
  exact ⟨g, o, h1⟩
theorem own_snocN {w1 : World} {base : Nat} {v' : Value} {acc : List Nat} {d : Nat} (h : w1.ownsRow base 3 1 v' (acc.length + 1) (acc.map bitV ++ [.int .i64 (d : Int)])) : w1.ownsRow base 3 1 v' (acc ++ [d]).length ((acc ++ [d]).map bitV) := by
  simpa [bitV] using h

/-- the mark of the highest of r bits -/
def mOf : Nat → Nat
  | 0 => 0
  | r + 1 => 2 ^ r
theorem mOf_half (r : Nat) : mOf (r + 1) / 2 = mOf r := by
  cases r with
  | zero => rfl
  | succ r => show 2 ^ (r + 1) / 2 = 2 ^ r; rw [Nat.pow_succ]; omega
theorem mOf_pos (r : Nat) : 1 ≤ mOf (r + 1) := Nat.two_pow_pos r
theorem mOf_le (r : Nat) (h : r ≤ 8) : mOf r ≤ 128 := by
  cases r with
  | zero => exact Nat.zero_le _
  | succ r => exact Nat.pow_le_pow_right (n := 2) (by omega) (show r ≤ 7 by omega)
theorem bit_step {v r : Nat} {A l R : List Nat} (h : A ++ (tob v (r + 1) ++ l) = R) : (A ++ [v / mOf (r + 1) % 2]) ++ (tob v r ++ l) = R := by
  rw [← h]; simp [tob, mOf]
theorem bit_done {v : Nat} {A l R : List Nat} (h : A ++ (tob v 0 ++ l) = R) : A ++ l = R := by
  rw [← h]; simp [tob]

set_option maxRecDepth 100000 in
set_option maxHeartbeats 2000000 in
theorem bits_own (s : ByteArray) (w : World) (hs : s.size ≤ 1099511627776) :
    Calls Tryd.prog 23 #[.string s] w fun e w' => ∃ v, e = .returned v ∧ w'.ownsRow w.heap.size 3 1 v (bitsL s.data.toList).length ((bitsL s.data.toList).map bitV) ∧ Below w.heap.size w w' := by
  obtain ⟨i0, hi, hz0, hz1, hz2⟩ := info_parts infoInt
  obtain ⟨R, HR⟩ : ∃ R, Hid (bitsL s.data.toList = R) := ⟨_, Lib.hid rfl⟩
  have hRl : R.length = 8 * s.size := by rw [← HR.out, bitsL_len, size_len]
  have HRL := Lib.hid hRl; clear hRl
  rw [HR.out]
  go_enter Tryd.func23, Tryd.ntmps23
  go_wp2
  go_loopg [3, 4, 5] (s.size + 1) (fun gas ov kv _ wr => ∃ (k : Nat) (A : List Nat), kv = .int .i64 k ∧ k ≤ s.size ∧ k + gas = s.size + 1 ∧ Hid (A ++ bitsL (s.data.toList.drop k) = R) ∧ wr.ownsRow w.heap.size 3 1 ov A.length (A.map bitV) ∧ Below w.heap.size w wr)
  case atStart => exact ⟨0, [], rfl, by omega, by omega, HR, World.ownsRow_nil _ _ _ _, Below.refl _ _⟩
  case round =>
    obtain ⟨k, A, rfl, hk, hkg, HW, hA, hB⟩ := hrel
    obtain ⟨gk', hgk'⟩ : ∃ g, g = gk := ⟨_, rfl⟩
    rw [← hgk'] at hkg
    have HK := Lib.hid hkg; clear hkg
    by_cases hlt : k < s.size
    · have hc256 := byte_lt s[k]
      obtain ⟨C, hC⟩ : ∃ C : Nat, s[k].toNat = C := ⟨_, rfl⟩
      have HSTEP : Hid (A ++ (tob C 8 ++ bitsL (s.data.toList.drop (k + 1))) = R) := Lib.hid (by
        have h1 := HW.out
        rw [drop_cons s k hlt, bits_cons, hC] at h1
        exact h1)
      go_wp2
      go_loopg [3, 5] 9 (fun gas ov mv wq => ∃ (r : Nat) (A : List Nat) (M : Nat), mv = .int .i64 M ∧ Hid (M = mOf r) ∧ r ≤ 8 ∧ r < gas ∧ Hid (A ++ (tob C r ++ bitsL (s.data.toList.drop (k + 1))) = R) ∧ wq.ownsRow w.heap.size 3 1 ov A.length (A.map bitV) ∧ Below w.heap.size w wq)
      case atStart => exact ⟨8, A, 128, rfl, Lib.hid rfl, by omega, by omega, HSTEP, hA, hB⟩
      case round =>
        clear hA hB HW
        obtain ⟨r, A', M, rfl, HM, hr, hrg, HV, hA', hB'⟩ := hrel
        cases r with
        | succ r =>
          have hM1 : (1 : Int) ≤ (M : Int) := by have := mOf_pos r; have := HM.out; omega
          have hMl : (M : Int) ≤ 128 := by have := mOf_le (r + 1) hr; have := HM.out; omega
          obtain ⟨M', hM'⟩ : ∃ M', M / 2 = M' := ⟨_, rfl⟩
          have HM' : Hid (M' = mOf r) := Lib.hid (by rw [← hM', HM.out, mOf_half])
          have hm2 : Value.int .i64 ((M : Int) / 2) = Value.int .i64 (M' : Int) := by congr 1; omega
          have HMM := Lib.hid hM'; clear hM'
          obtain ⟨q, hqq⟩ : ∃ q, C / M = q := ⟨_, rfl⟩
          have hq255 : (q : Int) ≤ 255 := by have := Nat.div_le_self C M; omega
          obtain ⟨d, hd⟩ : ∃ d, q % 2 = d := ⟨_, rfl⟩
          have HD : Hid ((A' ++ [d]) ++ (tob C r ++ bitsL (s.data.toList.drop (k + 1))) = R) := Lib.hid (by
            have h1 := bit_step HV.out
            rw [← HM.out, hqq, hd] at h1; exact h1)
          have hqv : Value.int .i64 (wrap64 ((s[k].toNat : Int) / (M : Int))) = Value.int .i64 (q : Int) := by
            have e : (s[k].toNat : Int) / (M : Int) = (q : Int) := by rw [← hqq, ← hC]; simp
            rw [e, IntWalk.wrap64_in _ (by omega)]
          have hdv : Value.int .i64 ((q : Int) % 2) = Value.int .i64 (d : Int) := by congr 1; omega
          have hAl : A'.length ≤ R.length := by rw [← HV.out]; simp
          have hRl := HRL.out
          have hAs : A'.length + 1 ≤ 8 * 1099511627776 + 1 := by omega
          have hsz := hB'.size
          clear hd hRl hC hqq
          go_wp2_with (at_builtin; refine wpList_append_own _ rfl _ _ 22 rfl w.heap.size 3 i0 (.int .i64 0) 1 8 Tryd.underlying22 hi hz0 hz1 hz2 rfl (by decide) _ _ _ rfl (hA'.alloc _) ⟨wr.heap.size, 0, none⟩ 1 1 [.int .i64 (d : Int)] rfl rfl ?c1 ?c2 ?c3 ?c4 ?c5 ?_)
          case c2 => simp [Value.oneCell']
          case c3 => unfold maxLen; omega
          case c4 => omega
          case c5 => omega
          intro v' w1 hown' hgrow _
          have hown2 := own_snocN hown'
          have hB2 := below_append hB' hsz hA' hgrow
          clear hown' hgrow hA' hqv hdv
          go_wp2
          go_roundg (gk - 1)
          case rel => exact ⟨r, _, _, rfl, HM', by omega, by omega, HD, hown2, hB2⟩
          case measure => omega
        | zero =>
          have hM0 : (M : Int) = 0 := by rw [HM.out]; rfl
          have hMd : decide (0 < (M : Int)) = false := by rw [hM0]; rfl
          have hm0 : M = 0 := by omega
          clear hM0
          subst hm0
          have HN := Lib.hid (bit_done HV.out)
          go_wp2
          have hkg := HK.out
          go_roundg (gk' - 1)
          case rel => exact ⟨k + 1, A', by go_num, by omega, by omega, HN, hA', hB'⟩
          case measure => omega
    · have HN := HW.out
      rw [drop_end s k (by omega)] at HN
      have e : A = R := by rw [← HN]; simp [bitsL]
      rw [e] at hA
      have HE := Lib.hid e
      clear e HN
      go_wp2
      go_ret
      exact ⟨_, rfl, hA, hB⟩
theorem bits_any (s : ByteArray) (w : World) (hs : s.size ≤ 1099511627776) :
    Calls Tryd.prog 23 #[.string s] w fun e w' => ∃ a c, e = .returned (.slice a (bitsL s.data.toList).length c) ∧ (bitsL s.data.toList).length ≤ c ∧ c ≤ maxLen ∧ RdN w' a (bitsL s.data.toList) ∧ Below w.heap.size w w' :=
  (bits_own s w hs).mono fun e w' ⟨v, h1, h2, h3⟩ => by
    obtain ⟨a, c, rfl, hc1, hc2, hrd⟩ := RdN.of_own h2
    exact ⟨a, c, h1, hc1, hc2, hrd, h3⟩
end Go.Proofs.YtjejmgdpjfdhjaaDoor.ints
