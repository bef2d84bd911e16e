/- Times: master.Seconds and the reference's. -/
import Derived.Test.YtjflojefpaffeaaLow
import Derived.Deep.DeepCutAuto
import Derived.Deep.CutBlock
namespace Go.Proofs.Ytjflojefpaffeaa.sec
open Go.RowKit Go.Proofs.Ytjflojefpaffeaa.kit Go.Proofs.Ytjflojefpaffeaa.low

def digs : List UInt8 → Nat
  | [] => 0
  | c :: r => if 48 ≤ c.toNat ∧ c.toNat ≤ 57 then digs r + 1 else 0
def unit (c : UInt8) : Int := if c.toNat = 119 then 604800 else if c.toNat = 100 then 86400 else if c.toNat = 104 then 3600 else if c.toNat = 109 then 60 else if c.toNat = 115 then 1 else 0
def clip (x : Int) : Int := if 2147483647 < x then 2147483648 else x
def refLoop : Nat → List UInt8 → Int → Int × Bool
  | 0, _, _ => (0, false)
  | f + 1, s, sum =>
    if s = [] then (if 2147483647 < sum then (0, false) else (sum, true)) else
    if numSpec (s.take (digs s)) 10 9999999999 < 0 then (0, false) else
    if digs s = s.length then (0, false) else
    if unit (s.getD (digs s) 0) = 0 then (0, false) else
    refLoop f (s.drop (digs s + 1)) (clip (sum + numSpec (s.take (digs s)) 10 9999999999 * unit (s.getD (digs s) 0)))
def refSec (s : List UInt8) : Int × Bool :=
  if 0 ≤ numSpec s 10 2147483647 then (numSpec s 10 2147483647, true) else
  if lowL s = [] then (0, false) else refLoop (s.length + 1) (lowL s) 0

theorem digs_le (l : List UInt8) : digs l ≤ l.length := by
  induction l with
  | nil => simp [digs]
  | cons c r ih => simp only [digs]; split <;> simp <;> omega

theorem numLoop_bd (top : Int) (h0 : -1 ≤ top) : ∀ (l : List UInt8) (v : Int), 0 ≤ v → -1 ≤ numLoop top l v ∧ numLoop top l v ≤ top
  | [], v, hv => by simp only [numLoop]; split <;> omega
  | c :: r, v, hv => by
    simp only [numLoop]; split
    · omega
    · split
      · omega
      · exact numLoop_bd top h0 r _ (by omega)
theorem numSpec_bd (l : List UInt8) (most top : Int) (h0 : -1 ≤ top) : -1 ≤ numSpec l most top ∧ numSpec l most top ≤ top := by
  simp only [numSpec]; split
  · omega
  · split
    · omega
    · exact numLoop_bd top h0 l 0 (by omega)

theorem digs_in {l : List UInt8} {c : UInt8} {r : List UInt8} {k m : Nat} (hd : l = c :: r) (h : k + digs l = m) (h1 : (48 : Int) ≤ c.toNat) (h2 : (c.toNat : Int) ≤ 57) : k + 1 + digs r = m := by
  subst hd; rw [← h]; simp only [digs]; rw [if_pos (by omega)]; omega
theorem digs_out {l : List UInt8} {c : UInt8} {r : List UInt8} {k m : Nat} (hd : l = c :: r) (h : k + digs l = m) (h1 : (c.toNat : Int) < 48 ∨ 57 < (c.toNat : Int)) : k = m := by
  subst hd; rw [← h]; simp only [digs]; rw [if_neg (by omega)]; omega

theorem ref_yes {l : List UInt8} {v : Int} (hv : numSpec l 10 2147483647 = v) (h : 0 ≤ v) : Ending.returned (.tuple #[.int .i64 v, .bool true]) = .returned (.tuple #[.int .i64 (refSec l).1, .bool (refSec l).2]) := by
  subst hv; simp only [refSec, if_pos h]
theorem ref_none {l : List UInt8} {v : Int} {t : ByteArray} (hv : numSpec l 10 2147483647 = v) (h : v < 0) (ht : t = ⟨(lowL l).toArray⟩) (he : t.toList = []) : Ending.returned (.tuple #[.int .i64 0, .bool false]) = .returned (.tuple #[.int .i64 (refSec l).1, .bool (refSec l).2]) := by
  subst hv; subst ht
  rw [Lib.toList_data, mk_data] at he
  simp only [refSec]
  rw [if_neg (by omega), if_pos he]
theorem ref_some {l : List UInt8} {v : Int} {t : ByteArray} (hv : numSpec l 10 2147483647 = v) (h : v < 0) (ht : t = ⟨(lowL l).toArray⟩) (he : t.toList.isEmpty = false) : refLoop (t.size + 1) t.data.toList 0 = refSec l := by
  subst hv; subst ht
  rw [Lib.toList_data, mk_data] at he
  rw [mk_data, mk_size]
  simp only [refSec]
  rw [if_neg (by omega), if_neg (by intro e; simp [e] at he)]
  simp [lowL]

def retIB (p : Int × Bool) : Value := .tuple #[.int .i64 p.1, .bool p.2]
theorem rl_over {g : Nat} {l : List UInt8} {m : Int} {R : Int × Bool} (h : refLoop g l m = R) (hg : 0 < g) (hl : l = []) (hm : 2147483647 < m) : (0, false) = R := by
  obtain ⟨f, rfl⟩ : ∃ f, g = f + 1 := ⟨g - 1, by omega⟩
  rw [← h]; simp only [refLoop]; rw [if_pos hl, if_pos hm]
theorem rl_end {g : Nat} {l : List UInt8} {m : Int} {R : Int × Bool} (h : refLoop g l m = R) (hg : 0 < g) (hl : l = []) (hm : m ≤ 2147483647) : (m, true) = R := by
  obtain ⟨f, rfl⟩ : ∃ f, g = f + 1 := ⟨g - 1, by omega⟩
  rw [← h]; simp only [refLoop]; rw [if_pos hl, if_neg (by omega)]
theorem rl_neg {g : Nat} {l : List UInt8} {m v : Int} {R : Int × Bool} (h : refLoop g l m = R) (hg : 0 < g) (hl : l ≠ []) (hv : numSpec (l.take (digs l)) 10 9999999999 = v) (h0 : v < 0) : (0, false) = R := by
  obtain ⟨f, rfl⟩ : ∃ f, g = f + 1 := ⟨g - 1, by omega⟩
  rw [← h]; simp only [refLoop]; rw [if_neg hl, hv, if_pos h0]
theorem rl_len {g : Nat} {l : List UInt8} {m v : Int} {R : Int × Bool} (h : refLoop g l m = R) (hg : 0 < g) (hl : l ≠ []) (hv : numSpec (l.take (digs l)) 10 9999999999 = v) (h0 : 0 ≤ v) (hk : digs l = l.length) : (0, false) = R := by
  obtain ⟨f, rfl⟩ : ∃ f, g = f + 1 := ⟨g - 1, by omega⟩
  rw [← h]; simp only [refLoop]; rw [if_neg hl, hv, if_neg (by omega), if_pos hk]
theorem rl_unit {g : Nat} {l : List UInt8} {m v : Int} {R : Int × Bool} (h : refLoop g l m = R) (hg : 0 < g) (hl : l ≠ []) (hv : numSpec (l.take (digs l)) 10 9999999999 = v) (h0 : 0 ≤ v) (hk : digs l ≠ l.length) (hu : unit (l.getD (digs l) 0) = 0) : (0, false) = R := by
  obtain ⟨f, rfl⟩ : ∃ f, g = f + 1 := ⟨g - 1, by omega⟩
  rw [← h]; simp only [refLoop]; rw [if_neg hl, hv, if_neg (by omega), if_neg hk, if_pos hu]
theorem rl_step {g : Nat} {l : List UInt8} {m v u : Int} {R : Int × Bool} (h : refLoop g l m = R) (hg : 0 < g) (hl : l ≠ []) (hv : numSpec (l.take (digs l)) 10 9999999999 = v) (h0 : 0 ≤ v) (hk : digs l ≠ l.length) (hu : unit (l.getD (digs l) 0) = u) (hu0 : u ≠ 0) : refLoop (g - 1) (l.drop (digs l + 1)) (clip (m + v * u)) = R := by
  obtain ⟨f, rfl⟩ : ∃ f, g = f + 1 := ⟨g - 1, by omega⟩
  rw [← h]; simp only [refLoop]; rw [if_neg hl, hv, if_neg (by omega), if_neg hk, hu, if_neg hu0]; rfl
theorem ret_p {a : Int} {b : Bool} {p : Int × Bool} (h : (a, b) = p) : Ending.returned (.tuple #[.int .i64 a, .bool b]) = .returned (.tuple #[.int .i64 p.1, .bool p.2]) := by subst h; rfl

theorem unit1 {d : UInt8} {x : Int} (hd : (d.toNat : Int) = x) (h : (x == 119) = true) : unit d = 604800 := by
  subst hd; have := eq_of_beq h; simp only [unit]; rw [if_pos (by omega)]
theorem unit2 {d : UInt8} {x : Int} (hd : (d.toNat : Int) = x) (h : (x == 100) = true) : unit d = 86400 := by
  subst hd; have := eq_of_beq h; simp only [unit]; rw [if_neg (by omega), if_pos (by omega)]
theorem unit3 {d : UInt8} {x : Int} (hd : (d.toNat : Int) = x) (h : (x == 104) = true) : unit d = 3600 := by
  subst hd; have := eq_of_beq h; simp only [unit]; rw [if_neg (by omega), if_neg (by omega), if_pos (by omega)]
theorem unit4 {d : UInt8} {x : Int} (hd : (d.toNat : Int) = x) (h : (x == 109) = true) : unit d = 60 := by
  subst hd; have := eq_of_beq h; simp only [unit]; rw [if_neg (by omega), if_neg (by omega), if_neg (by omega), if_pos (by omega)]
theorem unit5 {d : UInt8} {x : Int} (hd : (d.toNat : Int) = x) (h : (x == 115) = true) : unit d = 1 := by
  subst hd; have := eq_of_beq h; simp only [unit]; rw [if_neg (by omega), if_neg (by omega), if_neg (by omega), if_neg (by omega), if_pos (by omega)]
theorem unit6 {d : UInt8} {x : Int} (hd : (d.toNat : Int) = x) (h1 : (x == 119) = false) (h2 : (x == 100) = false) (h3 : (x == 104) = false) (h4 : (x == 109) = false) (h5 : (x == 115) = false) : unit d = 0 := by
  subst hd
  have := ne_of_beq_false h1; have := ne_of_beq_false h2; have := ne_of_beq_false h3; have := ne_of_beq_false h4; have := ne_of_beq_false h5
  simp only [unit]; rw [if_neg (by omega), if_neg (by omega), if_neg (by omega), if_neg (by omega), if_neg (by omega)]

set_option maxHeartbeats 1000000 in
theorem ref_any (s : ByteArray) (w : World) (hs : s.size ≤ maxLen) :
    Calls Try.prog 22 #[.string s] w fun e w' => e = .returned (.tuple #[.int .i64 (refSec s.data.toList).1, .bool (refSec s.data.toList).2]) ∧ Below w.heap.size w w' := by
  have hs' := hs
  unfold maxLen at hs'
  go_enter Try.func22, Try.ntmps22
  go_wp2_with fail
  refine (number_any s 10 2147483647 w hs (by omega)).mono ?_
  rintro e w' ⟨rfl, rfl⟩
  obtain ⟨hb1, hb2⟩ := numSpec_bd s.data.toList 10 2147483647 (by omega)
  generalize hv : numSpec s.data.toList 10 2147483647 = v at hb1 hb2
  have HV := Lib.hid hv; clear hv
  by_cases hv0 : 0 ≤ v
  · go_wp2
    go_ret2
    exact ⟨ref_yes HV.out hv0, Below.refl _ _⟩
  have hv1 : v < 0 := by omega
  clear hv0
  go_wp2_with fail
  refine (low_any s w hs).mono ?_
  rintro e w1 ⟨rfl, hB⟩
  generalize ht : (⟨(lowL s.data.toList).toArray⟩ : ByteArray) = t
  have hts : t.size ≤ maxLen := by rw [← ht, mk_size]; simpa [lowL] using hs
  have HT := Lib.hid ht.symm; clear ht
  by_cases he : t.toList = []
  · go_wp2
    go_ret2
    exact ⟨ref_none HV.out hv1 HT.out he, hB⟩
  have he' : t.toList.isEmpty = false := by simpa using he
  clear he
  have HS := Lib.hid (ref_some HV.out hv1 HT.out he')
  obtain ⟨R, HRs⟩ : ∃ R, Hid (R = refSec s.data.toList) := ⟨_, Lib.hid rfl⟩
  rw [← HRs.out] at HS
  go_wp2
  go_loopg [5, 6] (t.size + 1) (fun gas sm tt wr => ∃ (u : ByteArray) (m : Int), sm = .int .i64 m ∧ tt = .string u ∧ 0 ≤ m ∧ m ≤ 2147483648 ∧ u.size < gas ∧ u.size ≤ maxLen ∧ Hid (refLoop gas u.data.toList m = R) ∧ w1 = wr)
  case atStart => exact ⟨t, 0, rfl, rfl, by omega, by omega, by omega, hts, HS, rfl⟩
  case round =>
    clear HS HT he' hts
    obtain ⟨g1, rfl⟩ : ∃ g1, g1 = gk := ⟨_, rfl⟩
    obtain ⟨u, m, rfl, rfl, hm0, hm1, hgas, hus, HR, rfl⟩ := hrel
    have hus' := hus
    unfold maxLen at hus'
    have hg0 : 0 < g1 := by omega
    by_cases he : u.toList = []
    · have HE := Lib.hid ((empty_iff u).1 he)
      by_cases hm : 2147483647 < m
      · go_wp2
        go_ret2
        exact ⟨ret_p ((rl_over HR.out hg0 HE.out hm).trans HRs.out), hB⟩
      · have hm' : m ≤ 2147483647 := by omega
        go_wp2
        go_ret2
        exact ⟨ret_p ((rl_end HR.out hg0 HE.out hm').trans HRs.out), hB⟩
    have HE : Hid (u.data.toList ≠ []) := Lib.hid (fun h => he ((empty_iff u).2 h))
    have he' : u.toList.isEmpty = false := by simpa using he
    clear he
    go_upto_block 2 with (fail)
    go_cut [7] (fun kk wc => ∃ k : Nat, kk = .int .i64 k ∧ k ≤ u.size ∧ Hid (k = digs u.data.toList) ∧ w1 = wc)
    case first =>
      go_wp2
      go_loopg [7] (u.size) (fun gas2 kk wr => ∃ k : Nat, kk = .int .i64 k ∧ k + gas2 = u.size ∧ Hid (k + digs (u.data.toList.drop k) = digs u.data.toList) ∧ w1 = wr)
      case atStart => exact ⟨0, rfl, by omega, Lib.hid (by simp), rfl⟩
      case round =>
        obtain ⟨k, rfl, hk, HD, rfl⟩ := hrel
        have HK := Lib.hid hk
        have hk' : k ≤ u.size := by omega
        clear hk
        by_cases hlt : k < u.size
        · by_cases h48 : (48 : Int) ≤ u[k].toNat
          · by_cases h57 : (u[k].toNat : Int) ≤ 57
            · have HN := Lib.hid (digs_in (drop_cons u k hlt) HD.out h48 h57)
              go_wp2
              have hk := HK.out
              go_roundg (gk - 1)
              case rel => exact ⟨k + 1, by go_num, by omega, HN, rfl⟩
              case measure => omega
            · have HF := Lib.hid (digs_out (drop_cons u k hlt) HD.out (.inr (by omega)))
              go_wp2
              go_meet
              exact ⟨k, rfl, hk', HF, rfl⟩
          · have HF := Lib.hid (digs_out (drop_cons u k hlt) HD.out (.inl (by omega)))
            go_wp2
            go_meet
            exact ⟨k, rfl, hk', HF, rfl⟩
        · have HF : Hid (k = digs u.data.toList) := Lib.hid (by
            have := HD.out
            rw [drop_end u k (by omega)] at this
            simpa [digs] using this)
          go_wp2
          go_meet
          exact ⟨k, rfl, hk', HF, rfl⟩
    case rest =>
      obtain ⟨k, rfl, hk, HF, rfl⟩ := hcut
      go_wp2_with fail
      have hxs : (u.extract 0 k).size ≤ maxLen := by rw [ByteArray.size_extract]; omega
      have hxd : (u.extract 0 k).data.toList = u.data.toList.take (digs u.data.toList) := by rw [Lib.extract_data, ← HF.out]; simp
      refine (number_any (u.extract 0 k) 10 9999999999 w1 hxs (by omega)).mono ?_
      rintro e w' ⟨rfl, rfl⟩
      obtain ⟨hc1, hc2⟩ := numSpec_bd (u.extract 0 k).data.toList 10 9999999999 (by omega)
      generalize hx : numSpec (u.extract 0 k).data.toList 10 9999999999 = x at hc1 hc2
      rw [hxd] at hx
      have HX := Lib.hid hx; clear hx hxd hxs
      by_cases hx0 : x < 0
      · go_wp2
        go_ret2
        exact ⟨ret_p ((rl_neg HR.out hg0 HE.out HX.out hx0).trans HRs.out), hB⟩
      have hx1 : 0 ≤ x := by omega
      clear hx0
      by_cases hke : k = u.size
      · have HL : Hid (digs u.data.toList = u.data.toList.length) := Lib.hid (by rw [← HF.out, hke]; simp)
        have hke' : ((k : Int) == (u.size : Int)) = true := by simp [hke]
        clear hke
        go_wp2
        go_ret2
        exact ⟨ret_p ((rl_len HR.out hg0 HE.out HX.out hx1 HL.out).trans HRs.out), hB⟩
      have hlt : k < u.size := by omega
      have HL : Hid (digs u.data.toList ≠ u.data.toList.length) := Lib.hid (by rw [← HF.out]; simpa using hke)
      have hke' : ((k : Int) == (u.size : Int)) = false := by simp; omega
      clear hke
      go_upto_block 4 with (fail)
      go_cut [9] (fun uu wc => ∃ n : Int, uu = .int .i64 n ∧ 0 ≤ n ∧ n ≤ 604800 ∧ Hid (unit (u.data.toList.getD (digs u.data.toList) 0) = n) ∧ w1 = wc)
      case first =>
        have HC := Lib.hid (congrArg (fun c : UInt8 => (c.toNat : Int)) ((congrArg (fun j => u.data.toList.getD j 0) HF.out.symm).trans (getD_at u k hlt)))
        go_wp2
        all_goals go_meet
        · exact ⟨_, rfl, by omega, by omega, Lib.hid (unit1 HC.out (by assumption)), rfl⟩
        · exact ⟨_, rfl, by omega, by omega, Lib.hid (unit2 HC.out (by assumption)), rfl⟩
        · exact ⟨_, rfl, by omega, by omega, Lib.hid (unit3 HC.out (by assumption)), rfl⟩
        · exact ⟨_, rfl, by omega, by omega, Lib.hid (unit4 HC.out (by assumption)), rfl⟩
        · exact ⟨_, rfl, by omega, by omega, Lib.hid (unit5 HC.out (by assumption)), rfl⟩
        · exact ⟨_, rfl, by omega, by omega, Lib.hid (unit6 HC.out (by assumption) (by assumption) (by assumption) (by assumption) (by assumption)), rfl⟩
      case rest =>
        obtain ⟨n, rfl, hn0, hn1, HN, rfl⟩ := hcut
        by_cases hu0 : n = 0
        · subst hu0
          go_wp2
          go_ret2
          exact ⟨ret_p ((rl_unit HR.out hg0 HE.out HX.out hx1 HL.out HN.out).trans HRs.out), hB⟩
        have hn2 : 0 < n := by omega
        have hu0' : (n == 0) = false := by simpa using hu0
        have HST := Lib.hid (rl_step HR.out hg0 HE.out HX.out hx1 HL.out HN.out hu0)
        clear hu0
        have hp0 : 0 ≤ x * n := Int.mul_nonneg hx1 hn0
        have hp1 : x * n ≤ 9999999999 * 604800 := Int.mul_le_mul hc2 hn1 hn0 (by omega)
        have hdr : (u.extract (k + 1) u.size).data.toList = u.data.toList.drop (digs u.data.toList + 1) := by
          rw [Lib.extract_data, ← HF.out, List.take_of_length_le]; simp
        rw [← hdr] at HST
        have hsz : (u.extract (k + 1) u.size).size = u.size - (k + 1) := by rw [ByteArray.size_extract]; omega
        have HZ := Lib.hid hsz
        clear hdr hsz
        by_cases hov : 2147483647 < m + x * n
        · have HCL : Hid (clip (m + x * n) = 2147483648) := Lib.hid (by simp only [clip]; rw [if_pos hov])
          rw [HCL.out] at HST
          go_wp2
          go_roundg (g1 - 1)
          case rel => exact ⟨_, _, rfl, rfl, by omega, by omega, by rw [HZ.out]; omega, by rw [HZ.out]; omega, HST, rfl⟩
          case measure => omega
        · have HCL : Hid (clip (m + x * n) = m + x * n) := Lib.hid (by simp only [clip]; rw [if_neg hov])
          rw [HCL.out] at HST
          go_wp2
          go_roundg (g1 - 1)
          case rel => exact ⟨_, _, rfl, rfl, by omega, by omega, by rw [HZ.out]; omega, by rw [HZ.out]; omega, HST, rfl⟩
          case measure => omega

/-- master.Seconds -/
def masLoop : List UInt8 → Int → Int → Int → Bool → Int × Bool
  | [], sum, digits, value, units =>
    if units = decide (0 < digits) then (0, false) else if 2147483647 < (if units then sum else value) then (0, false) else (if units then sum else value, true)
  | c :: r, sum, digits, value, units =>
    if 48 ≤ c.toNat ∧ c.toNat ≤ 57 then (if digits = 10 then (0, false) else masLoop r sum (digits + 1) (value * 10 + ((c.toNat : Int) - 48)) units)
    else if unit (c ||| 32) = 0 ∨ digits = 0 then (0, false) else masLoop r (min (sum + value * unit (c ||| 32)) 2147483648) 0 0 true
def masSec (s : List UInt8) : Int × Bool := masLoop s 0 0 0 false

theorem or_nat (c : UInt8) : ((c ||| 32).toNat : Int) = bits .or .u8 (c.toNat : Int) 32 := by
  rw [show (32 : Int) = ((32 : Nat) : Int) from rfl, u8_or_nat _ _ c.toNat_lt (by omega)]
  simp [UInt8.toNat_or]
theorem ml_ten {l r : List UInt8} {c : UInt8} {m d v : Int} {b : Bool} {R : Int × Bool} (h : masLoop l m d v b = R) (hd : l = c :: r) (h1 : (48 : Int) ≤ c.toNat) (h2 : (c.toNat : Int) ≤ 57) (h10 : d = 10) : (0, false) = R := by
  subst hd; rw [← h]; simp only [masLoop]; rw [if_pos (by omega), if_pos h10]
theorem ml_dig {l r : List UInt8} {c : UInt8} {m d v : Int} {b : Bool} {R : Int × Bool} (h : masLoop l m d v b = R) (hd : l = c :: r) (h1 : (48 : Int) ≤ c.toNat) (h2 : (c.toNat : Int) ≤ 57) (h10 : d < 10) : masLoop r m (d + 1) (v * 10 + ((c.toNat : Int) - 48)) b = R := by
  subst hd; rw [← h]; simp only [masLoop]; rw [if_pos (by omega), if_neg (by omega)]
theorem ml_bad {l r : List UInt8} {c : UInt8} {m d v : Int} {b : Bool} {R : Int × Bool} (h : masLoop l m d v b = R) (hd : l = c :: r) (h1 : ¬ (48 ≤ c.toNat ∧ c.toNat ≤ 57)) (h10 : unit (c ||| 32) = 0 ∨ d = 0) : (0, false) = R := by
  subst hd; rw [← h]; simp only [masLoop]; rw [if_neg h1, if_pos h10]
theorem ml_unit {l r : List UInt8} {c : UInt8} {m d v n : Int} {b : Bool} {R : Int × Bool} (h : masLoop l m d v b = R) (hd : l = c :: r) (h1 : ¬ (48 ≤ c.toNat ∧ c.toNat ≤ 57)) (hn : unit (c ||| 32) = n) (h0 : n ≠ 0) (h10 : d ≠ 0) : masLoop r (min (m + v * n) 2147483648) 0 0 true = R := by
  subst hd; rw [← h]; simp only [masLoop]; rw [if_neg h1, hn, if_neg (by omega)]

theorem ml_mix {m d v : Int} {b : Bool} {R : Int × Bool} (hb : b = decide (0 < d)) (h : masLoop [] m d v b = R) : (0, false) = R := by
  rw [← h]; simp only [masLoop]; rw [if_pos hb]
theorem ml_over {m d v : Int} {b : Bool} {R : Int × Bool} (hb : b ≠ decide (0 < d)) (ho : 2147483647 < (if b then m else v)) (h : masLoop [] m d v b = R) : (0, false) = R := by
  rw [← h]; simp only [masLoop]; rw [if_neg hb, if_pos ho]
theorem ml_ok {m d v : Int} {b : Bool} {R : Int × Bool} (hb : b ≠ decide (0 < d)) (ho : ¬ 2147483647 < (if b then m else v)) (h : masLoop [] m d v b = R) : ((if b then m else v), true) = R := by
  rw [← h]; simp only [masLoop]; rw [if_neg hb, if_neg ho]

set_option maxHeartbeats 1000000 in
theorem mas_any (s : ByteArray) (w : World) (hs : s.size ≤ maxLen) :
    Calls Try.prog 21 #[.string s] w fun e w' => e = .returned (.tuple #[.int .i64 (masSec s.data.toList).1, .bool (masSec s.data.toList).2]) ∧ w = w' := by
  unfold maxLen at hs
  obtain ⟨R, HRs⟩ : ∃ R, Hid (R = masSec s.data.toList) := ⟨_, Lib.hid rfl⟩
  go_enter Try.func21, Try.ntmps21
  go_wp2
  go_loopg [4, 5, 6, 7, 13] (s.size) (fun gas sm dg vl un kk wr => ∃ (k : Nat) (m d v : Int) (b : Bool), sm = .int .i64 m ∧ dg = .int .i64 d ∧ vl = .int .i64 v ∧ un = .bool b ∧ kk = .int .i64 k ∧ k + gas = s.size ∧
    0 ≤ m ∧ m ≤ 2147483648 ∧ 0 ≤ d ∧ d ≤ 10 ∧ 0 ≤ v ∧ Hid (v ≤ nines d.toNat) ∧ Hid (masLoop (s.data.toList.drop k) m d v b = R) ∧ w = wr)
  case atStart => exact ⟨0, 0, 0, 0, false, rfl, rfl, rfl, rfl, rfl, by omega, by omega, by omega, by omega, by omega, by omega, Lib.hid (by decide), Lib.hid (by rw [HRs.out]; rfl), rfl⟩
  case round =>
    obtain ⟨k, m, d, v, b, rfl, rfl, rfl, rfl, rfl, hk, hm0, hm1, hd0, hd1, hv0, HV, HR, rfl⟩ := hrel
    have HK := Lib.hid hk
    have hk' : k ≤ s.size := by omega
    clear hk
    have hv1 : v ≤ 9999999999 := Int.le_trans HV.out (nines_ten d.toNat (by omega))
    by_cases hlt : k < s.size
    · have HD := Lib.hid (drop_cons s k hlt)
      by_cases hdig : (48 : Int) ≤ s[k].toNat ∧ (s[k].toNat : Int) ≤ 57
      · obtain ⟨h48, h57⟩ := hdig
        by_cases hd : d = 10
        · have HT := Lib.hid (ml_ten HR.out HD.out h48 h57 hd)
          have hd' : (d == 10) = true := by simpa using hd
          clear hd
          go_wp2
          go_ret2
          exact ⟨ret_p (HT.out.trans HRs.out), rfl⟩
        · have hdb : (d == 10) = false := by simpa using hd
          have hdl : d < 10 := by omega
          have HN := Lib.hid (ml_dig HR.out HD.out h48 h57 hdl)
          have HV' : Hid (v * 10 + ((s[k].toNat : Int) - 48) ≤ nines (d + 1).toNat) := Lib.hid (by
            have h1 := HV.out
            rw [show (d + 1).toNat = d.toNat + 1 from by omega]
            simp only [nines]; omega)
          clear hd
          go_wp2
          have hk := HK.out
          go_roundg (gk - 1)
          case rel => exact ⟨k + 1, m, d + 1, _, b, rfl, rfl, rfl, rfl, by go_num, by omega, by omega, by omega, by omega, by omega, by omega, HV', HN, rfl⟩
          case measure => omega
      · have HND : Hid (¬ (48 ≤ s[k].toNat ∧ s[k].toNat ≤ 57)) := Lib.hid (by omega)
        have hspl : (s[k].toNat : Int) < 48 ∨ 48 ≤ (s[k].toNat : Int) ∧ 57 < (s[k].toNat : Int) := by omega
        clear hdig
        have HC := Lib.hid (or_nat s[k])
        rcases hspl with h48 | ⟨h48, h57⟩
        all_goals
          go_upto_block 2 with (fail)
          go_cut [10] (fun uu wc => ∃ n : Int, uu = .int .i64 n ∧ 0 ≤ n ∧ n ≤ 604800 ∧ Hid (unit (s[k] ||| 32) = n) ∧ w = wc)
          case first =>
            go_wp2
            all_goals go_meet
            · exact ⟨_, rfl, by omega, by omega, Lib.hid (unit1 HC.out (by assumption)), rfl⟩
            · exact ⟨_, rfl, by omega, by omega, Lib.hid (unit2 HC.out (by assumption)), rfl⟩
            · exact ⟨_, rfl, by omega, by omega, Lib.hid (unit3 HC.out (by assumption)), rfl⟩
            · exact ⟨_, rfl, by omega, by omega, Lib.hid (unit4 HC.out (by assumption)), rfl⟩
            · exact ⟨_, rfl, by omega, by omega, Lib.hid (unit5 HC.out (by assumption)), rfl⟩
            · exact ⟨_, rfl, by omega, by omega, Lib.hid (unit6 HC.out (by assumption) (by assumption) (by assumption) (by assumption) (by assumption)), rfl⟩
          case rest =>
            obtain ⟨n, rfl, hn0, hn1, HN, rfl⟩ := hcut
            by_cases hu0 : n = 0
            · subst hu0
              go_wp2
              go_ret2
              exact ⟨ret_p ((ml_bad HR.out HD.out HND.out (.inl HN.out)).trans HRs.out), rfl⟩
            have hn2 : 0 < n := by omega
            have hu0' : (n == 0) = false := by simpa using hu0
            by_cases hdz : d = 0
            · subst hdz
              go_wp2
              go_ret2
              exact ⟨ret_p ((ml_bad HR.out HD.out HND.out (.inr rfl)).trans HRs.out), rfl⟩
            have hd2 : (d == 0) = false := by simpa using hdz
            have HST := Lib.hid (ml_unit HR.out HD.out HND.out HN.out hu0 hdz)
            clear hu0 hdz
            have hp0 : 0 ≤ v * n := Int.mul_nonneg hv0 hn0
            have hp1 : v * n ≤ 9999999999 * 604800 := Int.mul_le_mul hv1 hn1 hn0 (by omega)
            have hk := HK.out
            by_cases hov : 2147483648 < m + v * n
            · have HM := Lib.hid (show min (m + v * n) 2147483648 = 2147483648 by omega)
              rw [HM.out] at HST
              clear hk
              go_wp2
              have hk := HK.out
              go_roundg (gk - 1)
              case rel => exact ⟨k + 1, _, _, _, _, rfl, rfl, rfl, rfl, by go_num, by omega, by omega, by omega, by omega, by omega, by omega, Lib.hid (by decide), HST, rfl⟩
              case measure => omega
            · have HM := Lib.hid (show min (m + v * n) 2147483648 = m + v * n by omega)
              rw [HM.out] at HST
              clear hk
              go_wp2
              have hk := HK.out
              go_roundg (gk - 1)
              case rel => exact ⟨k + 1, _, _, _, _, rfl, rfl, rfl, rfl, by go_num, by omega, by omega, by omega, by omega, by omega, by omega, Lib.hid (by decide), HST, rfl⟩
              case measure => omega
    · have HE := Lib.hid (drop_end s k (by omega))
      have HR' := HR.out
      rw [HE.out] at HR'
      have H := Lib.hid HR'; clear HR'
      by_cases hdz : 0 < d
      · have hdt : decide (0 < d) = true := by simpa using hdz
        cases b
        · by_cases hov : 2147483647 < v
          · go_wp2
            go_ret2
            exact ⟨ret_p ((ml_over (by simp [hdz]) (by simpa using hov) H.out).trans HRs.out), rfl⟩
          · go_wp2
            go_ret2
            exact ⟨ret_p ((ml_ok (by simp [hdz]) (by simpa using hov) H.out).trans HRs.out), rfl⟩
        · go_wp2
          go_ret2
          exact ⟨ret_p ((ml_mix (by simp [hdz]) H.out).trans HRs.out), rfl⟩
      · have hdt : decide (0 < d) = false := by simpa using hdz
        cases b
        · go_wp2
          go_ret2
          exact ⟨ret_p ((ml_mix (by simp [hdz]) H.out).trans HRs.out), rfl⟩
        · by_cases hov : 2147483647 < m
          · go_wp2
            go_ret2
            exact ⟨ret_p ((ml_over (by simp [hdz]) (by simpa using hov) H.out).trans HRs.out), rfl⟩
          · go_wp2
            go_ret2
            exact ⟨ret_p ((ml_ok (by simp [hdz]) (by simpa using hov) H.out).trans HRs.out), rfl⟩
end Go.Proofs.Ytjflojefpaffeaa.sec
