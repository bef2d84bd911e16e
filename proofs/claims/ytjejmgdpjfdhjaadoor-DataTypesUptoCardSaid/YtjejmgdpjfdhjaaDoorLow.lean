/- Small letters: gazetteerref1.Low, and Number. -/
import Derived.Test.YtjejmgdpjfdhjaaDoorKit
namespace Go.Proofs.YtjejmgdpjfdhjaaDoor.low
open Go.RowKit Go.Proofs.YtjejmgdpjfdhjaaDoor.kit

def lowB (c : UInt8) : UInt8 := if 65 ≤ c.toNat ∧ c.toNat ≤ 90 then c + 32 else c
def lowL (l : List UInt8) : List UInt8 := l.map lowB
def lowTo (k : Nat) (l : List UInt8) : List UInt8 := (l.take k).map lowB ++ l.drop k
theorem lowTo_length (k : Nat) (l : List UInt8) : (lowTo k l).length = l.length := by
  simp only [lowTo, List.length_append, List.length_map, List.length_take, List.length_drop]; omega
theorem lowTo_at (k : Nat) (l : List UInt8) (h : k ≤ l.length) : (lowTo k l)[k]? = l[k]? := by
  have e : ((l.take k).map lowB).length = k := by simp; omega
  simp only [lowTo]
  rw [List.getElem?_append_right (by omega), e]
  simp
theorem lowTo_succ (k : Nat) (l : List UInt8) (c : UInt8) (h : l[k]? = some c) : (lowTo k l).set k (lowB c) = lowTo (k + 1) l := by
  obtain ⟨h', rfl⟩ := List.getElem?_eq_some_iff.1 h
  have e : ((l.take k).map lowB).length = k := by simp; omega
  simp only [lowTo]
  rw [List.set_append, if_neg (by omega), e, Nat.sub_self, List.drop_eq_getElem_cons h', List.set_cons_zero, List.take_succ_eq_append_getElem h', List.map_append, List.append_assoc]
  rfl
theorem lowTo_skip (k : Nat) (l : List UInt8) (c : UInt8) (h : l[k]? = some c) (hc : lowB c = c) : lowTo k l = lowTo (k + 1) l := by
  rw [← lowTo_succ k l c h, hc]
  have h1 := (List.getElem?_eq_some_iff.1 h).1
  have h' : k < (lowTo k l).length := by rw [lowTo_length]; exact h1
  have h2 : (lowTo k l)[k]? = some c := by rw [lowTo_at k l (by omega), h]
  obtain ⟨h3, h4⟩ := List.getElem?_eq_some_iff.1 h2
  rw [← h4]
  exact (List.set_getElem_self h3).symm
theorem lowTo_all (l : List UInt8) : lowTo l.length l = lowL l := by simp [lowTo, lowL]
theorem lowTo_zero (l : List UInt8) : lowTo 0 l = l := by simp [lowTo]

theorem up_val (c : UInt8) (h : 65 ≤ c.toNat ∧ c.toNat ≤ 90) : ((lowB c).toNat : Int) = (c.toNat : Int) + 32 := by
  simp only [lowB, if_pos h, UInt8.toNat_add]
  have : (32 : UInt8).toNat = 32 := rfl
  omega
theorem lowB_id (c : UInt8) (h : ¬ (65 ≤ c.toNat ∧ c.toNat ≤ 90)) : lowB c = c := by simp only [lowB, if_neg h]

set_option maxHeartbeats 400000 in
theorem low_any (s : ByteArray) (w : World) (hs : s.size ≤ maxLen) :
    Calls Tryd.prog 21 #[.string s] w fun e w' => e = .returned (.string ⟨(lowL s.data.toList).toArray⟩) ∧ Below w.heap.size w w' := by
  unfold maxLen at hs
  have hconv := Lib.run_convert_string_bytes (P := Tryd.prog) w 9 38 5 s Tryd.underlying9 Tryd.underlying38 Tryd.underlying5
  have hB := bytesWorld_below w 5 s
  have hb0 := bytes_new w 5 s
  generalize grownCap w s.size 0 5 = cap at hconv
  generalize Lib.bytesWorld w 5 s = w1 at hconv hB hb0
  have H0 := Lib.hid hb0; clear hb0
  go_enter Tryd.func21, Tryd.ntmps21
  go_wp2
  clear hconv
  go_loopw [4, 9] (fun _ i wr => ∃ k : Nat, k ≤ s.size ∧ i = .int .i64 k ∧ Below w.heap.size w wr ∧ Hid (Bytes wr w.heap.size (lowTo k s.data.toList))) (fun _ i _ => s.size - (intOf i).toNat)
  case atStart => exact ⟨0, Nat.zero_le _, rfl, hB, by rw [lowTo_zero]; exact H0⟩
  case round =>
    obtain ⟨k, hk, rfl, hBr, hbr⟩ := hrel
    clear hB H0
    by_cases hlt : k < s.size
    · obtain ⟨c, hc⟩ : ∃ c, s.data.toList[k]? = some c := ⟨_, List.getElem?_eq_getElem (by simpa using hlt)⟩
      obtain ⟨hcell, hfr⟩ := hbr.out k c (by rw [lowTo_at k _ (by simpa using hk)]; exact hc)
      have HC := Lib.hid hc
      clear hc
      obtain ⟨n, hn, hn0, hn1, hup, hlo⟩ : ∃ n : Int, n = (c.toNat : Int) ∧ 0 ≤ n ∧ n < 256 ∧ (65 ≤ n ∧ n ≤ 90 → ((lowB c).toNat : Int) = n + 32) ∧ (¬ (65 ≤ n ∧ n ≤ 90) → lowB c = c) :=
        ⟨_, rfl, by omega, byte_lt c, fun h => up_val c (by omega), fun h => lowB_id c (by omega)⟩
      rw [← hn] at hcell
      have HU := Lib.hid hup; have HL := Lib.hid hlo; have HN := Lib.hid hn
      clear hup hlo hn
      by_cases hup : 65 ≤ n ∧ n ≤ 90
      · have hlow := HU.out hup
        have hset := bytes_set hbr.out k (lowB c)
        rw [lowTo_succ k _ c HC.out, hlow] at hset
        have HS := Lib.hid hset; clear hset
        have HW := Lib.hid hlow; clear hlow
        obtain ⟨h1, h2⟩ := hup
        go_wp2
        exact ⟨⟨k + 1, by omega, by go_num, hBr.setCell (Nat.le_refl _) _, HS⟩, by simp [intOf]; omega⟩
      · have hsk := lowTo_skip k _ c HC.out (HL.out hup)
        have HS := Lib.hid hsk; clear hsk
        by_cases h1 : 65 ≤ n
        · have h2 : ¬ n ≤ 90 := by omega
          clear hup
          go_wp2
          exact ⟨⟨k + 1, by omega, by go_num, hBr, by rw [← HS.out]; exact hbr⟩, by simp [intOf]; omega⟩
        · clear hup
          go_wp2
          exact ⟨⟨k + 1, by omega, by go_num, hBr, by rw [← HS.out]; exact hbr⟩, by simp [intOf]; omega⟩
    · have hke : k = s.data.toList.length := by simp; omega
      have hfin := hbr.out
      rw [hke, lowTo_all] at hfin
      have hback := bytes_back (P := Tryd.prog) hfin 38 9 5 cap s.size (by simp [lowL]) Tryd.underlying38 Tryd.underlying5 Tryd.underlying9
      clear hfin
      have HK := Lib.hid hke; clear hke
      go_wp2
      go_ret
      exact ⟨rfl, hBr⟩

/-- Number -/
def numLoop (top : Int) : List UInt8 → Int → Int
  | [], v => if top < v then -1 else v
  | c :: r, v => if c.toNat < 48 then -1 else if 57 < c.toNat then -1 else numLoop top r (v * 10 + (c.toNat : Int) - 48)
def numSpec (s : List UInt8) (most top : Int) : Int := if s = [] then -1 else if most < s.length then -1 else numLoop top s 0

theorem num_nil {s : ByteArray} (most top : Int) (h : s.toList = []) : -1 = numSpec s.data.toList most top := by
  rw [Lib.toList_data] at h; simp [numSpec, h]
theorem num_long {s : ByteArray} (most top : Int) (h : s.toList.isEmpty = true ∨ most < (s.size : Int)) : -1 = numSpec s.data.toList most top := by
  rw [Lib.toList_data] at h
  simp only [numSpec]
  by_cases h0 : s.data.toList = []
  · simp [h0]
  · rw [if_neg h0, if_pos]
    rcases h with h | h
    · simp at h; simp [h] at h0
    · simpa using h
theorem num_start {s : ByteArray} (most top : Int) (h : s.toList.isEmpty = false ∧ (s.size : Int) ≤ most) : numLoop top (s.data.toList.drop 0) 0 = numSpec s.data.toList most top := by
  rw [Lib.toList_data] at h
  obtain ⟨h1, h2⟩ := h
  simp only [numSpec]
  rw [if_neg (by intro h; simp [h] at h1), if_neg (by simp; exact h2)]
  simp

/-- the greatest number of k digits -/
def nines : Nat → Int
  | 0 => 0
  | k + 1 => 10 * nines k + 9
theorem nines_mono (a b : Nat) (h : a ≤ b) : nines a ≤ nines b := by
  induction b with
  | zero => have : a = 0 := by omega
            subst this; exact Int.le_refl _
  | succ b ih =>
    have h0 : ∀ k, 0 ≤ nines k := by
      intro k; induction k with
      | zero => simp [nines]
      | succ k ih => simp only [nines]; omega
    by_cases e : a = b + 1
    · subst e; exact Int.le_refl _
    · have := ih (by omega); have := h0 b; simp only [nines]; omega
theorem nines_ten (a : Nat) (h : (a : Int) ≤ 10) : nines a ≤ 9999999999 := by
  have := nines_mono a 10 (by omega); simpa [nines] using this

theorem num_lo {l : List UInt8} {r : List UInt8} {c : UInt8} {top n v : Int} (hd : l = c :: r) (h : numLoop top l n = v) (hc : (c.toNat : Int) < 48) : -1 = v := by
  subst hd; rw [← h]; simp only [numLoop]; rw [if_pos (by omega)]
theorem num_hi {l : List UInt8} {r : List UInt8} {c : UInt8} {top n v : Int} (hd : l = c :: r) (h : numLoop top l n = v) (_h1 : (48 : Int) ≤ c.toNat) (hc : 57 < (c.toNat : Int)) : -1 = v := by
  subst hd; rw [← h]; simp only [numLoop]; rw [if_neg (by omega), if_pos (by omega)]
theorem num_step {l : List UInt8} {r : List UInt8} {c : UInt8} {top n v : Int} (hd : l = c :: r) (h : numLoop top l n = v) (h1 : (48 : Int) ≤ c.toNat) (hc : (c.toNat : Int) ≤ 57) : numLoop top r (n * 10 + (c.toNat : Int) - 48) = v := by
  subst hd; rw [← h]; simp only [numLoop]; rw [if_neg (by omega), if_neg (by omega)]
theorem num_over {top n v : Int} (h : numLoop top [] n = v) (hc : top < n) : -1 = v := by
  rw [← h]; simp only [numLoop]; rw [if_pos hc]
theorem num_end {top n v : Int} (h : numLoop top [] n = v) (hc : n ≤ top) : n = v := by
  rw [← h]; simp only [numLoop]; rw [if_neg (by omega)]

set_option maxHeartbeats 400000 in
theorem number_any (s : ByteArray) (most top : Int) (w : World) (hs : s.size ≤ maxLen) (hm : most ≤ 10) :
    Calls Tryd.prog 22 #[.string s, .int .i64 most, .int .i64 top] w fun e w' => e = .returned (.int .i64 (numSpec s.data.toList most top)) ∧ w = w' := by
  unfold maxLen at hs
  by_cases h0 : s.toList.isEmpty = true
  · go_enter Tryd.func22, Tryd.ntmps22
    go_wp2
    go_ret
    exact ⟨ret_int (num_nil _ _ (by simpa using h0)), rfl⟩
  have h0' : s.toList.isEmpty = false := by simpa using h0
  clear h0
  by_cases h1 : most < (s.size : Int)
  · go_enter Tryd.func22, Tryd.ntmps22
    go_wp2
    go_ret
    exact ⟨ret_int (num_long _ _ (.inr h1)), rfl⟩
  · have hst := num_start most top (s := s) ⟨h0', by omega⟩
    have hlen : (s.size : Int) ≤ 10 := by omega
    have hmost : (s.size : Int) ≤ most := by omega
    have hd : decide (most < (s.size : Int)) = false := by simpa using h1
    have H0 := Lib.hid hst; clear hst
    go_enter Tryd.func22, Tryd.ntmps22
    go_wp2
    go_loopg [7, 8] (s.size) (fun gas v i wr => ∃ (k : Nat) (n : Int), k + gas = s.size ∧ i = .int .i64 k ∧ v = .int .i64 n ∧ 0 ≤ n ∧ Hid (n ≤ nines k) ∧ Hid (numLoop top (s.data.toList.drop k) n = numSpec s.data.toList most top) ∧ w = wr)
    case atStart => exact ⟨0, 0, by omega, rfl, rfl, by omega, Lib.hid (by decide), H0, rfl⟩
    case round =>
      obtain ⟨k, n, hk, rfl, rfl, hn0, hn1, H, rfl⟩ := hrel
      have HK := Lib.hid hk
      have hk' : k ≤ s.size := by omega
      clear hk
      have hn2 : n ≤ 9999999999 := Int.le_trans hn1.out (nines_ten k (by omega))
      by_cases hlt : k < s.size
      · have HD := Lib.hid (drop_cons s k hlt)
        by_cases h48 : (48 : Int) ≤ s[k].toNat
        · by_cases h57 : (s[k].toNat : Int) ≤ 57
          · have HN := Lib.hid (num_step HD.out H.out h48 h57)
            have HB : Hid (n * 10 + (s[k].toNat : Int) - 48 ≤ nines (k + 1)) := Lib.hid (by have := hn1.out; simp only [nines]; omega)
            go_wp2
            have hk := HK.out
            go_roundg (gk - 1)
            case rel => exact ⟨k + 1, _, by omega, by go_num, rfl, by omega, HB, HN, rfl⟩
            case measure => omega
          · go_wp2
            go_ret
            exact ⟨ret_int (num_hi HD.out H.out h48 h57), rfl⟩
        · go_wp2
          go_ret
          exact ⟨ret_int (num_lo HD.out H.out h48), rfl⟩
      · have HD := Lib.hid (drop_end s k (by omega))
        have HH := H.out
        rw [HD.out] at HH
        have HE := Lib.hid HH; clear HH
        by_cases htop : top < n
        · go_wp2
          go_ret
          exact ⟨ret_int (num_over HE.out htop), rfl⟩
        · go_wp2
          go_ret
          exact ⟨ret_int (num_end HE.out htop), rfl⟩
end Go.Proofs.YtjejmgdpjfdhjaaDoor.low
