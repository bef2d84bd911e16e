/- The reference's among, Escape: walks. -/
import Derived.Test.YtjflojefpaffeaaRefC
namespace Go.Proofs.Ytjflojefpaffeaa.showA
open Go.RowKit Go.Proofs.Ytjflojefpaffeaa.kit Go.Proofs.Ytjflojefpaffeaa.check Go.Proofs.Ytjflojefpaffeaa.nspec Go.Proofs.Ytjflojefpaffeaa.rsplit Go.Proofs.Ytjflojefpaffeaa.low

def escL (c : UInt8) : List UInt8 := [48 + c / 100, 48 + c / 10 % 10, 48 + c % 10]
theorem am_yes {s : ByteArray} {k : Nat} {c : UInt8} {R : Bool} (h : (s.data.toList.drop k).contains c = R) (hk : k < s.size) (hc : s[k] = c) : true = R := by
  rw [drop_cons s k hk] at h; rw [← h, hc]; simp
theorem am_no {s : ByteArray} {k : Nat} {c : UInt8} {R : Bool} (h : (s.data.toList.drop k).contains c = R) (hk : k < s.size) (hc : s[k] ≠ c) : (s.data.toList.drop (k + 1)).contains c = R := by
  rw [drop_cons s k hk] at h; rw [← h]; simp [Ne.symm hc]
theorem am_end {s : ByteArray} {k : Nat} {c : UInt8} {R : Bool} (h : (s.data.toList.drop k).contains c = R) (hk : s.size ≤ k) : false = R := by
  rw [drop_end s k hk] at h; rw [← h]; rfl

set_option maxRecDepth 100000 in
set_option maxHeartbeats 1000000 in
theorem among_any (c : UInt8) (s : ByteArray) (w : World) (hs : s.size ≤ 1099511627776) :
    Calls Try.prog 92 #[.int .u8 (c.toNat : Int), .string s] w fun e w' => e = .returned (.bool (s.data.toList.contains c)) ∧ Below w.heap.size w w' := by
  obtain ⟨R, HR⟩ : ∃ R, Hid ((s.data.toList.drop 0).contains c = R) := ⟨_, Lib.hid rfl⟩
  have e : s.data.toList.contains c = R := HR.out
  rw [e]
  clear e
  go_enter Try.func92, Try.ntmps92
  go_wp2
  go_loopg [5] (s.size + 1) (fun gas kv wr => ∃ (k : Nat), kv = .int .i64 k ∧ k ≤ s.size ∧ k + gas = s.size + 1 ∧ Below w.heap.size w wr ∧ Hid ((s.data.toList.drop k).contains c = R))
  case atStart => exact ⟨0, rfl, by omega, by omega, Below.refl _ _, HR⟩
  case round =>
    obtain ⟨k, rfl, hk, hkg, hB, HW⟩ := hrel
    have HK := Lib.hid hkg; clear hkg
    by_cases hlt : k < s.size
    · by_cases hc : s[k] = c
      · have HY := Lib.hid (am_yes HW.out hlt hc)
        have he : ((s[k].toNat : Int) == (c.toNat : Int)) = true := by rw [hc]; simp
        clear hc
        go_wp2
        go_ret
        exact ⟨ret_bool HY.out, hB⟩
      · have HN := Lib.hid (am_no HW.out hlt hc)
        have he : ((s[k].toNat : Int) == (c.toNat : Int)) = false := by
          simp only [beq_eq_false_iff_ne]
          intro h
          exact hc (UInt8.toNat.inj (by omega))
        clear hc
        go_wp2
        have hkg := HK.out
        go_roundg (gk - 1)
        case rel => exact ⟨k + 1, by go_num, by omega, by omega, hB, HN⟩
        case measure => omega
    · have HN := Lib.hid (am_end HW.out (by omega))
      go_wp2
      go_ret
      exact ⟨ret_bool HN.out, hB⟩

theorem bytes_three (w : World) (e : TypeId) (A B C : UInt8) : Bytes (w.alloc (.cells #[.int .u8 (A.toNat : Int), .int .u8 (B.toNat : Int), .int .u8 (C.toNat : Int)] e)) w.heap.size [A, B, C] := by
  intro j c h
  refine ⟨?_, by simp⟩
  rw [World.cell?_alloc_new]
  match j, h with
  | 0, h => simp at h; subst h; rfl
  | 1, h => simp at h; subst h; rfl
  | 2, h => simp at h; subst h; rfl
theorem dig (c : UInt8) : ((48 + c / 100 : UInt8).toNat : Int) = 48 + (c.toNat : Int) / 100 ∧ ((48 + c / 10 % 10 : UInt8).toNat : Int) = 48 + (c.toNat : Int) / 10 % 10 ∧ ((48 + c % 10 : UInt8).toNat : Int) = 48 + (c.toNat : Int) % 10 := by
  have h := c.toNat_lt
  refine ⟨?_, ?_, ?_⟩
  · rw [UInt8.toNat_add, UInt8.toNat_div]
    have e1 : (48 : UInt8).toNat = 48 := rfl
    have e2 : (100 : UInt8).toNat = 100 := rfl
    rw [e1, e2]; omega
  · rw [UInt8.toNat_add, UInt8.toNat_mod, UInt8.toNat_div]
    have e1 : (48 : UInt8).toNat = 48 := rfl
    have e2 : (10 : UInt8).toNat = 10 := rfl
    rw [e1, e2]; omega
  · rw [UInt8.toNat_add, UInt8.toNat_mod]
    have e1 : (48 : UInt8).toNat = 48 := rfl
    have e2 : (10 : UInt8).toNat = 10 := rfl
    rw [e1, e2]; omega

set_option maxRecDepth 100000 in
set_option maxHeartbeats 1000000 in
theorem escape_any (c : UInt8) (w : World) :
    Calls Try.prog 93 #[.int .u8 (c.toNat : Int)] w fun e w' => e = .returned (.string ⟨(92 :: escL c).toArray⟩) ∧ Below w.heap.size w w' := by
  obtain ⟨d1, d2, d3⟩ := dig c
  have h3 := bytes_three w 5 (48 + c / 100) (48 + c / 10 % 10) (48 + c % 10)
  rw [d1, d2, d3] at h3
  have hconv := bytes_back (P := Try.prog) h3 73 9 5 3 3 rfl Try.underlying73 Try.underlying5 Try.underlying9
  have hB := (Below.refl w.heap.size w).alloc (Nat.le_refl _) (.cells #[.int .u8 (48 + (c.toNat : Int) / 100), .int .u8 (48 + (c.toNat : Int) / 10 % 10), .int .u8 (48 + (c.toNat : Int) % 10)] 5)
  have hs : (⟨#[92]⟩ : ByteArray) ++ ⟨[48 + c / 100, 48 + c / 10 % 10, 48 + c % 10].toArray⟩ = ⟨(92 :: escL c).toArray⟩ := by
    apply ba_ext; simp [escL]
  have HS := Lib.hid hs
  clear d1 d2 d3 h3 hs
  obtain ⟨T, hT⟩ : ∃ T : ByteArray, ⟨[48 + c / 100, 48 + c / 10 % 10, 48 + c % 10].toArray⟩ = T := ⟨_, rfl⟩
  have hts : T.size ≤ 3 := by rw [← hT]; exact Nat.le_refl _
  rw [hT] at hconv HS
  clear hT
  obtain ⟨n, hn⟩ : ∃ n : Int, (c.toNat : Int) = n := ⟨_, rfl⟩
  have hb := byte_lt c
  rw [hn] at hb hconv hB
  rw [hn]
  have hn0 : 0 ≤ n := by omega
  clear hn
  go_enter Try.func93, Try.ntmps93
  go_wp2
  go_ret
  exact ⟨ret_str HS.out, hB⟩
end Go.Proofs.Ytjflojefpaffeaa.showA
