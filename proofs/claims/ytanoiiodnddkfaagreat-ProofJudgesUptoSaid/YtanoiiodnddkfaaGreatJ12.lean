/- A number as bytes: seal.bytes, gazetteerref1.Bytes: walks. -/
import Derived.Test.YtanoiiodnddkfaaGreatJ10
import Derived.Test.YtanoiiodnddkfaaGreatJ11
import Derived.OwnWalk
import Derived.Deep.RegionWith
namespace Go.Proofs.YtanoiiodnddkfaaGreat.big
open Go.RowKit Go.Proofs.YtanoiiodnddkfaaGreat.kit Go.Proofs.YtanoiiodnddkfaaGreat.bits Go.Proofs.YtanoiiodnddkfaaGreat.bld Go.Proofs.YtanoiiodnddkfaaGreat.coded Go.Proofs.YtanoiiodnddkfaaGreat.reader
set_option linter.unusedVariables false

/-- the lowest n bytes of v, the highest first -/
def bigS (v : Nat) : Nat → List UInt8
  | 0 => []
  | n + 1 => bigS (v / 256) n ++ [UInt8.ofNat (v % 256)]
theorem bigS_len (v n : Nat) : (bigS v n).length = n := by
  induction n generalizing v with
  | zero => rfl
  | succ n ih => rw [bigS, List.length_append, ih]; rfl
theorem bigS_at : ∀ (n v k : Nat), k < n → (bigS v n)[k]? = some (UInt8.ofNat (v / 2 ^ (8 * (n - 1 - k)) % 256))
  | 0, v, k, h => by omega
  | n + 1, v, k, h => by
    rw [bigS]
    by_cases hk : k < n
    · rw [List.getElem?_append_left (by rw [bigS_len]; exact hk), bigS_at n (v / 256) k hk, Nat.div_div_eq_div_mul]
      congr 3
      rw [show 8 * (n + 1 - 1 - k) = 8 + 8 * (n - 1 - k) by omega, Nat.pow_add]
    · have hkn : k = n := by omega
      subst hkn
      rw [List.getElem?_append_right (by rw [bigS_len]; exact Nat.le_refl _), bigS_len]
      simp
def bigTo (v n k : Nat) : List UInt8 := (bigS v n).take k ++ List.replicate (n - k) 0
theorem bigTo_zero (v n : Nat) : bigTo v n 0 = List.replicate n 0 := by simp [bigTo]
theorem bigTo_end (v n : Nat) : bigTo v n n = bigS v n := by
  unfold bigTo; rw [List.take_of_length_le (by rw [bigS_len]; exact Nat.le_refl _), Nat.sub_self]; simp
theorem bigTo_set (v n k : Nat) (h : k < n) : (bigTo v n k).set k (UInt8.ofNat (v / 2 ^ (8 * (n - 1 - k)) % 256)) = bigTo v n (k + 1) := by
  have hl : ((bigS v n).take k).length = k := by rw [List.length_take, bigS_len]; omega
  unfold bigTo
  rw [show n - k = (n - (k + 1)) + 1 by omega, List.replicate_succ]
  have hm := set_mid ((bigS v n).take k) (List.replicate (n - (k + 1)) 0) 0 (UInt8.ofNat (v / 2 ^ (8 * (n - 1 - k)) % 256))
  rw [hl] at hm
  rw [hm, List.take_add_one, bigS_at n v k h]
  simp
theorem bigTo_len (v n k : Nat) (h : k ≤ n) : (bigTo v n k).length = n := by
  unfold bigTo; rw [List.length_append, List.length_take, bigS_len, List.length_replicate]; omega

set_option maxRecDepth 100000 in
set_option maxHeartbeats 2000000 in
theorem bytes_any (v n : Nat) (w : World) (hv : v ≤ 4611686018427387904) (hn : n ≤ 8) :
    Calls Tryz.prog 120 #[.int .i64 (v : Int), .int .i64 (n : Int)] w fun e w' => e = .returned (.string ⟨(bigS v n).toArray⟩) ∧ Below w.heap.size w w' := by
  obtain ⟨i0, hi, hz0, hz1, hz2⟩ := info_parts infoByte
  go_enter Tryz.func120, Tryz.ntmps120
  go_wp2_with (refine wpList_make_full _ rfl (.tmp 7) (.tmp 7) 102 rfl w.heap.size 5 i0 (.int .u8 0) 1 Tryz.underlying102 hi hz0 hz1 .i64 .i64 (n : Int) (n : Int) n rfl rfl rfl rfl ?b2 ?b3 (Nat.le_refl _) ?_)
  case b2 => rw [hz2]; omega
  case b3 => unfold maxLen; omega
  intro w1 hown hgrow
  have hown1 : w1.ownsRow w.heap.size 5 1 (.slice (some ⟨w.heap.size, 0, none⟩) n n) n (Lib.byteCells (bigTo v n 0)) := by
    rw [bigTo_zero]
    have h1 := hown
    rw [toList_madeCells_one] at h1
    have h2 : Lib.byteCells (List.replicate n 0) = List.replicate n (.int .u8 0) := by simp [Lib.byteCells]
    rw [h2]; exact h1
  have hB1 : Below w.heap.size w w1 := (Below.refl _ w).grown hgrow (Nat.le_refl _) (fun k hk => by cases hk)
  clear hown hgrow
  go_wp2
  go_loopg [6, 11] (n + 1) (fun gas _ kv wr => ∃ (k : Nat), kv = .int .i64 k ∧ k ≤ n ∧ k + gas = n + 1 ∧ wr.ownsRow w.heap.size 5 1 (.slice (some ⟨w.heap.size, 0, none⟩) n n) n (Lib.byteCells (bigTo v n k)) ∧ Below w.heap.size w wr)
  case atStart => exact ⟨0, rfl, by omega, by omega, hown1, hB1⟩
  case round =>
    clear hown1 hB1
    obtain ⟨k, rfl, hk, hkg, hO, hB⟩ := hrel
    have HK := Lib.hid hkg; clear hkg
    by_cases hlt : k < n
    · obtain ⟨e, he⟩ : ∃ e, 8 * (n - 1 - k) = e := ⟨_, rfl⟩
      have he8 : (e : Int) ≤ 56 := by omega
      have hsub : Value.int .i64 (8 * ((n : Int) - 1 - (k : Int))) = Value.int .i64 (e : Int) := by congr 1; omega
      have HS := Lib.hid (bigTo_set v n k hlt)
      rw [he] at HS
      obtain ⟨c, hc⟩ : ∃ c : UInt8, UInt8.ofNat (v / 2 ^ e % 256) = c := ⟨_, rfl⟩
      rw [hc] at HS
      have hcv : Value.int .u8 ((v : Int) / 2 ^ e % 256) = Value.int .u8 (c.toNat : Int) := by
        rw [← hc, UInt8.toNat_ofNat']; congr 1; simp
      obtain ⟨x, hx⟩ : ∃ x, (bigTo v n k)[k]? = some x := ⟨_, List.getElem?_eq_getElem (by rw [bigTo_len v n k (by omega)]; exact hlt)⟩
      have hcell : w.heap.size < wr.heap.size + 1 := by have := hB.size; omega
      have c0 : wr.cell? ⟨w.heap.size, k, none⟩ = some (.int .u8 (x.toNat : Int)) := by
        rw [hO.cellAt k (by omega)]; simp [Lib.byteCells, hx]
      have f0 : wr.frozen? ⟨w.heap.size, k, none⟩ = false := hO.frozenAt k
      have hst := (hO.stored k (.int .u8 (c.toNat : Int))).1
      rw [byteCells_set, HS.out] at hst
      have HST := Lib.hid hst
      have hBs := hB.setCell (p := ⟨w.heap.size, k, none⟩) (Nat.le_refl _) (.int .u8 (c.toNat : Int))
      have HBS := Lib.hid hBs
      clear hst hBs he hc hx
      go_wp2
      have hkg := HK.out
      go_roundg (gk - 1)
      case rel => exact ⟨k + 1, by go_num, by omega, by omega, by first | exact HST.out | (rw [hcv]; exact HST.out), by first | exact HBS.out | (rw [hcv]; exact HBS.out)⟩
      case measure => omega
    · have hkn : k = n := by omega
      subst hkn
      rw [bigTo_end] at hO
      have hst := own_string (P := Tryz.prog) (l := bigS v k) (v := .slice (some ⟨w.heap.size, 0, none⟩) k k) (by rw [bigS_len]; exact hO) 102 9 5 Tryz.underlying102 Tryz.underlying5 Tryz.underlying9
      go_wp2
      go_ret
      exact ⟨rfl, hB⟩

set_option maxRecDepth 100000 in
set_option maxHeartbeats 2000000 in
theorem rbytes_any (n : Nat) : ∀ (v : Nat) (w : World), v ≤ 4611686018427387904 → n ≤ 8 →
    Calls Tryz.prog 107 #[.int .i64 (v : Int), .int .i64 (n : Int)] w fun e w' => e = .returned (.string ⟨(bigS v n).toArray⟩) ∧ Below w.heap.size w w' := by
  induction n with
  | zero =>
    intro v w hv _
    go_enter Tryz.func107, Tryz.ntmps107
    go_wp2_with fail
    go_ret
    exact ⟨rfl, Below.refl _ _⟩
  | succ n ih =>
    intro v w hv hn
    have hn0 : (((n + 1 : Nat) : Int) == 0) = false := by rw [beq_eq_false_iff_ne]; omega
    obtain ⟨m, hm⟩ : ∃ m, n + 1 = m := ⟨_, rfl⟩
    obtain ⟨q, hq⟩ : ∃ q, v / 256 = q := ⟨_, rfl⟩
    obtain ⟨r, hr⟩ : ∃ r, v % 256 = r := ⟨_, rfl⟩
    obtain ⟨T, hT⟩ : ∃ T : ByteArray, (⟨(bigS q n).toArray⟩ : ByteArray) = T := ⟨_, rfl⟩
    obtain ⟨X, hX⟩ : ∃ X : ByteArray, (⟨#[UInt8.ofNat r]⟩ : ByteArray) = X := ⟨_, rfl⟩
    have hTs : T.size ≤ 8 := by rw [← hT, mk_size, bigS_len]; omega
    have hXs : X.size ≤ 1 := by rw [← hX]; exact Nat.le_refl 1
    have IH := Lib.hid (fun w => ih q w (by omega) (by omega))
    rw [hT] at IH
    have hr256 : (r : Int) < 256 := by omega
    have hbig : Hid ((⟨(bigS v m).toArray⟩ : ByteArray) = T ++ X) := Lib.hid (by rw [← hm, bigS, hq, hr, ← hT, ← hX]; exact ba_ext (by simp))
    rw [hm] at hn0 ⊢
    have E1 : Hid (IntKind.i64.wrap ((v : Int) / 256) = (q : Int)) := Lib.hid (by rw [IntWalk.i64_in _ (by omega)]; omega)
    have E3 : Hid (IntKind.i64.wrap ((m : Int) - 1) = (n : Int)) := Lib.hid (by rw [IntWalk.i64_in _ (by omega)]; omega)
    have hconv : ∀ (wx : World) (g : Nat), wx.cell? ⟨g, 0, none⟩ = some (.int .u8 (IntKind.u8.wrap ((v : Int).tmod 256))) → (convert 102 9 (.slice (some ⟨g, 0, none⟩) 1 1)).run Tryz.prog wx = .ok (.string X) wx := by
      intro wx g hx
      rw [← hX]
      have e : IntKind.u8.wrap ((v : Int).tmod 256) = ((UInt8.ofNat r).toNat : Int) := by
        rw [IntKind.wrap_u8, UInt8.toNat_ofNat', Int.tmod_eq_emod_of_nonneg (by omega)]; omega
      rw [e] at hx
      exact run_convert_bytes_back wx 102 9 5 ⟨g, 0, none⟩ 1 [UInt8.ofNat r] Tryz.underlying102 Tryz.underlying5 Tryz.underlying9 (fun j hj => by
        have : j = 0 := by simpa using hj
        subst this
        exact hx)
    have HRR := Lib.hid hr
    clear ih hm hq hr hT hX
    go_enter Tryz.func107, Tryz.ntmps107
    go_wp2_with fail
    go_region_with (go_at_call 107; rw [E1.out, E3.out]; refine (IH.out _).mono ?_; rintro e w1 ⟨rfl, hB1⟩; have hcx := hB1.cell (p := ⟨w.heap.size, 0, none⟩))
    all_goals
      clear hcx hconv
      go_wp2
      go_ret
      rw [hbig.out]
      refine ⟨rfl, ?_⟩
      have hz := hB1.size
      have hd : Below w.heap.size w w.drew := (Below.refl _ _).drew
      first
        | exact (hd.trans hB1).alloc (by simpa using hz) _
        | exact (hd.alloc (Nat.le_refl _) _).trans (hB1.mono (by simp))
end Go.Proofs.YtanoiiodnddkfaaGreat.big
