/- A number as bytes: seal.bytes, gazetteerref1.Bytes: walks. What is told of a key: Public of both: walks. -/
import Derived.Test.YtnamkladeaohoaaK8
import Derived.Test.YtnamkladeaohoaaK14
import Derived.Test.YtnamkladeaohoaaK4
import Derived.OwnWalk
import Derived.Deep.RegionWith
import Derived.Deep.RegionHeld3
import Derived.Deep.DeepCutAuto
namespace Go.Proofs.Ytnamkladeaohoaa.big
open Go.RowKit Go.Proofs.Ytnamkladeaohoaa.kit Go.Proofs.Ytnamkladeaohoaa.bits Go.Proofs.Ytnamkladeaohoaa.bld Go.Proofs.Ytnamkladeaohoaa.coded Go.Proofs.Ytnamkladeaohoaa.reader
set_option linter.unusedVariables false

/-- the lowest n bytes of v, the highest first -/
def bigS (v : Nat) : Nat → List UInt8
  | 0 => []
  | n + 1 => bigS (v / 256) n ++ [UInt8.ofNat (v % 256)]
theorem bigS_len (v n : Nat) : (bigS v n).length = n := by
  induction n generalizing v with
  | zero => rfl
  | succ n ih => rw [bigS, List.length_append, ih]; rfl
theorem bigS_at : ∀ (n v k : Nat), k < n → (bigS v n)[k]? = some (UInt8.ofNat (v / 2 ^ (8 * (n - 1 - k)) % 256))
  | 0, v, k, h => by omega
  | n + 1, v, k, h => by
    rw [bigS]
    by_cases hk : k < n
    · rw [List.getElem?_append_left (by rw [bigS_len]; exact hk), bigS_at n (v / 256) k hk, Nat.div_div_eq_div_mul]
      congr 3
      rw [show 8 * (n + 1 - 1 - k) = 8 + 8 * (n - 1 - k) by omega, Nat.pow_add]
    · have hkn : k = n := by omega
      subst hkn
      rw [List.getElem?_append_right (by rw [bigS_len]; exact Nat.le_refl _), bigS_len]
      simp
def bigTo (v n k : Nat) : List UInt8 := (bigS v n).take k ++ List.replicate (n - k) 0
theorem bigTo_zero (v n : Nat) : bigTo v n 0 = List.replicate n 0 := by simp [bigTo]
theorem bigTo_end (v n : Nat) : bigTo v n n = bigS v n := by
  unfold bigTo; rw [List.take_of_length_le (by rw [bigS_len]; exact Nat.le_refl _), Nat.sub_self]; simp
theorem bigTo_set (v n k : Nat) (h : k < n) : (bigTo v n k).set k (UInt8.ofNat (v / 2 ^ (8 * (n - 1 - k)) % 256)) = bigTo v n (k + 1) := by
  have hl : ((bigS v n).take k).length = k := by rw [List.length_take, bigS_len]; omega
  unfold bigTo
  rw [show n - k = (n - (k + 1)) + 1 by omega, List.replicate_succ]
  have hm := set_mid ((bigS v n).take k) (List.replicate (n - (k + 1)) 0) 0 (UInt8.ofNat (v / 2 ^ (8 * (n - 1 - k)) % 256))
  rw [hl] at hm
  rw [hm, List.take_add_one, bigS_at n v k h]
  simp
theorem bigTo_len (v n k : Nat) (h : k ≤ n) : (bigTo v n k).length = n := by
  unfold bigTo; rw [List.length_append, List.length_take, bigS_len, List.length_replicate]; omega

set_option maxRecDepth 100000 in
set_option maxHeartbeats 2000000 in
theorem bytes_any (v n : Nat) (w : World) (hv : v ≤ 4611686018427387904) (hn : n ≤ 8) :
    Calls Try.prog 31 #[.int .i64 (v : Int), .int .i64 (n : Int)] w fun e w' => e = .returned (.string ⟨(bigS v n).toArray⟩) ∧ Below w.heap.size w w' := by
  obtain ⟨i0, hi, hz0, hz1, hz2⟩ := info_parts infoByte
  go_enter Try.func31, Try.ntmps31
  go_wp2_with (refine wpList_make_full _ rfl (.tmp 7) (.tmp 7) 62 rfl w.heap.size 5 i0 (.int .u8 0) 1 Try.underlying62 hi hz0 hz1 .i64 .i64 (n : Int) (n : Int) n rfl rfl rfl rfl ?b2 ?b3 (Nat.le_refl _) ?_)
  case b2 => rw [hz2]; omega
  case b3 => unfold maxLen; omega
  intro w1 hown hgrow
  have hown1 : w1.ownsRow w.heap.size 5 1 (.slice (some ⟨w.heap.size, 0, none⟩) n n) n (Lib.byteCells (bigTo v n 0)) := by
    rw [bigTo_zero]
    have h1 := hown
    rw [toList_madeCells_one] at h1
    have h2 : Lib.byteCells (List.replicate n 0) = List.replicate n (.int .u8 0) := by simp [Lib.byteCells]
    rw [h2]; exact h1
  have hB1 : Below w.heap.size w w1 := (Below.refl _ w).grown hgrow (Nat.le_refl _) (fun k hk => by cases hk)
  clear hown hgrow
  go_wp2
  go_loopg [6, 11] (n + 1) (fun gas _ kv wr => ∃ (k : Nat), kv = .int .i64 k ∧ k ≤ n ∧ k + gas = n + 1 ∧ wr.ownsRow w.heap.size 5 1 (.slice (some ⟨w.heap.size, 0, none⟩) n n) n (Lib.byteCells (bigTo v n k)) ∧ Below w.heap.size w wr)
  case atStart => exact ⟨0, rfl, by omega, by omega, hown1, hB1⟩
  case round =>
    clear hown1 hB1
    obtain ⟨k, rfl, hk, hkg, hO, hB⟩ := hrel
    have HK := Lib.hid hkg; clear hkg
    by_cases hlt : k < n
    · obtain ⟨e, he⟩ : ∃ e, 8 * (n - 1 - k) = e := ⟨_, rfl⟩
      have he8 : (e : Int) ≤ 56 := by omega
      have hsub : Value.int .i64 (8 * ((n : Int) - 1 - (k : Int))) = Value.int .i64 (e : Int) := by congr 1; omega
      have HS := Lib.hid (bigTo_set v n k hlt)
      rw [he] at HS
      obtain ⟨c, hc⟩ : ∃ c : UInt8, UInt8.ofNat (v / 2 ^ e % 256) = c := ⟨_, rfl⟩
      rw [hc] at HS
      have hcv : Value.int .u8 ((v : Int) / 2 ^ e % 256) = Value.int .u8 (c.toNat : Int) := by
        rw [← hc, UInt8.toNat_ofNat']; congr 1; simp
      obtain ⟨x, hx⟩ : ∃ x, (bigTo v n k)[k]? = some x := ⟨_, List.getElem?_eq_getElem (by rw [bigTo_len v n k (by omega)]; exact hlt)⟩
      have hcell : w.heap.size < wr.heap.size + 1 := by have := hB.size; omega
      have c0 : wr.cell? ⟨w.heap.size, k, none⟩ = some (.int .u8 (x.toNat : Int)) := by
        rw [hO.cellAt k (by omega)]; simp [Lib.byteCells, hx]
      have f0 : wr.frozen? ⟨w.heap.size, k, none⟩ = false := hO.frozenAt k
      have hst := (hO.stored k (.int .u8 (c.toNat : Int))).1
      rw [byteCells_set, HS.out] at hst
      have HST := Lib.hid hst
      have hBs := hB.setCell (p := ⟨w.heap.size, k, none⟩) (Nat.le_refl _) (.int .u8 (c.toNat : Int))
      have HBS := Lib.hid hBs
      clear hst hBs he hc hx
      go_wp2
      have hkg := HK.out
      go_roundg (gk - 1)
      case rel => exact ⟨k + 1, by go_num, by omega, by omega, by first | exact HST.out | (rw [hcv]; exact HST.out), by first | exact HBS.out | (rw [hcv]; exact HBS.out)⟩
      case measure => omega
    · have hkn : k = n := by omega
      subst hkn
      rw [bigTo_end] at hO
      have hst := own_string (P := Try.prog) (l := bigS v k) (v := .slice (some ⟨w.heap.size, 0, none⟩) k k) (by rw [bigS_len]; exact hO) 62 9 5 Try.underlying62 Try.underlying5 Try.underlying9
      go_wp2
      go_ret
      exact ⟨rfl, hB⟩

set_option maxRecDepth 100000 in
set_option maxHeartbeats 2000000 in
theorem rbytes_any (n : Nat) : ∀ (v : Nat) (w : World), v ≤ 4611686018427387904 → n ≤ 8 →
    Calls Try.prog 32 #[.int .i64 (v : Int), .int .i64 (n : Int)] w fun e w' => e = .returned (.string ⟨(bigS v n).toArray⟩) ∧ Below w.heap.size w w' := by
  induction n with
  | zero =>
    intro v w hv _
    go_enter Try.func32, Try.ntmps32
    go_wp2_with fail
    go_ret
    exact ⟨rfl, Below.refl _ _⟩
  | succ n ih =>
    intro v w hv hn
    have hn0 : (((n + 1 : Nat) : Int) == 0) = false := by rw [beq_eq_false_iff_ne]; omega
    obtain ⟨m, hm⟩ : ∃ m, n + 1 = m := ⟨_, rfl⟩
    obtain ⟨q, hq⟩ : ∃ q, v / 256 = q := ⟨_, rfl⟩
    obtain ⟨r, hr⟩ : ∃ r, v % 256 = r := ⟨_, rfl⟩
    obtain ⟨T, hT⟩ : ∃ T : ByteArray, (⟨(bigS q n).toArray⟩ : ByteArray) = T := ⟨_, rfl⟩
    obtain ⟨X, hX⟩ : ∃ X : ByteArray, (⟨#[UInt8.ofNat r]⟩ : ByteArray) = X := ⟨_, rfl⟩
    have hTs : T.size ≤ 8 := by rw [← hT, mk_size, bigS_len]; omega
    have hXs : X.size ≤ 1 := by rw [← hX]; exact Nat.le_refl 1
    have IH := Lib.hid (fun w => ih q w (by omega) (by omega))
    rw [hT] at IH
    have hr256 : (r : Int) < 256 := by omega
    have hbig : Hid ((⟨(bigS v m).toArray⟩ : ByteArray) = T ++ X) := Lib.hid (by rw [← hm, bigS, hq, hr, ← hT, ← hX]; exact ba_ext (by simp))
    rw [hm] at hn0 ⊢
    have E1 : Hid (IntKind.i64.wrap ((v : Int) / 256) = (q : Int)) := Lib.hid (by rw [IntWalk.i64_in _ (by omega)]; omega)
    have E3 : Hid (IntKind.i64.wrap ((m : Int) - 1) = (n : Int)) := Lib.hid (by rw [IntWalk.i64_in _ (by omega)]; omega)
    have hconv : ∀ (wx : World) (g : Nat), wx.cell? ⟨g, 0, none⟩ = some (.int .u8 (IntKind.u8.wrap ((v : Int).tmod 256))) → (convert 62 9 (.slice (some ⟨g, 0, none⟩) 1 1)).run Try.prog wx = .ok (.string X) wx := by
      intro wx g hx
      rw [← hX]
      have e : IntKind.u8.wrap ((v : Int).tmod 256) = ((UInt8.ofNat r).toNat : Int) := by
        rw [IntKind.wrap_u8, UInt8.toNat_ofNat', Int.tmod_eq_emod_of_nonneg (by omega)]; omega
      rw [e] at hx
      exact run_convert_bytes_back wx 62 9 5 ⟨g, 0, none⟩ 1 [UInt8.ofNat r] Try.underlying62 Try.underlying5 Try.underlying9 (fun j hj => by
        have : j = 0 := by simpa using hj
        subst this
        exact hx)
    have HRR := Lib.hid hr
    clear ih hm hq hr hT hX
    go_enter Try.func32, Try.ntmps32
    go_wp2_with fail
    go_region_with (go_at_call 32; rw [E1.out, E3.out]; refine (IH.out _).mono ?_; rintro e w1 ⟨rfl, hB1⟩; have hcx := hB1.cell (p := ⟨w.heap.size, 0, none⟩))
    all_goals
      clear hcx hconv
      go_wp2
      go_ret
      rw [hbig.out]
      refine ⟨rfl, ?_⟩
      have hz := hB1.size
      have hd : Below w.heap.size w w.drew := (Below.refl _ _).drew
      first
        | exact (hd.trans hB1).alloc (by simpa using hz) _
        | exact (hd.alloc (Nat.le_refl _) _).trans (hB1.mono (by simp))
end Go.Proofs.Ytnamkladeaohoaa.big
namespace Go.Proofs.Ytnamkladeaohoaa.pub
open Go.RowKit Go.Proofs.Ytnamkladeaohoaa.kit Go.Proofs.Ytnamkladeaohoaa.right Go.Proofs.Ytnamkladeaohoaa.rightA Go.Proofs.Ytnamkladeaohoaa.rightBB Go.Proofs.Ytnamkladeaohoaa.big
set_option linter.unusedVariables false

def pubS (f m e s : Int) : List UInt8 := if rightB f m e s = true then bigS f.toNat 2 ++ [3, 253] ++ bigS m.toNat 4 ++ bigS e.toNat 4 else []
theorem pub_len (f m e s : Int) : (pubS f m e s).length ≤ 12 := by
  unfold pubS; split
  · simp [bigS_len]
  · simp
theorem right_facts {f m e s : Int} (h : rightB f m e s = true) : (f = 256 ∨ f = 257) ∧ (6 ≤ m ∧ m ≤ 2147483647) ∧ (1 ≤ e ∧ e ≤ 2147483647) ∧ (1 ≤ s ∧ s ≤ 2147483647) := by
  unfold rightB someB at h
  simp only [Bool.and_eq_true, Bool.or_eq_true, beq_iff_eq, decide_eq_true_eq] at h
  omega
theorem keepP {wr w w' : World} {B : Nat} {f m e : Value} (h : w.cell? ⟨B, 0, none⟩ = some f ∧ w.cell? ⟨B, 1, none⟩ = some m ∧ w.cell? ⟨B, 2, none⟩ = some e ∧ Below wr.heap.size wr w) (hB : Below w.heap.size w w') (hb : B < wr.heap.size) :
    w'.cell? ⟨B, 0, none⟩ = some f ∧ w'.cell? ⟨B, 1, none⟩ = some m ∧ w'.cell? ⟨B, 2, none⟩ = some e ∧ Below wr.heap.size wr w' := by
  have hlt := Nat.lt_of_lt_of_le hb h.2.2.2.size
  exact ⟨(hB.cell (p := ⟨B, 0, none⟩) hlt).trans h.1, (hB.cell (p := ⟨B, 1, none⟩) hlt).trans h.2.1, (hB.cell (p := ⟨B, 2, none⟩) hlt).trans h.2.2.1, h.2.2.2.trans (hB.mono h.2.2.2.size)⟩

set_option maxRecDepth 100000 in
set_option maxHeartbeats 2000000 in
theorem pub_any (f m e s : Int) (w : World) :
    Calls Try.prog 22 #[.agg #[.int .i64 f, .int .i64 m, .int .i64 e, .int .i64 s]] w fun en w' => en = .returned (.string ⟨(pubS f m e s).toArray⟩) ∧ Below w.heap.size w w' := by
  have CR := Lib.hid (fun w => right_any f m e s w)
  have hBa := (Below.refl w.heap.size w).alloc (Nat.le_refl _) (.cells #[.int .i64 f, .int .i64 m, .int .i64 e, .int .i64 s] 32)
  by_cases hr : rightB f m e s = true
  · have HE : Hid (pubS f m e s = bigS f.toNat 2 ++ [3, 253] ++ bigS m.toNat 4 ++ bigS e.toNat 4) := Lib.hid (by unfold pubS; rw [if_pos hr])
    obtain ⟨hf, hm, he, hs⟩ := right_facts hr
    rw [hr] at CR
    obtain ⟨F, rfl⟩ : ∃ n : Nat, f = n := ⟨f.toNat, by omega⟩
    obtain ⟨M, rfl⟩ : ∃ n : Nat, m = n := ⟨m.toNat, by omega⟩
    obtain ⟨E, rfl⟩ : ∃ n : Nat, e = n := ⟨e.toNat, by omega⟩
    simp only [Int.toNat_natCast] at HE
    obtain ⟨D1, hD1⟩ : ∃ D : ByteArray, (⟨(bigS F 2).toArray⟩ : ByteArray) = D := ⟨_, rfl⟩
    obtain ⟨D2, hD2⟩ : ∃ D : ByteArray, (⟨(bigS M 4).toArray⟩ : ByteArray) = D := ⟨_, rfl⟩
    obtain ⟨D3, hD3⟩ : ∃ D : ByteArray, (⟨(bigS E 4).toArray⟩ : ByteArray) = D := ⟨_, rfl⟩
    have hs1 : D1.size ≤ 2 := by rw [← hD1, mk_size, bigS_len]; exact Nat.le_refl _
    have hs2 : D2.size ≤ 4 := by rw [← hD2, mk_size, bigS_len]; exact Nat.le_refl _
    have hs3 : D3.size ≤ 4 := by rw [← hD3, mk_size, bigS_len]; exact Nat.le_refl _
    have HF : Hid ((⟨(pubS (F : Int) (M : Int) (E : Int) s).toArray⟩ : ByteArray) = D1 ++ ⟨#[3, 253]⟩ ++ D2 ++ D3) := Lib.hid (by rw [HE.out, ← hD1, ← hD2, ← hD3]; exact ba_ext (by simp))
    have B1 := Lib.hid (fun w => bytes_any F 2 w (by omega) (by omega))
    have B2 := Lib.hid (fun w => bytes_any M 4 w (by omega) (by omega))
    have B3 := Lib.hid (fun w => bytes_any E 4 w (by omega) (by omega))
    rw [HF.out]
    rw [hD1] at B1
    rw [hD2] at B2
    rw [hD3] at B3
    clear hD1 hD2 hD3 hf hm he hs hr HE
    go_enter Try.func22, Try.ntmps22
    go_wp2_with fail
    refine (CR.out _).mono ?_
    rintro e0 w1 ⟨rfl, hB1⟩
    have hz := hB1.size
    rw [World.size_alloc] at hz
    have c0 : w1.cell? ⟨w.heap.size, 0, none⟩ = some (.int .i64 (F : Int)) := (hB1.cell (p := ⟨w.heap.size, 0, none⟩) (by rw [World.size_alloc]; exact Nat.lt_succ_self _)).trans (by simp)
    have c1 : w1.cell? ⟨w.heap.size, 1, none⟩ = some (.int .i64 (M : Int)) := (hB1.cell (p := ⟨w.heap.size, 1, none⟩) (by rw [World.size_alloc]; exact Nat.lt_succ_self _)).trans (by simp)
    have c2 : w1.cell? ⟨w.heap.size, 2, none⟩ = some (.int .i64 (E : Int)) := (hB1.cell (p := ⟨w.heap.size, 2, none⟩) (by rw [World.size_alloc]; exact Nat.lt_succ_self _)).trans (by simp)
    have HB1 := Lib.hid (hBa.trans (hB1.mono (by rw [World.size_alloc]; omega)))
    clear hB1 hBa
    go_wp2_with fail
    have hb : w.heap.size < w1.heap.size := by omega
    have hBd : Below w1.heap.size w1 w1.drew := below_drewN (Below.refl _ _) 1
    have n1 : ¬ 9223372036854775807 < D1.size + 2 := by omega
    have n2 : ¬ 9223372036854775807 < D1.size + 2 + D2.size := by omega
    have n3 : ¬ 9223372036854775807 < D1.size + 2 + D2.size + D3.size := by omega
    have m1 : D1.size + 2 ≤ 9223372036854775807 := by omega
    have m2 : D1.size + 2 + D2.size ≤ 9223372036854775807 := by omega
    have m3 : D1.size + 2 + D2.size + D3.size ≤ 9223372036854775807 := by omega
    go_region_held3 (fun w' => w'.cell? ⟨w.heap.size, 0, none⟩ = some (.int .i64 (F : Int)) ∧ w'.cell? ⟨w.heap.size, 1, none⟩ = some (.int .i64 (M : Int)) ∧ w'.cell? ⟨w.heap.size, 2, none⟩ = some (.int .i64 (E : Int)) ∧ Below w1.heap.size w1 w') (first | assumption | (refine ⟨?_, ?_, ?_, ?_⟩ <;> assumption))
      (first
        | (go_at_call_of 31 (Value.int .i64 (F : Int)); refine (B1.out _).mono ?_; rintro e w' ⟨rfl, hBz⟩; have hBz2 := keepP (by assumption) hBz hb; clear hBz)
        | (go_at_call_of 31 (Value.int .i64 (M : Int)); refine (B2.out _).mono ?_; rintro e w' ⟨rfl, hBz⟩; have hBz2 := keepP (by assumption) hBz hb; clear hBz)
        | (go_at_call_of 31 (Value.int .i64 (E : Int)); refine (B3.out _).mono ?_; rintro e w' ⟨rfl, hBz⟩; have hBz2 := keepP (by assumption) hBz hb; clear hBz))
    all_goals (go_wp2_with fail; go_ret; exact ⟨rfl, HB1.out.trans ((‹_ ∧ _ ∧ _ ∧ Below _ _ _›).2.2.2.mono (by omega))⟩)
  · have hrf : rightB f m e s = false := by simpa using hr
    have HE : Hid (pubS f m e s = []) := Lib.hid (by unfold pubS; rw [if_neg hr])
    rw [hrf] at CR
    rw [HE.out]
    clear hr hrf
    go_enter Try.func22, Try.ntmps22
    go_wp2_with fail
    refine (CR.out _).mono ?_
    rintro e0 w1 ⟨rfl, hB1⟩
    have HB1 := Lib.hid (hBa.trans (hB1.mono (by rw [World.size_alloc]; omega)))
    clear hB1 hBa
    go_wp2_with fail
    go_ret
    exact ⟨rfl, HB1.out⟩

set_option maxRecDepth 100000 in
set_option maxHeartbeats 2000000 in
theorem rpub_any (f m e s : Int) (w : World) :
    Calls Try.prog 24 #[.agg #[.int .i64 f, .int .i64 m, .int .i64 e, .int .i64 s]] w fun en w' => en = .returned (.string ⟨(pubS f m e s).toArray⟩) ∧ Below w.heap.size w w' := by
  have CR := Lib.hid (fun w => rright_any f m e s w)
  have hBa := (Below.refl w.heap.size w).alloc (Nat.le_refl _) (.cells #[.int .i64 f, .int .i64 m, .int .i64 e, .int .i64 s] 32)
  by_cases hr : rightB f m e s = true
  · have HE : Hid (pubS f m e s = bigS f.toNat 2 ++ [3, 253] ++ bigS m.toNat 4 ++ bigS e.toNat 4) := Lib.hid (by unfold pubS; rw [if_pos hr])
    obtain ⟨hf, hm, he, hs⟩ := right_facts hr
    rw [hr] at CR
    obtain ⟨F, rfl⟩ : ∃ n : Nat, f = n := ⟨f.toNat, by omega⟩
    obtain ⟨M, rfl⟩ : ∃ n : Nat, m = n := ⟨m.toNat, by omega⟩
    obtain ⟨E, rfl⟩ : ∃ n : Nat, e = n := ⟨e.toNat, by omega⟩
    simp only [Int.toNat_natCast] at HE
    obtain ⟨D1, hD1⟩ : ∃ D : ByteArray, (⟨(bigS F 2).toArray⟩ : ByteArray) = D := ⟨_, rfl⟩
    obtain ⟨D2, hD2⟩ : ∃ D : ByteArray, (⟨(bigS M 4).toArray⟩ : ByteArray) = D := ⟨_, rfl⟩
    obtain ⟨D3, hD3⟩ : ∃ D : ByteArray, (⟨(bigS E 4).toArray⟩ : ByteArray) = D := ⟨_, rfl⟩
    have hs1 : D1.size ≤ 2 := by rw [← hD1, mk_size, bigS_len]; exact Nat.le_refl _
    have hs2 : D2.size ≤ 4 := by rw [← hD2, mk_size, bigS_len]; exact Nat.le_refl _
    have hs3 : D3.size ≤ 4 := by rw [← hD3, mk_size, bigS_len]; exact Nat.le_refl _
    have HF : Hid ((⟨(pubS (F : Int) (M : Int) (E : Int) s).toArray⟩ : ByteArray) = D1 ++ ⟨#[3, 253]⟩ ++ D2 ++ D3) := Lib.hid (by rw [HE.out, ← hD1, ← hD2, ← hD3]; exact ba_ext (by simp))
    have B1 := Lib.hid (fun w => rbytes_any 2 F w (by omega) (by omega))
    have B2 := Lib.hid (fun w => rbytes_any 4 M w (by omega) (by omega))
    have B3 := Lib.hid (fun w => rbytes_any 4 E w (by omega) (by omega))
    rw [HF.out]
    rw [hD1] at B1
    rw [hD2] at B2
    rw [hD3] at B3
    clear hD1 hD2 hD3 hf hm he hs hr HE
    go_enter Try.func24, Try.ntmps24
    go_wp2_with fail
    refine (CR.out _).mono ?_
    rintro e0 w1 ⟨rfl, hB1⟩
    have hz := hB1.size
    rw [World.size_alloc] at hz
    have c0 : w1.cell? ⟨w.heap.size, 0, none⟩ = some (.int .i64 (F : Int)) := (hB1.cell (p := ⟨w.heap.size, 0, none⟩) (by rw [World.size_alloc]; exact Nat.lt_succ_self _)).trans (by simp)
    have c1 : w1.cell? ⟨w.heap.size, 1, none⟩ = some (.int .i64 (M : Int)) := (hB1.cell (p := ⟨w.heap.size, 1, none⟩) (by rw [World.size_alloc]; exact Nat.lt_succ_self _)).trans (by simp)
    have c2 : w1.cell? ⟨w.heap.size, 2, none⟩ = some (.int .i64 (E : Int)) := (hB1.cell (p := ⟨w.heap.size, 2, none⟩) (by rw [World.size_alloc]; exact Nat.lt_succ_self _)).trans (by simp)
    have HB1 := Lib.hid (hBa.trans (hB1.mono (by rw [World.size_alloc]; omega)))
    clear hB1 hBa
    go_wp2_with fail
    have hb : w.heap.size < w1.heap.size := by omega
    have hBd : Below w1.heap.size w1 w1.drew := below_drewN (Below.refl _ _) 1
    have n1 : ¬ 9223372036854775807 < D1.size + 2 := by omega
    have n2 : ¬ 9223372036854775807 < D1.size + 2 + D2.size := by omega
    have n3 : ¬ 9223372036854775807 < D1.size + 2 + D2.size + D3.size := by omega
    have m1 : D1.size + 2 ≤ 9223372036854775807 := by omega
    have m2 : D1.size + 2 + D2.size ≤ 9223372036854775807 := by omega
    have m3 : D1.size + 2 + D2.size + D3.size ≤ 9223372036854775807 := by omega
    go_region_held3 (fun w' => w'.cell? ⟨w.heap.size, 0, none⟩ = some (.int .i64 (F : Int)) ∧ w'.cell? ⟨w.heap.size, 1, none⟩ = some (.int .i64 (M : Int)) ∧ w'.cell? ⟨w.heap.size, 2, none⟩ = some (.int .i64 (E : Int)) ∧ Below w1.heap.size w1 w') (first | assumption | (refine ⟨?_, ?_, ?_, ?_⟩ <;> assumption))
      (first
        | (go_at_call_of 32 (Value.int .i64 (F : Int)); refine (B1.out _).mono ?_; rintro e w' ⟨rfl, hBz⟩; have hBz2 := keepP (by assumption) hBz hb; clear hBz)
        | (go_at_call_of 32 (Value.int .i64 (M : Int)); refine (B2.out _).mono ?_; rintro e w' ⟨rfl, hBz⟩; have hBz2 := keepP (by assumption) hBz hb; clear hBz)
        | (go_at_call_of 32 (Value.int .i64 (E : Int)); refine (B3.out _).mono ?_; rintro e w' ⟨rfl, hBz⟩; have hBz2 := keepP (by assumption) hBz hb; clear hBz))
    all_goals (go_wp2_with fail; go_ret; exact ⟨rfl, HB1.out.trans ((‹_ ∧ _ ∧ _ ∧ Below _ _ _›).2.2.2.mono (by omega))⟩)
  · have hrf : rightB f m e s = false := by simpa using hr
    have HE : Hid (pubS f m e s = []) := Lib.hid (by unfold pubS; rw [if_neg hr])
    rw [hrf] at CR
    rw [HE.out]
    clear hr hrf
    go_enter Try.func24, Try.ntmps24
    go_wp2_with fail
    refine (CR.out _).mono ?_
    rintro e0 w1 ⟨rfl, hB1⟩
    have HB1 := Lib.hid (hBa.trans (hB1.mono (by rw [World.size_alloc]; omega)))
    clear hB1 hBa
    go_wp2_with fail
    go_ret
    exact ⟨rfl, HB1.out⟩
end Go.Proofs.Ytnamkladeaohoaa.pub
