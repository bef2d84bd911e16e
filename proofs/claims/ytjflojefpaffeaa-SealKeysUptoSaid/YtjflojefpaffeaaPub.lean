/- What is told of a key: Public of both: walks. -/
import Derived.Test.YtjflojefpaffeaaRightA
import Derived.Test.YtjflojefpaffeaaRightB
import Derived.Test.YtjflojefpaffeaaBig
import Derived.Deep.RegionHeld3
import Derived.Deep.DeepCutAuto
namespace Go.Proofs.Ytjflojefpaffeaa.pub
open Go.RowKit Go.Proofs.Ytjflojefpaffeaa.kit Go.Proofs.Ytjflojefpaffeaa.right Go.Proofs.Ytjflojefpaffeaa.rightA Go.Proofs.Ytjflojefpaffeaa.rightBB Go.Proofs.Ytjflojefpaffeaa.big
set_option linter.unusedVariables false

def pubS (f m e s : Int) : List UInt8 := if rightB f m e s = true then bigS f.toNat 2 ++ [3, 253] ++ bigS m.toNat 4 ++ bigS e.toNat 4 else []
theorem pub_len (f m e s : Int) : (pubS f m e s).length ≤ 12 := by
  unfold pubS; split
  · simp [bigS_len]
  · simp
theorem right_facts {f m e s : Int} (h : rightB f m e s = true) : (f = 256 ∨ f = 257) ∧ (6 ≤ m ∧ m ≤ 2147483647) ∧ (1 ≤ e ∧ e ≤ 2147483647) ∧ (1 ≤ s ∧ s ≤ 2147483647) := by
  unfold rightB someB at h
  simp only [Bool.and_eq_true, Bool.or_eq_true, beq_iff_eq, decide_eq_true_eq] at h
  omega
theorem keepP {wr w w' : World} {B : Nat} {f m e : Value} (h : w.cell? ⟨B, 0, none⟩ = some f ∧ w.cell? ⟨B, 1, none⟩ = some m ∧ w.cell? ⟨B, 2, none⟩ = some e ∧ Below wr.heap.size wr w) (hB : Below w.heap.size w w') (hb : B < wr.heap.size) :
    w'.cell? ⟨B, 0, none⟩ = some f ∧ w'.cell? ⟨B, 1, none⟩ = some m ∧ w'.cell? ⟨B, 2, none⟩ = some e ∧ Below wr.heap.size wr w' := by
  have hlt := Nat.lt_of_lt_of_le hb h.2.2.2.size
  exact ⟨(hB.cell (p := ⟨B, 0, none⟩) hlt).trans h.1, (hB.cell (p := ⟨B, 1, none⟩) hlt).trans h.2.1, (hB.cell (p := ⟨B, 2, none⟩) hlt).trans h.2.2.1, h.2.2.2.trans (hB.mono h.2.2.2.size)⟩

set_option maxRecDepth 100000 in
set_option maxHeartbeats 2000000 in
theorem pub_any (f m e s : Int) (w : World) :
    Calls Try.prog 69 #[.agg #[.int .i64 f, .int .i64 m, .int .i64 e, .int .i64 s]] w fun en w' => en = .returned (.string ⟨(pubS f m e s).toArray⟩) ∧ Below w.heap.size w w' := by
  have CR := Lib.hid (fun w => right_any f m e s w)
  have hBa := (Below.refl w.heap.size w).alloc (Nat.le_refl _) (.cells #[.int .i64 f, .int .i64 m, .int .i64 e, .int .i64 s] 34)
  by_cases hr : rightB f m e s = true
  · have HE : Hid (pubS f m e s = bigS f.toNat 2 ++ [3, 253] ++ bigS m.toNat 4 ++ bigS e.toNat 4) := Lib.hid (by unfold pubS; rw [if_pos hr])
    obtain ⟨hf, hm, he, hs⟩ := right_facts hr
    rw [hr] at CR
    obtain ⟨F, rfl⟩ : ∃ n : Nat, f = n := ⟨f.toNat, by omega⟩
    obtain ⟨M, rfl⟩ : ∃ n : Nat, m = n := ⟨m.toNat, by omega⟩
    obtain ⟨E, rfl⟩ : ∃ n : Nat, e = n := ⟨e.toNat, by omega⟩
    simp only [Int.toNat_natCast] at HE
    obtain ⟨D1, hD1⟩ : ∃ D : ByteArray, (⟨(bigS F 2).toArray⟩ : ByteArray) = D := ⟨_, rfl⟩
    obtain ⟨D2, hD2⟩ : ∃ D : ByteArray, (⟨(bigS M 4).toArray⟩ : ByteArray) = D := ⟨_, rfl⟩
    obtain ⟨D3, hD3⟩ : ∃ D : ByteArray, (⟨(bigS E 4).toArray⟩ : ByteArray) = D := ⟨_, rfl⟩
    have hs1 : D1.size ≤ 2 := by rw [← hD1, mk_size, bigS_len]; exact Nat.le_refl _
    have hs2 : D2.size ≤ 4 := by rw [← hD2, mk_size, bigS_len]; exact Nat.le_refl _
    have hs3 : D3.size ≤ 4 := by rw [← hD3, mk_size, bigS_len]; exact Nat.le_refl _
    have HF : Hid ((⟨(pubS (F : Int) (M : Int) (E : Int) s).toArray⟩ : ByteArray) = D1 ++ ⟨#[3, 253]⟩ ++ D2 ++ D3) := Lib.hid (by rw [HE.out, ← hD1, ← hD2, ← hD3]; exact ba_ext (by simp))
    have B1 := Lib.hid (fun w => bytes_any F 2 w (by omega) (by omega))
    have B2 := Lib.hid (fun w => bytes_any M 4 w (by omega) (by omega))
    have B3 := Lib.hid (fun w => bytes_any E 4 w (by omega) (by omega))
    rw [HF.out]
    rw [hD1] at B1
    rw [hD2] at B2
    rw [hD3] at B3
    clear hD1 hD2 hD3 hf hm he hs hr HE
    go_enter Try.func69, Try.ntmps69
    go_wp2_with fail
    refine (CR.out _).mono ?_
    rintro e0 w1 ⟨rfl, hB1⟩
    have hz := hB1.size
    rw [World.size_alloc] at hz
    have c0 : w1.cell? ⟨w.heap.size, 0, none⟩ = some (.int .i64 (F : Int)) := (hB1.cell (p := ⟨w.heap.size, 0, none⟩) (by rw [World.size_alloc]; exact Nat.lt_succ_self _)).trans (by simp)
    have c1 : w1.cell? ⟨w.heap.size, 1, none⟩ = some (.int .i64 (M : Int)) := (hB1.cell (p := ⟨w.heap.size, 1, none⟩) (by rw [World.size_alloc]; exact Nat.lt_succ_self _)).trans (by simp)
    have c2 : w1.cell? ⟨w.heap.size, 2, none⟩ = some (.int .i64 (E : Int)) := (hB1.cell (p := ⟨w.heap.size, 2, none⟩) (by rw [World.size_alloc]; exact Nat.lt_succ_self _)).trans (by simp)
    have HB1 := Lib.hid (hBa.trans (hB1.mono (by rw [World.size_alloc]; omega)))
    clear hB1 hBa
    go_wp2_with fail
    have hb : w.heap.size < w1.heap.size := by omega
    have hBd : Below w1.heap.size w1 w1.drew := below_drewN (Below.refl _ _) 1
    have n1 : ¬ 9223372036854775807 < D1.size + 2 := by omega
    have n2 : ¬ 9223372036854775807 < D1.size + 2 + D2.size := by omega
    have n3 : ¬ 9223372036854775807 < D1.size + 2 + D2.size + D3.size := by omega
    have m1 : D1.size + 2 ≤ 9223372036854775807 := by omega
    have m2 : D1.size + 2 + D2.size ≤ 9223372036854775807 := by omega
    have m3 : D1.size + 2 + D2.size + D3.size ≤ 9223372036854775807 := by omega
    go_region_held3 (fun w' => w'.cell? ⟨w.heap.size, 0, none⟩ = some (.int .i64 (F : Int)) ∧ w'.cell? ⟨w.heap.size, 1, none⟩ = some (.int .i64 (M : Int)) ∧ w'.cell? ⟨w.heap.size, 2, none⟩ = some (.int .i64 (E : Int)) ∧ Below w1.heap.size w1 w') (first | assumption | (refine ⟨?_, ?_, ?_, ?_⟩ <;> assumption))
      (first
        | (go_at_call_of 87 (Value.int .i64 (F : Int)); refine (B1.out _).mono ?_; rintro e w' ⟨rfl, hBz⟩; have hBz2 := keepP (by assumption) hBz hb; clear hBz)
        | (go_at_call_of 87 (Value.int .i64 (M : Int)); refine (B2.out _).mono ?_; rintro e w' ⟨rfl, hBz⟩; have hBz2 := keepP (by assumption) hBz hb; clear hBz)
        | (go_at_call_of 87 (Value.int .i64 (E : Int)); refine (B3.out _).mono ?_; rintro e w' ⟨rfl, hBz⟩; have hBz2 := keepP (by assumption) hBz hb; clear hBz))
    all_goals (go_wp2_with fail; go_ret; exact ⟨rfl, HB1.out.trans ((‹_ ∧ _ ∧ _ ∧ Below _ _ _›).2.2.2.mono (by omega))⟩)
  · have hrf : rightB f m e s = false := by simpa using hr
    have HE : Hid (pubS f m e s = []) := Lib.hid (by unfold pubS; rw [if_neg hr])
    rw [hrf] at CR
    rw [HE.out]
    clear hr hrf
    go_enter Try.func69, Try.ntmps69
    go_wp2_with fail
    refine (CR.out _).mono ?_
    rintro e0 w1 ⟨rfl, hB1⟩
    have HB1 := Lib.hid (hBa.trans (hB1.mono (by rw [World.size_alloc]; omega)))
    clear hB1 hBa
    go_wp2_with fail
    go_ret
    exact ⟨rfl, HB1.out⟩

set_option maxRecDepth 100000 in
set_option maxHeartbeats 2000000 in
theorem rpub_any (f m e s : Int) (w : World) :
    Calls Try.prog 70 #[.agg #[.int .i64 f, .int .i64 m, .int .i64 e, .int .i64 s]] w fun en w' => en = .returned (.string ⟨(pubS f m e s).toArray⟩) ∧ Below w.heap.size w w' := by
  have CR := Lib.hid (fun w => rright_any f m e s w)
  have hBa := (Below.refl w.heap.size w).alloc (Nat.le_refl _) (.cells #[.int .i64 f, .int .i64 m, .int .i64 e, .int .i64 s] 34)
  by_cases hr : rightB f m e s = true
  · have HE : Hid (pubS f m e s = bigS f.toNat 2 ++ [3, 253] ++ bigS m.toNat 4 ++ bigS e.toNat 4) := Lib.hid (by unfold pubS; rw [if_pos hr])
    obtain ⟨hf, hm, he, hs⟩ := right_facts hr
    rw [hr] at CR
    obtain ⟨F, rfl⟩ : ∃ n : Nat, f = n := ⟨f.toNat, by omega⟩
    obtain ⟨M, rfl⟩ : ∃ n : Nat, m = n := ⟨m.toNat, by omega⟩
    obtain ⟨E, rfl⟩ : ∃ n : Nat, e = n := ⟨e.toNat, by omega⟩
    simp only [Int.toNat_natCast] at HE
    obtain ⟨D1, hD1⟩ : ∃ D : ByteArray, (⟨(bigS F 2).toArray⟩ : ByteArray) = D := ⟨_, rfl⟩
    obtain ⟨D2, hD2⟩ : ∃ D : ByteArray, (⟨(bigS M 4).toArray⟩ : ByteArray) = D := ⟨_, rfl⟩
    obtain ⟨D3, hD3⟩ : ∃ D : ByteArray, (⟨(bigS E 4).toArray⟩ : ByteArray) = D := ⟨_, rfl⟩
    have hs1 : D1.size ≤ 2 := by rw [← hD1, mk_size, bigS_len]; exact Nat.le_refl _
    have hs2 : D2.size ≤ 4 := by rw [← hD2, mk_size, bigS_len]; exact Nat.le_refl _
    have hs3 : D3.size ≤ 4 := by rw [← hD3, mk_size, bigS_len]; exact Nat.le_refl _
    have HF : Hid ((⟨(pubS (F : Int) (M : Int) (E : Int) s).toArray⟩ : ByteArray) = D1 ++ ⟨#[3, 253]⟩ ++ D2 ++ D3) := Lib.hid (by rw [HE.out, ← hD1, ← hD2, ← hD3]; exact ba_ext (by simp))
    have B1 := Lib.hid (fun w => rbytes_any 2 F w (by omega) (by omega))
    have B2 := Lib.hid (fun w => rbytes_any 4 M w (by omega) (by omega))
    have B3 := Lib.hid (fun w => rbytes_any 4 E w (by omega) (by omega))
    rw [HF.out]
    rw [hD1] at B1
    rw [hD2] at B2
    rw [hD3] at B3
    clear hD1 hD2 hD3 hf hm he hs hr HE
    go_enter Try.func70, Try.ntmps70
    go_wp2_with fail
    refine (CR.out _).mono ?_
    rintro e0 w1 ⟨rfl, hB1⟩
    have hz := hB1.size
    rw [World.size_alloc] at hz
    have c0 : w1.cell? ⟨w.heap.size, 0, none⟩ = some (.int .i64 (F : Int)) := (hB1.cell (p := ⟨w.heap.size, 0, none⟩) (by rw [World.size_alloc]; exact Nat.lt_succ_self _)).trans (by simp)
    have c1 : w1.cell? ⟨w.heap.size, 1, none⟩ = some (.int .i64 (M : Int)) := (hB1.cell (p := ⟨w.heap.size, 1, none⟩) (by rw [World.size_alloc]; exact Nat.lt_succ_self _)).trans (by simp)
    have c2 : w1.cell? ⟨w.heap.size, 2, none⟩ = some (.int .i64 (E : Int)) := (hB1.cell (p := ⟨w.heap.size, 2, none⟩) (by rw [World.size_alloc]; exact Nat.lt_succ_self _)).trans (by simp)
    have HB1 := Lib.hid (hBa.trans (hB1.mono (by rw [World.size_alloc]; omega)))
    clear hB1 hBa
    go_wp2_with fail
    have hb : w.heap.size < w1.heap.size := by omega
    have hBd : Below w1.heap.size w1 w1.drew := below_drewN (Below.refl _ _) 1
    have n1 : ¬ 9223372036854775807 < D1.size + 2 := by omega
    have n2 : ¬ 9223372036854775807 < D1.size + 2 + D2.size := by omega
    have n3 : ¬ 9223372036854775807 < D1.size + 2 + D2.size + D3.size := by omega
    have m1 : D1.size + 2 ≤ 9223372036854775807 := by omega
    have m2 : D1.size + 2 + D2.size ≤ 9223372036854775807 := by omega
    have m3 : D1.size + 2 + D2.size + D3.size ≤ 9223372036854775807 := by omega
    go_region_held3 (fun w' => w'.cell? ⟨w.heap.size, 0, none⟩ = some (.int .i64 (F : Int)) ∧ w'.cell? ⟨w.heap.size, 1, none⟩ = some (.int .i64 (M : Int)) ∧ w'.cell? ⟨w.heap.size, 2, none⟩ = some (.int .i64 (E : Int)) ∧ Below w1.heap.size w1 w') (first | assumption | (refine ⟨?_, ?_, ?_, ?_⟩ <;> assumption))
      (first
        | (go_at_call_of 88 (Value.int .i64 (F : Int)); refine (B1.out _).mono ?_; rintro e w' ⟨rfl, hBz⟩; have hBz2 := keepP (by assumption) hBz hb; clear hBz)
        | (go_at_call_of 88 (Value.int .i64 (M : Int)); refine (B2.out _).mono ?_; rintro e w' ⟨rfl, hBz⟩; have hBz2 := keepP (by assumption) hBz hb; clear hBz)
        | (go_at_call_of 88 (Value.int .i64 (E : Int)); refine (B3.out _).mono ?_; rintro e w' ⟨rfl, hBz⟩; have hBz2 := keepP (by assumption) hBz hb; clear hBz))
    all_goals (go_wp2_with fail; go_ret; exact ⟨rfl, HB1.out.trans ((‹_ ∧ _ ∧ _ ∧ Below _ _ _›).2.2.2.mono (by omega))⟩)
  · have hrf : rightB f m e s = false := by simpa using hr
    have HE : Hid (pubS f m e s = []) := Lib.hid (by unfold pubS; rw [if_neg hr])
    rw [hrf] at CR
    rw [HE.out]
    clear hr hrf
    go_enter Try.func70, Try.ntmps70
    go_wp2_with fail
    refine (CR.out _).mono ?_
    rintro e0 w1 ⟨rfl, hB1⟩
    have HB1 := Lib.hid (hBa.trans (hB1.mono (by rw [World.size_alloc]; omega)))
    clear hB1 hBa
    go_wp2_with fail
    go_ret
    exact ⟨rfl, HB1.out⟩
end Go.Proofs.Ytjflojefpaffeaa.pub
