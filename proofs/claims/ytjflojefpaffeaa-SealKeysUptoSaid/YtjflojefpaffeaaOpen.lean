/- The key that data tell: seal.open, gazetteerref4.IsKey: walks. -/
import Derived.Test.YtjflojefpaffeaaPub
import Derived.Test.YtjflojefpaffeaaVal
import Derived.Test.YtjflojefpaffeaaNewKey
import Derived.Deep.RegionWith
import Derived.StillTailTactics
namespace Go.Proofs.Ytjflojefpaffeaa.opens
open Go.RowKit Go.Proofs.Ytjflojefpaffeaa.newKey Go.Proofs.Ytjflojefpaffeaa.kit Go.Proofs.Ytjflojefpaffeaa.right Go.Proofs.Ytjflojefpaffeaa.big Go.Proofs.Ytjflojefpaffeaa.pub Go.Proofs.Ytjflojefpaffeaa.val
set_option linter.unusedVariables false

def kF (d : List UInt8) : Nat := valL (d.take 2) 0
def kM (d : List UInt8) : Nat := valL ((d.drop 4).take 4) 0
def kE (d : List UInt8) : Nat := valL ((d.drop 8).take 4) 0
def isKeyB (d : List UInt8) : Bool := decide (d.length = 12) && decide (pubS (kF d : Nat) (kM d : Nat) (kE d : Nat) 1 = d)
def openR (d : List UInt8) : Ending := .returned (.tuple #[if d.length = 12 then .agg #[.int .i64 (kF d : Nat), .int .i64 (kM d : Nat), .int .i64 (kE d : Nat), .int .i64 1] else .agg #[.int .i64 0, .int .i64 0, .int .i64 0, .int .i64 0], .bool (isKeyB d)])
theorem valL_lt : ∀ (l : List UInt8) (v : Nat), valL l v < (v + 1) * 256 ^ l.length
  | [], v => by simp [valL]
  | c :: r, v => by
    have h := valL_lt r (v * 256 + c.toNat)
    have hc := c.toNat_lt
    rw [valL, List.length_cons, Nat.pow_succ]
    refine Nat.lt_of_lt_of_le h ?_
    rw [Nat.mul_comm (256 ^ r.length) 256, ← Nat.mul_assoc]
    exact Nat.mul_le_mul_right _ (by omega)
theorem val4 {l : List UInt8} (h : l.length ≤ 4) : valL l 0 < 4294967296 := by
  have h1 := valL_lt l 0
  have h2 : 256 ^ l.length ≤ 256 ^ 4 := Nat.pow_le_pow_right (by omega) h
  omega
theorem ext_list (s : ByteArray) (a b : Nat) : (s.extract a b).data.toList = (s.data.toList.drop a).take (b - a) := by
  rw [ByteArray.data_extract, Array.toList_extract, List.extract_eq_take_drop]
theorem ext_size (s : ByteArray) (a b : Nat) (h : b ≤ s.size) : (s.extract a b).size = b - a := by
  rw [ByteArray.size_extract]; omega

set_option maxRecDepth 100000 in
set_option maxHeartbeats 2000000 in
theorem open_any (s : ByteArray) (w : World) (hs : s.size ≤ 1099511627776) :
    Calls Try.prog 108 #[.string s] w fun en w' => en = openR s.data.toList ∧ Below w.heap.size w w' := by
  by_cases h12 : s.size = 12
  · have hl : s.data.toList.length = 12 := by rw [size_len]; exact h12
    have x1 : (s.extract 0 2).size ≤ 4 := by rw [ext_size _ _ _ (by omega)]; decide
    have x2 : (s.extract 4 8).size ≤ 4 := by rw [ext_size _ _ _ (by omega)]; decide
    have x3 : (s.extract 8 12).size ≤ 4 := by rw [ext_size _ _ _ (by omega)]; decide
    have C1 := Lib.hid (fun w => number_any (s.extract 0 2) w x1)
    have C2 := Lib.hid (fun w => number_any (s.extract 4 8) w x2)
    have C3 := Lib.hid (fun w => number_any (s.extract 8 12) w x3)
    have e1 : valL (s.extract 0 2).data.toList 0 = kF s.data.toList := by rw [ext_list]; rfl
    have e2 : valL (s.extract 4 8).data.toList 0 = kM s.data.toList := by rw [ext_list]; rfl
    have e3 : valL (s.extract 8 12).data.toList 0 = kE s.data.toList := by rw [ext_list]; rfl
    rw [e1] at C1
    rw [e2] at C2
    rw [e3] at C3
    have HK : Hid (isKeyB s.data.toList = decide (pubS (kF s.data.toList : Nat) (kM s.data.toList : Nat) (kE s.data.toList : Nat) 1 = s.data.toList)) := Lib.hid (by unfold isKeyB; rw [hl]; rfl)
    have HO : Hid (openR s.data.toList = .returned (.tuple #[.agg #[.int .i64 (kF s.data.toList : Nat), .int .i64 (kM s.data.toList : Nat), .int .i64 (kE s.data.toList : Nat), .int .i64 1], .bool (isKeyB s.data.toList)])) := Lib.hid (by unfold openR; rw [if_pos hl])
    obtain ⟨F, hF⟩ : ∃ F, kF s.data.toList = F := ⟨_, rfl⟩
    obtain ⟨M, hM⟩ : ∃ M, kM s.data.toList = M := ⟨_, rfl⟩
    obtain ⟨E, hE⟩ : ∃ E, kE s.data.toList = E := ⟨_, rfl⟩
    rw [hF] at C1
    rw [hM] at C2
    rw [hE] at C3
    rw [hF, hM, hE] at HK HO
    have CP := Lib.hid (fun w => pub_any (F : Int) (M : Int) (E : Int) 1 w)
    obtain ⟨D, hD⟩ : ∃ D : ByteArray, (⟨(pubS (F : Int) (M : Int) (E : Int) 1).toArray⟩ : ByteArray) = D := ⟨_, rfl⟩
    have HD : Hid (isKeyB s.data.toList = (D.toList == s.toList)) := Lib.hid (by rw [HK.out, ← hD, Lib.toList_data, Lib.toList_data, Bool.eq_iff_iff]; simp)
    rw [hD] at CP
    rw [HO.out, HD.out]
    have HL := Lib.hid h12
    have hle : s.size ≤ 12 := by omega
    have hge : 12 ≤ s.size := by omega
    have b12 : ((s.size : Int) != 12) = false := by rw [h12]; rfl
    clear h12 hl e1 e2 e3 hF hM hE hD HK HO
    go_enter Try.func108, Try.ntmps108
    go_wp2_with fail
    have q2 : (2 : Int) ≤ (s.size : Int) := by omega
    have q4 : (4 : Int) ≤ (s.size : Int) := by omega
    have q8 : (8 : Int) ≤ (s.size : Int) := by omega
    have q12 : (12 : Int) ≤ (s.size : Int) := by omega
    clear x1 x2 x3
    go_upto_region 3 with (fail)
    go_cut [4] (fun s4 wx => s4 = .pointer (some ⟨w.heap.size + 1, 0, none⟩) ∧ wx = ((w.alloc (.cells #[.int .i64 0, .int .i64 0, .int .i64 0, .int .i64 0] 34)).alloc (.cells #[.int .i64 (F : Int), .int .i64 (M : Int), .int .i64 (E : Int), .int .i64 1] 34)).drew)
    case first =>
      go_region_held3 (fun w' => Below (w.alloc (.cells #[.int .i64 0, .int .i64 0, .int .i64 0, .int .i64 0] 34)).heap.size (w.alloc (.cells #[.int .i64 0, .int .i64 0, .int .i64 0, .int .i64 0] 34)) w') (first | assumption | exact (Below.refl _ _).drew | exact ((Below.refl _ _).alloc (Nat.le_refl _) _).drew | exact Below.alloc (by assumption) (Below.size (by assumption)) _)
        (first
          | (go_at_call_of 119 (Value.string (s.extract 0 2)); refine (C1.out _).mono ?_; rintro e w' ⟨rfl, rfl⟩)
          | (go_at_call_of 119 (Value.string (s.extract 4 8)); refine (C2.out _).mono ?_; rintro e w' ⟨rfl, rfl⟩)
          | (go_at_call_of 119 (Value.string (s.extract 8 12)); refine (C3.out _).mono ?_; rintro e w' ⟨rfl, rfl⟩))
      all_goals (go_wp2_with fail; go_meet; exact ⟨rfl, rfl⟩)
    case rest =>
      obtain ⟨rfl, rfl⟩ := hcut
      go_wp2_with fail
      go_region_with ((go_at_call_of 69 (Value.agg #[.int .i64 (F : Int), .int .i64 (M : Int), .int .i64 (E : Int), .int .i64 1]); refine (CP.out _).mono ?_; rintro e w2 ⟨rfl, hB2⟩; obtain ⟨hc, hf⟩ := bcell hB2; have HB2 := Lib.hid hB2; clear hB2))
      all_goals
        have hbA := (((Below.refl w.heap.size w).alloc (Nat.le_refl _) (.cells #[.int .i64 0, .int .i64 0, .int .i64 0, .int .i64 0] 34)).alloc (by rw [World.size_alloc]; omega) (.cells #[.int .i64 (F : Int), .int .i64 (M : Int), .int .i64 (E : Int), .int .i64 1] 34)).drew
        have HBB : Hid (Below w.heap.size w w2) := Lib.hid (by
          have h := HB2.out
          first
            | exact hbA.trans (h.mono hbA.size)
            | exact hbA.drew.trans (h.mono hbA.drew.size))
        have k0 : w2.cell? ⟨w.heap.size, 0, none⟩ = some (.int .i64 0) := (hc _ _ (by first | (simp; done) | (simp; omega))).trans (by simp)
        have k1 : w2.cell? ⟨w.heap.size, 1, none⟩ = some (.int .i64 0) := (hc _ _ (by first | (simp; done) | (simp; omega))).trans (by simp)
        have k2 : w2.cell? ⟨w.heap.size, 2, none⟩ = some (.int .i64 0) := (hc _ _ (by first | (simp; done) | (simp; omega))).trans (by simp)
        have k3 : w2.cell? ⟨w.heap.size, 3, none⟩ = some (.int .i64 0) := (hc _ _ (by first | (simp; done) | (simp; omega))).trans (by simp)
        clear hbA
        go_wp2_with fail
        refine bodyPost_ret (v := .tuple #[.agg #[.int .i64 (F : Int), .int .i64 (M : Int), .int .i64 (E : Int), .int .i64 1], .bool (D.toList == s.toList)]) (by simp [results, Try.results108, go_sem, k0, k1, k2, k3]) rfl ⟨rfl, ?_⟩
        have h := HBB.out
        first
          | exact (((h.setCell (Nat.le_refl _) _).setCell (Nat.le_refl _) _).setCell (Nat.le_refl _) _).setCell (Nat.le_refl _) _
          | exact ((((h.setCell (Nat.le_refl _) _).setCell (Nat.le_refl _) _).setCell (Nat.le_refl _) _).setCell (Nat.le_refl _) _).drew
  · have hl : s.data.toList.length ≠ 12 := by rw [size_len]; exact h12
    have HO : Hid (openR s.data.toList = .returned (.tuple #[.agg #[.int .i64 0, .int .i64 0, .int .i64 0, .int .i64 0], .bool false])) := Lib.hid (by unfold openR isKeyB; rw [if_neg hl, decide_eq_false hl]; rfl)
    rw [HO.out]
    have b12 : ((s.size : Int) != 12) = true := by rw [bne_iff_ne]; omega
    clear h12 hl
    go_enter Try.func108, Try.ntmps108
    go_wp2_with fail
    exact bodyPost_ret (v := .tuple #[.agg #[.int .i64 0, .int .i64 0, .int .i64 0, .int .i64 0], .bool false]) (by simp [results, Try.results108, go_sem]) rfl ⟨rfl, (Below.refl _ _).alloc (Nat.le_refl _) _⟩
end Go.Proofs.Ytjflojefpaffeaa.opens
