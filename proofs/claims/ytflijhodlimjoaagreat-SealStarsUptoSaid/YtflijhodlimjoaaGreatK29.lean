/- The key that data tell: seal.open, gazetteerref4.IsKey: walks. The parts of an RRSIG as numbers: seal.signature's methods: walks. strings.Builder.WriteString: what a write leaves of blocks of other kinds. The text that is signed: (seal.signature).text: walk. seal.power, gazetteerref4.Power: walks. -/
import Derived.Test.YtflijhodlimjoaaGreatK18
import Derived.Test.YtflijhodlimjoaaGreatK11
import Derived.Test.YtflijhodlimjoaaGreatK28
import Derived.Test.YtflijhodlimjoaaGreatK2
import Derived.Test.YtflijhodlimjoaaGreatK19
import Derived.Test.YtflijhodlimjoaaGreatK24
import Derived.Deep.RegionWith
import Derived.StillTailTactics
import Derived.Deep.RegionHeld3
namespace Go.Proofs.YtflijhodlimjoaaGreat.opens
open Go.RowKit Go.Proofs.YtflijhodlimjoaaGreat.newKey Go.Proofs.YtflijhodlimjoaaGreat.kit Go.Proofs.YtflijhodlimjoaaGreat.right Go.Proofs.YtflijhodlimjoaaGreat.big Go.Proofs.YtflijhodlimjoaaGreat.pub Go.Proofs.YtflijhodlimjoaaGreat.val
set_option linter.unusedVariables false

def kF (d : List UInt8) : Nat := valL (d.take 2) 0
def kM (d : List UInt8) : Nat := valL ((d.drop 4).take 4) 0
def kE (d : List UInt8) : Nat := valL ((d.drop 8).take 4) 0
def isKeyB (d : List UInt8) : Bool := decide (d.length = 12) && decide (pubS (kF d : Nat) (kM d : Nat) (kE d : Nat) 1 = d)
def openR (d : List UInt8) : Ending := .returned (.tuple #[if d.length = 12 then .agg #[.int .i64 (kF d : Nat), .int .i64 (kM d : Nat), .int .i64 (kE d : Nat), .int .i64 1] else .agg #[.int .i64 0, .int .i64 0, .int .i64 0, .int .i64 0], .bool (isKeyB d)])
theorem valL_lt : ∀ (l : List UInt8) (v : Nat), valL l v < (v + 1) * 256 ^ l.length
  | [], v => by simp [valL]
  | c :: r, v => by
    have h := valL_lt r (v * 256 + c.toNat)
    have hc := c.toNat_lt
    rw [valL, List.length_cons, Nat.pow_succ]
    refine Nat.lt_of_lt_of_le h ?_
    rw [Nat.mul_comm (256 ^ r.length) 256, ← Nat.mul_assoc]
    exact Nat.mul_le_mul_right _ (by omega)
theorem val4 {l : List UInt8} (h : l.length ≤ 4) : valL l 0 < 4294967296 := by
  have h1 := valL_lt l 0
  have h2 : 256 ^ l.length ≤ 256 ^ 4 := Nat.pow_le_pow_right (by omega) h
  omega
theorem ext_list (s : ByteArray) (a b : Nat) : (s.extract a b).data.toList = (s.data.toList.drop a).take (b - a) := by
  rw [ByteArray.data_extract, Array.toList_extract, List.extract_eq_take_drop]
theorem ext_size (s : ByteArray) (a b : Nat) (h : b ≤ s.size) : (s.extract a b).size = b - a := by
  rw [ByteArray.size_extract]; omega

set_option maxRecDepth 100000 in
set_option maxHeartbeats 2000000 in
theorem open_any (s : ByteArray) (w : World) (hs : s.size ≤ 1099511627776) :
    Calls Tryz.prog 74 #[.string s] w fun en w' => en = openR s.data.toList ∧ Below w.heap.size w w' := by
  by_cases h12 : s.size = 12
  · have hl : s.data.toList.length = 12 := by rw [size_len]; exact h12
    have x1 : (s.extract 0 2).size ≤ 4 := by rw [ext_size _ _ _ (by omega)]; decide
    have x2 : (s.extract 4 8).size ≤ 4 := by rw [ext_size _ _ _ (by omega)]; decide
    have x3 : (s.extract 8 12).size ≤ 4 := by rw [ext_size _ _ _ (by omega)]; decide
    have C1 := Lib.hid (fun w => number_any (s.extract 0 2) w x1)
    have C2 := Lib.hid (fun w => number_any (s.extract 4 8) w x2)
    have C3 := Lib.hid (fun w => number_any (s.extract 8 12) w x3)
    have e1 : valL (s.extract 0 2).data.toList 0 = kF s.data.toList := by rw [ext_list]; rfl
    have e2 : valL (s.extract 4 8).data.toList 0 = kM s.data.toList := by rw [ext_list]; rfl
    have e3 : valL (s.extract 8 12).data.toList 0 = kE s.data.toList := by rw [ext_list]; rfl
    rw [e1] at C1
    rw [e2] at C2
    rw [e3] at C3
    have HK : Hid (isKeyB s.data.toList = decide (pubS (kF s.data.toList : Nat) (kM s.data.toList : Nat) (kE s.data.toList : Nat) 1 = s.data.toList)) := Lib.hid (by unfold isKeyB; rw [hl]; rfl)
    have HO : Hid (openR s.data.toList = .returned (.tuple #[.agg #[.int .i64 (kF s.data.toList : Nat), .int .i64 (kM s.data.toList : Nat), .int .i64 (kE s.data.toList : Nat), .int .i64 1], .bool (isKeyB s.data.toList)])) := Lib.hid (by unfold openR; rw [if_pos hl])
    obtain ⟨F, hF⟩ : ∃ F, kF s.data.toList = F := ⟨_, rfl⟩
    obtain ⟨M, hM⟩ : ∃ M, kM s.data.toList = M := ⟨_, rfl⟩
    obtain ⟨E, hE⟩ : ∃ E, kE s.data.toList = E := ⟨_, rfl⟩
    rw [hF] at C1
    rw [hM] at C2
    rw [hE] at C3
    rw [hF, hM, hE] at HK HO
    have CP := Lib.hid (fun w => pub_any (F : Int) (M : Int) (E : Int) 1 w)
    obtain ⟨D, hD⟩ : ∃ D : ByteArray, (⟨(pubS (F : Int) (M : Int) (E : Int) 1).toArray⟩ : ByteArray) = D := ⟨_, rfl⟩
    have HD : Hid (isKeyB s.data.toList = (D.toList == s.toList)) := Lib.hid (by rw [HK.out, ← hD, Lib.toList_data, Lib.toList_data, Bool.eq_iff_iff]; simp)
    rw [hD] at CP
    rw [HO.out, HD.out]
    have HL := Lib.hid h12
    have hle : s.size ≤ 12 := by omega
    have hge : 12 ≤ s.size := by omega
    have b12 : ((s.size : Int) != 12) = false := by rw [h12]; rfl
    clear h12 hl e1 e2 e3 hF hM hE hD HK HO
    go_enter Tryz.func74, Tryz.ntmps74
    go_wp2_with fail
    have q2 : (2 : Int) ≤ (s.size : Int) := by omega
    have q4 : (4 : Int) ≤ (s.size : Int) := by omega
    have q8 : (8 : Int) ≤ (s.size : Int) := by omega
    have q12 : (12 : Int) ≤ (s.size : Int) := by omega
    clear x1 x2 x3
    go_upto_region 3 with (fail)
    go_cut [4] (fun s4 wx => s4 = .pointer (some ⟨w.heap.size + 1, 0, none⟩) ∧ wx = ((w.alloc (.cells #[.int .i64 0, .int .i64 0, .int .i64 0, .int .i64 0] 32)).alloc (.cells #[.int .i64 (F : Int), .int .i64 (M : Int), .int .i64 (E : Int), .int .i64 1] 32)).drew)
    case first =>
      go_region_held3 (fun w' => Below (w.alloc (.cells #[.int .i64 0, .int .i64 0, .int .i64 0, .int .i64 0] 32)).heap.size (w.alloc (.cells #[.int .i64 0, .int .i64 0, .int .i64 0, .int .i64 0] 32)) w') (first | assumption | exact (Below.refl _ _).drew | exact ((Below.refl _ _).alloc (Nat.le_refl _) _).drew | exact Below.alloc (by assumption) (Below.size (by assumption)) _)
        (first
          | (go_at_call_of 81 (Value.string (s.extract 0 2)); refine (C1.out _).mono ?_; rintro e w' ⟨rfl, rfl⟩)
          | (go_at_call_of 81 (Value.string (s.extract 4 8)); refine (C2.out _).mono ?_; rintro e w' ⟨rfl, rfl⟩)
          | (go_at_call_of 81 (Value.string (s.extract 8 12)); refine (C3.out _).mono ?_; rintro e w' ⟨rfl, rfl⟩))
      all_goals (go_wp2_with fail; go_meet; exact ⟨rfl, rfl⟩)
    case rest =>
      obtain ⟨rfl, rfl⟩ := hcut
      go_wp2_with fail
      go_region_with ((go_at_call_of 20 (Value.agg #[.int .i64 (F : Int), .int .i64 (M : Int), .int .i64 (E : Int), .int .i64 1]); refine (CP.out _).mono ?_; rintro e w2 ⟨rfl, hB2⟩; obtain ⟨hc, hf⟩ := bcell hB2; have HB2 := Lib.hid hB2; clear hB2))
      all_goals
        have hbA := (((Below.refl w.heap.size w).alloc (Nat.le_refl _) (.cells #[.int .i64 0, .int .i64 0, .int .i64 0, .int .i64 0] 32)).alloc (by rw [World.size_alloc]; omega) (.cells #[.int .i64 (F : Int), .int .i64 (M : Int), .int .i64 (E : Int), .int .i64 1] 32)).drew
        have HBB : Hid (Below w.heap.size w w2) := Lib.hid (by
          have h := HB2.out
          first
            | exact hbA.trans (h.mono hbA.size)
            | exact hbA.drew.trans (h.mono hbA.drew.size))
        have k0 : w2.cell? ⟨w.heap.size, 0, none⟩ = some (.int .i64 0) := (hc _ _ (by first | (simp; done) | (simp; omega))).trans (by simp)
        have k1 : w2.cell? ⟨w.heap.size, 1, none⟩ = some (.int .i64 0) := (hc _ _ (by first | (simp; done) | (simp; omega))).trans (by simp)
        have k2 : w2.cell? ⟨w.heap.size, 2, none⟩ = some (.int .i64 0) := (hc _ _ (by first | (simp; done) | (simp; omega))).trans (by simp)
        have k3 : w2.cell? ⟨w.heap.size, 3, none⟩ = some (.int .i64 0) := (hc _ _ (by first | (simp; done) | (simp; omega))).trans (by simp)
        clear hbA
        go_wp2_with fail
        refine bodyPost_ret (v := .tuple #[.agg #[.int .i64 (F : Int), .int .i64 (M : Int), .int .i64 (E : Int), .int .i64 1], .bool (D.toList == s.toList)]) (by simp [results, Tryz.results74, go_sem, k0, k1, k2, k3]) rfl ⟨rfl, ?_⟩
        have h := HBB.out
        first
          | exact (((h.setCell (Nat.le_refl _) _).setCell (Nat.le_refl _) _).setCell (Nat.le_refl _) _).setCell (Nat.le_refl _) _
          | exact ((((h.setCell (Nat.le_refl _) _).setCell (Nat.le_refl _) _).setCell (Nat.le_refl _) _).setCell (Nat.le_refl _) _).drew
  · have hl : s.data.toList.length ≠ 12 := by rw [size_len]; exact h12
    have HO : Hid (openR s.data.toList = .returned (.tuple #[.agg #[.int .i64 0, .int .i64 0, .int .i64 0, .int .i64 0], .bool false])) := Lib.hid (by unfold openR isKeyB; rw [if_neg hl, decide_eq_false hl]; rfl)
    rw [HO.out]
    have b12 : ((s.size : Int) != 12) = true := by rw [bne_iff_ne]; omega
    clear h12 hl
    go_enter Tryz.func74, Tryz.ntmps74
    go_wp2_with fail
    exact bodyPost_ret (v := .tuple #[.agg #[.int .i64 0, .int .i64 0, .int .i64 0, .int .i64 0], .bool false]) (by simp [results, Tryz.results74, go_sem]) rfl ⟨rfl, (Below.refl _ _).alloc (Nat.le_refl _) _⟩
end Go.Proofs.YtflijhodlimjoaaGreat.opens
namespace Go.Proofs.YtflijhodlimjoaaGreat.sigM
open Go.RowKit Go.Proofs.YtflijhodlimjoaaGreat.kit Go.Proofs.YtflijhodlimjoaaGreat.val Go.Proofs.YtflijhodlimjoaaGreat.opens
set_option linter.unusedVariables false

def cutV (l : List UInt8) (a b : Nat) : Nat := valL ((l.drop a).take (b - a)) 0
set_option maxRecDepth 100000 in
theorem covered_any (h g s : ByteArray) (w : World) (hh : h.size = 18) :
    Calls Tryz.prog 75 #[.agg #[.string h, .string g, .string s]] w fun e w' => e = .returned (.int .i64 ((cutV h.data.toList 0 2 : Nat) : Int)) ∧ Below w.heap.size w w' := by
  have x1 : (h.extract 0 2).size ≤ 4 := by rw [ext_size _ _ _ (by omega)]; decide
  have C1 := Lib.hid (fun w => number_any (h.extract 0 2) w x1)
  have e1 : valL (h.extract 0 2).data.toList 0 = cutV h.data.toList 0 2 := by rw [ext_list]; rfl
  rw [e1] at C1
  have hB : Hid (Below w.heap.size w (w.alloc (.cells #[.string h, .string g, .string s] 93))) := Lib.hid ((Below.refl _ _).alloc (Nat.le_refl _) _)
  clear e1 x1
  go_enter Tryz.func75, Tryz.ntmps75
  go_wp2_with fail
  refine (C1.out _).mono ?_
  rintro e w1 ⟨rfl, rfl⟩
  go_wp2_with fail
  go_ret
  exact ⟨rfl, hB.out⟩
set_option maxRecDepth 100000 in
theorem until_any (h g s : ByteArray) (w : World) (hh : h.size = 18) :
    Calls Tryz.prog 80 #[.agg #[.string h, .string g, .string s]] w fun e w' => e = .returned (.int .i64 ((cutV h.data.toList 8 12 : Nat) : Int)) ∧ Below w.heap.size w w' := by
  have x1 : (h.extract 8 12).size ≤ 4 := by rw [ext_size _ _ _ (by omega)]; decide
  have C1 := Lib.hid (fun w => number_any (h.extract 8 12) w x1)
  have e1 : valL (h.extract 8 12).data.toList 0 = cutV h.data.toList 8 12 := by rw [ext_list]; rfl
  rw [e1] at C1
  have hB : Hid (Below w.heap.size w (w.alloc (.cells #[.string h, .string g, .string s] 93))) := Lib.hid ((Below.refl _ _).alloc (Nat.le_refl _) _)
  clear e1 x1
  go_enter Tryz.func80, Tryz.ntmps80
  go_wp2_with fail
  refine (C1.out _).mono ?_
  rintro e w1 ⟨rfl, rfl⟩
  go_wp2_with fail
  go_ret
  exact ⟨rfl, hB.out⟩
set_option maxRecDepth 100000 in
theorem from_any (h g s : ByteArray) (w : World) (hh : h.size = 18) :
    Calls Tryz.prog 79 #[.agg #[.string h, .string g, .string s]] w fun e w' => e = .returned (.int .i64 ((cutV h.data.toList 12 16 : Nat) : Int)) ∧ Below w.heap.size w w' := by
  have x1 : (h.extract 12 16).size ≤ 4 := by rw [ext_size _ _ _ (by omega)]; decide
  have C1 := Lib.hid (fun w => number_any (h.extract 12 16) w x1)
  have e1 : valL (h.extract 12 16).data.toList 0 = cutV h.data.toList 12 16 := by rw [ext_list]; rfl
  rw [e1] at C1
  have hB : Hid (Below w.heap.size w (w.alloc (.cells #[.string h, .string g, .string s] 93))) := Lib.hid ((Below.refl _ _).alloc (Nat.le_refl _) _)
  clear e1 x1
  go_enter Tryz.func79, Tryz.ntmps79
  go_wp2_with fail
  refine (C1.out _).mono ?_
  rintro e w1 ⟨rfl, rfl⟩
  go_wp2_with fail
  go_ret
  exact ⟨rfl, hB.out⟩
set_option maxRecDepth 100000 in
theorem tag_any (h g s : ByteArray) (w : World) (hh : h.size = 18) :
    Calls Tryz.prog 77 #[.agg #[.string h, .string g, .string s]] w fun e w' => e = .returned (.int .i64 ((cutV h.data.toList 16 18 : Nat) : Int)) ∧ Below w.heap.size w w' := by
  have x1 : (h.extract 16 18).size ≤ 4 := by rw [ext_size _ _ _ (by omega)]; decide
  have C1 := Lib.hid (fun w => number_any (h.extract 16 18) w x1)
  have e1 : valL (h.extract 16 18).data.toList 0 = cutV h.data.toList 16 18 := by rw [ext_list]; rfl
  rw [e1] at C1
  have hB : Hid (Below w.heap.size w (w.alloc (.cells #[.string h, .string g, .string s] 93))) := Lib.hid ((Below.refl _ _).alloc (Nat.le_refl _) _)
  clear e1 x1
  go_enter Tryz.func77, Tryz.ntmps77
  go_wp2_with fail
  refine (C1.out _).mono ?_
  rintro e w1 ⟨rfl, rfl⟩
  go_wp2_with fail
  go_ret
  exact ⟨rfl, hB.out⟩
set_option maxRecDepth 100000 in
theorem labels_any (h g s : ByteArray) (c : UInt8) (w : World) (hh : h.size = 18) (hc : h.data.toList[3]? = some c) :
    Calls Tryz.prog 78 #[.agg #[.string h, .string g, .string s]] w fun e w' => e = .returned (.int .i64 ((c.toNat : Nat) : Int)) ∧ Below w.heap.size w w' := by
  have hB : Hid (Below w.heap.size w (w.alloc (.cells #[.string h, .string g, .string s] 93))) := Lib.hid ((Below.refl _ _).alloc (Nat.le_refl _) _)
  have h3 : 3 < h.size := by omega
  have hg : h[3] = c := by
    have h4 := getD_at h 3 h3
    rw [List.getD, hc] at h4; exact h4.symm
  have HG := Lib.hid hg
  clear hg
  have hlt := byte_lt c
  have hge : (0 : Int) ≤ (c.toNat : Int) := by omega
  clear hc
  go_enter Tryz.func78, Tryz.ntmps78
  go_wp2_with fail
  go_ret
  exact ⟨by rw [HG.out, IntWalk.wrap64_in _ (by omega)]; rfl, hB.out⟩
end Go.Proofs.YtflijhodlimjoaaGreat.sigM
namespace Go.Proofs.YtflijhodlimjoaaGreat.bldE
open Go.RowKit Go.Proofs.YtflijhodlimjoaaGreat.kit Go.Proofs.YtflijhodlimjoaaGreat.bld Go.Proofs.YtflijhodlimjoaaGreat.rows
set_option linter.unusedVariables false

theorem bld_lt {B b : Nat} {l : List UInt8} {w : World} (h : Bld B b l w) : b < w.heap.size := by
  rcases h with h | h
  · exact h.lt
  · exact h.lt
/-- blocks that are neither b nor rows of bytes stand -/
def Kp (b : Nat) (w w' : World) : Prop := ∀ (k : Nat) (o : Obj), w.heap[k]? = some o → k ≠ b → (∀ cur f, o ≠ .cells cur 5 f) → w'.heap[k]? = some o
theorem Kp.cell {b : Nat} {w w' : World} (h : Kp b w w') {k j : Nat} {cur : Array Value} {t : TypeId} {f : Nat × Nat} {v : Value} (hk : w.heap[k]? = some (.cells cur t f)) (hb : k ≠ b) (ht : t ≠ 5) (hc : w.cell? ⟨k, j, none⟩ = some v) : w'.cell? ⟨k, j, none⟩ = some v := by
  have h1 := h k _ hk hb (fun c f e => by cases e; exact ht rfl)
  have : w'.heap[k]? = w.heap[k]? := by rw [h1, hk]
  simp only [World.cell?] at hc ⊢
  rw [this]; exact hc
theorem copyCheckE (B b : Nat) (bs : List Value) (w : World) (h : Lib.IsBuilder 111 5 B b bs w) :
    Calls Tryz.prog 142 #[.pointer (some ⟨b, 0, none⟩)] w fun e w' => e = .returned (.tuple #[]) ∧ Lib.BuilderAt 111 5 B b (.pointer (some ⟨b, 0, none⟩)) bs w' ∧ Below B w w' ∧ Kp b w w' := by
  rcases h with h | h
  · refine (copyCheck_fresh b w h.cell0 h.shape h.frozen0).mono ?_
    rintro e w' ⟨rfl, rfl⟩
    exact ⟨rfl, h.used _, (Below.refl B w).setCell (p := ⟨b, 0, none⟩) h.1 _, fun k o hk hb _ => (Below.heap_setCell w ⟨b, 0, none⟩ _ k hb).trans hk⟩
  · refine (copyCheck_used b w h.cell0).mono ?_
    rintro e w' ⟨rfl, rfl⟩
    exact ⟨rfl, h, Below.refl B _, fun k o hk _ _ => hk⟩
set_option maxHeartbeats 2000000 in
set_option maxRecDepth 100000 in
theorem writeStringE (B b : Nat) (bs : List Value) (s : ByteArray) (w : World) (h : Lib.IsBuilder 111 5 B b bs w) (hlen : bs.length + s.size ≤ 140737488355328) (hBw : B ≤ w.heap.size) :
    Calls Tryz.prog 91 #[.pointer (some ⟨b, 0, none⟩), .string s] w fun e w' => e = .returned (.tuple #[.int .i64 s.size, .nilIface]) ∧ Lib.BuilderAt 111 5 B b (.pointer (some ⟨b, 0, none⟩)) (bs ++ Lib.strCells s) w' ∧ Below B w w' ∧ Kp b w w' := by
  obtain ⟨i0, hi, hz0, hz1, hz2⟩ := info_parts infoByte
  go_enter Tryz.func91, Tryz.ntmps91
  go_wp2_with fail
  refine (copyCheckE B b bs _ h).mono ?_
  rintro e w1 ⟨rfl, h1, hb1, hk1⟩
  obtain ⟨hB, v, hbk, hown, hne⟩ := h1
  have c0 : w1.cell? ⟨b, 0, none⟩ = some (.pointer (some ⟨b, 0, none⟩)) := by rw [Lib.cell_of_heap hbk]; rfl
  have c1 : w1.cell? ⟨b, 1, none⟩ = some v := by rw [Lib.cell_of_heap hbk]; rfl
  have HK1 := Lib.hid hk1; clear hk1
  go_wp2_with (at_builtin; refine Lib.wpList_append_own_string _ rfl _ _ 108 9 rfl B 5 i0 Tryz.underlying108 Tryz.underlying9 hi hz0 hz1 hz2 _ _ _ rfl hown s rfl ?c3 ?c4 ?c5 ?_)
  case c3 => unfold maxLen; omega
  case c4 => omega
  case c5 => have := hb1.size; omega
  intro v' w2 hown' hgrow _
  have hlt : b < w1.heap.size := by
    rcases Nat.lt_or_ge b w1.heap.size with h' | h'
    · exact h'
    · simp [Array.getElem?_eq_none h'] at hbk
  have hb2 : w2.heap[b]? = some (.cells #[.pointer (some ⟨b, 0, none⟩), v] 111 (0, 0)) := by
    rw [hgrow.block b hlt (fun e => hne e.symm)]
    exact hbk
  have d0 : w2.cell? ⟨b, 0, none⟩ = some (.pointer (some ⟨b, 0, none⟩)) := by rw [Lib.cell_of_heap hb2]; rfl
  have d1 : w2.cell? ⟨b, 1, none⟩ = some v := by rw [Lib.cell_of_heap hb2]; rfl
  have f1 : w2.frozen? ⟨b, 1, none⟩ = false := Lib.frozen_of_heap hb2 1
  obtain ⟨ao, n', cap, rfl⟩ : ∃ ao n' cap, v' = .slice ao n' cap := by
    rcases hown'.2 with ⟨hv, _⟩ | ⟨g, cap, cur, hv, _⟩
    · exact ⟨_, _, _, hv⟩
    · exact ⟨_, _, _, hv⟩
  go_wp2
  go_ret2
  refine ⟨rfl, ?_, ?_, ?_⟩
  · exact Lib.BuilderAt.put (T := 111) (e := 5) hB hb2 (bs' := bs ++ Lib.strCells s) (by simpa [Lib.strCells_length] using hown') (by decide)
  · exact (hb1.grown hgrow (by have := hb1.size; omega) (fun k hk => (hown.lt k hk).1)).setCell (p := ⟨b, 1, none⟩) hB _
  · intro k o hk hb ht
    have e1 := HK1.out k o hk hb ht
    have e2 := hgrow.block k (Array.getElem?_eq_some_iff.1 e1).1 (row_neG hown e1 ht)
    exact (Below.heap_setCell _ ⟨b, 1, none⟩ _ k hb).trans (e2.trans e1)
theorem wsE (B b : Nat) (l : List UInt8) (s : ByteArray) (w : World) (h : Bld B b l w) (hlen : l.length + s.size ≤ 140737488355328) (hBw : B ≤ w.heap.size) :
    Calls Tryz.prog 91 #[.pointer (some ⟨b, 0, none⟩), .string s] w fun e w' => e = .returned (.tuple #[.int .i64 s.size, .nilIface]) ∧ Bld B b (l ++ s.data.toList) w' ∧ Below B w w' ∧ Kp b w w' := by
  refine (writeStringE B b _ s w h (by rw [Lib.byteCells_length]; exact hlen) hBw).mono ?_
  rintro e w' ⟨rfl, h1, h2, h3⟩
  exact ⟨rfl, .inr (by rw [bytes_app]; exact h1), h2, h3⟩
end Go.Proofs.YtflijhodlimjoaaGreat.bldE
namespace Go.Proofs.YtflijhodlimjoaaGreat.sigText
open Go.RowKit Go.Proofs.YtflijhodlimjoaaGreat.kit Go.Proofs.YtflijhodlimjoaaGreat.nspec Go.Proofs.YtflijhodlimjoaaGreat.refA Go.Proofs.YtflijhodlimjoaaGreat.nameA Go.Proofs.YtflijhodlimjoaaGreat.nameB Go.Proofs.YtflijhodlimjoaaGreat.big Go.Proofs.YtflijhodlimjoaaGreat.val Go.Proofs.YtflijhodlimjoaaGreat.opens Go.Proofs.YtflijhodlimjoaaGreat.timed Go.Proofs.YtflijhodlimjoaaGreat.sealA Go.Proofs.YtflijhodlimjoaaGreat.sealS Go.Proofs.YtflijhodlimjoaaGreat.lnP Go.Proofs.YtflijhodlimjoaaGreat.bld Go.Proofs.YtflijhodlimjoaaGreat.bldE Go.Proofs.YtflijhodlimjoaaGreat.rows
set_option linter.unusedVariables false

theorem keepU {W w w' : World} {B X : Nat} {v0 v1 : Value} (h : w.cell? ⟨X, 0, none⟩ = some v0 ∧ w.cell? ⟨X, 1, none⟩ = some v1 ∧ Below B W w) (hB : Below w.heap.size w w') (hX : X < B) (hb : B ≤ W.heap.size) :
    w'.cell? ⟨X, 0, none⟩ = some v0 ∧ w'.cell? ⟨X, 1, none⟩ = some v1 ∧ Below B W w' := by
  obtain ⟨a0, a1, h9⟩ := h
  have hl : B ≤ w.heap.size := Nat.le_trans hb h9.size
  have hx : X < w.heap.size := Nat.lt_of_lt_of_le hX hl
  exact ⟨(hB.cell (p := ⟨X, 0, none⟩) hx).trans a0, (hB.cell (p := ⟨X, 1, none⟩) hx).trans a1, h9.trans (hB.mono hl)⟩
theorem keepV {W w w' : World} {B X : Nat} {v0 v1 : Value} (h : w.cell? ⟨X, 0, none⟩ = some v0 ∧ w.cell? ⟨X, 1, none⟩ = some v1 ∧ Below B W w) (hB : Below B w w') (hX : X < B) :
    w'.cell? ⟨X, 0, none⟩ = some v0 ∧ w'.cell? ⟨X, 1, none⟩ = some v1 ∧ Below B W w' := by
  obtain ⟨a0, a1, h9⟩ := h
  exact ⟨(hB.cell (p := ⟨X, 0, none⟩) hX).trans a0, (hB.cell (p := ⟨X, 1, none⟩) hX).trans a1, h9.trans hB⟩
/-- what else is kept: the line's block, all below the builder -/
structure KT (W : World) (B Y : Nat) (w' : World) : Prop where
  bel : Below B W w'
  ln : ∃ cur f, w'.heap[Y]? = some (.cells cur 137 f)
theorem KT.step {W w w' : World} {B X Y : Nat} {v0 d : Value} (h : w.cell? ⟨X, 0, none⟩ = some v0 ∧ w.cell? ⟨Y, 0, none⟩ = some d ∧ KT W B Y w) (hB : Below w.heap.size w w') (hX : X < B) (hb : B ≤ W.heap.size) :
    w'.cell? ⟨X, 0, none⟩ = some v0 ∧ w'.cell? ⟨Y, 0, none⟩ = some d ∧ KT W B Y w' := by
  obtain ⟨hx, hy, h9⟩ := h
  have hbz := Nat.le_trans hb h9.bel.size
  obtain ⟨cur, f, hl⟩ := h9.ln
  have hY := (Array.getElem?_eq_some_iff.1 hl).1
  exact ⟨(hB.cell (p := ⟨X, 0, none⟩) (Nat.lt_of_lt_of_le hX hbz)).trans hx, (hB.cell (p := ⟨Y, 0, none⟩) hY).trans hy, h9.bel.trans (hB.mono hbz), ⟨cur, f, (hB.block Y hY).trans hl⟩⟩
theorem KT.write {W w w' : World} {B X Y : Nat} {v0 d : Value} (h : w.cell? ⟨X, 0, none⟩ = some v0 ∧ w.cell? ⟨Y, 0, none⟩ = some d ∧ KT W B Y w) (hB : Below B w w') (hK : Kp B w w') (hX : X < B) (hY : Y ≠ B) :
    w'.cell? ⟨X, 0, none⟩ = some v0 ∧ w'.cell? ⟨Y, 0, none⟩ = some d ∧ KT W B Y w' := by
  obtain ⟨hx, hy, h9⟩ := h
  obtain ⟨cur, f, hl⟩ := h9.ln
  have hl' := hK Y _ hl hY (fun c f e => by cases e)
  exact ⟨(hB.cell (p := ⟨X, 0, none⟩) hX).trans hx, hK.cell hl hY (by decide) hy, h9.bel.trans hB, ⟨cur, f, hl'⟩⟩
theorem text_more {h0 g0 own t2 ttl : Bs} {ds : List Bs} {k : Nat} {d : Bs} (hd : ds[k]? = some d) : (h0 ++ foldS g0 ++ bodyS own t2 ttl (ds.take k)) ++ pieceT own t2 ttl d = h0 ++ foldS g0 ++ bodyS own t2 ttl (ds.take (k + 1)) := by
  obtain ⟨h1, h2⟩ := List.getElem?_eq_some_iff.1 hd
  rw [List.take_succ_eq_append_getElem h1, h2, body_snoc, List.append_assoc]
theorem bulk_take (ds : List Bs) (k : Nat) : bulk (ds.take k) ≤ bulk ds := by
  have := bulk_append (ds.take k) (ds.drop k)
  rw [List.take_append_drop] at this; omega
theorem bulk_at {ds : List Bs} {k : Nat} {d : Bs} (h : ds[k]? = some d) : d.length ≤ bulk ds := by
  obtain ⟨h1, h2⟩ := List.getElem?_eq_some_iff.1 h
  have e1 := bulk_append (ds.take k) (ds.drop k)
  rw [List.take_append_drop, List.drop_eq_getElem_cons h1, h2, bulk_cons] at e1
  omega
set_option maxRecDepth 100000 in
set_option maxHeartbeats 8000000 in
theorem text_any (h g s o : ByteArray) (c : UInt8) (a : Option Addr) (n cp : Nat) (ds : List Bs) (w : World) (hh : h.size = 18) (hc : h.data.toList[3]? = some c) (hg : g.size ≤ 1099511627776) (ho : o.size ≤ 1099511627776) (hn : n = ds.length) (hr : RdC w a 1 (ds.map lnC)) (hb : bulk ds ≤ 68719476736) (hbig : n ≤ 16777216) :
    Calls Tryz.prog 60 #[.agg #[.string h, .string g, .string s], .string o, .slice a n cp] w fun e w' => e = .returned (.string ⟨(textS h.data.toList g.data.toList (c.toNat : Int) o.data.toList ds).toArray⟩) ∧ Below w.heap.size w w' := by
  have CL := Lib.hid (fun wx => sigM.labels_any h g s c wx hh hc)
  have CC := Lib.hid (fun wx => sealA.count_any o wx ho)
  have CFG := Lib.hid (fun wx => nfold_any g wx hg)
  have HTX : Hid (textS h.data.toList g.data.toList (c.toNat : Int) o.data.toList ds = h.data.toList ++ foldS g.data.toList ++ bodyS (ownS (c.toNat : Int) o.data.toList) (h.data.toList.take 2) ((h.data.toList.drop 4).take 4) ds) := Lib.hid rfl
  have HOW : Hid (ownS (c.toNat : Int) o.data.toList = if (c.toNat : Int) < lessS o.data.toList then foldS (1 :: 42 :: tailS o.data.toList (c.toNat : Int)) else foldS o.data.toList) := Lib.hid rfl
  have HL3 := byte_lt c
  have CTL := Lib.hid (fun wx => ntail_any o (c.toNat : Int) wx ho)
  obtain ⟨lab, hlab⟩ : ∃ lab : Int, (c.toNat : Int) = lab := ⟨_, rfl⟩
  obtain ⟨K, hK⟩ : ∃ K, lessS o.data.toList = K := ⟨_, rfl⟩
  obtain ⟨OW, hOW⟩ : ∃ OW, ownS (c.toNat : Int) o.data.toList = OW := ⟨_, rfl⟩
  rw [hOW] at HTX HOW
  rw [hlab] at CL CTL HOW HTX HL3 ⊢
  rw [hK] at CC HOW
  have HOL : Hid (OW.length ≤ 255) := Lib.hid (by rw [← hOW]; exact own_len _ _)
  have hfgl := dfold.fold_short g.data.toList
  obtain ⟨FG, hFG⟩ : ∃ FG : ByteArray, (⟨(foldS g.data.toList).toArray⟩ : ByteArray) = FG := ⟨_, rfl⟩
  have hFGl : foldS g.data.toList = FG.data.toList := by rw [← hFG]
  rw [hFG] at CFG
  rw [hFGl] at hfgl
  have HFGL := Lib.hid hFGl
  rw [size_len] at hfgl
  have HN := Lib.hid hn; have HR := Lib.hid hr; have HBK := Lib.hid hb; have HOS := Lib.hid ho
  have hB0 := (Below.refl w.heap.size w).alloc (Nat.le_refl _) (.cells #[.string h, .string g, .string s] 93)
  have hx0 := heap_alloc_new w (.cells #[.string h, .string g, .string s] 93)
  obtain ⟨X, hX⟩ : ∃ X, w.heap.size = X := ⟨_, rfl⟩
  obtain ⟨W, hW⟩ : ∃ W, w.alloc (.cells #[.string h, .string g, .string s] 93) = W := ⟨_, rfl⟩
  rw [hW] at hB0 hx0
  rw [hX] at hx0
  have x0 : W.cell? ⟨X, 0, none⟩ = some (.string h) := by simp only [World.cell?, hx0]; rfl
  have x1 : W.cell? ⟨X, 1, none⟩ = some (.string g) := by simp only [World.cell?, hx0]; rfl
  have x2 : W.cell? ⟨X, 2, none⟩ = some (.string s) := by simp only [World.cell?, hx0]; rfl
  have hXW : X < W.heap.size := (Array.getElem?_eq_some_iff.1 hx0).1
  have HX := Lib.hid hX; have HW := Lib.hid hW; have HB0 := Lib.hid hB0
  have HXW := Lib.hid hXW; have HX0 := Lib.hid hx0
  clear hlab hK hOW hFGl hFG hn hr hb hX hW hB0 hx0 hc hg ho hXW
  go_enter Tryz.func60, Tryz.ntmps60
  go_upto_region 1 with fail
  rw [HW.out]
  try rw [HX.out]
  go_wp2_with fail
  refine (CL.out _).mono ?_
  rintro e w1 ⟨rfl, hB1⟩
  have hx1 := (hB1.block X HXW.out).trans HX0.out
  have HB1 := Lib.hid (HB0.out.trans (hB1.mono HB0.out.size))
  have HX1 := Lib.hid hx1
  clear x0 x1 x2 hB1 hx1
  go_wp2_with fail
  refine (CC.out _).mono ?_
  rintro e w2 ⟨rfl, hB2⟩
  have hx2 := (hB2.block X (Array.getElem?_eq_some_iff.1 HX1.out).1).trans HX1.out
  have HB2 := Lib.hid (HB1.out.trans (hB2.mono HB1.out.size))
  have HX2 := Lib.hid hx2
  have x0 : w2.cell? ⟨X, 0, none⟩ = some (.string h) := by simp only [World.cell?, hx2]; rfl
  have x1 : w2.cell? ⟨X, 1, none⟩ = some (.string g) := by simp only [World.cell?, hx2]; rfl
  have x2 : w2.cell? ⟨X, 2, none⟩ = some (.string s) := by simp only [World.cell?, hx2]; rfl
  clear hB2 hx2 HX1 HX0

  by_cases hlk : lab < K
  · obtain ⟨TB, hTB⟩ : ∃ TB : ByteArray, (⟨(tailS o.data.toList lab).toArray⟩ : ByteArray) = TB := ⟨_, rfl⟩
    have hTd : tailS o.data.toList lab = TB.data.toList := by rw [← hTB]
    have hTs : TB.size ≤ 255 := by rw [← size_len, ← hTd]; exact refB.tailS_len _ _
    rw [hTB] at CTL
    have HOD : Hid (((⟨#[1, 42]⟩ : ByteArray) ++ TB).data.toList = 1 :: 42 :: tailS o.data.toList lab) := Lib.hid (by rw [hTd]; simp [ByteArray.data_append])
    have HO : Hid (foldS ((⟨#[1, 42]⟩ : ByteArray) ++ TB).data.toList = OW) := Lib.hid (by rw [HOW.out, if_pos hlk, HOD.out])
    have HOO : Hid (((⟨#[1, 42]⟩ : ByteArray) ++ TB).size ≤ 1099511627776) := Lib.hid (by rw [ByteArray.size_append, show (⟨#[1, 42]⟩ : ByteArray).size = 2 from rfl]; omega)
    have m1 : ¬ 9223372036854775807 < 2 + TB.size := by omega
    have m2 : 2 + TB.size ≤ 9223372036854775807 := by omega
    clear hTB hTd
    trace "a1"
    go_wp2_with fail
    refine (CL.out _).mono ?_
    rintro e w3 ⟨rfl, hB3⟩
    have hx3 := (hB3.block X (Array.getElem?_eq_some_iff.1 HX2.out).1).trans HX2.out
    have HB3 := Lib.hid (HB2.out.trans (hB3.mono HB2.out.size))
    have HX3 := Lib.hid hx3
    clear hB3 hx3 x0 x1 x2 HX2
    trace "a2"
    go_wp2_with fail
    refine (CTL.out _).mono ?_
    rintro e w4 ⟨rfl, hB4⟩
    have hx4 := (hB4.block X (Array.getElem?_eq_some_iff.1 HX3.out).1).trans HX3.out
    have HB4 := Lib.hid (HB3.out.trans (hB4.mono HB3.out.size))
    have HX4 := Lib.hid hx4
    have x0 : w4.cell? ⟨X, 0, none⟩ = some (.string h) := by simp only [World.cell?, hx4]; rfl
    have x1 : w4.cell? ⟨X, 1, none⟩ = some (.string g) := by simp only [World.cell?, hx4]; rfl
    have x2 : w4.cell? ⟨X, 2, none⟩ = some (.string s) := by simp only [World.cell?, hx4]; rfl
    clear hB4 hx4 HX3
    trace "a3"
    obtain ⟨b, hb⟩ : ∃ b, w4.heap.size = b := ⟨_, rfl⟩
    have hfb := Lib.fresh_isBuilder 111 5 w4
    have hBb := (Below.refl w4.heap.size w4).alloc (Nat.le_refl _) (.cells #[.pointer none, .slice none 0 0] 111)
    obtain ⟨wb, hwb⟩ : ∃ wb, w4.alloc (.cells #[.pointer none, .slice none 0 0] 111) = wb := ⟨_, rfl⟩
    rw [hb] at hfb
    rw [hwb] at hfb hBb
    have hszb : wb.heap.size = b + 1 := by rw [← hwb, World.size_alloc, hb]
    have HBb := Lib.hid (HB4.out.trans (hBb.mono HB4.out.size))
    have hXb : X < b := by rw [← hb]; exact (Array.getElem?_eq_some_iff.1 HX4.out).1
    have hxb := (hBb.block X (by rw [hb]; exact hXb)).trans HX4.out
    have HXB := Lib.hid hxb
    have y0 : wb.cell? ⟨X, 0, none⟩ = some (.string h) := by simp only [World.cell?, hxb]; rfl
    have y1 : wb.cell? ⟨X, 1, none⟩ = some (.string g) := by simp only [World.cell?, hxb]; rfl
    have HWB := Lib.hid hwb; have HBQB := Lib.hid hb
    clear hb hwb hBb hxb x0 x1 x2
    trace "r1"
    go_upto_region 4 with fail
    rw [HWB.out]
    try rw [HBQB.out]
    have hBld : Bld b b [] wb.drew := bld_below hfb (below_drewN (Below.refl _ _) 1)
    have hS0 : wb.drew.cell? ⟨X, 0, none⟩ = some (.string h) ∧ wb.drew.cell? ⟨X, 1, none⟩ = some (.string g) ∧ Below b wb wb.drew := ⟨y0, y1, below_drewN (Below.refl _ _) 1⟩
    have n1 : ¬ 9223372036854775807 < h.size + FG.size := by omega
    have n2 : 18 + FG.size ≤ 9223372036854775807 := by omega
    have n3 : ¬ 9223372036854775807 < 18 + FG.size := by omega
    have HWS := Lib.hid (fun (wx : World) (hl : Bld b b [] wx) => wsE b b [] (h ++ FG) wx hl (by rw [ByteArray.size_append]; simp only [List.length_nil]; omega) (Nat.le_of_lt (bld_lt hl)))
    have hbW : b ≤ wb.heap.size := by omega
    clear hfb y0 y1
    go_region_held3 (fun w' => w'.cell? ⟨X, 0, none⟩ = some (.string h) ∧ w'.cell? ⟨X, 1, none⟩ = some (.string g) ∧ Below b wb w') (first | assumption | (refine ⟨?_, ?_, ?_⟩ <;> assumption))
      (first
        | (go_at_call 57; refine (CFG.out _).mono ?_; rintro e w' ⟨rfl, hBz⟩; have hBl2 := bld_below (by assumption) hBz; have hSz := keepU (by assumption) hBz hXb hbW; clear hBz)
        | (go_at_call 91; refine (HWS.out _ (by assumption)).mono ?_; rintro e w' ⟨rfl, hBl3, hBz, hKz⟩; have hSz2 := keepV (by assumption) hBz hXb; clear hBz))
    have HBl0 : Hid (Bld b b (h.data.toList ++ foldS g.data.toList ++ bodyS OW (h.data.toList.take 2) ((h.data.toList.drop 4).take 4) (ds.take 0)) w') := Lib.hid (by
      rw [HFGL.out]
      simpa [bodyS] using hBl3)
    have HBe0 : Hid (Below b wb w') := Lib.hid hSz2.2.2
    have HSZB := Lib.hid hszb; have HXb := Lib.hid hXb
    obtain ⟨w5, hw5⟩ : ∃ w5, w' = w5 := ⟨_, rfl⟩
    rw [hw5] at HBl0 HBe0
    rw [hw5]
    clear hw5 hBl3 hSz2 hS0 hBld n1 n2 n3 HWS
    go_wp2_with fail
    go_loopg [29] (n + 1) (fun gas kv wr => ∃ k : Nat, kv = .int .i64 (k : Int) ∧ k ≤ n ∧ k + gas = n + 1 ∧ Hid (Bld b b (h.data.toList ++ foldS g.data.toList ++ bodyS OW (h.data.toList.take 2) ((h.data.toList.drop 4).take 4) (ds.take k)) wr) ∧ Hid (Below b wb wr))
    case atStart => exact ⟨0, rfl, by omega, by omega, HBl0, HBe0⟩
    case round =>
      clear HBl0 HBe0
      obtain ⟨k, rfl, hk, hkg, HBL, HBE⟩ := hrel
      have HK := Lib.hid hkg; clear hkg
      by_cases hlt : k < n
      · obtain ⟨d, hd⟩ : ∃ d, ds[k]? = some d := ⟨_, List.getElem?_eq_getElem (by have := HN.out; omega)⟩
        obtain ⟨g1, o1, rfl, hg1, hcl⟩ := at_ln HR.out hd
        have hwX : w.heap.size ≤ b := by rw [HX.out]; omega
        have hcell := ((HBb.out.trans (HBE.out.mono hwX)).cell (p := ⟨g1, o1 + k, none⟩) hg1).trans hcl
        unfold strV at hcell
        obtain ⟨D, hD⟩ : ∃ D : ByteArray, (⟨d.toArray⟩ : ByteArray) = D := ⟨_, rfl⟩
        rw [hD] at hcell
        have hDd : D.data.toList = d := by rw [← hD]
        have hDs : D.size ≤ 68719476736 := by rw [← size_len, hDd]; exact Nat.le_trans (bulk_at hd) HBK.out
        have hbR := bld_lt HBL.out
        have hbe := body_len (own := OW) (t2 := h.data.toList.take 2) (ttl := (h.data.toList.drop 4).take 4) HOL.out (by rw [List.length_take]; omega) (by rw [List.length_take]; omega) (ds.take k)
        have hbt := bulk_take ds k
        have hL : (h.data.toList ++ foldS g.data.toList ++ bodyS OW (h.data.toList.take 2) ((h.data.toList.drop 4).take 4) (ds.take k)).length ≤ 100000000000 := by
          rw [List.length_append, List.length_append, size_len, HFGL.out, size_len]
          have h1 : (ds.take k).length ≤ n := by rw [List.length_take, HN.out]; omega
          have h2 := HBK.out
          omega
        have HM := Lib.hid (text_more (h0 := h.data.toList) (g0 := g.data.toList) (own := OW) (t2 := h.data.toList.take 2) (ttl := (h.data.toList.drop 4).take 4) hd)
        obtain ⟨LL, hLL⟩ : ∃ LL, h.data.toList ++ foldS g.data.toList ++ bodyS OW (h.data.toList.take 2) ((h.data.toList.drop 4).take 4) (ds.take k) = LL := ⟨_, rfl⟩
        rw [hLL] at HBL HM hL
        have CFO := Lib.hid (fun wx => nfold_any ((⟨#[1, 42]⟩ : ByteArray) ++ TB) wx HOO.out)
        rw [HO.out] at CFO
        obtain ⟨OB, hOB⟩ : ∃ OB : ByteArray, (⟨OW.toArray⟩ : ByteArray) = OB := ⟨_, rfl⟩
        have hOd : OB.data.toList = OW := by rw [← hOB]
        have hOs : OB.size ≤ 255 := by rw [← size_len, hOd]; exact HOL.out
        rw [hOB] at CFO
        have CB := Lib.hid (fun wx => bytes_any D.size 2 wx (by omega) (by decide))
        obtain ⟨D2, hD2⟩ : ∃ D2 : ByteArray, (⟨(bigS D.size 2).toArray⟩ : ByteArray) = D2 := ⟨_, rfl⟩
        have hD2s : D2.size ≤ 2 := by rw [← hD2, mk_size, bigS_len]; exact Nat.le_refl _
        rw [hD2] at CB
        have HFULL : Hid ((OB ++ h.extract 0 2 ++ ⟨#[0, 1]⟩ ++ h.extract 4 8 ++ D2 ++ D).data.toList = pieceT OW (h.data.toList.take 2) ((h.data.toList.drop 4).take 4) d) := Lib.hid (by
          have e1 := ext_list h 0 2
          have e2 := ext_list h 4 8
          unfold pieceT
          rw [← hOd, ← hDd, show D.data.toList.length = D.size from size_len D, ← hD2]
          simp only [ByteArray.data_append, Array.toList_append, e1, e2, List.drop_zero]
          )
        have hFs : (OB ++ h.extract 0 2 ++ ⟨#[0, 1]⟩ ++ h.extract 4 8 ++ D2 ++ D).size ≤ 70000000000 := by
          have e1 := ext_size h 0 2 (by omega)
          have e2 := ext_size h 4 8 (by omega)
          have e3 : (⟨#[0, 1]⟩ : ByteArray).size = 2 := rfl
          simp only [ByteArray.size_append, e1, e2, e3]
          omega
        have HWS := Lib.hid (fun (wx : World) (hl : Bld b b LL wx) => wsE b b LL (OB ++ h.extract 0 2 ++ ⟨#[0, 1]⟩ ++ h.extract 4 8 ++ D2 ++ D) wx hl (by omega) (Nat.le_of_lt (bld_lt hl)))
        have hx3 := (HBE.out.block X hXb).trans HXB.out
        have hy0 := heap_alloc_new wr (.cells #[.string D] 137)
        have hBy := (Below.refl wr.heap.size wr).alloc (Nat.le_refl _) (.cells #[.string D] 137)
        obtain ⟨Y, hY⟩ : ∃ Y, wr.heap.size = Y := ⟨_, rfl⟩
        obtain ⟨wy, hwy⟩ : ∃ wy, wr.alloc (.cells #[.string D] 137) = wy := ⟨_, rfl⟩
        rw [hwy] at hy0 hBy
        rw [hY] at hy0
        have hYb : Y ≠ b := by omega
        have hx4 := (hBy.block X (by omega)).trans hx3
        have hbl4 := bld_below HBL.out hBy
        have hbW : b ≤ wy.heap.size := by have := hBy.size; omega
        have HBEy : Hid (Below b wb wy) := Lib.hid (HBE.out.trans (hBy.mono (by omega)))
        have x0 : wy.cell? ⟨X, 0, none⟩ = some (.string h) := by simp only [World.cell?, hx4]; rfl
        have y0 : wy.cell? ⟨Y, 0, none⟩ = some (.string D) := by simp only [World.cell?, hy0]; rfl
        have zk : (0 : Int) ≤ (k : Int) := by omega
        have zkn : (k : Int) < (n : Int) := by omega
        have HY := Lib.hid hY; have HWY := Lib.hid hwy; have HY0 := Lib.hid hy0
        clear hd hcl hD hDd hbe hbt hLL hOB hOd hD2 hx3 hBy hY hwy hx4 hy0 HBL HBE
        trace "r3"
        go_upto_region 8 with fail
        rw [HWY.out]
        try rw [HY.out]
        have hBld : Bld b b LL wy.drew := bld_below hbl4 (below_drewN (Below.refl _ _) 1)
        have hS0 : wy.drew.cell? ⟨X, 0, none⟩ = some (.string h) ∧ wy.drew.cell? ⟨Y, 0, none⟩ = some (.string D) ∧ KT wy b Y wy.drew := ⟨x0, y0, below_drewN (Below.refl _ _) 1, _, _, HY0.out⟩
        have n1 : ¬ 9223372036854775807 < OB.size + 2 := by omega
        have n2 : ¬ 9223372036854775807 < OB.size + 2 + 2 := by omega
        have n3 : ¬ 9223372036854775807 < OB.size + 2 + 2 + 4 := by omega
        have n4 : ¬ 9223372036854775807 < OB.size + 2 + 2 + 4 + D2.size := by omega
        have n5 : ¬ 9223372036854775807 < OB.size + 2 + 2 + 4 + D2.size + D.size := by omega
        clear hbl4 x0 y0
        go_region_held3 (fun w' => w'.cell? ⟨X, 0, none⟩ = some (.string h) ∧ w'.cell? ⟨Y, 0, none⟩ = some (.string D) ∧ KT wy b Y w') (first | assumption | (refine ⟨?_, ?_, ?_⟩ <;> assumption))
          (first
            | (go_at_call 57; refine (CFO.out _).mono ?_; rintro e w' ⟨rfl, hBz⟩; have hBl2 := bld_below (by assumption) hBz; have hSz := KT.step (by assumption) hBz hXb hbW; clear hBz)
            | (go_at_call 54; refine (CB.out _).mono ?_; rintro e w' ⟨rfl, hBz⟩; have hBl2 := bld_below (by assumption) hBz; have hSz := KT.step (by assumption) hBz hXb hbW; clear hBz)
            | (go_at_call 91; refine (HWS.out _ (by assumption)).mono ?_; rintro e w' ⟨rfl, hBl3, hBz, hKz⟩; have hSz2 := KT.write (by assumption) hBz hKz hXb hYb; clear hBz hKz))
        trace "r4"
        rw [HFULL.out, HM.out] at hBl3
        have HBL2 := Lib.hid hBl3
        have HBE2 : Hid (Below b wb w') := Lib.hid (HBEy.out.trans hSz2.2.2.bel)
        clear hBl3 hSz2 hS0 hBld
        go_wp2_with fail
        have hkg := HK.out
        go_roundg (gk - 1)
        case rel => exact ⟨k + 1, by go_num, by omega, by omega, HBL2, HBE2⟩
        case measure => omega
      · have hke : k = n := by omega
        subst hke
        trace "r5"
        have HTE : Hid (h.data.toList ++ foldS g.data.toList ++ bodyS OW (h.data.toList.take 2) ((h.data.toList.drop 4).take 4) (ds.take k) = textS h.data.toList g.data.toList lab o.data.toList ds) := Lib.hid (by rw [show ds.take k = ds from List.take_of_length_le (by rw [← HN.out]; exact Nat.le_refl _), HTX.out])
        have hbl := HBL.out
        rw [HTE.out] at hbl
        have HBF := Lib.hid hbl
        have hbR := bld_lt hbl
        have zkn : ¬ (k : Int) < (k : Int) := by omega
        clear hbl HBL
        go_wp2_with fail
        refine (Tryz.Builder_String_any _ _ _ _ HBF.out (Nat.le_of_lt hbR)).mono ?_
        rintro e w3 ⟨rfl, hE3⟩
        have HB3 : Hid (Below w.heap.size w w3) := Lib.hid (HBb.out.trans ((HBE.out.trans hE3).mono (by rw [HX.out]; omega)))
        clear hE3
        go_wp2_with fail
        go_ret
        exact ⟨rfl, HB3.out⟩
  · have HO : Hid (foldS o.data.toList = OW) := Lib.hid (by rw [HOW.out, if_neg hlk])
    have HOO : Hid (o.size ≤ 1099511627776) := HOS
    trace "b"
    obtain ⟨b, hb⟩ : ∃ b, w2.heap.size = b := ⟨_, rfl⟩
    have hfb := Lib.fresh_isBuilder 111 5 w2
    have hBb := (Below.refl w2.heap.size w2).alloc (Nat.le_refl _) (.cells #[.pointer none, .slice none 0 0] 111)
    obtain ⟨wb, hwb⟩ : ∃ wb, w2.alloc (.cells #[.pointer none, .slice none 0 0] 111) = wb := ⟨_, rfl⟩
    rw [hb] at hfb
    rw [hwb] at hfb hBb
    have hszb : wb.heap.size = b + 1 := by rw [← hwb, World.size_alloc, hb]
    have HBb := Lib.hid (HB2.out.trans (hBb.mono HB2.out.size))
    have hXb : X < b := by rw [← hb]; exact (Array.getElem?_eq_some_iff.1 HX2.out).1
    have hxb := (hBb.block X (by rw [hb]; exact hXb)).trans HX2.out
    have HXB := Lib.hid hxb
    have y0 : wb.cell? ⟨X, 0, none⟩ = some (.string h) := by simp only [World.cell?, hxb]; rfl
    have y1 : wb.cell? ⟨X, 1, none⟩ = some (.string g) := by simp only [World.cell?, hxb]; rfl
    have HWB := Lib.hid hwb; have HBQB := Lib.hid hb
    clear hb hwb hBb hxb x0 x1 x2
    trace "r1"
    go_upto_region 4 with fail
    rw [HWB.out]
    try rw [HBQB.out]
    have hBld : Bld b b [] wb.drew := bld_below hfb (below_drewN (Below.refl _ _) 1)
    have hS0 : wb.drew.cell? ⟨X, 0, none⟩ = some (.string h) ∧ wb.drew.cell? ⟨X, 1, none⟩ = some (.string g) ∧ Below b wb wb.drew := ⟨y0, y1, below_drewN (Below.refl _ _) 1⟩
    have n1 : ¬ 9223372036854775807 < h.size + FG.size := by omega
    have n2 : 18 + FG.size ≤ 9223372036854775807 := by omega
    have n3 : ¬ 9223372036854775807 < 18 + FG.size := by omega
    have HWS := Lib.hid (fun (wx : World) (hl : Bld b b [] wx) => wsE b b [] (h ++ FG) wx hl (by rw [ByteArray.size_append]; simp only [List.length_nil]; omega) (Nat.le_of_lt (bld_lt hl)))
    have hbW : b ≤ wb.heap.size := by omega
    clear hfb y0 y1
    go_region_held3 (fun w' => w'.cell? ⟨X, 0, none⟩ = some (.string h) ∧ w'.cell? ⟨X, 1, none⟩ = some (.string g) ∧ Below b wb w') (first | assumption | (refine ⟨?_, ?_, ?_⟩ <;> assumption))
      (first
        | (go_at_call 57; refine (CFG.out _).mono ?_; rintro e w' ⟨rfl, hBz⟩; have hBl2 := bld_below (by assumption) hBz; have hSz := keepU (by assumption) hBz hXb hbW; clear hBz)
        | (go_at_call 91; refine (HWS.out _ (by assumption)).mono ?_; rintro e w' ⟨rfl, hBl3, hBz, hKz⟩; have hSz2 := keepV (by assumption) hBz hXb; clear hBz))
    have HBl0 : Hid (Bld b b (h.data.toList ++ foldS g.data.toList ++ bodyS OW (h.data.toList.take 2) ((h.data.toList.drop 4).take 4) (ds.take 0)) w') := Lib.hid (by
      rw [HFGL.out]
      simpa [bodyS] using hBl3)
    have HBe0 : Hid (Below b wb w') := Lib.hid hSz2.2.2
    have HSZB := Lib.hid hszb; have HXb := Lib.hid hXb
    obtain ⟨w5, hw5⟩ : ∃ w5, w' = w5 := ⟨_, rfl⟩
    rw [hw5] at HBl0 HBe0
    rw [hw5]
    clear hw5 hBl3 hSz2 hS0 hBld n1 n2 n3 HWS
    go_wp2_with fail
    go_loopg [29] (n + 1) (fun gas kv wr => ∃ k : Nat, kv = .int .i64 (k : Int) ∧ k ≤ n ∧ k + gas = n + 1 ∧ Hid (Bld b b (h.data.toList ++ foldS g.data.toList ++ bodyS OW (h.data.toList.take 2) ((h.data.toList.drop 4).take 4) (ds.take k)) wr) ∧ Hid (Below b wb wr))
    case atStart => exact ⟨0, rfl, by omega, by omega, HBl0, HBe0⟩
    case round =>
      clear HBl0 HBe0
      obtain ⟨k, rfl, hk, hkg, HBL, HBE⟩ := hrel
      have HK := Lib.hid hkg; clear hkg
      by_cases hlt : k < n
      · obtain ⟨d, hd⟩ : ∃ d, ds[k]? = some d := ⟨_, List.getElem?_eq_getElem (by have := HN.out; omega)⟩
        obtain ⟨g1, o1, rfl, hg1, hcl⟩ := at_ln HR.out hd
        have hwX : w.heap.size ≤ b := by rw [HX.out]; omega
        have hcell := ((HBb.out.trans (HBE.out.mono hwX)).cell (p := ⟨g1, o1 + k, none⟩) hg1).trans hcl
        unfold strV at hcell
        obtain ⟨D, hD⟩ : ∃ D : ByteArray, (⟨d.toArray⟩ : ByteArray) = D := ⟨_, rfl⟩
        rw [hD] at hcell
        have hDd : D.data.toList = d := by rw [← hD]
        have hDs : D.size ≤ 68719476736 := by rw [← size_len, hDd]; exact Nat.le_trans (bulk_at hd) HBK.out
        have hbR := bld_lt HBL.out
        have hbe := body_len (own := OW) (t2 := h.data.toList.take 2) (ttl := (h.data.toList.drop 4).take 4) HOL.out (by rw [List.length_take]; omega) (by rw [List.length_take]; omega) (ds.take k)
        have hbt := bulk_take ds k
        have hL : (h.data.toList ++ foldS g.data.toList ++ bodyS OW (h.data.toList.take 2) ((h.data.toList.drop 4).take 4) (ds.take k)).length ≤ 100000000000 := by
          rw [List.length_append, List.length_append, size_len, HFGL.out, size_len]
          have h1 : (ds.take k).length ≤ n := by rw [List.length_take, HN.out]; omega
          have h2 := HBK.out
          omega
        have HM := Lib.hid (text_more (h0 := h.data.toList) (g0 := g.data.toList) (own := OW) (t2 := h.data.toList.take 2) (ttl := (h.data.toList.drop 4).take 4) hd)
        obtain ⟨LL, hLL⟩ : ∃ LL, h.data.toList ++ foldS g.data.toList ++ bodyS OW (h.data.toList.take 2) ((h.data.toList.drop 4).take 4) (ds.take k) = LL := ⟨_, rfl⟩
        rw [hLL] at HBL HM hL
        have CFO := Lib.hid (fun wx => nfold_any o wx HOO.out)
        rw [HO.out] at CFO
        obtain ⟨OB, hOB⟩ : ∃ OB : ByteArray, (⟨OW.toArray⟩ : ByteArray) = OB := ⟨_, rfl⟩
        have hOd : OB.data.toList = OW := by rw [← hOB]
        have hOs : OB.size ≤ 255 := by rw [← size_len, hOd]; exact HOL.out
        rw [hOB] at CFO
        have CB := Lib.hid (fun wx => bytes_any D.size 2 wx (by omega) (by decide))
        obtain ⟨D2, hD2⟩ : ∃ D2 : ByteArray, (⟨(bigS D.size 2).toArray⟩ : ByteArray) = D2 := ⟨_, rfl⟩
        have hD2s : D2.size ≤ 2 := by rw [← hD2, mk_size, bigS_len]; exact Nat.le_refl _
        rw [hD2] at CB
        have HFULL : Hid ((OB ++ h.extract 0 2 ++ ⟨#[0, 1]⟩ ++ h.extract 4 8 ++ D2 ++ D).data.toList = pieceT OW (h.data.toList.take 2) ((h.data.toList.drop 4).take 4) d) := Lib.hid (by
          have e1 := ext_list h 0 2
          have e2 := ext_list h 4 8
          unfold pieceT
          rw [← hOd, ← hDd, show D.data.toList.length = D.size from size_len D, ← hD2]
          simp only [ByteArray.data_append, Array.toList_append, e1, e2, List.drop_zero]
          )
        have hFs : (OB ++ h.extract 0 2 ++ ⟨#[0, 1]⟩ ++ h.extract 4 8 ++ D2 ++ D).size ≤ 70000000000 := by
          have e1 := ext_size h 0 2 (by omega)
          have e2 := ext_size h 4 8 (by omega)
          have e3 : (⟨#[0, 1]⟩ : ByteArray).size = 2 := rfl
          simp only [ByteArray.size_append, e1, e2, e3]
          omega
        have HWS := Lib.hid (fun (wx : World) (hl : Bld b b LL wx) => wsE b b LL (OB ++ h.extract 0 2 ++ ⟨#[0, 1]⟩ ++ h.extract 4 8 ++ D2 ++ D) wx hl (by omega) (Nat.le_of_lt (bld_lt hl)))
        have hx3 := (HBE.out.block X hXb).trans HXB.out
        have hy0 := heap_alloc_new wr (.cells #[.string D] 137)
        have hBy := (Below.refl wr.heap.size wr).alloc (Nat.le_refl _) (.cells #[.string D] 137)
        obtain ⟨Y, hY⟩ : ∃ Y, wr.heap.size = Y := ⟨_, rfl⟩
        obtain ⟨wy, hwy⟩ : ∃ wy, wr.alloc (.cells #[.string D] 137) = wy := ⟨_, rfl⟩
        rw [hwy] at hy0 hBy
        rw [hY] at hy0
        have hYb : Y ≠ b := by omega
        have hx4 := (hBy.block X (by omega)).trans hx3
        have hbl4 := bld_below HBL.out hBy
        have hbW : b ≤ wy.heap.size := by have := hBy.size; omega
        have HBEy : Hid (Below b wb wy) := Lib.hid (HBE.out.trans (hBy.mono (by omega)))
        have x0 : wy.cell? ⟨X, 0, none⟩ = some (.string h) := by simp only [World.cell?, hx4]; rfl
        have y0 : wy.cell? ⟨Y, 0, none⟩ = some (.string D) := by simp only [World.cell?, hy0]; rfl
        have zk : (0 : Int) ≤ (k : Int) := by omega
        have zkn : (k : Int) < (n : Int) := by omega
        have HY := Lib.hid hY; have HWY := Lib.hid hwy; have HY0 := Lib.hid hy0
        clear hd hcl hD hDd hbe hbt hLL hOB hOd hD2 hx3 hBy hY hwy hx4 hy0 HBL HBE
        trace "r3"
        go_upto_region 8 with fail
        rw [HWY.out]
        try rw [HY.out]
        have hBld : Bld b b LL wy.drew := bld_below hbl4 (below_drewN (Below.refl _ _) 1)
        have hS0 : wy.drew.cell? ⟨X, 0, none⟩ = some (.string h) ∧ wy.drew.cell? ⟨Y, 0, none⟩ = some (.string D) ∧ KT wy b Y wy.drew := ⟨x0, y0, below_drewN (Below.refl _ _) 1, _, _, HY0.out⟩
        have n1 : ¬ 9223372036854775807 < OB.size + 2 := by omega
        have n2 : ¬ 9223372036854775807 < OB.size + 2 + 2 := by omega
        have n3 : ¬ 9223372036854775807 < OB.size + 2 + 2 + 4 := by omega
        have n4 : ¬ 9223372036854775807 < OB.size + 2 + 2 + 4 + D2.size := by omega
        have n5 : ¬ 9223372036854775807 < OB.size + 2 + 2 + 4 + D2.size + D.size := by omega
        clear hbl4 x0 y0
        go_region_held3 (fun w' => w'.cell? ⟨X, 0, none⟩ = some (.string h) ∧ w'.cell? ⟨Y, 0, none⟩ = some (.string D) ∧ KT wy b Y w') (first | assumption | (refine ⟨?_, ?_, ?_⟩ <;> assumption))
          (first
            | (go_at_call 57; refine (CFO.out _).mono ?_; rintro e w' ⟨rfl, hBz⟩; have hBl2 := bld_below (by assumption) hBz; have hSz := KT.step (by assumption) hBz hXb hbW; clear hBz)
            | (go_at_call 54; refine (CB.out _).mono ?_; rintro e w' ⟨rfl, hBz⟩; have hBl2 := bld_below (by assumption) hBz; have hSz := KT.step (by assumption) hBz hXb hbW; clear hBz)
            | (go_at_call 91; refine (HWS.out _ (by assumption)).mono ?_; rintro e w' ⟨rfl, hBl3, hBz, hKz⟩; have hSz2 := KT.write (by assumption) hBz hKz hXb hYb; clear hBz hKz))
        trace "r4"
        rw [HFULL.out, HM.out] at hBl3
        have HBL2 := Lib.hid hBl3
        have HBE2 : Hid (Below b wb w') := Lib.hid (HBEy.out.trans hSz2.2.2.bel)
        clear hBl3 hSz2 hS0 hBld
        go_wp2_with fail
        have hkg := HK.out
        go_roundg (gk - 1)
        case rel => exact ⟨k + 1, by go_num, by omega, by omega, HBL2, HBE2⟩
        case measure => omega
      · have hke : k = n := by omega
        subst hke
        trace "r5"
        have HTE : Hid (h.data.toList ++ foldS g.data.toList ++ bodyS OW (h.data.toList.take 2) ((h.data.toList.drop 4).take 4) (ds.take k) = textS h.data.toList g.data.toList lab o.data.toList ds) := Lib.hid (by rw [show ds.take k = ds from List.take_of_length_le (by rw [← HN.out]; exact Nat.le_refl _), HTX.out])
        have hbl := HBL.out
        rw [HTE.out] at hbl
        have HBF := Lib.hid hbl
        have hbR := bld_lt hbl
        have zkn : ¬ (k : Int) < (k : Int) := by omega
        clear hbl HBL
        go_wp2_with fail
        refine (Tryz.Builder_String_any _ _ _ _ HBF.out (Nat.le_of_lt hbR)).mono ?_
        rintro e w3 ⟨rfl, hE3⟩
        have HB3 : Hid (Below w.heap.size w w3) := Lib.hid (HBb.out.trans ((HBE.out.trans hE3).mono (by rw [HX.out]; omega)))
        clear hE3
        go_wp2_with fail
        go_ret
        exact ⟨rfl, HB3.out⟩
end Go.Proofs.YtflijhodlimjoaaGreat.sigText
namespace Go.Proofs.YtflijhodlimjoaaGreat.pow
open Go.RowKit Go.Proofs.YtflijhodlimjoaaGreat.kit Go.Proofs.YtflijhodlimjoaaGreat.sealP
set_option linter.unusedVariables false

set_option maxRecDepth 100000 in
set_option maxHeartbeats 2000000 in
theorem power_any (v e m : Nat) (w : World) (hm0 : 0 < m) (hm : m ≤ 2147483647) (hv : v ≤ 4294967296) (he : e < 2147483648) :
    Calls Tryz.prog 58 #[.int .i64 (v : Int), .int .i64 (e : Int), .int .i64 (m : Int)] w fun en w' => en = .returned (.int .i64 ((powS v e m : Nat) : Int)) ∧ w = w' := by
  obtain ⟨R, hR⟩ : ∃ R, powS v e m = R := ⟨_, rfl⟩
  rw [hR]
  have h1 := pow_mod v e m
  rw [hR] at h1
  have ho1 : 1 % m < m := Nat.mod_lt _ hm0
  have hu1 : v % m < m := Nat.mod_lt _ hm0
  have H1 := Lib.hid h1
  have hmz : ¬ (m : Int) = 0 := by omega
  have hmb : ((m : Int) == 0) = false := by rw [beq_eq_false_iff_ne]; exact hmz
  clear h1 hR
  go_enter Tryz.func58, Tryz.ntmps58
  go_wp2_with fail
  go_loopg [0, 1, 7] (e + 1) (fun gas uv kv ov wr => ∃ (u k o : Nat), uv = .int .i64 (u : Int) ∧ kv = .int .i64 (k : Int) ∧ ov = .int .i64 (o : Int) ∧ k + 1 ≤ gas ∧ k < 2147483648 ∧ u < m ∧ o < m ∧ Hid (o * u ^ k % m = R) ∧ w = wr)
  case atStart => exact ⟨v % m, e, 1 % m, by first | rfl | (congr 1; simp; done) | simp, rfl, by first | rfl | (congr 1; simp; done) | simp, by omega, by omega, hu1, ho1, H1, rfl⟩
  case round =>
    clear H1 ho1 hu1
    obtain ⟨u, k, o, rfl, rfl, rfl, hkg, hkb, hu, ho, HW, rfl⟩ := hrel
    by_cases hk0 : k = 0
    · subst hk0
      have HE : Hid (o = R) := Lib.hid (by rw [← HW.out, Nat.pow_zero, Nat.mul_one, Nat.mod_eq_of_lt ho])
      go_wp2_with fail
      go_ret
      exact ⟨by rw [HE.out]; rfl, rfl⟩
    · have hkp : (0 : Int) < (k : Int) := by omega
      have hkd : decide ((0 : Int) < (k : Int)) = true := decide_eq_true hkp
      have hand : bits .and .i64 (k : Int) 1 = (k : Int) % 2 := bits_mask .i64 31 (by decide) to32.wraps31 1 (by decide) (k : Int) (by omega) (by omega)
      have huu := sq_le hu hu hm
      have hou := sq_le ho hu hm
      obtain ⟨U, hU⟩ : ∃ U, u * u = U := ⟨_, rfl⟩
      obtain ⟨O, hO⟩ : ∃ O, o * u = O := ⟨_, rfl⟩
      rw [hU] at huu; rw [hO] at hou
      obtain ⟨u2, hu2⟩ : ∃ u2, U % m = u2 := ⟨_, rfl⟩
      obtain ⟨o2, ho2⟩ : ∃ o2, O % m = o2 := ⟨_, rfl⟩
      have hu3 : u2 < m := by rw [← hu2]; exact Nat.mod_lt _ hm0
      have ho3 : o2 < m := by rw [← ho2]; exact Nat.mod_lt _ hm0
      obtain ⟨k2, hk2⟩ : ∃ k2, k / 2 = k2 := ⟨_, rfl⟩
      have e1 : Value.int .i64 (wrap64 ((u : Int) * (u : Int))) = Value.int .i64 (U : Int) := by
        have e : (u : Int) * (u : Int) = (U : Int) := by rw [← hU]; simp
        rw [e, IntWalk.wrap64_in _ (by omega)]
      have e2 : Value.int .i64 ((U : Int) % (m : Int)) = Value.int .i64 (u2 : Int) := by congr 1; rw [← hu2]; simp
      have e3 : Value.int .i64 (wrap64 ((o : Int) * (u : Int))) = Value.int .i64 (O : Int) := by
        have e : (o : Int) * (u : Int) = (O : Int) := by rw [← hO]; simp
        rw [e, IntWalk.wrap64_in _ (by omega)]
      have e4 : Value.int .i64 ((O : Int) % (m : Int)) = Value.int .i64 (o2 : Int) := by congr 1; rw [← ho2]; simp
      have e5 : Value.int .i64 ((k : Int) / 2) = Value.int .i64 (k2 : Int) := by congr 1; rw [← hk2]; simp
      by_cases hodd : k % 2 = 1
      · have HW2 : Hid (o2 * u2 ^ k2 % m = R) := Lib.hid (by rw [← ho2, ← hu2, ← hk2, ← hO, ← hU, ← pow_odd hodd]; exact HW.out)
        have e6 : Value.int .i64 (bits .and .i64 (k : Int) 1) = Value.int .i64 1 := by rw [hand]; congr 1; omega
        clear hand hU hO hu2 ho2 HW
        go_wp2_with fail
        go_roundg (gk - 1)
        case rel => exact ⟨u2, k2, o2, by first | rfl | exact e2, by first | rfl | exact e5, by first | rfl | exact e4, by omega, by omega, hu3, ho3, HW2, rfl⟩
        case measure => omega
      · have HW2 : Hid (o * u2 ^ k2 % m = R) := Lib.hid (by rw [← hu2, ← hk2, ← hU, ← pow_even (by omega)]; exact HW.out)
        have e6 : Value.int .i64 (bits .and .i64 (k : Int) 1) = Value.int .i64 0 := by rw [hand]; congr 1; omega
        clear hand hU hO hu2 ho2 HW
        go_wp2_with fail
        go_roundg (gk - 1)
        case rel => exact ⟨u2, k2, o, by first | rfl | exact e2, by first | rfl | exact e5, rfl, by omega, by omega, hu3, ho, HW2, rfl⟩
        case measure => omega
set_option maxRecDepth 100000 in
set_option maxHeartbeats 2000000 in
theorem rpower_any (v m : Nat) (hm0 : 0 < m) (hm : m ≤ 2147483647) (hv : v ≤ 4294967296) : ∀ (n e : Nat) (w : World), e ≤ n → e < 2147483648 →
    Calls Tryz.prog 69 #[.int .i64 (v : Int), .int .i64 (e : Int), .int .i64 (m : Int)] w fun en w' => en = .returned (.int .i64 ((powS v e m : Nat) : Int)) ∧ w = w' := by
  intro n
  induction n with
  | zero =>
    intro e w he _
    obtain rfl : e = 0 := by omega
    have hp := pow_zero v m
    have hmz : ¬ (m : Int) = 0 := by omega
    have hmb : ((m : Int) == 0) = false := by rw [beq_eq_false_iff_ne]; exact hmz
    rw [hp]
    clear hp
    go_enter Tryz.func69, Tryz.ntmps69
    go_wp2_with fail
    go_ret
    exact ⟨ret_int (by simp), rfl⟩
  | succ n ih =>
    intro e w he heb
    by_cases he0 : e = 0
    · exact ih e w (by omega) heb
    · obtain ⟨h, hh⟩ : ∃ h, e / 2 = h := ⟨_, rfl⟩
      have CH := Lib.hid (ih h w (by omega) (by omega))
      obtain ⟨R, hR⟩ : ∃ R, powS v e m = R := ⟨_, rfl⟩
      obtain ⟨H, hH⟩ : ∃ H, powS v h m = H := ⟨_, rfl⟩
      rw [hH] at CH
      rw [hR]
      have hHl : H < m := by rw [← hH]; exact pow_lt hm0
      have hsq := sq_le hHl hHl hm
      obtain ⟨S, hS⟩ : ∃ S, H * H = S := ⟨_, rfl⟩
      rw [hS] at hsq
      obtain ⟨T, hT⟩ : ∃ T, S % m = T := ⟨_, rfl⟩
      have hTl : T < m := by rw [← hT]; exact Nat.mod_lt _ hm0
      obtain ⟨V, hV⟩ : ∃ V, v % m = V := ⟨_, rfl⟩
      have hVl : V < m := by rw [← hV]; exact Nat.mod_lt _ hm0
      have htv := sq_le hTl hVl hm
      obtain ⟨U, hU⟩ : ∃ U, T * V = U := ⟨_, rfl⟩
      rw [hU] at htv
      have hmz : ¬ (m : Int) = 0 := by omega
      have hmb : ((m : Int) == 0) = false := by rw [beq_eq_false_iff_ne]; exact hmz
      have hez : ¬ (e : Int) = 0 := by omega
      have heb0 : ((e : Int) == 0) = false := by rw [beq_eq_false_iff_ne]; exact hez
      have hev : e % 2 = 0 → T = R := fun ev => by
        have := pow_half_even (v := v) (m := m) ev
        rw [hh, hH, hS, hT, hR] at this; exact this
      have hod : e % 2 = 1 → U % m = R := fun ev => by
        have := pow_half_odd (v := v) (m := m) ev
        rw [hh, hH, hS, hT, hV, hU, hR] at this; exact this
      have e1 : Value.int .i64 ((e : Int) / 2) = Value.int .i64 (h : Int) := by congr 1; rw [← hh]; simp
      have e2 : Value.int .i64 (wrap64 ((H : Int) * (H : Int))) = Value.int .i64 (S : Int) := by
        have e : (H : Int) * (H : Int) = (S : Int) := by rw [← hS]; simp
        rw [e, IntWalk.wrap64_in _ (by omega)]
      have e3 : Value.int .i64 ((S : Int) % (m : Int)) = Value.int .i64 (T : Int) := by congr 1; rw [← hT]; simp
      have e4 : Value.int .i64 ((v : Int) % (m : Int)) = Value.int .i64 (V : Int) := by congr 1; rw [← hV]; simp
      have e5 : Value.int .i64 (wrap64 ((T : Int) * (V : Int))) = Value.int .i64 (U : Int) := by
        have e : (T : Int) * (V : Int) = (U : Int) := by rw [← hU]; simp
        rw [e, IntWalk.wrap64_in _ (by omega)]
      have E1 := Lib.hid e1; have E2 := Lib.hid e2; have E3 := Lib.hid e3; have E4 := Lib.hid e4; have E5 := Lib.hid e5
      have HEV := Lib.hid hev; have HOD := Lib.hid hod
      clear hh hH hR hS hT hV hU e1 e2 e3 e4 e5 hev hod ih he0
      go_enter Tryz.func69, Tryz.ntmps69
      have e1 := E1.out
      go_wp2_with fail
      refine CH.out.mono ?_
      rintro en w1 ⟨rfl, rfl⟩
      have e2 := E2.out; have e3 := E3.out; have e4 := E4.out; have e5 := E5.out
      by_cases hodd : e % 2 = 1
      · have e6 : Value.int .i64 ((e : Int) % 2) = Value.int .i64 1 := by congr 1; omega
        go_wp2_with fail
        go_ret
        exact ⟨ret_int (by rw [← HOD.out hodd]; simp), rfl⟩
      · have e6 : Value.int .i64 ((e : Int) % 2) = Value.int .i64 0 := by congr 1; omega
        go_wp2_with fail
        go_ret
        exact ⟨ret_int (by rw [← HEV.out (by omega)]; have h := E3.out; injection h), rfl⟩
end Go.Proofs.YtflijhodlimjoaaGreat.pow
