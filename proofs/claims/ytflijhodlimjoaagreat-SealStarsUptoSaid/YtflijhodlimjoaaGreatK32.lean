/- gazetteerref4.SignSet: walk. gazetteersame: Spare, Twin, Bytes, Records, Questions, Head on equal things: walks. gazetteersame: a twin of records, Whole on it: walks. -/
import Derived.Test.YtflijhodlimjoaaGreatK19
import Derived.Test.YtflijhodlimjoaaGreatK21
import Derived.Test.YtflijhodlimjoaaGreatK31
import Derived.Test.YtflijhodlimjoaaGreatK29
import Derived.Test.YtflijhodlimjoaaGreatK30
import Derived.Test.YtflijhodlimjoaaGreatK20
import Derived.Test.YtflijhodlimjoaaGreatK15
import Derived.BigQuiet
import Derived.Deep.RegionHeld3
import Derived.Deep.QuietTactic
import Derived.Deep.AppendLies
namespace Go.Proofs.YtflijhodlimjoaaGreat.signSet
open Go.RowKit Go.Proofs.YtflijhodlimjoaaGreat.kit Go.Proofs.YtflijhodlimjoaaGreat.timed Go.Proofs.YtflijhodlimjoaaGreat.nspec Go.Proofs.YtflijhodlimjoaaGreat.rsplit Go.Proofs.YtflijhodlimjoaaGreat.refA Go.Proofs.YtflijhodlimjoaaGreat.refB Go.Proofs.YtflijhodlimjoaaGreat.right Go.Proofs.YtflijhodlimjoaaGreat.wireP Go.Proofs.YtflijhodlimjoaaGreat.wireM Go.Proofs.YtflijhodlimjoaaGreat.rows Go.Proofs.YtflijhodlimjoaaGreat.sealA Go.Proofs.YtflijhodlimjoaaGreat.sealS Go.Proofs.YtflijhodlimjoaaGreat.sealP Go.Proofs.YtflijhodlimjoaaGreat.big Go.Proofs.YtflijhodlimjoaaGreat.val Go.Proofs.YtflijhodlimjoaaGreat.pub Go.Proofs.YtflijhodlimjoaaGreat.half Go.Proofs.YtflijhodlimjoaaGreat.tag Go.Proofs.YtflijhodlimjoaaGreat.signP Go.Proofs.YtflijhodlimjoaaGreat.keepN Go.Proofs.YtflijhodlimjoaaGreat.sortT Go.Proofs.YtflijhodlimjoaaGreat.signed
open Go.Proofs.YtflijhodlimjoaaGreat.sign (over over_cells over_below over_heap)
set_option linter.unusedVariables false

/-- the boxes: the key, the answer, none -/
structure Bx (kf km ke ks : Int) (X : Nat) (w : World) : Prop where
  k : w.heap[X]? = some (.cells #[.int .i64 kf, .int .i64 km, .int .i64 ke, .int .i64 ks] 32)
  r : w.heap[X + 1]? = some (.cells #[.string ⟨#[]⟩, .int .i64 0, .int .i64 0, .int .i64 0, .string ⟨#[]⟩] 34)
  z : w.heap[X + 2]? = some (.cells #[.string ⟨#[]⟩, .int .i64 0, .int .i64 0, .int .i64 0, .string ⟨#[]⟩] 34)
theorem cells5 {w : World} {Y : Nat} {t : TypeId} {v0 v1 v2 v3 v4 : Value} (e : w.heap[Y]? = some (.cells #[v0, v1, v2, v3, v4] t)) :
    w.cell? ⟨Y, 0, none⟩ = some v0 ∧ w.cell? ⟨Y, 1, none⟩ = some v1 ∧ w.cell? ⟨Y, 2, none⟩ = some v2 ∧ w.cell? ⟨Y, 3, none⟩ = some v3 ∧ w.cell? ⟨Y, 4, none⟩ = some v4 ∧ w.frozen? ⟨Y, 0, none⟩ = false ∧ w.frozen? ⟨Y, 1, none⟩ = false ∧ w.frozen? ⟨Y, 2, none⟩ = false ∧ w.frozen? ⟨Y, 3, none⟩ = false ∧ w.frozen? ⟨Y, 4, none⟩ = false := by
  refine ⟨?_, ?_, ?_, ?_, ?_, ?_, ?_, ?_, ?_, ?_⟩
  · simp only [World.cell?, e]; rfl
  · simp only [World.cell?, e]; rfl
  · simp only [World.cell?, e]; rfl
  · simp only [World.cell?, e]; rfl
  · simp only [World.cell?, e]; rfl
  · simp [World.frozen?, e]
  · simp [World.frozen?, e]
  · simp [World.frozen?, e]
  · simp [World.frozen?, e]
  · simp [World.frozen?, e]
section
variable {kf km ke ks : Int} {X : Nat} {w : World}
theorem Bx.step (h : Bx kf km ke ks X w) {w' : World} (hB : Below w.heap.size w w') : Bx kf km ke ks X w' :=
  ⟨(hB.block _ (Array.getElem?_eq_some_iff.1 h.k).1).trans h.k, (hB.block _ (Array.getElem?_eq_some_iff.1 h.r).1).trans h.r, (hB.block _ (Array.getElem?_eq_some_iff.1 h.z).1).trans h.z⟩
theorem Bx.key (h : Bx kf km ke ks X w) : w.cell? ⟨X, 0, none⟩ = some (.int .i64 kf) ∧ w.cell? ⟨X, 1, none⟩ = some (.int .i64 km) ∧ w.cell? ⟨X, 2, none⟩ = some (.int .i64 ke) ∧ w.cell? ⟨X, 3, none⟩ = some (.int .i64 ks) := by
  have e := h.k
  exact ⟨by simp only [World.cell?, e]; rfl, by simp only [World.cell?, e]; rfl, by simp only [World.cell?, e]; rfl, by simp only [World.cell?, e]; rfl⟩
theorem Bx.ans (h : Bx kf km ke ks X w) : w.cell? ⟨X + 1, 0, none⟩ = some (.string ⟨#[]⟩) ∧ w.cell? ⟨X + 1, 1, none⟩ = some (.int .i64 0) ∧ w.cell? ⟨X + 1, 2, none⟩ = some (.int .i64 0) ∧ w.cell? ⟨X + 1, 3, none⟩ = some (.int .i64 0) ∧ w.cell? ⟨X + 1, 4, none⟩ = some (.string ⟨#[]⟩) ∧ w.frozen? ⟨X + 1, 0, none⟩ = false ∧ w.frozen? ⟨X + 1, 1, none⟩ = false ∧ w.frozen? ⟨X + 1, 2, none⟩ = false ∧ w.frozen? ⟨X + 1, 3, none⟩ = false ∧ w.frozen? ⟨X + 1, 4, none⟩ = false := cells5 h.r
theorem Bx.none (h : Bx kf km ke ks X w) : w.cell? ⟨X + 2, 0, none⟩ = some (.string ⟨#[]⟩) ∧ w.cell? ⟨X + 2, 1, none⟩ = some (.int .i64 0) ∧ w.cell? ⟨X + 2, 2, none⟩ = some (.int .i64 0) ∧ w.cell? ⟨X + 2, 3, none⟩ = some (.int .i64 0) ∧ w.cell? ⟨X + 2, 4, none⟩ = some (.string ⟨#[]⟩) := by
  obtain ⟨a0, a1, a2, a3, a4, _⟩ := cells5 h.z
  exact ⟨a0, a1, a2, a3, a4⟩
end
theorem Rd8.below {w w' : World} {pa : Option Addr} {P0 P1 P2 P3 P4 P5 P6 P7 : ByteArray} {pg po : Nat} (h : Rd8 w pa P0 P1 P2 P3 P4 P5 P6 P7 pg po) (hB : Below w.heap.size w w') : Rd8 w' pa P0 P1 P2 P3 P4 P5 P6 P7 pg po := by
  obtain ⟨h1, h2, a0, a1, a2, a3, a4, a5, a6, a7⟩ := h
  exact ⟨h1, Nat.lt_of_lt_of_le h2 hB.size, ck hB a0, ck hB a1, ck hB a2, ck hB a3, ck hB a4, ck hB a5, ck hB a6, ck hB a7⟩
theorem other_yes {L : List Rc} {h x : Rc} {k : Nat} (hx : L[k]? = some x) (he : x.l ≠ h.l) : otherTtl h L = true := by
  unfold otherTtl
  rw [List.any_eq_true]
  exact ⟨x, List.mem_of_getElem? hx, bne_iff_ne.2 he⟩
theorem other_no {L : List Rc} {h : Rc} (hx : ∀ (j : Nat) (x : Rc), L[j]? = some x → x.l = h.l) : otherTtl h L = false := by
  unfold otherTtl
  rw [List.any_eq_false]
  intro x hm
  obtain ⟨j, hj⟩ := List.getElem?_of_mem hm
  rw [hx j x hj]; simp
set_option maxRecDepth 100000 in
set_option maxHeartbeats 16000000 in
theorem signset_any (kf km ke ks : Int) (sn : ByteArray) (a : Option Addr) (n c : Nat) (L : List Rc) (fr un : Int) (w : World) (hn : n = L.length) (hr : RdC w a 5 (L.map Rc.cells)) (ho : ∀ x ∈ L, OkR x) (hbig : n ≤ 16777216) (hbk : bulk (L.map foldX) ≤ 68719476736) (hsn : sn.size ≤ 1099511627776) :
    Calls Tryz.prog 15 #[.agg #[.int .i64 kf, .int .i64 km, .int .i64 ke, .int .i64 ks], .string sn, .slice a n c, .int .i64 fr, .int .i64 un] w fun e w' => e = SignR kf km ke ks sn L fr un ∧ Below w.heap.size w w' := by
  obtain ⟨RR, hRR⟩ : ∃ RR, SignR kf km ke ks sn L fr un = RR := ⟨_, rfl⟩
  rw [hRR]
  have HRR := Lib.hid hRR
  have HN := Lib.hid hn; have HRD := Lib.hid hr; have HO := Lib.hid ho; have HBK := Lib.hid hbk
  have CR := Lib.hid (fun wx => rightBB.rright_any kf km ke ks wx)
  have CN := Lib.hid (fun wx => rsplit.isName_any sn wx hsn)
  have hb1 := (Below.refl w.heap.size w).alloc (Nat.le_refl _) (.cells #[.int .i64 kf, .int .i64 km, .int .i64 ke, .int .i64 ks] 32)
  have hk1 := heap_alloc_new w (.cells #[.int .i64 kf, .int .i64 km, .int .i64 ke, .int .i64 ks] 32)
  obtain ⟨X, hX⟩ : ∃ X, w.heap.size = X := ⟨_, rfl⟩
  obtain ⟨W1, hW1⟩ : ∃ W1, w.alloc (.cells #[.int .i64 kf, .int .i64 km, .int .i64 ke, .int .i64 ks] 32) = W1 := ⟨_, rfl⟩
  have hz1 : W1.heap.size = X + 1 := by rw [← hW1, World.size_alloc, hX]
  rw [hW1] at hk1 hb1
  rw [hX] at hk1
  have hb2 := (Below.refl W1.heap.size W1).alloc (Nat.le_refl _) (.cells #[.string ⟨#[]⟩, .int .i64 0, .int .i64 0, .int .i64 0, .string ⟨#[]⟩] 34)
  have hs2 := heap_alloc_new W1 (.cells #[.string ⟨#[]⟩, .int .i64 0, .int .i64 0, .int .i64 0, .string ⟨#[]⟩] 34)
  obtain ⟨W2, hW2⟩ : ∃ W2, W1.alloc (.cells #[.string ⟨#[]⟩, .int .i64 0, .int .i64 0, .int .i64 0, .string ⟨#[]⟩] 34) = W2 := ⟨_, rfl⟩
  have hz2 : W2.heap.size = X + 2 := by rw [← hW2, World.size_alloc, hz1]
  rw [hW2] at hs2 hb2
  rw [hz1] at hs2
  have hb3 := (Below.refl W2.heap.size W2).alloc (Nat.le_refl _) (.cells #[.string ⟨#[]⟩, .int .i64 0, .int .i64 0, .int .i64 0, .string ⟨#[]⟩] 34)
  have hr3 := heap_alloc_new W2 (.cells #[.string ⟨#[]⟩, .int .i64 0, .int .i64 0, .int .i64 0, .string ⟨#[]⟩] 34)
  obtain ⟨W3, hW3⟩ : ∃ W3, W2.alloc (.cells #[.string ⟨#[]⟩, .int .i64 0, .int .i64 0, .int .i64 0, .string ⟨#[]⟩] 34) = W3 := ⟨_, rfl⟩
  have hz3 : W3.heap.size = X + 3 := by rw [← hW3, World.size_alloc, hz2]
  rw [hW3] at hr3 hb3
  rw [hz2] at hr3
  have hk2 := (hb2.block X (Array.getElem?_eq_some_iff.1 hk1).1).trans hk1
  have HBX : Hid (Bx kf km ke ks X W3) := Lib.hid ⟨(hb3.block X (Array.getElem?_eq_some_iff.1 hk2).1).trans hk2, (hb3.block (X + 1) (Array.getElem?_eq_some_iff.1 hs2).1).trans hs2, hr3⟩
  have HB3 : Hid (Below w.heap.size w W3) := Lib.hid ((hb1.trans (hb2.mono hb1.size)).trans (hb3.mono (by omega)))
  have HX := Lib.hid hX; have HW1 := Lib.hid hW1; have HW2 := Lib.hid hW2; have HW3 := Lib.hid hW3; have HZ3 := Lib.hid hz3
  clear hRR hn hr ho hbk hb1 hk1 hX hW1 hz1 hb2 hs2 hW2 hz2 hb3 hr3 hW3 hz3 hk2
  go_enter Tryz.func15, Tryz.ntmps15
  trace "1"
  go_upto_region 2 with fail
  rw [HW1.out, HW2.out, HW3.out]
  try rw [HX.out]
  obtain ⟨k0, k1, k2, k3⟩ := HBX.out.key
  trace "2"
  cases hri : rightB kf km ke ks with
  | false =>
    have HR1 := Lib.hid (HRR.out.symm.trans (sr_key hri))
    rw [hri] at CR
    clear hri
    go_wp2_with fail
    refine (CR.out _).mono ?_
    rintro e w4 ⟨rfl, hB4⟩
    have HBX4 := Lib.hid (HBX.out.step hB4)
    have HB4 := Lib.hid (HB3.out.trans (hB4.mono HB3.out.size))
    clear hB4 k0 k1 k2 k3
    trace "no 24"
    obtain ⟨z0, z1, z2, z3, z4, f0, f1, f2, f3, f4⟩ := HBX4.out.ans
    obtain ⟨e0, e1, e2, e3, e4⟩ := HBX4.out.none
    go_wp2_with fail
    have hOV := over_cells (w := w4) (Y := X + 1) HBX4.out.r (.string ⟨#[]⟩) (.int .i64 0) (.int .i64 0) (.int .i64 0) (.string ⟨#[]⟩)
    have hOB := over_below (w := w4) (Y := X + 1) (B := w.heap.size) (by rw [HX.out]; omega) (.string ⟨#[]⟩) (.int .i64 0) (.int .i64 0) (.int .i64 0) (.string ⟨#[]⟩)
    obtain ⟨wf, hwf⟩ : ∃ wf, over w4 (X + 1) (.string ⟨#[]⟩) (.int .i64 0) (.int .i64 0) (.int .i64 0) (.string ⟨#[]⟩) = wf := ⟨_, rfl⟩
    have hwf' := hwf
    unfold over at hwf'
    rw [hwf']
    rw [hwf] at hOV hOB
    obtain ⟨q0, q1, q2, q3, q4⟩ := hOV
    clear hwf hwf'
    refine bodyPost_ret (v := .tuple #[.agg #[.string ⟨#[]⟩, .int .i64 0, .int .i64 0, .int .i64 0, .string ⟨#[]⟩], .int .i64 24]) (by simp [results, Tryz.results15, go_sem, q0, q1, q2, q3, q4]) rfl ⟨by rw [HR1.out]; rfl, HB4.out.trans hOB⟩
  | true =>
  have HRI := Lib.hid hri
  rw [hri] at CR
  clear hri
  go_wp2_with fail
  refine (CR.out _).mono ?_
  rintro e w4 ⟨rfl, hB4⟩
  have HBX4 := Lib.hid (HBX.out.step hB4)
  have HB4 := Lib.hid (HB3.out.trans (hB4.mono HB3.out.size))
  clear hB4 k0 k1 k2 k3
  cases hni : isB sn with
  | false =>
    have HR1 := Lib.hid (HRR.out.symm.trans (sr_name HRI.out hni))
    rw [hni] at CN
    clear hni
    go_wp2_with fail
    refine (CN.out _).mono ?_
    rintro e w5 ⟨rfl, hB5⟩
    have HBX5 := Lib.hid (HBX4.out.step hB5)
    have HB5 := Lib.hid (HB4.out.trans (hB5.mono HB4.out.size))
    clear hB5
    trace "no 1"
    obtain ⟨z0, z1, z2, z3, z4, f0, f1, f2, f3, f4⟩ := HBX5.out.ans
    obtain ⟨e0, e1, e2, e3, e4⟩ := HBX5.out.none
    go_wp2_with fail
    have hOV := over_cells (w := w5) (Y := X + 1) HBX5.out.r (.string ⟨#[]⟩) (.int .i64 0) (.int .i64 0) (.int .i64 0) (.string ⟨#[]⟩)
    have hOB := over_below (w := w5) (Y := X + 1) (B := w.heap.size) (by rw [HX.out]; omega) (.string ⟨#[]⟩) (.int .i64 0) (.int .i64 0) (.int .i64 0) (.string ⟨#[]⟩)
    obtain ⟨wf, hwf⟩ : ∃ wf, over w5 (X + 1) (.string ⟨#[]⟩) (.int .i64 0) (.int .i64 0) (.int .i64 0) (.string ⟨#[]⟩) = wf := ⟨_, rfl⟩
    have hwf' := hwf
    unfold over at hwf'
    rw [hwf']
    rw [hwf] at hOV hOB
    obtain ⟨q0, q1, q2, q3, q4⟩ := hOV
    clear hwf hwf'
    refine bodyPost_ret (v := .tuple #[.agg #[.string ⟨#[]⟩, .int .i64 0, .int .i64 0, .int .i64 0, .string ⟨#[]⟩], .int .i64 1]) (by simp [results, Tryz.results15, go_sem, q0, q1, q2, q3, q4]) rfl ⟨by rw [HR1.out]; rfl, HB5.out.trans hOB⟩
  | true =>
  have HNI := Lib.hid hni
  rw [hni] at CN
  clear hni
  go_wp2_with fail
  refine (CN.out _).mono ?_
  rintro e w5 ⟨rfl, hB5⟩
  have HBX5 := Lib.hid (HBX4.out.step hB5)
  have HB5 := Lib.hid (HB4.out.trans (hB5.mono HB4.out.size))
  clear hB5
  by_cases h1 : fr < 0
  · have HR1 := Lib.hid (HRR.out.symm.trans (sr_time HRI.out HNI.out (.inl h1)))
    have b1 : decide (fr < 0) = true := decide_eq_true h1
    trace "no 25"
    obtain ⟨z0, z1, z2, z3, z4, f0, f1, f2, f3, f4⟩ := HBX5.out.ans
    obtain ⟨e0, e1, e2, e3, e4⟩ := HBX5.out.none
    go_wp2_with fail
    have hOV := over_cells (w := w5) (Y := X + 1) HBX5.out.r (.string ⟨#[]⟩) (.int .i64 0) (.int .i64 0) (.int .i64 0) (.string ⟨#[]⟩)
    have hOB := over_below (w := w5) (Y := X + 1) (B := w.heap.size) (by rw [HX.out]; omega) (.string ⟨#[]⟩) (.int .i64 0) (.int .i64 0) (.int .i64 0) (.string ⟨#[]⟩)
    obtain ⟨wf, hwf⟩ : ∃ wf, over w5 (X + 1) (.string ⟨#[]⟩) (.int .i64 0) (.int .i64 0) (.int .i64 0) (.string ⟨#[]⟩) = wf := ⟨_, rfl⟩
    have hwf' := hwf
    unfold over at hwf'
    rw [hwf']
    rw [hwf] at hOV hOB
    obtain ⟨q0, q1, q2, q3, q4⟩ := hOV
    clear hwf hwf'
    refine bodyPost_ret (v := .tuple #[.agg #[.string ⟨#[]⟩, .int .i64 0, .int .i64 0, .int .i64 0, .string ⟨#[]⟩], .int .i64 25]) (by simp [results, Tryz.results15, go_sem, q0, q1, q2, q3, q4]) rfl ⟨by rw [HR1.out]; rfl, HB5.out.trans hOB⟩
  have b1 : decide (fr < 0) = false := decide_eq_false h1
  by_cases h2 : un < fr
  · have HR1 := Lib.hid (HRR.out.symm.trans (sr_time HRI.out HNI.out (.inr (.inl h2))))
    have b2 : decide (un < fr) = true := decide_eq_true h2
    trace "no 25"
    obtain ⟨z0, z1, z2, z3, z4, f0, f1, f2, f3, f4⟩ := HBX5.out.ans
    obtain ⟨e0, e1, e2, e3, e4⟩ := HBX5.out.none
    go_wp2_with fail
    have hOV := over_cells (w := w5) (Y := X + 1) HBX5.out.r (.string ⟨#[]⟩) (.int .i64 0) (.int .i64 0) (.int .i64 0) (.string ⟨#[]⟩)
    have hOB := over_below (w := w5) (Y := X + 1) (B := w.heap.size) (by rw [HX.out]; omega) (.string ⟨#[]⟩) (.int .i64 0) (.int .i64 0) (.int .i64 0) (.string ⟨#[]⟩)
    obtain ⟨wf, hwf⟩ : ∃ wf, over w5 (X + 1) (.string ⟨#[]⟩) (.int .i64 0) (.int .i64 0) (.int .i64 0) (.string ⟨#[]⟩) = wf := ⟨_, rfl⟩
    have hwf' := hwf
    unfold over at hwf'
    rw [hwf']
    rw [hwf] at hOV hOB
    obtain ⟨q0, q1, q2, q3, q4⟩ := hOV
    clear hwf hwf'
    refine bodyPost_ret (v := .tuple #[.agg #[.string ⟨#[]⟩, .int .i64 0, .int .i64 0, .int .i64 0, .string ⟨#[]⟩], .int .i64 25]) (by simp [results, Tryz.results15, go_sem, q0, q1, q2, q3, q4]) rfl ⟨by rw [HR1.out]; rfl, HB5.out.trans hOB⟩
  have b2 : decide (un < fr) = false := decide_eq_false h2
  by_cases h3 : 4294967295 < un
  · have HR1 := Lib.hid (HRR.out.symm.trans (sr_time HRI.out HNI.out (.inr (.inr h3))))
    have b3 : decide (4294967295 < un) = true := decide_eq_true h3
    trace "no 25"
    obtain ⟨z0, z1, z2, z3, z4, f0, f1, f2, f3, f4⟩ := HBX5.out.ans
    obtain ⟨e0, e1, e2, e3, e4⟩ := HBX5.out.none
    go_wp2_with fail
    have hOV := over_cells (w := w5) (Y := X + 1) HBX5.out.r (.string ⟨#[]⟩) (.int .i64 0) (.int .i64 0) (.int .i64 0) (.string ⟨#[]⟩)
    have hOB := over_below (w := w5) (Y := X + 1) (B := w.heap.size) (by rw [HX.out]; omega) (.string ⟨#[]⟩) (.int .i64 0) (.int .i64 0) (.int .i64 0) (.string ⟨#[]⟩)
    obtain ⟨wf, hwf⟩ : ∃ wf, over w5 (X + 1) (.string ⟨#[]⟩) (.int .i64 0) (.int .i64 0) (.int .i64 0) (.string ⟨#[]⟩) = wf := ⟨_, rfl⟩
    have hwf' := hwf
    unfold over at hwf'
    rw [hwf']
    rw [hwf] at hOV hOB
    obtain ⟨q0, q1, q2, q3, q4⟩ := hOV
    clear hwf hwf'
    refine bodyPost_ret (v := .tuple #[.agg #[.string ⟨#[]⟩, .int .i64 0, .int .i64 0, .int .i64 0, .string ⟨#[]⟩], .int .i64 25]) (by simp [results, Tryz.results15, go_sem, q0, q1, q2, q3, q4]) rfl ⟨by rw [HR1.out]; rfl, HB5.out.trans hOB⟩
  have b3 : decide (4294967295 < un) = false := decide_eq_false h3
  have HTM : Hid (¬ (fr < 0 ∨ un < fr ∨ 4294967295 < un)) := Lib.hid (by rintro (h | h | h) <;> omega)
  have CI := Lib.hid (isSet.isset_any a n c L w5 HN.out (HRD.out.below HB5.out rfl) HO.out (by omega))
  trace "3"
  go_wp2_with fail
  refine CI.out.mono ?_
  rintro e w6 ⟨rfl, hB6⟩
  have HBX6 := Lib.hid (HBX5.out.step hB6)
  have HB6 := Lib.hid (HB5.out.trans (hB6.mono HB5.out.size))
  clear hB6 CI h1 h2 h3 b1 b2 b3
  cases hs : setB L with
  | false =>
    have HR1 := Lib.hid (HRR.out.symm.trans (sr_set HRI.out HNI.out HTM.out hs))
    clear hs
    trace "no 8"
    obtain ⟨z0, z1, z2, z3, z4, f0, f1, f2, f3, f4⟩ := HBX6.out.ans
    obtain ⟨e0, e1, e2, e3, e4⟩ := HBX6.out.none
    go_wp2_with fail
    have hOV := over_cells (w := w6) (Y := X + 1) HBX6.out.r (.string ⟨#[]⟩) (.int .i64 0) (.int .i64 0) (.int .i64 0) (.string ⟨#[]⟩)
    have hOB := over_below (w := w6) (Y := X + 1) (B := w.heap.size) (by rw [HX.out]; omega) (.string ⟨#[]⟩) (.int .i64 0) (.int .i64 0) (.int .i64 0) (.string ⟨#[]⟩)
    obtain ⟨wf, hwf⟩ : ∃ wf, over w6 (X + 1) (.string ⟨#[]⟩) (.int .i64 0) (.int .i64 0) (.int .i64 0) (.string ⟨#[]⟩) = wf := ⟨_, rfl⟩
    have hwf' := hwf
    unfold over at hwf'
    rw [hwf']
    rw [hwf] at hOV hOB
    obtain ⟨q0, q1, q2, q3, q4⟩ := hOV
    clear hwf hwf'
    refine bodyPost_ret (v := .tuple #[.agg #[.string ⟨#[]⟩, .int .i64 0, .int .i64 0, .int .i64 0, .string ⟨#[]⟩], .int .i64 8]) (by simp [results, Tryz.results15, go_sem, q0, q1, q2, q3, q4]) rfl ⟨by rw [HR1.out]; rfl, HB6.out.trans hOB⟩
  | true =>
  have HS := Lib.hid hs
  have hnl := HN.out
  obtain ⟨h, h0⟩ : ∃ h, L[0]? = some h := by
    cases L with
    | nil => cases hs
    | cons x r => exact ⟨x, rfl⟩
  have H0 := Lib.hid h0
  have hpos : 0 < n := by rw [hnl]; exact (List.getElem?_eq_some_iff.1 h0).1
  obtain ⟨g1, o1, ha1, hg1, hcl⟩ := at_r HRD.out h0
  subst ha1
  rw [Nat.zero_mul, Nat.add_zero] at hcl
  have HCL := Lib.hid hcl; have HG1 := Lib.hid hg1
  have zn : (0 : Int) < (n : Int) := by omega
  have zn0 : ¬ n = 0 := by omega
  have hbz6 : w.heap.size ≤ w6.heap.size := HB6.out.size
  clear hs hnl h0 hcl hg1
  trace "4"
  go_wp2_with fail
  go_loopg [47] (n + 1) (fun gas kv wr => ∃ k : Nat, kv = .int .i64 (k : Int) ∧ k ≤ n ∧ k + gas = n + 1 ∧ Hid (∀ j x, j < k → L[j]? = some x → x.l = h.l) ∧ Hid (Below w6.heap.size w6 wr))
  case atStart => exact ⟨0, rfl, by omega, by omega, Lib.hid (fun j x hj => by omega), Lib.hid (Below.refl _ _)⟩
  case round =>
    obtain ⟨k, rfl, hk, hkg, HT, HBR⟩ := hrel
    have HK := Lib.hid hkg; clear hkg
    by_cases hlt : k < n
    · obtain ⟨x, hx⟩ : ∃ x, L[k]? = some x := ⟨_, List.getElem?_eq_getElem (by have := HN.out; omega)⟩
      have HX1 := Lib.hid hx
      obtain ⟨g2, o2, ha2, hg2, hc2⟩ := at_r HRD.out hx
      cases ha2
      have HBW := Lib.hid (HB6.out.trans (HBR.out.mono hbz6))
      obtain ⟨x0, x1, x2, x3, x4⟩ := hc2.below HBW.out hg2
      have hb7 := (Below.refl wr.heap.size wr).alloc (Nat.le_refl _) (.cells #[.string x.o, .int .i64 x.t, .int .i64 x.c, .int .i64 x.l, .string x.d] 34)
      have hy7 := heap_alloc_new wr (.cells #[.string x.o, .int .i64 x.t, .int .i64 x.c, .int .i64 x.l, .string x.d] 34)
      have hq3 := ck hb7 (HCL.out.below HBW.out HG1.out).2.2.2.1
      obtain ⟨V, hV⟩ : ∃ V, wr.heap.size = V := ⟨_, rfl⟩
      obtain ⟨w7, hw7⟩ : ∃ w7, wr.alloc (.cells #[.string x.o, .int .i64 x.t, .int .i64 x.c, .int .i64 x.l, .string x.d] 34) = w7 := ⟨_, rfl⟩
      rw [hw7] at hb7 hy7 hq3
      rw [hV] at hy7
      have HBR7 := Lib.hid (HBR.out.trans (hb7.mono HBR.out.size))
      have y3 : w7.cell? ⟨V, 3, none⟩ = some (.int .i64 x.l) := by simp only [World.cell?, hy7]; rfl
      have HV := Lib.hid hV; have HW7 := Lib.hid hw7
      have zk : (0 : Int) ≤ (k : Int) := by omega
      have zl : (k : Int) < (n : Int) := by omega
      clear hx hc2 hb7 hy7 hV hw7
      trace "5"
      go_upto_region 13 with fail
      rw [HW7.out]
      try rw [HV.out]
      clear x0 x1 x2 x3 x4
      obtain ⟨xl, hxl⟩ : ∃ z, x.l = z := ⟨_, rfl⟩
      obtain ⟨hl, hhl⟩ : ∃ z, h.l = z := ⟨_, rfl⟩
      rw [hxl] at y3; rw [hhl] at hq3
      have HXL := Lib.hid hxl; have HHL := Lib.hid hhl
      clear hxl hhl
      by_cases he : xl = hl
      · subst he
        have HT2 : Hid (∀ j x, j < k + 1 → L[j]? = some x → x.l = h.l) := Lib.hid (by
          intro j z hj hz
          by_cases e : j = k
          · subst e; rw [HX1.out] at hz; cases hz; rw [HXL.out, HHL.out]
          · exact HT.out j z (by omega) hz)
        go_quiet (fail)
        have HBQ := Lib.hid (bel_drewN HBR7.out nq)
        go_wp2_with fail
        have hkg := HK.out
        go_roundg (gk - 1)
        case rel => exact ⟨k + 1, by go_num, by omega, by omega, HT2, HBQ⟩
        case measure => omega
      · have e1 : (xl != hl) = true := bne_iff_ne.2 he
        have e2 : (xl == hl) = false := beq_eq_false_iff_ne.2 he
        have HR1 := Lib.hid (HRR.out.symm.trans (sr_ttl HRI.out HNI.out HTM.out HS.out H0.out (other_yes HX1.out (by rw [HXL.out, HHL.out]; exact he))))
        go_quiet (fail)
        obtain ⟨w8, hw8⟩ : ∃ w8, w7.drewN nq = w8 := ⟨_, rfl⟩
        have HBX8 : Hid (Bx kf km ke ks X w8) := Lib.hid (by rw [← hw8]; exact HBX6.out.step (bel_drewN HBR7.out nq))
        have HB8 : Hid (Below w.heap.size w w8) := Lib.hid (by rw [← hw8]; exact HB6.out.trans ((bel_drewN HBR7.out nq).mono hbz6))
        rw [hw8]
        clear hw8 he e1 e2 y3 hq3
        trace "no 8"
        obtain ⟨z0, z1, z2, z3, z4, f0, f1, f2, f3, f4⟩ := HBX8.out.ans
        obtain ⟨e0, e1, e2, e3, e4⟩ := HBX8.out.none
        go_wp2_with fail
        have hOV := over_cells (w := w8) (Y := X + 1) HBX8.out.r (.string ⟨#[]⟩) (.int .i64 0) (.int .i64 0) (.int .i64 0) (.string ⟨#[]⟩)
        have hOB := over_below (w := w8) (Y := X + 1) (B := w.heap.size) (by rw [HX.out]; omega) (.string ⟨#[]⟩) (.int .i64 0) (.int .i64 0) (.int .i64 0) (.string ⟨#[]⟩)
        obtain ⟨wf, hwf⟩ : ∃ wf, over w8 (X + 1) (.string ⟨#[]⟩) (.int .i64 0) (.int .i64 0) (.int .i64 0) (.string ⟨#[]⟩) = wf := ⟨_, rfl⟩
        have hwf' := hwf
        unfold over at hwf'
        rw [hwf']
        rw [hwf] at hOV hOB
        obtain ⟨q0, q1, q2, q3, q4⟩ := hOV
        clear hwf hwf'
        refine bodyPost_ret (v := .tuple #[.agg #[.string ⟨#[]⟩, .int .i64 0, .int .i64 0, .int .i64 0, .string ⟨#[]⟩], .int .i64 8]) (by simp [results, Tryz.results15, go_sem, q0, q1, q2, q3, q4]) rfl ⟨by rw [HR1.out]; rfl, HB8.out.trans hOB⟩
    · have hke : k = n := by omega
      subst hke
      have HOT : Hid (otherTtl h L = false) := Lib.hid (other_no (fun j x hx => HT.out j x (by rw [HN.out]; exact (List.getElem?_eq_some_iff.1 hx).1) hx))
      obtain ⟨w7, hw7⟩ : ∃ w7, wr = w7 := ⟨_, rfl⟩
      rw [hw7] at HBR ⊢
      have HBX7 := Lib.hid (HBX6.out.step HBR.out)
      have HB7 := Lib.hid (HB6.out.trans (HBR.out.mono hbz6))
      have zz : ¬ (k : Int) < (k : Int) := by omega
      clear hw7 HBR HT
      trace "6"
      have hoh := HO.out h (List.mem_of_getElem? H0.out)
      obtain ⟨⟨ls, hls⟩, ⟨ht1, ht2⟩, ⟨hl1, hl2⟩, hc1, ⟨hk1, hk2⟩, hzon⟩ := set_first HS.out H0.out
      have HLS := Lib.hid hls
      have CW := Lib.hid (fun wx => refB.within_any h.o sn wx hoh.o hsn)
      obtain ⟨WI, hWI⟩ : ∃ WI, withinS h.o.data.toList sn.data.toList = WI := ⟨_, rfl⟩
      rw [hWI] at CW
      have HWI := Lib.hid hWI
      obtain ⟨r0, r1, r2, r3, r4⟩ := HCL.out.below HB7.out HG1.out
      have hb8 := (Below.refl w7.heap.size w7).alloc (Nat.le_refl _) (.cells #[.string h.o, .int .i64 h.t, .int .i64 h.c, .int .i64 h.l, .string h.d] 34)
      have hy8 := heap_alloc_new w7 (.cells #[.string h.o, .int .i64 h.t, .int .i64 h.c, .int .i64 h.l, .string h.d] 34)
      obtain ⟨Y, hY⟩ : ∃ Y, w7.heap.size = Y := ⟨_, rfl⟩
      obtain ⟨w8, hw8⟩ : ∃ w8, w7.alloc (.cells #[.string h.o, .int .i64 h.t, .int .i64 h.c, .int .i64 h.l, .string h.d] 34) = w8 := ⟨_, rfl⟩
      rw [hw8] at hb8 hy8
      rw [hY] at hy8
      have HBX8 := Lib.hid (HBX7.out.step hb8)
      have HB8 := Lib.hid (HB7.out.trans (hb8.mono HB7.out.size))
      have HY := Lib.hid hY; have HW8 := Lib.hid hw8; have HY8 := Lib.hid hy8
      have y0 : w8.cell? ⟨Y, 0, none⟩ = some (.string h.o) := by simp only [World.cell?, hy8]; rfl
      clear hls hWI hb8 hy8 hY hw8 hc1 hzon
      trace "7"
      go_upto_region 17 with fail
      rw [HW8.out]
      try rw [HY.out]
      clear r0 r1 r2 r3 r4
      go_wp2_with fail
      refine (CW.out _).mono ?_
      rintro e w9 ⟨rfl, hB9⟩
      have HBX9 := Lib.hid (HBX8.out.step hB9)
      have HB9 := Lib.hid (HB8.out.trans (hB9.mono HB8.out.size))
      have HY9 := Lib.hid ((hB9.block Y (Array.getElem?_eq_some_iff.1 HY8.out).1).trans HY8.out)
      clear hB9 y0
      cases hwi : WI with
      | false =>
        have HR1 := Lib.hid (HRR.out.symm.trans (sr_out HRI.out HNI.out HTM.out HS.out H0.out HOT.out (by rw [HWI.out, hwi])))
        subst hwi
        trace "no 5"
        obtain ⟨z0, z1, z2, z3, z4, f0, f1, f2, f3, f4⟩ := HBX9.out.ans
        obtain ⟨e0, e1, e2, e3, e4⟩ := HBX9.out.none
        go_wp2_with fail
        have hOV := over_cells (w := w9) (Y := X + 1) HBX9.out.r (.string ⟨#[]⟩) (.int .i64 0) (.int .i64 0) (.int .i64 0) (.string ⟨#[]⟩)
        have hOB := over_below (w := w9) (Y := X + 1) (B := w.heap.size) (by rw [HX.out]; omega) (.string ⟨#[]⟩) (.int .i64 0) (.int .i64 0) (.int .i64 0) (.string ⟨#[]⟩)
        obtain ⟨wf, hwf⟩ : ∃ wf, over w9 (X + 1) (.string ⟨#[]⟩) (.int .i64 0) (.int .i64 0) (.int .i64 0) (.string ⟨#[]⟩) = wf := ⟨_, rfl⟩
        have hwf' := hwf
        unfold over at hwf'
        rw [hwf']
        rw [hwf] at hOV hOB
        obtain ⟨q0, q1, q2, q3, q4⟩ := hOV
        clear hwf hwf'
        refine bodyPost_ret (v := .tuple #[.agg #[.string ⟨#[]⟩, .int .i64 0, .int .i64 0, .int .i64 0, .string ⟨#[]⟩], .int .i64 5]) (by simp [results, Tryz.results15, go_sem, q0, q1, q2, q3, q4]) rfl ⟨by rw [HR1.out]; rfl, HB9.out.trans hOB⟩
      | true =>
      have HRY := Lib.hid (HRR.out.symm.trans (sr_yes HRI.out HNI.out HTM.out HS.out H0.out HOT.out (by rw [HWI.out, hwi])))
      subst hwi
      trace "8"
      obtain ⟨hf, hm, he, hsx⟩ := right_facts HRI.out
      have hTM := HTM.out
      obtain ⟨M, rfl⟩ : ∃ M : Nat, km = M := ⟨km.toNat, by omega⟩
      obtain ⟨S, rfl⟩ : ∃ S : Nat, ks = S := ⟨ks.toNat, by omega⟩
      obtain ⟨FR, rfl⟩ : ∃ z : Nat, fr = z := ⟨fr.toNat, by omega⟩
      obtain ⟨UN, rfl⟩ : ∃ z : Nat, un = z := ⟨un.toNat, by omega⟩
      obtain ⟨T, hT⟩ : ∃ z : Nat, h.t = z := ⟨h.t.toNat, by omega⟩
      obtain ⟨TL, hTL⟩ : ∃ z : Nat, h.l = z := ⟨h.l.toNat, by omega⟩
      obtain ⟨CC, hCC⟩ : ∃ z : Nat, lessS h.o.data.toList = z := ⟨(lessS h.o.data.toList).toNat, by omega⟩
      have HT := Lib.hid hT; have HTL := Lib.hid hTL; have HCC := Lib.hid hCC
      have bT : T ≤ 65535 := by omega
      have bTL : TL ≤ 2147483647 := by omega
      have bCC : CC ≤ 254 := by omega
      have bFR : FR ≤ 4294967295 := by omega
      have bUN : UN ≤ 4294967295 := by omega
      have bM1 : 0 < M := by omega
      have bM2 : M ≤ 2147483647 := by omega
      have bS : S < 2147483648 := by omega
      have CCN := Lib.hid (fun wx => sealA.starless_any h.o wx hoh.o)
      rw [hCC] at CCN
      have CPU := Lib.hid (fun wx => pub.rpub_any kf M ke S wx)
      have hpl := pub_len kf M ke S
      obtain ⟨PB, hPB⟩ : ∃ PB : ByteArray, (⟨(pubS kf M ke S).toArray⟩ : ByteArray) = PB := ⟨_, rfl⟩
      have hPBd : pubS kf M ke S = PB.data.toList := by rw [← hPB]
      rw [hPB] at CPU
      rw [hPBd, size_len] at hpl
      have CTG := Lib.hid (fun wx => tag.rtag_any PB wx (by omega))
      have bTG := tag_lt PB.data.toList
      obtain ⟨TG, hTG⟩ : ∃ TG, tagS PB.data.toList = TG := ⟨_, rfl⟩
      rw [hTG] at CTG bTG
      have CFS := Lib.hid (fun wx => refA.fold_any sn wx hsn)
      have hfs := dfold.fold_short sn.data.toList
      obtain ⟨FS, hFS⟩ : ∃ FS : ByteArray, (⟨(foldS sn.data.toList).toArray⟩ : ByteArray) = FS := ⟨_, rfl⟩
      have hFSd : foldS sn.data.toList = FS.data.toList := by rw [← hFS]
      rw [hFS] at CFS
      rw [hFSd, size_len] at hfs
      have HFS := Lib.hid hFSd
      have CB1 := Lib.hid (fun wx => rbytes_any 2 T wx (by omega) (by decide))
      obtain ⟨B1, hB1⟩ : ∃ B : ByteArray, (⟨(bigS T 2).toArray⟩ : ByteArray) = B := ⟨_, rfl⟩
      have sB1 : B1.size ≤ 2 := by rw [← hB1, mk_size, bigS_len]; exact Nat.le_refl _
      rw [hB1] at CB1
      have CB2 := Lib.hid (fun wx => rbytes_any 1 CC wx (by omega) (by decide))
      obtain ⟨B2, hB2⟩ : ∃ B : ByteArray, (⟨(bigS CC 1).toArray⟩ : ByteArray) = B := ⟨_, rfl⟩
      have sB2 : B2.size ≤ 1 := by rw [← hB2, mk_size, bigS_len]; exact Nat.le_refl _
      rw [hB2] at CB2
      have CB3 := Lib.hid (fun wx => rbytes_any 4 TL wx (by omega) (by decide))
      obtain ⟨B3, hB3⟩ : ∃ B : ByteArray, (⟨(bigS TL 4).toArray⟩ : ByteArray) = B := ⟨_, rfl⟩
      have sB3 : B3.size ≤ 4 := by rw [← hB3, mk_size, bigS_len]; exact Nat.le_refl _
      rw [hB3] at CB3
      have CB4 := Lib.hid (fun wx => rbytes_any 4 UN wx (by omega) (by decide))
      obtain ⟨B4, hB4⟩ : ∃ B : ByteArray, (⟨(bigS UN 4).toArray⟩ : ByteArray) = B := ⟨_, rfl⟩
      have sB4 : B4.size ≤ 4 := by rw [← hB4, mk_size, bigS_len]; exact Nat.le_refl _
      rw [hB4] at CB4
      have CB5 := Lib.hid (fun wx => rbytes_any 4 FR wx (by omega) (by decide))
      obtain ⟨B5, hB5⟩ : ∃ B : ByteArray, (⟨(bigS FR 4).toArray⟩ : ByteArray) = B := ⟨_, rfl⟩
      have sB5 : B5.size ≤ 4 := by rw [← hB5, mk_size, bigS_len]; exact Nat.le_refl _
      rw [hB5] at CB5
      have CB6 := Lib.hid (fun wx => rbytes_any 2 TG wx (by omega) (by decide))
      obtain ⟨B6, hB6⟩ : ∃ B : ByteArray, (⟨(bigS TG 2).toArray⟩ : ByteArray) = B := ⟨_, rfl⟩
      have sB6 : B6.size ≤ 2 := by rw [← hB6, mk_size, bigS_len]; exact Nat.le_refl _
      rw [hB6] at CB6
      have HHD : Hid (B1.data.toList ++ [253] ++ B2.data.toList ++ B3.data.toList ++ B4.data.toList ++ B5.data.toList ++ B6.data.toList = headS T CC TL UN FR TG) := Lib.hid (by
        unfold headS
        rw [← hB1, ← hB2, ← hB3, ← hB4, ← hB5, ← hB6])
      have HSH : Hid (sigHead kf M ke S h FR UN = headS T CC TL UN FR TG) := Lib.hid (by
        unfold sigHead
        rw [HT.out, HTL.out, HCC.out, hPBd, hTG]
        simp only [Int.toNat_natCast])
      have HB2d : Hid (valL B2.data.toList 0 = CC) := Lib.hid (by rw [← hB2]; exact val_one (by omega))
      have HB1d : Hid (B1.data.toList = bigS T 2) := Lib.hid (by rw [← hB1])
      have HB3d : Hid (B3.data.toList = bigS TL 4) := Lib.hid (by rw [← hB3])
      obtain ⟨k0, k1, k2, k3⟩ := HBX9.out.key
      have y0 : w9.cell? ⟨Y, 0, none⟩ = some (.string h.o) := by simp only [World.cell?, HY9.out]; rfl
      have y1 : w9.cell? ⟨Y, 1, none⟩ = some (.int .i64 (T : Int)) := by rw [← hT]; simp only [World.cell?, HY9.out]; rfl
      have y3 : w9.cell? ⟨Y, 3, none⟩ = some (.int .i64 (TL : Int)) := by rw [← hTL]; simp only [World.cell?, HY9.out]; rfl
      have hS0 : w9.drew.cell? ⟨Y, 0, none⟩ = some (.string h.o) ∧ w9.drew.cell? ⟨Y, 1, none⟩ = some (.int .i64 (T : Int)) ∧ w9.drew.cell? ⟨Y, 3, none⟩ = some (.int .i64 (TL : Int)) ∧ w9.drew.cell? ⟨X, 0, none⟩ = some (.int .i64 kf) ∧ w9.drew.cell? ⟨X, 1, none⟩ = some (.int .i64 (M : Int)) ∧ w9.drew.cell? ⟨X, 2, none⟩ = some (.int .i64 ke) ∧ w9.drew.cell? ⟨X, 3, none⟩ = some (.int .i64 (S : Int)) ∧ Below w9.heap.size w9 w9.drew := ⟨y0, y1, y3, k0, k1, k2, k3, (Below.refl _ _).drew⟩
      clear hT hTL hCC hPB hPBd hTG hB1 hB2 hB3 hB4 hB5 hB6 hFS hFSd y0 y1 y3 k0 k1 k2 k3 hf hm he hsx hTM ht1 ht2 hl1 hl2 hk1 hk2
      trace "9"
      go_upto_region 19 with fail
      go_region_held3 (fun w' => w'.cell? ⟨Y, 0, none⟩ = some (.string h.o) ∧ w'.cell? ⟨Y, 1, none⟩ = some (.int .i64 (T : Int)) ∧ w'.cell? ⟨Y, 3, none⟩ = some (.int .i64 (TL : Int)) ∧ w'.cell? ⟨X, 0, none⟩ = some (.int .i64 kf) ∧ w'.cell? ⟨X, 1, none⟩ = some (.int .i64 (M : Int)) ∧ w'.cell? ⟨X, 2, none⟩ = some (.int .i64 ke) ∧ w'.cell? ⟨X, 3, none⟩ = some (.int .i64 (S : Int)) ∧ Below w9.heap.size w9 w') (first | assumption | (refine ⟨?_, ?_, ?_, ?_, ?_, ?_, ?_, ?_⟩ <;> assumption) | exact k7 (by assumption) ((Below.refl _ _).alloc (Nat.le_refl _) _))
        (first
          | (go_at_call_of 64 (Value.int .i64 (T : Int)); refine (CB1.out _).mono ?_; rintro e w' ⟨rfl, hBz⟩; have hSz := k7 (by assumption) hBz; clear hBz)
          | (go_at_call_of 64 (Value.int .i64 (CC : Int)); refine (CB2.out _).mono ?_; rintro e w' ⟨rfl, hBz⟩; have hSz := k7 (by assumption) hBz; clear hBz)
          | (go_at_call_of 64 (Value.int .i64 (TL : Int)); refine (CB3.out _).mono ?_; rintro e w' ⟨rfl, hBz⟩; have hSz := k7 (by assumption) hBz; clear hBz)
          | (go_at_call_of 64 (Value.int .i64 (UN : Int)); refine (CB4.out _).mono ?_; rintro e w' ⟨rfl, hBz⟩; have hSz := k7 (by assumption) hBz; clear hBz)
          | (go_at_call_of 64 (Value.int .i64 (FR : Int)); refine (CB5.out _).mono ?_; rintro e w' ⟨rfl, hBz⟩; have hSz := k7 (by assumption) hBz; clear hBz)
          | (go_at_call_of 64 (Value.int .i64 (TG : Int)); refine (CB6.out _).mono ?_; rintro e w' ⟨rfl, hBz⟩; have hSz := k7 (by assumption) hBz; clear hBz)
          | (go_at_call 65; refine (CCN.out _).mono ?_; rintro e w' ⟨rfl, hBz⟩; have hSz := k7 (by assumption) hBz; clear hBz)
          | (go_at_call 67; refine (CPU.out _).mono ?_; rintro e w' ⟨rfl, hBz⟩; have hSz := k7 (by assumption) hBz; clear hBz)
          | (go_at_call 68; refine (CFS.out _).mono ?_; rintro e w' ⟨rfl, hBz⟩; have hSz := k7 (by assumption) hBz; clear hBz)
          | (go_at_call 66; refine (CTG.out _).mono ?_; rintro e w' ⟨rfl, rfl⟩))
      trace "10"
      have hb10 := (Below.refl w'.heap.size w').alloc (Nat.le_refl _) (.cells #[.string B1, .string ⟨#[253]⟩, .string B2, .string B3, .string B4, .string B5, .string B6, .string FS] 9)
      have hp10 := heap_alloc_new w' (.cells #[.string B1, .string ⟨#[253]⟩, .string B2, .string B3, .string B4, .string B5, .string B6, .string FS] 9)
      obtain ⟨PP, hPP⟩ : ∃ PP, w'.heap.size = PP := ⟨_, rfl⟩
      obtain ⟨w10, hw10⟩ : ∃ w10, w'.alloc (.cells #[.string B1, .string ⟨#[253]⟩, .string B2, .string B3, .string B4, .string B5, .string B6, .string FS] 9) = w10 := ⟨_, rfl⟩
      have hB10 := hSz.2.2.2.2.2.2.2.trans (hb10.mono hSz.2.2.2.2.2.2.2.size)
      rw [hw10] at hb10 hp10 hB10
      rw [hPP] at hp10
      rw [hw10, hPP]
      have HBX10 := Lib.hid (HBX9.out.step hB10)
      have HB10 := Lib.hid (HB9.out.trans (hB10.mono HB9.out.size))
      have HY10 := Lib.hid ((hB10.block Y (Array.getElem?_eq_some_iff.1 HY9.out).1).trans HY9.out)
      have HP10 := Lib.hid hp10
      have HR8 : Hid (Rd8 w10 (some ⟨PP, 0, none⟩) B1 ⟨#[253]⟩ B2 B3 B4 B5 B6 FS PP 0) := Lib.hid ⟨rfl, (Array.getElem?_eq_some_iff.1 hp10).1, by simp only [World.cell?, hp10]; rfl, by simp only [World.cell?, hp10]; rfl, by simp only [World.cell?, hp10]; rfl, by simp only [World.cell?, hp10]; rfl, by simp only [World.cell?, hp10]; rfl, by simp only [World.cell?, hp10]; rfl, by simp only [World.cell?, hp10]; rfl, by simp only [World.cell?, hp10]; rfl⟩
      clear hSz hS0 hB10 hb10 hp10 hw10 hPP CB1 CB2 CB3 CB4 CB5 CB6 CCN CPU CTG CFS
      obtain ⟨OW, hOW⟩ : ∃ OW, ownS (CC : Int) h.o.data.toList = OW := ⟨_, rfl⟩
      have HOW := Lib.hid hOW
      have HOL : Hid (OW.length ≤ 255) := Lib.hid (by rw [← hOW]; exact own_len _ _)
      have HOR : Hid ((if ((valL B2.data.toList 0 : Nat) : Int) < lessS (foldS h.o.data.toList) then star.starS (tailS (foldS h.o.data.toList) ((valL B2.data.toList 0 : Nat) : Int)) else foldS h.o.data.toList) = OW) := Lib.hid (by rw [HB2d.out, ← hOW]; exact own_ref HLS.out (by omega))
      have CSG := Lib.hid (fun (wx : World) (hB : Below w10.heap.size w10 wx) => signed_any (some ⟨PP, 0, none⟩) 8 8 B1 ⟨#[253]⟩ B2 B3 B4 B5 B6 FS PP 0 (some ⟨g1, o1, none⟩) k c L h T OW wx (Rd8.below HR8.out hB) (by decide) (by omega) (by decide) (by omega) (by omega) (by omega) (by omega) (by omega) (by omega) HN.out ((HRD.out.below HB10.out rfl).below hB rfl) HO.out hbig H0.out HT.out bT HBK.out HOR.out HOL.out)
      have bTX : ((B1.data.toList ++ (⟨#[253]⟩ : ByteArray).data.toList ++ B2.data.toList ++ B3.data.toList ++ B4.data.toList ++ B5.data.toList ++ B6.data.toList ++ foldS FS.data.toList) ++ bodyS OW (bigS T 2) B3.data.toList (sortedT (L.map foldX))).length ≤ 1099511627776 := by
        have hbe := body_len (own := OW) (t2 := bigS T 2) (ttl := B3.data.toList) HOL.out (by rw [bigS_len]; omega) (by rw [size_len]; omega) (sortedT (L.map foldX))
        have h1 := dfold.fold_short FS.data.toList
        have h2 : bulk (sortedT (L.map foldX)) ≤ 68719476736 := by
          have h1 := (fold_sorted (L.map foldX) [] List.Pairwise.nil).2
          rw [List.append_nil] at h1
          rw [show bulk (sortedT (L.map foldX)) = bulk (L.map foldX) from bulk_perm h1]
          exact HBK.out
        have h3 : (sortedT (L.map foldX)).length = k := by rw [sortedT_len, List.length_map, HN.out]
        have h4 : (⟨#[253]⟩ : ByteArray).data.toList.length = 1 := rfl
        simp only [List.length_append, size_len] at *
        omega
      obtain ⟨TX, hTX⟩ : ∃ TX : ByteArray, (⟨((B1.data.toList ++ (⟨#[253]⟩ : ByteArray).data.toList ++ B2.data.toList ++ B3.data.toList ++ B4.data.toList ++ B5.data.toList ++ B6.data.toList ++ foldS FS.data.toList) ++ bodyS OW (bigS T 2) B3.data.toList (sortedT (L.map foldX))).toArray⟩ : ByteArray) = TX := ⟨_, rfl⟩
      rw [hTX] at CSG
      have hTXd : TX.data.toList = (B1.data.toList ++ [253] ++ B2.data.toList ++ B3.data.toList ++ B4.data.toList ++ B5.data.toList ++ B6.data.toList ++ foldS FS.data.toList) ++ bodyS OW (bigS T 2) B3.data.toList (sortedT (L.map foldX)) := by rw [← hTX]
      have hTXs : TX.size ≤ 1099511627776 := by rw [← size_len, hTXd]; exact bTX
      have CM := Lib.hid (fun wx => fig.figure_any TX M wx hTXs bM1 bM2)
      have hfl := fig_lt bM1 (digestS TX.data.toList) 0 bM1
      obtain ⟨FG, hFG⟩ : ∃ FG, figL M (digestS TX.data.toList) 0 = FG := ⟨_, rfl⟩
      rw [hFG] at CM hfl
      have CPW := Lib.hid (fun wx => pow.rpower_any FG M bM1 bM2 (by omega) S S wx (Nat.le_refl _) bS)
      have hpw := pow_lt (v := FG) (e := S) bM1
      obtain ⟨PW, hPW⟩ : ∃ PW, powS FG S M = PW := ⟨_, rfl⟩
      rw [hPW] at CPW hpw
      have HPW : Hid (sigNum (headS T CC TL UN FR TG) sn.data.toList h L M S = PW) := Lib.hid (by
        unfold sigNum sigText textS
        rw [HCC.out, HOW.out, ← hPW, ← hFG, hTXd, head_type, head_ttl, HHD.out, HFS.out, HB3d.out])
      clear bTX hTX hTXd hTXs hFG hPW hOW
      have k1 := HBX10.out.key.2.1
      have k3 := HBX10.out.key.2.2.2
      have hS0 : w10.drew.cell? ⟨X, 1, none⟩ = some (.int .i64 (M : Int)) ∧ w10.drew.cell? ⟨X, 3, none⟩ = some (.int .i64 (S : Int)) ∧ Below w10.heap.size w10 w10.drew := ⟨k1, k3, (Below.refl _ _).drew⟩
      clear k1 k3
      trace "11"
      go_upto_region 20 with fail
      go_region_held3 (fun w' => w'.cell? ⟨X, 1, none⟩ = some (.int .i64 (M : Int)) ∧ w'.cell? ⟨X, 3, none⟩ = some (.int .i64 (S : Int)) ∧ Below w10.heap.size w10 w') (first | assumption | (refine ⟨?_, ?_, ?_⟩ <;> assumption))
        (first
          | (go_at_call 71; refine (CSG.out _ (‹_ ∧ _ ∧ Below _ _ _›).2.2).mono ?_; rintro e w' ⟨rfl, hBz⟩; have hSz := k2 (by assumption) hBz; clear hBz)
          | (go_at_call 70; refine (CM.out _).mono ?_; rintro e w' ⟨rfl, hBz⟩; have hSz := k2 (by assumption) hBz; clear hBz)
          | (go_at_call 69; refine (CPW.out _).mono ?_; rintro e w' ⟨rfl, rfl⟩))
      trace "12"
      obtain ⟨w11, hw11⟩ : ∃ w11, w' = w11 := ⟨_, rfl⟩
      rw [hw11] at hSz ⊢
      have hB11 := hSz.2.2
      have HBX11 := Lib.hid (HBX10.out.step hB11)
      have HB11 := Lib.hid (HB10.out.trans (hB11.mono HB10.out.size))
      have HY11 := Lib.hid ((hB11.block Y (Array.getElem?_eq_some_iff.1 HY10.out).1).trans HY10.out)
      have hp11 := (hB11.block PP (Array.getElem?_eq_some_iff.1 HP10.out).1).trans HP10.out
      have HPC : Hid (∀ (j : Nat) (y : Bs), [B1.data.toList, [253], B2.data.toList, B3.data.toList, B4.data.toList, B5.data.toList, B6.data.toList, FS.data.toList][j]? = some y → w11.cell? ⟨PP, j, none⟩ = some (strV y)) := Lib.hid (by
        intro j y hj
        match j, hj with
        | 0, hj => cases hj; simp only [World.cell?, hp11]; rfl
        | 1, hj => cases hj; simp only [World.cell?, hp11]; rfl
        | 2, hj => cases hj; simp only [World.cell?, hp11]; rfl
        | 3, hj => cases hj; simp only [World.cell?, hp11]; rfl
        | 4, hj => cases hj; simp only [World.cell?, hp11]; rfl
        | 5, hj => cases hj; simp only [World.cell?, hp11]; rfl
        | 6, hj => cases hj; simp only [World.cell?, hp11]; rfl
        | 7, hj => cases hj; simp only [World.cell?, hp11]; rfl
        | j + 8, hj => simp at hj)
      obtain ⟨PL, hPL⟩ : ∃ PL, [B1.data.toList, [253], B2.data.toList, B3.data.toList, B4.data.toList, B5.data.toList, B6.data.toList, FS.data.toList] = PL := ⟨_, rfl⟩
      have HPLn : Hid (PL.length = 8) := Lib.hid (by rw [← hPL]; rfl)
      have HPLf : Hid (PL.flatten = headS T CC TL UN FR TG ++ foldS sn.data.toList) := Lib.hid (by
        rw [← hPL, ← HHD.out, HFS.out]
        simp)
      have HPLs : Hid (PL.flatten.length ≤ 300) := Lib.hid (by
        rw [HPLf.out, HFS.out, List.length_append, head_len, size_len]; omega)
      rw [hPL] at HPC
      clear hPL hSz hS0 hB11 hp11 hw11 CSG CM CPW
      trace "13"
      go_wp2_with fail
      go_loopg [18, 103] 9 (fun gas dv kv wr => ∃ (j : Nat) (D : ByteArray), dv = .string D ∧ kv = .int .i64 (j : Int) ∧ j ≤ 8 ∧ j + gas = 9 ∧ Hid (D.data.toList = (PL.take j).flatten) ∧ w11 = wr)
      case atStart => exact ⟨0, ⟨#[]⟩, rfl, rfl, by omega, by omega, Lib.hid (by simp), rfl⟩
      case round =>
        obtain ⟨j, D, rfl, rfl, hj, hjg, HD, rfl⟩ := hrel
        have HJ := Lib.hid hjg; clear hjg
        by_cases hj8 : j < 8
        · obtain ⟨y, hy⟩ : ∃ y, PL[j]? = some y := ⟨_, List.getElem?_eq_getElem (by have := HPLn.out; omega)⟩
          have hcy := HPC.out j y hy
          unfold strV at hcy
          obtain ⟨V, hV⟩ : ∃ V : ByteArray, (⟨y.toArray⟩ : ByteArray) = V := ⟨_, rfl⟩
          rw [hV] at hcy
          have e1 : (PL.take (j + 1)).flatten = (PL.take j).flatten ++ y := by
            obtain ⟨h1, h2⟩ := List.getElem?_eq_some_iff.1 hy
            rw [List.take_succ_eq_append_getElem h1, h2, List.flatten_append]; simp
          have HD2 : Hid ((D ++ V).data.toList = (PL.take (j + 1)).flatten) := Lib.hid (by
            rw [e1, ← HD.out, ← hV]
            simp only [ByteArray.data_append, Array.toList_append])
          have hsz : D.size + V.size ≤ 300 := by
            have h1 := congrArg List.length e1
            have h2 : (PL.take (j + 1)).flatten.length ≤ 300 := by
              have h3 : PL.flatten = (PL.take (j + 1)).flatten ++ (PL.drop (j + 1)).flatten := by rw [← List.flatten_append, List.take_append_drop]
              have h4 := HPLs.out
              rw [h3, List.length_append] at h4
              omega
            rw [List.length_append, ← HD.out, size_len, ← mk_size y, hV] at h1
            omega
          have n1 : ¬ 9223372036854775807 < D.size + V.size := by omega
          have zj : (0 : Int) ≤ (j : Int) := by omega
          have zj8 : (j : Int) < 8 := by omega
          clear hy hV e1
          trace "14"
          go_wp2_with fail
          have hjg := HJ.out
          go_roundg (gk - 1)
          case rel => exact ⟨j + 1, _, rfl, by go_num, by omega, by omega, HD2, rfl⟩
          case measure => omega
        · have hje : j = 8 := by omega
          subst hje
          have HDD : Hid (D.data.toList = headS T CC TL UN FR TG ++ foldS sn.data.toList) := Lib.hid (by
            rw [HD.out, show PL.take 8 = PL from List.take_of_length_le (by rw [HPLn.out]; exact Nat.le_refl _), HPLf.out])
          have hDs : D.size ≤ 300 := by rw [← size_len, HDD.out, ← HPLf.out]; exact HPLs.out
          have CB4 := Lib.hid (fun wx => rbytes_any 4 PW wx (by omega) (by decide))
          obtain ⟨D4, hD4⟩ : ∃ D4 : ByteArray, (⟨(bigS PW 4).toArray⟩ : ByteArray) = D4 := ⟨_, rfl⟩
          have hD4s : D4.size ≤ 4 := by rw [← hD4, mk_size, bigS_len]; exact Nat.le_refl _
          rw [hD4] at CB4
          have HFIN : Hid (RR = yesR h.o (D ++ D4) (TL : Int)) := Lib.hid (by
            have e1 : (⟨(sigD kf (M : Int) ke (S : Int) sn.data.toList h L (FR : Int) (UN : Int)).toArray⟩ : ByteArray) = D ++ D4 := by
              apply ba_ext
              rw [mk_data]
              unfold sigD
              simp only [Int.toNat_natCast]
              rw [HSH.out, HPW.out, ← HDD.out, ← hD4]
              simp only [ByteArray.data_append, Array.toList_append]
            rw [HRY.out, HTL.out, e1])
          have y0 : w11.cell? ⟨Y, 0, none⟩ = some (.string h.o) := by simp only [World.cell?, HY11.out]; rfl
          have y3 : w11.cell? ⟨Y, 3, none⟩ = some (.int .i64 (TL : Int)) := by rw [← HTL.out]; simp only [World.cell?, HY11.out]; rfl
          have n1 : ¬ 9223372036854775807 < D.size + D4.size := by omega
          clear hD4
          trace "15"
          go_upto_region 27 with fail
          refine heldG.regionG (fun w' => w'.cell? ⟨Y, 0, none⟩ = some (.string h.o) ∧ w'.cell? ⟨Y, 3, none⟩ = some (.int .i64 (TL : Int)) ∧ Below w11.heap.size w11 w') (fun i => i == 9 || i == 10) (by kernel_rfl) ?_
          have hS0 := k2 (W := w11) ⟨y0, y3, Below.refl _ _⟩ (Below.refl _ _).drew
          clear y0 y3
          refine isSet.takeD (i := 0) (d := 111) (v := .pointer (some ⟨Y, 0, none⟩)) rfl rfl (by kernel_rfl) (by kernel_rfl) (by kernel_rfl) (fun _ _ _ h => h) (by kernel_rfl) rfl (Or.inl ⟨by kernel_rfl, ?_⟩) hS0 ?_
          · intro wz hSw
            obtain ⟨s0, s1, s2⟩ := hSw
            go_simp
          try simp only [Act.put, List.setIfInBounds_toArray, List.set_cons_zero, List.set_cons_succ]
          refine isSet.takeD (i := 1) (d := 112) (v := .string h.o) rfl rfl (by kernel_rfl) (by kernel_rfl) (by kernel_rfl) (fun _ _ _ h => h) (by kernel_rfl) rfl (Or.inl ⟨by kernel_rfl, ?_⟩) hS0 ?_
          · intro wz hSw
            obtain ⟨s0, s1, s2⟩ := hSw
            go_simp
          try simp only [Act.put, List.setIfInBounds_toArray, List.set_cons_zero, List.set_cons_succ]
          refine isSet.takeD (i := 2) (d := 113) (v := .pointer (some ⟨Y, 3, none⟩)) rfl rfl (by kernel_rfl) (by kernel_rfl) (by kernel_rfl) (fun _ _ _ h => h) (by kernel_rfl) rfl (Or.inl ⟨by kernel_rfl, ?_⟩) hS0 ?_
          · intro wz hSw
            obtain ⟨s0, s1, s2⟩ := hSw
            go_simp
          try simp only [Act.put, List.setIfInBounds_toArray, List.set_cons_zero, List.set_cons_succ]
          refine isSet.takeD (i := 3) (d := 114) (v := .int .i64 (TL : Int)) rfl rfl (by kernel_rfl) (by kernel_rfl) (by kernel_rfl) (fun _ _ _ h => h) (by kernel_rfl) rfl (Or.inl ⟨by kernel_rfl, ?_⟩) hS0 ?_
          · intro wz hSw
            obtain ⟨s0, s1, s2⟩ := hSw
            go_simp
          try simp only [Act.put, List.setIfInBounds_toArray, List.set_cons_zero, List.set_cons_succ]
          refine isSet.takeD (i := 4) (d := 115) (v := .string D) rfl rfl (by kernel_rfl) (by kernel_rfl) (by kernel_rfl) (fun _ _ _ h => h) (by kernel_rfl) rfl (Or.inl ⟨by kernel_rfl, ?_⟩) hS0 ?_
          · intro wz hSw
            obtain ⟨s0, s1, s2⟩ := hSw
            go_simp
          try simp only [Act.put, List.setIfInBounds_toArray, List.set_cons_zero, List.set_cons_succ]
          refine isSet.takeD (i := 5) (d := 116) (v := .int .i64 (PW : Int)) rfl rfl (by kernel_rfl) (by kernel_rfl) (by kernel_rfl) (fun _ _ _ h => h) (by kernel_rfl) rfl (Or.inl ⟨by kernel_rfl, ?_⟩) hS0 ?_
          · intro wz hSw
            obtain ⟨s0, s1, s2⟩ := hSw
            go_simp
          try simp only [Act.put, List.setIfInBounds_toArray, List.set_cons_zero, List.set_cons_succ]
          refine heldG.readyG (rs := [6]) (by kernel_rfl) (by simp) ?_
          refine heldG.AllG.cons rfl (fun KK hKK => ?_) heldG.AllG.nil
          go_simp
          refine (CB4.out _).mono ?_
          rintro en w14 ⟨rfl, hBz⟩
          have hS1 := k2 hS0 hBz
          dsimp only
          refine hKK.out _ _ (fun _ => hS1) ?_; clear hKK KK hBz
          try simp only [Act.put, List.setIfInBounds_toArray, List.set_cons_zero, List.set_cons_succ]
          refine isSet.takeD (i := 7) (d := 118) (v := .string (D ++ D4)) rfl rfl (by kernel_rfl) (by kernel_rfl) (by kernel_rfl) (fun _ _ _ h => h) (by kernel_rfl) rfl (Or.inl ⟨by kernel_rfl, ?_⟩) hS1 ?_
          · intro wz hSw
            obtain ⟨s0, s1, s2⟩ := hSw
            go_simp
          try simp only [Act.put, List.setIfInBounds_toArray, List.set_cons_zero, List.set_cons_succ]
          refine isSet.takeD (i := 8) (d := 119) (v := .agg #[.string h.o, .int .i64 46, .int .i64 1, .int .i64 (TL : Int), .string (D ++ D4)]) rfl rfl (by kernel_rfl) (by kernel_rfl) (by kernel_rfl) (fun _ _ _ h => h) (by kernel_rfl) rfl (Or.inl ⟨by kernel_rfl, ?_⟩) hS1 ?_
          · intro wz hSw
            obtain ⟨s0, s1, s2⟩ := hSw
            go_simp
          try simp only [Act.put, List.setIfInBounds_toArray, List.set_cons_zero, List.set_cons_succ]
          have HBX14 := Lib.hid (HBX11.out.step hS1.2.2)
          have HB14 := Lib.hid (HB11.out.trans (hS1.2.2.mono HB11.out.size))
          obtain ⟨z0, z1, z2, z3, z4, f0, f1, f2, f3, f4⟩ := HBX14.out.ans
          clear hS0 hS1
          trace "16"
          refine heldG.readyG (rs := [9]) (by kernel_rfl) (by simp) ?_
          refine heldG.AllG.cons rfl (fun KK hKK => ?_) heldG.AllG.nil
          go_simp
          refine hKK.out _ _ (fun h => by cases h) ?_; clear hKK KK
          try simp only [Act.put, List.setIfInBounds_toArray, List.set_cons_zero, List.set_cons_succ]
          refine heldG.readyG (rs := [10]) (by kernel_rfl) (by simp) ?_
          refine heldG.AllG.cons rfl (fun KK hKK => ?_) heldG.AllG.nil
          go_simp
          refine hKK.out _ _ (fun h => by cases h) ?_; clear hKK KK
          try simp only [Act.put, List.setIfInBounds_toArray, List.set_cons_zero, List.set_cons_succ]
          refine heldG.doneG (by kernel_rfl) ?_ _
          trace "17"
          go_wp2_with fail
          have hOV := over_cells (w := w14) (Y := X + 1) HBX14.out.r (.string h.o) (.int .i64 46) (.int .i64 1) (.int .i64 (TL : Int)) (.string (D ++ D4))
          have hOB := over_below (w := w14) (Y := X + 1) (B := w.heap.size) (by rw [HX.out]; omega) (.string h.o) (.int .i64 46) (.int .i64 1) (.int .i64 (TL : Int)) (.string (D ++ D4))
          obtain ⟨wf, hwf⟩ : ∃ wf, over w14 (X + 1) (.string h.o) (.int .i64 46) (.int .i64 1) (.int .i64 (TL : Int)) (.string (D ++ D4)) = wf := ⟨_, rfl⟩
          have hwf' := hwf
          unfold over at hwf'
          rw [hwf']
          rw [hwf] at hOV hOB
          obtain ⟨q0, q1, q2, q3, q4⟩ := hOV
          clear hwf hwf'
          refine bodyPost_ret (v := .tuple #[.agg #[.string h.o, .int .i64 46, .int .i64 1, .int .i64 (TL : Int), .string (D ++ D4)], .int .i64 0]) (by simp [results, Tryz.results15, go_sem, q0, q1, q2, q3, q4]) rfl ⟨by rw [HFIN.out]; rfl, HB14.out.trans hOB⟩
end Go.Proofs.YtflijhodlimjoaaGreat.signSet
namespace Go.Proofs.YtflijhodlimjoaaGreat.same
open Go.RowKit Go.Proofs.YtflijhodlimjoaaGreat.kit Go.Proofs.YtflijhodlimjoaaGreat.timed Go.Proofs.YtflijhodlimjoaaGreat.nspec Go.Proofs.YtflijhodlimjoaaGreat.coded Go.Proofs.YtflijhodlimjoaaGreat.wireP Go.Proofs.YtflijhodlimjoaaGreat.wireM Go.Proofs.YtflijhodlimjoaaGreat.rows
set_option linter.unusedVariables false

def spareR : Rc := ⟨⟨#[115, 112, 97, 114, 101]⟩, -77, -77, -77, ⟨#[115, 112, 97, 114, 101]⟩⟩
set_option maxRecDepth 100000 in
theorem spare_any (w : World) : Calls Tryz.prog 24 #[] w fun e w' => e = .returned (.agg #[.string ⟨#[115, 112, 97, 114, 101]⟩, .int .i64 (-77), .int .i64 (-77), .int .i64 (-77), .string ⟨#[115, 112, 97, 114, 101]⟩]) ∧ Below w.heap.size w w' := by
  go_enter Tryz.func24, Tryz.ntmps24
  go_wp2_with fail
  refine bodyPost_ret (v := .agg #[.string ⟨#[115, 112, 97, 114, 101]⟩, .int .i64 (-77), .int .i64 (-77), .int .i64 (-77), .string ⟨#[115, 112, 97, 114, 101]⟩]) (by simp [results, Tryz.results24, go_sem]) rfl ⟨rfl, ?_⟩
  exact (Below.refl _ _).alloc (Nat.le_refl _) _

set_option maxRecDepth 100000 in
set_option maxHeartbeats 2000000 in
theorem records_same (a b : Option Addr) (n c d : Nat) (L : List Rc) (w : World) (hn : n = L.length) (hx : RdC w a 5 (L.map Rc.cells)) (hy : RdC w b 5 (L.map Rc.cells)) (hl : n ≤ 1099511627776) :
    Calls Tryz.prog 48 #[.slice a n c, .slice b n d] w fun e w' => e = .returned (.bool true) ∧ Below w.heap.size w w' := by
  have HN := Lib.hid hn; have HX := Lib.hid hx; have HY := Lib.hid hy
  clear hn hx hy
  go_enter Tryz.func48, Tryz.ntmps48
  go_wp2
  go_loopg [5, 13] (n + 1) (fun gas _ kv wr => ∃ (k : Nat), kv = .int .i64 k ∧ k ≤ n ∧ k + gas = n + 1 ∧ Hid (Below w.heap.size w wr))
  case atStart => exact ⟨0, rfl, by omega, by omega, Lib.hid (Below.refl _ _)⟩
  case round =>
    obtain ⟨k, rfl, hk, hkg, hB⟩ := hrel
    have HK := Lib.hid hkg; clear hkg
    by_cases hlt : k < n
    · obtain ⟨x, hp⟩ : ∃ x, L[k]? = some x := ⟨_, List.getElem?_eq_getElem (by have := HN.out; omega)⟩
      obtain ⟨g1, o1, rfl, hg1, hcl1⟩ := at_r HX.out hp
      obtain ⟨g2, o2, rfl, hg2, hcl2⟩ := at_r HY.out hp
      obtain ⟨x0, x1, x2, x3, x4⟩ := hcl1.below hB.out hg1
      obtain ⟨y0, y1, y2, y3, y4⟩ := hcl2.below hB.out hg2
      clear hp hcl1 hcl2
      have zk : (0 : Int) ≤ (k : Int) := by omega
      have zl : (k : Int) < (n : Int) := by omega
      go_wp2_with fail
      go_quiet (fail)
      have hBn : Hid (Below w.heap.size w (wr.drewN nq)) := Lib.hid (bel_drewN hB.out nq)
      go_wp2
      have hkg := HK.out
      go_roundg (gk - 1)
      case rel => exact ⟨k + 1, by go_num, by omega, by omega, hBn⟩
      case measure => omega
    · go_wp2_with fail
      go_ret
      exact ⟨rfl, hB.out⟩
theorem flat_snoc2 (L : List Rc) : L.flatMap Rc.cells ++ (spareR.cells ++ spareR.cells) = (L ++ [spareR, spareR]).flatMap Rc.cells := by simp
/-- a part of the rows -/
theorem rdc_part {w : World} {a : Option Addr} {n : Nat} {L M : List (List Value)} (h : RdC w a n (L ++ M)) : RdC w a n L := by
  intro j x hx
  exact h j x (by rw [List.getElem?_append_left (List.getElem?_eq_some_iff.1 hx).1]; exact hx)
set_option maxRecDepth 100000 in
set_option maxHeartbeats 4000000 in
theorem twin_any (a : Option Addr) (n c : Nat) (L : List Rc) (w : World) (hn : n = L.length) (hr : RdC w a 5 (L.map Rc.cells)) (ha : a = none → L.length = 0 ∧ c = 0) (hl : n ≤ 1099511627776) :
    Calls Tryz.prog 8 #[.slice a n c] w fun e w' => ∃ g cap, e = .returned (.slice (some ⟨g, 0, none⟩) n cap) ∧ n + 2 ≤ cap ∧ cap ≤ maxLen ∧ w'.ownsRow w.heap.size 34 5 (.slice (some ⟨g, 0, none⟩) (n + 2) cap) (n + 2) ((L ++ [spareR, spareR]).flatMap Rc.cells) ∧ Below w.heap.size w w' := by
  obtain ⟨i0, hi, hz0, hz1, hz2⟩ := info_parts infoRec
  have S1 := Lib.hid (cells_rd Rc.cells 5 (by decide) (fun _ => rfl) hr c ha)
  rw [← hn] at S1
  have HN := Lib.hid hn
  clear hr ha hn
  go_enter Tryz.func8, Tryz.ntmps8
  go_wp2_with (at_builtin; refine wpList_append_src rfl (.const (.slice none 0 0)) (.tmp 4) 22 rfl w.heap.size 34 i0 _ 5 56 Tryz.underlying22 hi hz0 hz1 hz2 rfl (by decide) _ 0 [] rfl (World.ownsRow_nil _ _ _ _) a n c (L.flatMap Rc.cells) rfl (by rw [flat_len Rc.cells 5 (fun _ => rfl), HN.out]) S1.out (one_cells rec_one) (by unfold maxLen; omega) (by omega) (Nat.le_refl _) ?_)
  intro v1 w1 hown1 hgr1
  have hB1 : Below w.heap.size w w1 := below_append' (Below.refl _ _) (Nat.le_refl _) (World.ownsRow_nil _ w.heap.size 34 5) hgr1
  have HOW1 : Hid (w1.ownsRow w.heap.size 34 5 v1 n (L.flatMap Rc.cells)) := Lib.hid (by first | exact hown1 | simpa using hown1)
  have HB1 := Lib.hid hB1
  clear hown1 hgr1 hB1
  go_wp2_with fail
  refine (spare_any _).mono ?_
  rintro e w2 ⟨rfl, hB2⟩
  go_wp2_with fail
  refine (spare_any _).mono ?_
  rintro e w3 ⟨rfl, hB3⟩
  have HB3 := Lib.hid (hB2.trans (hB3.mono hB2.size))
  have HOW3 : Hid (w3.ownsRow w.heap.size 34 5 v1 n (L.flatMap Rc.cells)) := Lib.hid (own_keptG HOW1.out (fun k cu hk => (HB3.out.block k (Array.getElem?_eq_some_iff.1 hk).1).trans hk))
  have HB1' := Lib.hid (HB1.out.trans (HB3.out.mono HB1.out.size))
  clear hB2 hB3
  have hz3 : w.heap.size ≤ w3.heap.size := HB1'.out.size
  go_wp2_with (at_builtin; refine wpList_append_own _ rfl _ _ 22 rfl w.heap.size 34 i0 _ 5 56 Tryz.underlying22 hi hz0 hz1 hz2 rfl (by decide) _ n (L.flatMap Rc.cells) rfl (HOW3.out.alloc _) ⟨w3.heap.size, 0, none⟩ 2 2 (spareR.cells ++ spareR.cells) rfl rfl ?c1 ?c2 ?c3 ?c4 ?c5 ?_)
  case c1 => exact World.news_of_block (heap_alloc_new _ _)
  case c2 => intro u hu; rcases List.mem_append.1 hu with h | h <;> exact rec_one _ _ h
  case c3 => unfold maxLen; omega
  case c4 => omega
  case c5 => simp; omega
  intro v4 w4 hown4 hgr4 _
  have hB4 : Below w.heap.size w w4 := ((HB1'.out.alloc hz3 _).grown hgr4 (by simp; omega) (fun k hk => (HOW3.out.lt k hk).1))
  rw [flat_snoc2] at hown4
  obtain ⟨g, cap, rfl, hg1, hg2, _, _, cur, hgh⟩ := rows.own_at hown4 (by omega)
  have hcap : n + 2 ≤ cap ∧ cap ≤ maxLen := by
    rcases hown4.2 with ⟨h0, _⟩ | ⟨g', cap', cur', hv, _, _, h1, h2, _⟩
    · cases h0
    · cases hv; exact ⟨h1, h2⟩
  have HOW4 := Lib.hid hown4; have HB4 := Lib.hid hB4; have HCAP := Lib.hid hcap
  have hcn : (n : Int) ≤ (cap : Int) := by omega
  have hcm : (cap : Int) ≤ 9223372036854775807 := by have := hcap.2; unfold maxLen at this; omega
  clear hown4 hgr4 hB4 hcap hgh
  go_wp2_with fail
  go_ret
  exact ⟨g, cap, rfl, HCAP.out.1, HCAP.out.2, HOW4.out, HB4.out⟩
end Go.Proofs.YtflijhodlimjoaaGreat.same
namespace Go.Proofs.YtflijhodlimjoaaGreat.wholeR
open Go.RowKit Go.Proofs.YtflijhodlimjoaaGreat.kit Go.Proofs.YtflijhodlimjoaaGreat.timed Go.Proofs.YtflijhodlimjoaaGreat.nspec Go.Proofs.YtflijhodlimjoaaGreat.wireP Go.Proofs.YtflijhodlimjoaaGreat.wireM Go.Proofs.YtflijhodlimjoaaGreat.rows Go.Proofs.YtflijhodlimjoaaGreat.same
set_option linter.unusedVariables false

/-- a list of one's own with two behind its end -/
def TwR (w : World) (base : Nat) (a : Option Addr) (c : Nat) (L : List Rc) : Prop :=
  L.length + 2 ≤ c ∧ c ≤ maxLen ∧ (∃ g, a = some ⟨g, 0, none⟩) ∧ w.ownsRow base 34 5 (.slice a (L.length + 2) c) (L.length + 2) ((L ++ [spareR, spareR]).flatMap Rc.cells)
theorem TwR.move {w w1 : World} {base : Nat} {a : Option Addr} {c : Nat} {L : List Rc} (h : TwR w base a c L) (hk : ∀ (k : Nat) (cur : Array Value), w.heap[k]? = some (Obj.cells cur 34 (0, 0)) → w1.heap[k]? = some (Obj.cells cur 34 (0, 0))) : TwR w1 base a c L :=
  ⟨h.1, h.2.1, h.2.2.1, own_keptG h.2.2.2 hk⟩
theorem TwR.below {w w1 : World} {base : Nat} {a : Option Addr} {c : Nat} {L : List Rc} (h : TwR w base a c L) (hB : Below w.heap.size w w1) : TwR w1 base a c L :=
  h.move (fun k cur hk => (hB.block k (Array.getElem?_eq_some_iff.1 hk).1).trans hk)
theorem TwR.rd {w : World} {base : Nat} {a : Option Addr} {c : Nat} {L : List Rc} (h : TwR w base a c L) : RdC w a 5 (L.map Rc.cells) := by
  obtain ⟨a', c', e, _, _, _, h2⟩ := rdc_own Rc.cells 5 (fun _ => rfl) (by simp) h.2.2.2
  cases e
  rw [List.map_append] at h2
  exact rdc_part h2
theorem own_baseG {w : World} {b base : Nat} {e : TypeId} {size : Nat} {v : Value} {n : Nat} {xs : List Value} (hb : b ≤ base) (h : w.ownsRow base e size v n xs) : w.ownsRow b e size v n xs := by
  refine ⟨h.1, ?_⟩
  rcases h.2 with h1 | ⟨g, cap, cur, h1, h2, h3, h4⟩
  · exact .inl h1
  · exact .inr ⟨g, cap, cur, h1, by omega, h3, h4⟩
theorem twin_at (w0 : World) (a : Option Addr) (c : Nat) (L : List Rc) (hr : RdC w0 a 5 (L.map Rc.cells)) (ha : a = none → L.length = 0 ∧ c = 0) (hl : L.length ≤ 1099511627776) (w : World) (hB : Below w0.heap.size w0 w) :
    Calls Tryz.prog 8 #[.slice a L.length c] w fun e w' => ∃ g cap, e = .returned (.slice (some ⟨g, 0, none⟩) L.length cap) ∧ TwR w' w0.heap.size (some ⟨g, 0, none⟩) cap L ∧ Below w.heap.size w w' :=
  (twin_any a L.length c L w rfl (hr.below hB rfl) ha hl).mono fun e w' ⟨g, cap, h1, h2, h3, h4, h5⟩ => ⟨g, cap, h1, ⟨h2, h3, ⟨g, rfl⟩, own_baseG hB.size h4⟩, h5⟩
def Ten (w : World) (g n m : Nat) (S : ByteArray) : Prop :=
  w.cell? ⟨g, n * 5, none⟩ = some (.string S) ∧ w.cell? ⟨g, n * 5 + 1, none⟩ = some (.int .i64 (-77)) ∧ w.cell? ⟨g, n * 5 + 2, none⟩ = some (.int .i64 (-77)) ∧ w.cell? ⟨g, n * 5 + 3, none⟩ = some (.int .i64 (-77)) ∧ w.cell? ⟨g, n * 5 + 4, none⟩ = some (.string S) ∧
  w.cell? ⟨g, m * 5, none⟩ = some (.string S) ∧ w.cell? ⟨g, m * 5 + 1, none⟩ = some (.int .i64 (-77)) ∧ w.cell? ⟨g, m * 5 + 2, none⟩ = some (.int .i64 (-77)) ∧ w.cell? ⟨g, m * 5 + 3, none⟩ = some (.int .i64 (-77)) ∧ w.cell? ⟨g, m * 5 + 4, none⟩ = some (.string S)
theorem ten_of {w : World} {g n cap : Nat} {base : Nat} {L : List Rc} (hn : L.length = n) (h : w.ownsRow base 34 5 (.slice (some ⟨g, 0, none⟩) (n + 2) cap) (n + 2) ((L ++ [spareR, spareR]).flatMap Rc.cells)) : Ten w g n (n + 1) ⟨#[115, 112, 97, 114, 101]⟩ := by
  have hc : ∀ (k i : Nat) (u : Value), (L ++ [spareR, spareR])[k]? = some spareR → spareR.cells[i]? = some u → w.cell? ⟨g, k * 5 + i, none⟩ = some u := by
    intro k i u hk hi
    have h1 := h.cells (g := g) rfl (k * 5 + i) u (flat_at Rc.cells 5 (fun _ => rfl) _ k spareR i u hk hi)
    rw [addr_at, Nat.zero_add] at h1; exact h1
  have e1 : (L ++ [spareR, spareR])[n]? = some spareR := by rw [List.getElem?_append_right (by omega), hn, Nat.sub_self]; rfl
  have e2 : (L ++ [spareR, spareR])[n + 1]? = some spareR := by rw [List.getElem?_append_right (by omega), hn, Nat.add_sub_cancel_left]; rfl
  exact ⟨hc n 0 _ e1 rfl, hc n 1 _ e1 rfl, hc n 2 _ e1 rfl, hc n 3 _ e1 rfl, hc n 4 _ e1 rfl, hc (n + 1) 0 _ e2 rfl, hc (n + 1) 1 _ e2 rfl, hc (n + 1) 2 _ e2 rfl, hc (n + 1) 3 _ e2 rfl, hc (n + 1) 4 _ e2 rfl⟩
theorem Ten.below {w w' : World} {g n m : Nat} {S : ByteArray} (h : Ten w g n m S) (hg : g < w.heap.size) (hB : Below w.heap.size w w') : Ten w' g n m S := by
  have hc : ∀ j, w'.cell? ⟨g, j, none⟩ = w.cell? ⟨g, j, none⟩ := fun j => hB.cell (p := ⟨g, j, none⟩) hg
  obtain ⟨h0, h1, h2, h3, h4, h5, h6, h7, h8, h9⟩ := h
  exact ⟨(hc _).trans h0, (hc _).trans h1, (hc _).trans h2, (hc _).trans h3, (hc _).trans h4, (hc _).trans h5, (hc _).trans h6, (hc _).trans h7, (hc _).trans h8, (hc _).trans h9⟩
theorem ten_keep {w w' : World} {g n m : Nat} {S : ByteArray} (h : Ten w g n m S) (hg : g < w.heap.size) (hB : Below w.heap.size w w') :
    w'.cell? ⟨g, n * 5, none⟩ = some (.string S) ∧ w'.cell? ⟨g, n * 5 + 1, none⟩ = some (.int .i64 (-77)) ∧ w'.cell? ⟨g, n * 5 + 2, none⟩ = some (.int .i64 (-77)) ∧ w'.cell? ⟨g, n * 5 + 3, none⟩ = some (.int .i64 (-77)) ∧ w'.cell? ⟨g, n * 5 + 4, none⟩ = some (.string S) ∧
    w'.cell? ⟨g, m * 5, none⟩ = some (.string S) ∧ w'.cell? ⟨g, m * 5 + 1, none⟩ = some (.int .i64 (-77)) ∧ w'.cell? ⟨g, m * 5 + 2, none⟩ = some (.int .i64 (-77)) ∧ w'.cell? ⟨g, m * 5 + 3, none⟩ = some (.int .i64 (-77)) ∧ w'.cell? ⟨g, m * 5 + 4, none⟩ = some (.string S) ∧ Below w.heap.size w w' := by
  obtain ⟨h0, h1, h2, h3, h4, h5, h6, h7, h8, h9⟩ := h.below hg hB
  exact ⟨h0, h1, h2, h3, h4, h5, h6, h7, h8, h9, hB⟩

set_option maxRecDepth 100000 in
set_option maxHeartbeats 8000000 in
theorem whole_any (a b : Option Addr) (c d base : Nat) (L : List Rc) (w : World) (h : TwR w base a c L) (hy : RdC w b 5 (L.map Rc.cells)) (hl : L.length ≤ 1099511627776) :
    Calls Tryz.prog 13 #[.slice a L.length c, .slice b L.length d] w fun e w' => e = .returned (.bool true) ∧ Below w.heap.size w w' := by
  have hrd := h.rd
  obtain ⟨hc1, hc2, ⟨g, rfl⟩, how⟩ := h
  have CR := Lib.hid (fun (wx : World) (hB : Below w.heap.size w wx) => records_same (some ⟨g, 0, none⟩) b L.length c d L wx rfl (hrd.below hB rfl) (hy.below hB rfl) hl)
  obtain ⟨g', cap', hv, hg1, hg2, _⟩ := own_at how (by omega)
  cases hv
  have HT0 := Lib.hid (ten_of rfl how)
  have CS := Lib.hid (fun w => spare_any w)
  obtain ⟨S, hS⟩ : ∃ S : ByteArray, (⟨#[115, 112, 97, 114, 101]⟩ : ByteArray) = S := ⟨_, rfl⟩
  rw [hS] at HT0 CS
  obtain ⟨n, hn⟩ : ∃ n, L.length = n := ⟨_, rfl⟩
  rw [hn] at CR HT0 hc1 hl ⊢
  obtain ⟨N1, hN1⟩ : ∃ N1, n + 1 = N1 := ⟨_, rfl⟩
  rw [hN1] at HT0
  have hcm : (c : Int) ≤ 9223372036854775807 := by unfold maxLen at hc2; omega
  have hnc : (n : Int) + 2 ≤ (c : Int) := by omega
  clear hrd hy how hS hn
  go_enter Tryz.func13, Tryz.ntmps13
  go_wp2_with fail
  obtain ⟨N2, hN2⟩ : ∃ N2, n + 2 = N2 := ⟨_, rfl⟩
  rw [hN2]
  have i1 : (n : Int) < (N2 : Int) := by omega
  have i2 : (N1 : Int) < (N2 : Int) := by omega
  have hN2b : N2 ≤ 1099511627800 := by omega
  have hv4 : IntKind.i64.wrap (N1 : Int) = (N1 : Int) := IntWalk.i64_in _ (by omega)
  have hv5 : IntKind.i64.wrap (n : Int) = (n : Int) := IntWalk.i64_in _ (by omega)
  have hv3 : IntKind.i64.wrap ((n : Int) + 1) = (N1 : Int) := by rw [IntWalk.i64_in _ (by omega)]; omega
  clear hN1 hN2
  have z1 : (0 : Int) ≤ (N1 : Int) := Int.natCast_nonneg _
  have z2 : (0 : Int) ≤ (n : Int) := Int.natCast_nonneg _
  have hBd : Below w.heap.size w w.drew := (Below.refl _ _).drew
  have hS0 := ten_keep HT0.out hg2 hBd
  go_region_held3 (fun w' => w'.cell? ⟨g, n * 5, none⟩ = some (.string S) ∧ w'.cell? ⟨g, n * 5 + 1, none⟩ = some (.int .i64 (-77)) ∧ w'.cell? ⟨g, n * 5 + 2, none⟩ = some (.int .i64 (-77)) ∧ w'.cell? ⟨g, n * 5 + 3, none⟩ = some (.int .i64 (-77)) ∧ w'.cell? ⟨g, n * 5 + 4, none⟩ = some (.string S) ∧
    w'.cell? ⟨g, N1 * 5, none⟩ = some (.string S) ∧ w'.cell? ⟨g, N1 * 5 + 1, none⟩ = some (.int .i64 (-77)) ∧ w'.cell? ⟨g, N1 * 5 + 2, none⟩ = some (.int .i64 (-77)) ∧ w'.cell? ⟨g, N1 * 5 + 3, none⟩ = some (.int .i64 (-77)) ∧ w'.cell? ⟨g, N1 * 5 + 4, none⟩ = some (.string S) ∧ Below w.heap.size w w') (first | assumption | (refine ⟨?_, ?_, ?_, ?_, ?_, ?_, ?_, ?_, ?_, ?_, ?_⟩ <;> assumption))
    (first
      | (go_at_call 48; refine (CR.out _ (by assumption)).mono ?_; rintro e w' ⟨rfl, hBz⟩; have hBy := Below.trans (by assumption) (hBz.mono (Below.size (by assumption))); have hSz := ten_keep HT0.out hg2 hBy; clear hBz)
      | (go_at_call 24; refine (CS.out _).mono ?_; rintro e w' ⟨rfl, hBz⟩; have hBy := Below.trans (by assumption) (hBz.mono (Below.size (by assumption))); have hSz := ten_keep HT0.out hg2 hBy; clear hBz))
  all_goals (go_wp2_with fail; go_ret; exact ⟨rfl, by assumption⟩)

end Go.Proofs.YtflijhodlimjoaaGreat.wholeR
