/- seal.Verify: walk. -/
import Derived.Test.YtflijhodlimjoaaGreatQ33
import Derived.Test.YtflijhodlimjoaaGreatK26
import Derived.Test.YtflijhodlimjoaaGreatK29
import Derived.Test.YtflijhodlimjoaaGreatK30
import Derived.Test.YtflijhodlimjoaaGreatK6
import Derived.Test.YtflijhodlimjoaaGreatK20
import Derived.Test.YtflijhodlimjoaaGreatK31
import Derived.Test.YtflijhodlimjoaaGreatK32
import Derived.Deep.RegionHeld3
import Derived.Deep.DeepCutAuto
namespace Go.Proofs.YtflijhodlimjoaaGreat.verify
open Go.RowKit Go.Proofs.YtflijhodlimjoaaGreat.kit Go.Proofs.YtflijhodlimjoaaGreat.timed Go.Proofs.YtflijhodlimjoaaGreat.nspec Go.Proofs.YtflijhodlimjoaaGreat.rsplit Go.Proofs.YtflijhodlimjoaaGreat.refA Go.Proofs.YtflijhodlimjoaaGreat.refB Go.Proofs.YtflijhodlimjoaaGreat.check Go.Proofs.YtflijhodlimjoaaGreat.nameB Go.Proofs.YtflijhodlimjoaaGreat.wireP Go.Proofs.YtflijhodlimjoaaGreat.wireM Go.Proofs.YtflijhodlimjoaaGreat.rows Go.Proofs.YtflijhodlimjoaaGreat.sealA Go.Proofs.YtflijhodlimjoaaGreat.sealS Go.Proofs.YtflijhodlimjoaaGreat.sealP Go.Proofs.YtflijhodlimjoaaGreat.big Go.Proofs.YtflijhodlimjoaaGreat.val Go.Proofs.YtflijhodlimjoaaGreat.pub Go.Proofs.YtflijhodlimjoaaGreat.half Go.Proofs.YtflijhodlimjoaaGreat.tag Go.Proofs.YtflijhodlimjoaaGreat.signP Go.Proofs.YtflijhodlimjoaaGreat.keepN Go.Proofs.YtflijhodlimjoaaGreat.sortT Go.Proofs.YtflijhodlimjoaaGreat.lnP Go.Proofs.YtflijhodlimjoaaGreat.fld Go.Proofs.YtflijhodlimjoaaGreat.opens Go.Proofs.YtflijhodlimjoaaGreat.verP
set_option linter.unusedVariables false

theorem cells3 {w : World} {Y : Nat} {t : TypeId} {v0 v1 v2 : Value} (e : w.heap[Y]? = some (.cells #[v0, v1, v2] t)) :
    w.cell? ⟨Y, 0, none⟩ = some v0 ∧ w.cell? ⟨Y, 1, none⟩ = some v1 ∧ w.cell? ⟨Y, 2, none⟩ = some v2 ∧ w.frozen? ⟨Y, 0, none⟩ = false ∧ w.frozen? ⟨Y, 1, none⟩ = false ∧ w.frozen? ⟨Y, 2, none⟩ = false := by
  refine ⟨?_, ?_, ?_, ?_, ?_, ?_⟩
  · simp only [World.cell?, e]; rfl
  · simp only [World.cell?, e]; rfl
  · simp only [World.cell?, e]; rfl
  · simp [World.frozen?, e]
  · simp [World.frozen?, e]
  · simp [World.frozen?, e]
theorem over3_all {w : World} {Y Z : Nat} {t : TypeId} {a0 a1 a2 : Value} {o : Obj} (h : w.heap[Y]? = some (.cells #[a0, a1, a2] t)) (hz : w.heap[Z]? = some o) (hne : Y ≠ Z) (v0 v1 v2 : Value) : (partsN.over3 w Y v0 v1 v2).heap[Y]? = some (.cells #[v0, v1, v2] t) ∧ (partsN.over3 w Y v0 v1 v2).heap[Z]? = some o := by
  refine ⟨partsN.over3_heap h v0 v1 v2, ?_⟩
  unfold partsN.over3
  rw [Below.heap_setCell _ ⟨Y, 2, none⟩ _ Z (fun e => hne e.symm), Below.heap_setCell _ ⟨Y, 1, none⟩ _ Z (fun e => hne e.symm), Below.heap_setCell _ ⟨Y, 0, none⟩ _ Z (fun e => hne e.symm)]
  exact hz
/-- behind 's, x := parts(..), set[0]' -/
structure Fin4 (w : World) (Y Z : Nat) (HD P7 P8 : ByteArray) (h : Rc) (w' : World) : Prop where
  y : w'.heap[Y]? = some (.cells #[.string HD, .string P7, .string P8] 93)
  z : w'.heap[Z]? = some (.cells #[.string h.o, .int .i64 h.t, .int .i64 h.c, .int .i64 h.l, .string h.d] 34)
  bel : Below w.heap.size w w'
theorem fin4_of {w v v4 : World} {Y Z : Nat} {HD P7 P8 : ByteArray} {h : Rc} {a0 a1 a2 a3 a4 : Value} (hB : Below w.heap.size w v) (hob : Below w.heap.size v v4) (hy : v4.heap[Y]? = some (.cells #[.string HD, .string P7, .string P8] 93)) (hz : v4.heap[Z]? = some (.cells #[a0, a1, a2, a3, a4] 34)) (hne : Y ≠ Z) (hl : w.heap.size ≤ Z) :
    Fin4 w Y Z HD P7 P8 h (sign.over v4 Z (.string h.o) (.int .i64 h.t) (.int .i64 h.c) (.int .i64 h.l) (.string h.d)) := by
  refine ⟨?_, sign.over_heap hz _ _ _ _ _, (hB.trans hob).trans (sign.over_below hl _ _ _ _ _)⟩
  unfold sign.over
  rw [Below.heap_setCell _ ⟨Z, 4, none⟩ _ Y hne, Below.heap_setCell _ ⟨Z, 3, none⟩ _ Y hne, Below.heap_setCell _ ⟨Z, 2, none⟩ _ Y hne, Below.heap_setCell _ ⟨Z, 1, none⟩ _ Y hne, Below.heap_setCell _ ⟨Z, 0, none⟩ _ Y hne]
  exact hy
/-- the boxes: the signature's record, its parts, the set's first -/
structure Bv (X Y Z : Nat) (sg h : Rc) (HD P7 P8 : ByteArray) (w : World) : Prop where
  x : w.heap[X]? = some (.cells #[.string sg.o, .int .i64 sg.t, .int .i64 sg.c, .int .i64 sg.l, .string sg.d] 34)
  y : w.heap[Y]? = some (.cells #[.string HD, .string P7, .string P8] 93)
  z : w.heap[Z]? = some (.cells #[.string h.o, .int .i64 h.t, .int .i64 h.c, .int .i64 h.l, .string h.d] 34)
section
variable {X Y Z : Nat} {sg h : Rc} {HD P7 P8 : ByteArray} {w : World}
theorem Bv.step (h0 : Bv X Y Z sg h HD P7 P8 w) {w' : World} (hB : Below w.heap.size w w') : Bv X Y Z sg h HD P7 P8 w' :=
  ⟨(hB.block _ (Array.getElem?_eq_some_iff.1 h0.x).1).trans h0.x, (hB.block _ (Array.getElem?_eq_some_iff.1 h0.y).1).trans h0.y, (hB.block _ (Array.getElem?_eq_some_iff.1 h0.z).1).trans h0.z⟩
theorem Bv.sig (h0 : Bv X Y Z sg h HD P7 P8 w) : w.cell? ⟨Y, 0, none⟩ = some (.string HD) ∧ w.cell? ⟨Y, 1, none⟩ = some (.string P7) ∧ w.cell? ⟨Y, 2, none⟩ = some (.string P8) := by
  obtain ⟨a, b, c, _⟩ := cells3 h0.y
  exact ⟨a, b, c⟩
theorem Bv.fst (h0 : Bv X Y Z sg h HD P7 P8 w) : w.cell? ⟨Z, 0, none⟩ = some (.string h.o) ∧ w.cell? ⟨Z, 1, none⟩ = some (.int .i64 h.t) ∧ w.cell? ⟨Z, 2, none⟩ = some (.int .i64 h.c) ∧ w.cell? ⟨Z, 3, none⟩ = some (.int .i64 h.l) ∧ w.cell? ⟨Z, 4, none⟩ = some (.string h.d) := by
  obtain ⟨a, b, c, d, e, _⟩ := signSet.cells5 h0.z
  exact ⟨a, b, c, d, e⟩
theorem Bv.sgo (h0 : Bv X Y Z sg h HD P7 P8 w) : w.cell? ⟨X, 0, none⟩ = some (.string sg.o) := (signSet.cells5 h0.x).1
end
/-- what open tells -/
theorem open_form (d : Bs) : ∃ f m e s : Int, openR d = .returned (.tuple #[.agg #[.int .i64 f, .int .i64 m, .int .i64 e, .int .i64 s], .bool (isKeyB d)]) ∧ (isKeyB d = true → m = (kM d : Int) ∧ e = (kE d : Int)) := by
  by_cases h : d.length = 12
  · refine ⟨(kF d : Int), (kM d : Int), (kE d : Int), 1, ?_, fun _ => ⟨rfl, rfl⟩⟩
    unfold openR; rw [if_pos h]
  · refine ⟨0, 0, 0, 0, ?_, fun hk => ?_⟩
    · unfold openR; rw [if_neg h]
    · unfold isKeyB at hk
      simp only [Bool.and_eq_true, decide_eq_true_eq] at hk
      exact absurd hk.1 h
theorem keep6b {W w w' : World} {X g o0 o1 o2 o3 o4 o5 : Nat} {v0 v1 v2 v3 v4 v5 : Value} (h : w.cell? ⟨X, o0, none⟩ = some v0 ∧ w.cell? ⟨g, o1, none⟩ = some v1 ∧ w.cell? ⟨g, o2, none⟩ = some v2 ∧ w.cell? ⟨g, o3, none⟩ = some v3 ∧ w.cell? ⟨g, o4, none⟩ = some v4 ∧ w.cell? ⟨g, o5, none⟩ = some v5 ∧ Below W.heap.size W w) (hB : Below W.heap.size w w') (hX : X < W.heap.size) (hG : g < W.heap.size) :
    w'.cell? ⟨X, o0, none⟩ = some v0 ∧ w'.cell? ⟨g, o1, none⟩ = some v1 ∧ w'.cell? ⟨g, o2, none⟩ = some v2 ∧ w'.cell? ⟨g, o3, none⟩ = some v3 ∧ w'.cell? ⟨g, o4, none⟩ = some v4 ∧ w'.cell? ⟨g, o5, none⟩ = some v5 ∧ Below W.heap.size W w' := by
  obtain ⟨c0, c1, c2, c3, c4, c5, h9⟩ := h
  exact ⟨(hB.cell (p := ⟨X, o0, none⟩) hX).trans c0, (hB.cell (p := ⟨g, o1, none⟩) hG).trans c1, (hB.cell (p := ⟨g, o2, none⟩) hG).trans c2, (hB.cell (p := ⟨g, o3, none⟩) hG).trans c3, (hB.cell (p := ⟨g, o4, none⟩) hG).trans c4, (hB.cell (p := ⟨g, o5, none⟩) hG).trans c5, h9.trans hB⟩
theorem zon_no {sg : Rc} {b : Bool} (h : (isB sg.o && (decide (sg.c = 1) && (decide (0 ≤ sg.l) && (decide (sg.l ≤ 2147483647) && decide (checkS sg.t sg.d.data.toList = 0))))) = b) : zonB sg = b := h
set_option maxRecDepth 100000 in
set_option maxHeartbeats 16000000 in
theorem verify_any (a : Option Addr) (n c : Nat) (L : List Rc) (sg : Rc) (ow kd : ByteArray) (now : Int) (w : World) (hn : n = L.length) (hr : RdC w a 5 (L.map Rc.cells)) (ho : ∀ x ∈ L, OkR x) (hbig : n ≤ 16777216) (hbk : bulk (L.map foldX) ≤ 68719476736) (hsg : OkR sg) (how : ow.size ≤ 1099511627776) (hkd : kd.size ≤ 1099511627776) :
    Calls Tryz.prog 16 #[.slice a n c, .agg #[.string sg.o, .int .i64 sg.t, .int .i64 sg.c, .int .i64 sg.l, .string sg.d], .string ow, .string kd, .int .i64 now] w fun e w' => e = .returned (.int .i64 (VerC L sg ow.data.toList kd.data.toList now)) ∧ Below w.heap.size w w' := by
  obtain ⟨RR, hRR⟩ : ∃ RR, VerC L sg ow.data.toList kd.data.toList now = RR := ⟨_, rfl⟩
  rw [hRR]
  have HRR := Lib.hid hRR
  have HN := Lib.hid hn; have HRD := Lib.hid hr; have HO := Lib.hid ho; have HBK := Lib.hid hbk; have HSG := Lib.hid hsg
  have hb1 := (Below.refl w.heap.size w).alloc (Nat.le_refl _) (.cells #[.string sg.o, .int .i64 sg.t, .int .i64 sg.c, .int .i64 sg.l, .string sg.d] 34)
  have hk1 := heap_alloc_new w (.cells #[.string sg.o, .int .i64 sg.t, .int .i64 sg.c, .int .i64 sg.l, .string sg.d] 34)
  obtain ⟨X, hX⟩ : ∃ X, w.heap.size = X := ⟨_, rfl⟩
  obtain ⟨W, hW⟩ : ∃ W, w.alloc (.cells #[.string sg.o, .int .i64 sg.t, .int .i64 sg.c, .int .i64 sg.l, .string sg.d] 34) = W := ⟨_, rfl⟩
  rw [hW] at hb1 hk1
  rw [hX] at hk1
  have HX := Lib.hid hX; have HW := Lib.hid hW; have HB1 := Lib.hid hb1; have HK1 := Lib.hid hk1
  have CL := Lib.hid (lines.lines_any a n c L W hn (hr.below hb1 (by rw [hX])) ho hbig)
  have CK := Lib.hid (fun wx => check_any sg.o wx hsg.o)
  have CD := Lib.hid (fun wx => dcheck.dcheck_any 46 sg.d wx (Nat.le_trans hsg.d (by unfold maxLen; omega)))
  obtain ⟨ce, hce⟩ : ∃ ce, checkS 46 sg.d.data.toList = ce := ⟨_, rfl⟩
  rw [hce] at CD
  have HCE := Lib.hid hce
  rw [lines.chk_isB] at CK
  clear hRR hn hr ho hbk hb1 hk1 hX hW hce hsg
  go_enter Tryz.func16, Tryz.ntmps16
  trace "1"
  go_upto_region 1 with fail
  rw [HW.out]
  try rw [HX.out]
  go_wp2_with fail
  refine CL.out.mono ?_
  rintro e w2 ⟨v, rfl, hrow, hB2⟩
  have HB2 := Lib.hid (HB1.out.trans (hB2.mono HB1.out.size))
  have HK2 := Lib.hid ((hB2.block X (Array.getElem?_eq_some_iff.1 HK1.out).1).trans HK1.out)
  clear hB2 CL
  cases hs : setB L with
  | false =>
    have HR1 := Lib.hid (HRR.out.symm.trans (vc_set hs))
    clear hs hrow
    trace "no"
    go_wp2_with fail
    go_ret
    exact ⟨by rw [HR1.out]; rfl, HB2.out⟩
  | true =>
  have HS := Lib.hid hs
  have hrow := hrow hs
  have hnl := HN.out
  obtain ⟨h, h0⟩ : ∃ h, L[0]? = some h := by
    cases L with
    | nil => cases hs
    | cons x r => exact ⟨x, rfl⟩
  have H0 := Lib.hid h0
  have hpos : 0 < n := by rw [hnl]; exact (List.getElem?_eq_some_iff.1 h0).1
  rw [← hnl] at hrow
  have hlen : n = (sortedT (L.map foldX)).length := by rw [sortedT_len, List.length_map, hnl]
  obtain ⟨DS, hDS⟩ : ∃ DS, sortedT (L.map foldX) = DS := ⟨_, rfl⟩
  have HDS := Lib.hid hDS
  have HBD : Hid (bulk DS ≤ 68719476736) := Lib.hid (by
    have h1 := (fold_sorted (L.map foldX) [] List.Pairwise.nil).2
    rw [List.append_nil] at h1
    rw [← hDS, show bulk (sortedT (L.map foldX)) = bulk (L.map foldX) from bulk_perm h1]
    exact HBK.out)
  rw [hDS] at hrow hlen
  obtain ⟨a6, c6, hv6, _, _, _, hrd6⟩ := rdc_own lnC 1 (fun _ => rfl) hlen hrow
  subst hv6
  have HLEN := Lib.hid hlen; have HRD6 := Lib.hid hrd6
  obtain ⟨g1, o1, ha1, hg1, hcl⟩ := at_r HRD.out h0
  subst ha1
  rw [Nat.zero_mul, Nat.add_zero] at hcl
  have HCL := Lib.hid hcl; have HG1 := Lib.hid hg1
  have x0 : w2.cell? ⟨X, 0, none⟩ = some (.string sg.o) := by simp only [World.cell?, HK2.out]; rfl
  clear hs hrow hnl h0 hlen hrd6 hcl hg1 hDS
  obtain ⟨ck, hck⟩ : ∃ ck : Int, (if isB sg.o = true then (0 : Int) else 1) = ck := ⟨_, rfl⟩
  rw [hck] at CK
  have HCK := Lib.hid hck
  clear hck
  trace "2"
  go_wp2_with fail
  refine (CK.out _).mono ?_
  rintro e w3 ⟨rfl, hB3⟩
  have HB3 := Lib.hid (HB2.out.trans (hB3.mono HB2.out.size))
  have HB23 := Lib.hid hB3
  have HK3 := Lib.hid ((hB3.block X (Array.getElem?_eq_some_iff.1 HK2.out).1).trans HK2.out)
  have x1 : w3.cell? ⟨X, 1, none⟩ = some (.int .i64 sg.t) := by simp only [World.cell?, HK3.out]; rfl
  have x2 : w3.cell? ⟨X, 2, none⟩ = some (.int .i64 sg.c) := by simp only [World.cell?, HK3.out]; rfl
  have x3 : w3.cell? ⟨X, 3, none⟩ = some (.int .i64 sg.l) := by simp only [World.cell?, HK3.out]; rfl
  have x4 : w3.cell? ⟨X, 4, none⟩ = some (.string sg.d) := by simp only [World.cell?, HK3.out]; rfl
  clear hB3 x0 CK
  obtain ⟨st, hst⟩ : ∃ z, sg.t = z := ⟨_, rfl⟩
  obtain ⟨sc, hsc⟩ : ∃ z, sg.c = z := ⟨_, rfl⟩
  obtain ⟨sl, hsl⟩ : ∃ z, sg.l = z := ⟨_, rfl⟩
  rw [hst] at x1; rw [hsc] at x2; rw [hsl] at x3
  have HST := Lib.hid hst; have HSC := Lib.hid hsc; have HSL := Lib.hid hsl
  clear hst hsc hsl
  cases hib : isB sg.o with
  | false =>
    have HR1 := Lib.hid (HRR.out.symm.trans (vc_zon (zon_no (by rw [hib]; rfl))))
    have hck : ck = 1 := by rw [← HCK.out, hib]; rfl
    subst hck
    clear hib
    trace "no"
    go_wp2_with fail
    go_ret
    exact ⟨by rw [HR1.out]; rfl, HB3.out⟩
  | true =>
  have hck : ck = 0 := by rw [← HCK.out, hib]; rfl
  subst hck
  have HIB := Lib.hid hib
  clear hib
  by_cases h1 : ¬ st = 46
  · have e1 : (st != 46) = true := bne_iff_ne.2 h1
    have HR1 := Lib.hid (HRR.out.symm.trans (vc_type (by rw [HST.out]; exact h1)))
    trace "no"
    go_wp2_with fail
    go_ret
    exact ⟨by rw [HR1.out]; rfl, HB3.out⟩
  obtain rfl : st = 46 := by omega
  by_cases h2 : ¬ sc = 1
  · have e1 : (sc != 1) = true := bne_iff_ne.2 h2
    have HR1 := Lib.hid (HRR.out.symm.trans (vc_zon (zon_no (by rw [HSC.out, decide_eq_false h2]; simp))))
    trace "no"
    go_wp2_with fail
    go_ret
    exact ⟨by rw [HR1.out]; rfl, HB3.out⟩
  obtain rfl : sc = 1 := by omega
  by_cases h3 : sl < 0
  · have e1 : decide (sl < 0) = true := decide_eq_true h3
    have HR1 := Lib.hid (HRR.out.symm.trans (vc_zon (zon_no (by rw [HSL.out, decide_eq_false (show ¬ 0 ≤ sl by omega)]; simp))))
    trace "no"
    go_wp2_with fail
    go_ret
    exact ⟨by rw [HR1.out]; rfl, HB3.out⟩
  by_cases h4 : 2147483647 < sl
  · have e0 : decide (sl < 0) = false := decide_eq_false h3
    have e1 : decide (2147483647 < sl) = true := decide_eq_true h4
    have HR1 := Lib.hid (HRR.out.symm.trans (vc_zon (zon_no (by rw [HSL.out, decide_eq_false (show ¬ sl ≤ 2147483647 by omega)]; simp))))
    trace "no"
    go_wp2_with fail
    go_ret
    exact ⟨by rw [HR1.out]; rfl, HB3.out⟩
  have e0 : decide (sl < 0) = false := decide_eq_false h3
  have e1 : decide (2147483647 < sl) = false := decide_eq_false h4
  trace "3"
  go_wp2_with fail
  refine (CD.out _).mono ?_
  rintro e w4 ⟨rfl, hB4⟩
  have HB4 := Lib.hid (HB3.out.trans (hB4.mono HB3.out.size))
  have HB24 := Lib.hid (HB23.out.trans (hB4.mono HB23.out.size))
  have HK4 := Lib.hid ((hB4.block X (Array.getElem?_eq_some_iff.1 HK3.out).1).trans HK3.out)
  clear hB4 x1 x2 x3 x4 CD
  by_cases h5 : ¬ ce = 0
  · have e2 : (ce != 0) = true := bne_iff_ne.2 h5
    have HR1 := Lib.hid (HRR.out.symm.trans (vc_zon (zon_no (by rw [HST.out, HCE.out, decide_eq_false h5]; simp))))
    trace "no"
    go_wp2_with fail
    go_ret
    exact ⟨by rw [HR1.out]; rfl, HB4.out⟩
  obtain rfl : ce = 0 := by omega
  have HZ : Hid (zonB sg = true) := Lib.hid (zon_no (by rw [HIB.out, HSC.out, HSL.out, HST.out, HCE.out, decide_eq_true (show 0 ≤ sl by omega), decide_eq_true (show sl ≤ 2147483647 by omega)]; rfl))
  obtain ⟨p0, p1, p2, p3, p4, p5, p6, p7, p8, hg⟩ := sg_of HCE.out
  have HGS := Lib.hid hg
  have HVC := Lib.hid (HRR.out.symm.trans (vc_go HS.out HST.out HZ.out H0.out hg))
  obtain ⟨HD, hHD⟩ : ∃ B : ByteArray, (⟨(hdS p0 p1 p2 p3 p4 p5 p6).toArray⟩ : ByteArray) = B := ⟨_, rfl⟩
  obtain ⟨P7, hP7⟩ : ∃ B : ByteArray, (⟨p7.toArray⟩ : ByteArray) = B := ⟨_, rfl⟩
  obtain ⟨P8, hP8⟩ : ∃ B : ByteArray, (⟨p8.toArray⟩ : ByteArray) = B := ⟨_, rfl⟩
  have HHD : Hid (HD.data.toList = hdS p0 p1 p2 p3 p4 p5 p6) := Lib.hid (by rw [← hHD])
  have HP7 : Hid (P7.data.toList = p7) := Lib.hid (by rw [← hP7])
  have HP8 : Hid (P8.data.toList = p8) := Lib.hid (by rw [← hP8])
  have CP := Lib.hid (fun wx => partsN.parts_any sg.d HD P7 P8 p0 p1 p2 p3 p4 p5 p6 wx (by rw [HP7.out, HP8.out]; exact HGS.out) HHD.out)
  clear hg hHD hP7 hP8 h1 h2 h3 h4 h5 e0 e1
  trace "4"
  obtain ⟨r0, r1, r2, r3, r4⟩ := HCL.out.below HB4.out HG1.out
  have x4 : w4.cell? ⟨X, 4, none⟩ = some (.string sg.d) := by simp only [World.cell?, HK4.out]; rfl
  have ir : ∀ w : World, Sem.run Tryz.prog (Instr.indexAt 22 (.slice (some ⟨g1, o1, none⟩) n c) (.int .i64 0)) w = .ok (.pointer (some ⟨g1, o1, none⟩)) w := fun w => signed.idxR g1 o1 n c hpos w
  go_upto_region 4 with fail
  go_cut [13, 14] (fun s13 s14 wx => ∃ Y Z : Nat, s13 = .pointer (some ⟨Y, 0, none⟩) ∧ s14 = .pointer (some ⟨Z, 0, none⟩) ∧ Fin4 w4 Y Z HD P7 P8 h wx)
  case first =>
    refine heldG.regionG (fun w' => w'.cell? ⟨X, 4, none⟩ = some (.string sg.d) ∧ w'.cell? ⟨g1, o1, none⟩ = some (.string h.o) ∧ w'.cell? ⟨g1, o1 + 1, none⟩ = some (.int .i64 h.t) ∧ w'.cell? ⟨g1, o1 + 2, none⟩ = some (.int .i64 h.c) ∧ w'.cell? ⟨g1, o1 + 3, none⟩ = some (.int .i64 h.l) ∧ w'.cell? ⟨g1, o1 + 4, none⟩ = some (.string h.d) ∧ Below w4.heap.size w4 w') (fun i => i == 9) (by kernel_rfl) ?_
    have hXlt : X < w4.heap.size := World.block_lt_of_cell? w4 _ x4
    have hGlt : g1 < w4.heap.size := World.block_lt_of_cell? w4 _ r0
    have hS0 := k6 (W := w4) ⟨x4, r0, r1, r2, r3, r4, Below.refl _ _⟩ (Below.refl _ _).drew
    clear x4 r0 r1 r2 r3 r4
    obtain ⟨w5, hw5⟩ : ∃ w5, w4.drew = w5 := ⟨_, rfl⟩
    rw [hw5] at hS0 ⊢
    clear hw5
    refine isSet.takeD (i := 0) (d := 56) (v := .pointer (some ⟨X, 4, none⟩)) rfl rfl (by kernel_rfl) (by kernel_rfl) (by kernel_rfl) (fun _ _ _ h => h) (by kernel_rfl) rfl (Or.inl ⟨by kernel_rfl, ?_⟩) hS0 ?_
    · intro wz hSw
      obtain ⟨s0, s1, s2, s3, s4, s5, s6⟩ := hSw
      go_simp
    try simp only [Act.put, List.setIfInBounds_toArray, List.set_cons_zero, List.set_cons_succ]
    refine isSet.takeD (i := 1) (d := 57) (v := .string sg.d) rfl rfl (by kernel_rfl) (by kernel_rfl) (by kernel_rfl) (fun _ _ _ h => h) (by kernel_rfl) rfl (Or.inl ⟨by kernel_rfl, ?_⟩) hS0 ?_
    · intro wz hSw
      obtain ⟨s0, s1, s2, s3, s4, s5, s6⟩ := hSw
      go_simp
    try simp only [Act.put, List.setIfInBounds_toArray, List.set_cons_zero, List.set_cons_succ]
    refine isSet.takeD (i := 3) (d := 59) (v := .slice (some ⟨g1, o1, none⟩) n c) rfl rfl (by kernel_rfl) (by kernel_rfl) (by kernel_rfl) (fun _ _ _ h => h) (by kernel_rfl) rfl (Or.inl ⟨by kernel_rfl, ?_⟩) hS0 ?_
    · intro wz hSw
      obtain ⟨s0, s1, s2, s3, s4, s5, s6⟩ := hSw
      go_simp
    try simp only [Act.put, List.setIfInBounds_toArray, List.set_cons_zero, List.set_cons_succ]
    refine isSet.takeD (i := 4) (d := 60) (v := .pointer (some ⟨g1, o1, none⟩)) rfl rfl (by kernel_rfl) (by kernel_rfl) (by kernel_rfl) (fun _ _ _ h => h) (by kernel_rfl) rfl (Or.inl ⟨by kernel_rfl, ?_⟩) hS0 ?_
    · intro wz hSw
      obtain ⟨s0, s1, s2, s3, s4, s5, s6⟩ := hSw
      go_simp
    try simp only [Act.put, List.setIfInBounds_toArray, List.set_cons_zero, List.set_cons_succ]
    refine isSet.takeD (i := 5) (d := 61) (v := .agg #[.string h.o, .int .i64 h.t, .int .i64 h.c, .int .i64 h.l, .string h.d]) rfl rfl (by kernel_rfl) (by kernel_rfl) (by kernel_rfl) (fun _ _ _ h => h) (by kernel_rfl) rfl (Or.inl ⟨by kernel_rfl, ?_⟩) hS0 ?_
    · intro wz hSw
      obtain ⟨s0, s1, s2, s3, s4, s5, s6⟩ := hSw
      go_simp
    try simp only [Act.put, List.setIfInBounds_toArray, List.set_cons_zero, List.set_cons_succ]
    refine heldG.readyG (rs := [2, 6, 7]) (by kernel_rfl) (by simp) ?_
    refine (heldG.AllG.cons rfl (fun KK hKK => ?_) (heldG.AllG.cons rfl (fun KK hKK => ?_) (heldG.AllG.cons rfl (fun KK hKK => ?_) heldG.AllG.nil)))
    · go_simp
      refine (CP.out _).mono ?_
      rintro en v1 ⟨rfl, hBz⟩
      have hS1 := k6 hS0 hBz
      dsimp only
      refine hKK.out _ _ (fun _ => hS1) ?_; clear hKK KK
      try simp only [Act.put, List.setIfInBounds_toArray, List.set_cons_zero, List.set_cons_succ]
      clear hBz
      refine heldG.readyG (rs := [6, 7]) (by kernel_rfl) (by simp) ?_
      refine (heldG.AllG.cons rfl (fun KK hKK => ?_) (heldG.AllG.cons rfl (fun KK hKK => ?_) heldG.AllG.nil))
      · go_simp
        have hBz := (Below.refl v1.heap.size v1).alloc (Nat.le_refl _) (.cells #[.string ⟨#[]⟩, .string ⟨#[]⟩, .string ⟨#[]⟩] 93)
        have hnew := heap_alloc_new v1 (.cells #[.string ⟨#[]⟩, .string ⟨#[]⟩, .string ⟨#[]⟩] 93)
        have hS2 := k6 hS1 hBz
        refine hKK.out _ _ (fun _ => hS2) ?_; clear hKK KK
        try simp only [Act.put, List.setIfInBounds_toArray, List.set_cons_zero, List.set_cons_succ]
        obtain ⟨Y, hY⟩ : ∃ z, v1.heap.size = z := ⟨_, rfl⟩
        obtain ⟨v2, hvv⟩ : ∃ z, v1.alloc (.cells #[.string ⟨#[]⟩, .string ⟨#[]⟩, .string ⟨#[]⟩] 93) = z := ⟨_, rfl⟩
        rw [hvv] at hBz hS2 hnew ⊢
        rw [hY] at hnew ⊢
        have hY2 := hnew
        clear hBz hnew hvv
        refine heldG.readyG (rs := [7]) (by kernel_rfl) (by simp) ?_
        refine (heldG.AllG.cons rfl (fun KK hKK => ?_) heldG.AllG.nil)
        · go_simp
          have hBz := (Below.refl v2.heap.size v2).alloc (Nat.le_refl _) (.cells #[.string ⟨#[]⟩, .int .i64 0, .int .i64 0, .int .i64 0, .string ⟨#[]⟩] 34)
          have hnew := heap_alloc_new v2 (.cells #[.string ⟨#[]⟩, .int .i64 0, .int .i64 0, .int .i64 0, .string ⟨#[]⟩] 34)
          have hS3 := k6 hS2 hBz
          refine hKK.out _ _ (fun _ => hS3) ?_; clear hKK KK
          try simp only [Act.put, List.setIfInBounds_toArray, List.set_cons_zero, List.set_cons_succ]
          obtain ⟨Z, hZ⟩ : ∃ z, v2.heap.size = z := ⟨_, rfl⟩
          obtain ⟨v3, hvv⟩ : ∃ z, v2.alloc (.cells #[.string ⟨#[]⟩, .int .i64 0, .int .i64 0, .int .i64 0, .string ⟨#[]⟩] 34) = z := ⟨_, rfl⟩
          rw [hvv] at hBz hS3 hnew ⊢
          rw [hZ] at hnew ⊢
          have hY3 := (hBz.block Y (Array.getElem?_eq_some_iff.1 hY2).1).trans hY2
          have hZ3 := hnew
          clear hBz hnew hvv
          have hYZ : Y ≠ Z := by
            rintro rfl
            rw [hY3] at hZ3; injection hZ3 with e; injection e with _ e2 _; exact absurd e2 (by decide)
          obtain ⟨y0, y1, y2, fy0, fy1, fy2⟩ := cells3 hY3
          have hov := over3_all hY3 hZ3 hYZ (.string HD) (.string P7) (.string P8)
          have hob := partsN.over3_below (w := v3) (Y := Y) (B := w4.heap.size) (by have h1 := hS1.2.2.2.2.2.2.size; omega) (.string HD) (.string P7) (.string P8)
          have hS4 := keep6b hS3 hob hXlt hGlt
          refine heldG.readyG (rs := [8]) (by kernel_rfl) (by simp) ?_
          refine heldG.AllG.cons rfl (fun KK hKK => ?_) heldG.AllG.nil
          go_simp
          refine hKK.out _ _ (fun _ => hS4) ?_; clear hKK KK hS4
          try simp only [Act.put, List.setIfInBounds_toArray, List.set_cons_zero, List.set_cons_succ]
          obtain ⟨v4, hv4⟩ : ∃ z, partsN.over3 v3 Y (.string HD) (.string P7) (.string P8) = z := ⟨_, rfl⟩
          have hv4' := hv4
          unfold partsN.over3 at hv4'
          rw [hv4']
          rw [hv4] at hov hob
          clear hv4 hv4'
          obtain ⟨z0, z1, z2, z3, z4, fz0, fz1, fz2, fz3, fz4⟩ := signSet.cells5 hov.2
          refine heldG.readyG (rs := [9]) (by kernel_rfl) (by simp) ?_
          refine heldG.AllG.cons rfl (fun KK hKK => ?_) heldG.AllG.nil
          go_simp
          refine hKK.out _ _ (fun h => by cases h) ?_; clear hKK KK
          try simp only [Act.put, List.setIfInBounds_toArray, List.set_cons_zero, List.set_cons_succ]
          refine heldG.doneG (by kernel_rfl) ?_ _
          go_wp2_with fail
          go_meet
          exact ⟨Y, Z, rfl, rfl, fin4_of hS3.2.2.2.2.2.2 hob hov.1 hov.2 hYZ (by have h1 := hS2.2.2.2.2.2.2.size; omega)⟩
      · go_simp
        have hBz := (Below.refl v1.heap.size v1).alloc (Nat.le_refl _) (.cells #[.string ⟨#[]⟩, .int .i64 0, .int .i64 0, .int .i64 0, .string ⟨#[]⟩] 34)
        have hnew := heap_alloc_new v1 (.cells #[.string ⟨#[]⟩, .int .i64 0, .int .i64 0, .int .i64 0, .string ⟨#[]⟩] 34)
        have hS2 := k6 hS1 hBz
        refine hKK.out _ _ (fun _ => hS2) ?_; clear hKK KK
        try simp only [Act.put, List.setIfInBounds_toArray, List.set_cons_zero, List.set_cons_succ]
        obtain ⟨Z, hZ⟩ : ∃ z, v1.heap.size = z := ⟨_, rfl⟩
        obtain ⟨v2, hvv⟩ : ∃ z, v1.alloc (.cells #[.string ⟨#[]⟩, .int .i64 0, .int .i64 0, .int .i64 0, .string ⟨#[]⟩] 34) = z := ⟨_, rfl⟩
        rw [hvv] at hBz hS2 hnew ⊢
        rw [hZ] at hnew ⊢
        have hZ2 := hnew
        clear hBz hnew hvv
        refine heldG.readyG (rs := [6]) (by kernel_rfl) (by simp) ?_
        refine (heldG.AllG.cons rfl (fun KK hKK => ?_) heldG.AllG.nil)
        · go_simp
          have hBz := (Below.refl v2.heap.size v2).alloc (Nat.le_refl _) (.cells #[.string ⟨#[]⟩, .string ⟨#[]⟩, .string ⟨#[]⟩] 93)
          have hnew := heap_alloc_new v2 (.cells #[.string ⟨#[]⟩, .string ⟨#[]⟩, .string ⟨#[]⟩] 93)
          have hS3 := k6 hS2 hBz
          refine hKK.out _ _ (fun _ => hS3) ?_; clear hKK KK
          try simp only [Act.put, List.setIfInBounds_toArray, List.set_cons_zero, List.set_cons_succ]
          obtain ⟨Y, hY⟩ : ∃ z, v2.heap.size = z := ⟨_, rfl⟩
          obtain ⟨v3, hvv⟩ : ∃ z, v2.alloc (.cells #[.string ⟨#[]⟩, .string ⟨#[]⟩, .string ⟨#[]⟩] 93) = z := ⟨_, rfl⟩
          rw [hvv] at hBz hS3 hnew ⊢
          rw [hY] at hnew ⊢
          have hZ3 := (hBz.block Z (Array.getElem?_eq_some_iff.1 hZ2).1).trans hZ2
          have hY3 := hnew
          clear hBz hnew hvv
          have hYZ : Y ≠ Z := by
            rintro rfl
            rw [hY3] at hZ3; injection hZ3 with e; injection e with _ e2 _; exact absurd e2 (by decide)
          obtain ⟨y0, y1, y2, fy0, fy1, fy2⟩ := cells3 hY3
          have hov := over3_all hY3 hZ3 hYZ (.string HD) (.string P7) (.string P8)
          have hob := partsN.over3_below (w := v3) (Y := Y) (B := w4.heap.size) (by have h1 := hS2.2.2.2.2.2.2.size; omega) (.string HD) (.string P7) (.string P8)
          have hS4 := keep6b hS3 hob hXlt hGlt
          refine heldG.readyG (rs := [8]) (by kernel_rfl) (by simp) ?_
          refine heldG.AllG.cons rfl (fun KK hKK => ?_) heldG.AllG.nil
          go_simp
          refine hKK.out _ _ (fun _ => hS4) ?_; clear hKK KK hS4
          try simp only [Act.put, List.setIfInBounds_toArray, List.set_cons_zero, List.set_cons_succ]
          obtain ⟨v4, hv4⟩ : ∃ z, partsN.over3 v3 Y (.string HD) (.string P7) (.string P8) = z := ⟨_, rfl⟩
          have hv4' := hv4
          unfold partsN.over3 at hv4'
          rw [hv4']
          rw [hv4] at hov hob
          clear hv4 hv4'
          obtain ⟨z0, z1, z2, z3, z4, fz0, fz1, fz2, fz3, fz4⟩ := signSet.cells5 hov.2
          refine heldG.readyG (rs := [9]) (by kernel_rfl) (by simp) ?_
          refine heldG.AllG.cons rfl (fun KK hKK => ?_) heldG.AllG.nil
          go_simp
          refine hKK.out _ _ (fun h => by cases h) ?_; clear hKK KK
          try simp only [Act.put, List.setIfInBounds_toArray, List.set_cons_zero, List.set_cons_succ]
          refine heldG.doneG (by kernel_rfl) ?_ _
          go_wp2_with fail
          go_meet
          exact ⟨Y, Z, rfl, rfl, fin4_of hS3.2.2.2.2.2.2 hob hov.1 hov.2 hYZ (by have h1 := hS1.2.2.2.2.2.2.size; omega)⟩
    · go_simp
      have hBz := (Below.refl w5.heap.size w5).alloc (Nat.le_refl _) (.cells #[.string ⟨#[]⟩, .string ⟨#[]⟩, .string ⟨#[]⟩] 93)
      have hnew := heap_alloc_new w5 (.cells #[.string ⟨#[]⟩, .string ⟨#[]⟩, .string ⟨#[]⟩] 93)
      have hS1 := k6 hS0 hBz
      refine hKK.out _ _ (fun _ => hS1) ?_; clear hKK KK
      try simp only [Act.put, List.setIfInBounds_toArray, List.set_cons_zero, List.set_cons_succ]
      obtain ⟨Y, hY⟩ : ∃ z, w5.heap.size = z := ⟨_, rfl⟩
      obtain ⟨v1, hvv⟩ : ∃ z, w5.alloc (.cells #[.string ⟨#[]⟩, .string ⟨#[]⟩, .string ⟨#[]⟩] 93) = z := ⟨_, rfl⟩
      rw [hvv] at hBz hS1 hnew ⊢
      rw [hY] at hnew ⊢
      have hY1 := hnew
      clear hBz hnew hvv
      refine heldG.readyG (rs := [2, 7]) (by kernel_rfl) (by simp) ?_
      refine (heldG.AllG.cons rfl (fun KK hKK => ?_) (heldG.AllG.cons rfl (fun KK hKK => ?_) heldG.AllG.nil))
      · go_simp
        refine (CP.out _).mono ?_
        rintro en v2 ⟨rfl, hBz⟩
        have hS2 := k6 hS1 hBz
        dsimp only
        refine hKK.out _ _ (fun _ => hS2) ?_; clear hKK KK
        try simp only [Act.put, List.setIfInBounds_toArray, List.set_cons_zero, List.set_cons_succ]
        have hY2 := (hBz.block Y (Array.getElem?_eq_some_iff.1 hY1).1).trans hY1
        clear hBz
        refine heldG.readyG (rs := [7]) (by kernel_rfl) (by simp) ?_
        refine (heldG.AllG.cons rfl (fun KK hKK => ?_) heldG.AllG.nil)
        · go_simp
          have hBz := (Below.refl v2.heap.size v2).alloc (Nat.le_refl _) (.cells #[.string ⟨#[]⟩, .int .i64 0, .int .i64 0, .int .i64 0, .string ⟨#[]⟩] 34)
          have hnew := heap_alloc_new v2 (.cells #[.string ⟨#[]⟩, .int .i64 0, .int .i64 0, .int .i64 0, .string ⟨#[]⟩] 34)
          have hS3 := k6 hS2 hBz
          refine hKK.out _ _ (fun _ => hS3) ?_; clear hKK KK
          try simp only [Act.put, List.setIfInBounds_toArray, List.set_cons_zero, List.set_cons_succ]
          obtain ⟨Z, hZ⟩ : ∃ z, v2.heap.size = z := ⟨_, rfl⟩
          obtain ⟨v3, hvv⟩ : ∃ z, v2.alloc (.cells #[.string ⟨#[]⟩, .int .i64 0, .int .i64 0, .int .i64 0, .string ⟨#[]⟩] 34) = z := ⟨_, rfl⟩
          rw [hvv] at hBz hS3 hnew ⊢
          rw [hZ] at hnew ⊢
          have hY3 := (hBz.block Y (Array.getElem?_eq_some_iff.1 hY2).1).trans hY2
          have hZ3 := hnew
          clear hBz hnew hvv
          have hYZ : Y ≠ Z := by
            rintro rfl
            rw [hY3] at hZ3; injection hZ3 with e; injection e with _ e2 _; exact absurd e2 (by decide)
          obtain ⟨y0, y1, y2, fy0, fy1, fy2⟩ := cells3 hY3
          have hov := over3_all hY3 hZ3 hYZ (.string HD) (.string P7) (.string P8)
          have hob := partsN.over3_below (w := v3) (Y := Y) (B := w4.heap.size) (by have h1 := hS0.2.2.2.2.2.2.size; omega) (.string HD) (.string P7) (.string P8)
          have hS4 := keep6b hS3 hob hXlt hGlt
          refine heldG.readyG (rs := [8]) (by kernel_rfl) (by simp) ?_
          refine heldG.AllG.cons rfl (fun KK hKK => ?_) heldG.AllG.nil
          go_simp
          refine hKK.out _ _ (fun _ => hS4) ?_; clear hKK KK hS4
          try simp only [Act.put, List.setIfInBounds_toArray, List.set_cons_zero, List.set_cons_succ]
          obtain ⟨v4, hv4⟩ : ∃ z, partsN.over3 v3 Y (.string HD) (.string P7) (.string P8) = z := ⟨_, rfl⟩
          have hv4' := hv4
          unfold partsN.over3 at hv4'
          rw [hv4']
          rw [hv4] at hov hob
          clear hv4 hv4'
          obtain ⟨z0, z1, z2, z3, z4, fz0, fz1, fz2, fz3, fz4⟩ := signSet.cells5 hov.2
          refine heldG.readyG (rs := [9]) (by kernel_rfl) (by simp) ?_
          refine heldG.AllG.cons rfl (fun KK hKK => ?_) heldG.AllG.nil
          go_simp
          refine hKK.out _ _ (fun h => by cases h) ?_; clear hKK KK
          try simp only [Act.put, List.setIfInBounds_toArray, List.set_cons_zero, List.set_cons_succ]
          refine heldG.doneG (by kernel_rfl) ?_ _
          go_wp2_with fail
          go_meet
          exact ⟨Y, Z, rfl, rfl, fin4_of hS3.2.2.2.2.2.2 hob hov.1 hov.2 hYZ (by have h1 := hS2.2.2.2.2.2.2.size; omega)⟩
      · go_simp
        have hBz := (Below.refl v1.heap.size v1).alloc (Nat.le_refl _) (.cells #[.string ⟨#[]⟩, .int .i64 0, .int .i64 0, .int .i64 0, .string ⟨#[]⟩] 34)
        have hnew := heap_alloc_new v1 (.cells #[.string ⟨#[]⟩, .int .i64 0, .int .i64 0, .int .i64 0, .string ⟨#[]⟩] 34)
        have hS2 := k6 hS1 hBz
        refine hKK.out _ _ (fun _ => hS2) ?_; clear hKK KK
        try simp only [Act.put, List.setIfInBounds_toArray, List.set_cons_zero, List.set_cons_succ]
        obtain ⟨Z, hZ⟩ : ∃ z, v1.heap.size = z := ⟨_, rfl⟩
        obtain ⟨v2, hvv⟩ : ∃ z, v1.alloc (.cells #[.string ⟨#[]⟩, .int .i64 0, .int .i64 0, .int .i64 0, .string ⟨#[]⟩] 34) = z := ⟨_, rfl⟩
        rw [hvv] at hBz hS2 hnew ⊢
        rw [hZ] at hnew ⊢
        have hY2 := (hBz.block Y (Array.getElem?_eq_some_iff.1 hY1).1).trans hY1
        have hZ2 := hnew
        clear hBz hnew hvv
        refine heldG.readyG (rs := [2]) (by kernel_rfl) (by simp) ?_
        refine (heldG.AllG.cons rfl (fun KK hKK => ?_) heldG.AllG.nil)
        · go_simp
          refine (CP.out _).mono ?_
          rintro en v3 ⟨rfl, hBz⟩
          have hS3 := k6 hS2 hBz
          dsimp only
          refine hKK.out _ _ (fun _ => hS3) ?_; clear hKK KK
          try simp only [Act.put, List.setIfInBounds_toArray, List.set_cons_zero, List.set_cons_succ]
          have hY3 := (hBz.block Y (Array.getElem?_eq_some_iff.1 hY2).1).trans hY2
          have hZ3 := (hBz.block Z (Array.getElem?_eq_some_iff.1 hZ2).1).trans hZ2
          clear hBz
          have hYZ : Y ≠ Z := by
            rintro rfl
            rw [hY3] at hZ3; injection hZ3 with e; injection e with _ e2 _; exact absurd e2 (by decide)
          obtain ⟨y0, y1, y2, fy0, fy1, fy2⟩ := cells3 hY3
          have hov := over3_all hY3 hZ3 hYZ (.string HD) (.string P7) (.string P8)
          have hob := partsN.over3_below (w := v3) (Y := Y) (B := w4.heap.size) (by have h1 := hS0.2.2.2.2.2.2.size; omega) (.string HD) (.string P7) (.string P8)
          have hS4 := keep6b hS3 hob hXlt hGlt
          refine heldG.readyG (rs := [8]) (by kernel_rfl) (by simp) ?_
          refine heldG.AllG.cons rfl (fun KK hKK => ?_) heldG.AllG.nil
          go_simp
          refine hKK.out _ _ (fun _ => hS4) ?_; clear hKK KK hS4
          try simp only [Act.put, List.setIfInBounds_toArray, List.set_cons_zero, List.set_cons_succ]
          obtain ⟨v4, hv4⟩ : ∃ z, partsN.over3 v3 Y (.string HD) (.string P7) (.string P8) = z := ⟨_, rfl⟩
          have hv4' := hv4
          unfold partsN.over3 at hv4'
          rw [hv4']
          rw [hv4] at hov hob
          clear hv4 hv4'
          obtain ⟨z0, z1, z2, z3, z4, fz0, fz1, fz2, fz3, fz4⟩ := signSet.cells5 hov.2
          refine heldG.readyG (rs := [9]) (by kernel_rfl) (by simp) ?_
          refine heldG.AllG.cons rfl (fun KK hKK => ?_) heldG.AllG.nil
          go_simp
          refine hKK.out _ _ (fun h => by cases h) ?_; clear hKK KK
          try simp only [Act.put, List.setIfInBounds_toArray, List.set_cons_zero, List.set_cons_succ]
          refine heldG.doneG (by kernel_rfl) ?_ _
          go_wp2_with fail
          go_meet
          exact ⟨Y, Z, rfl, rfl, fin4_of hS3.2.2.2.2.2.2 hob hov.1 hov.2 hYZ (by have h1 := hS1.2.2.2.2.2.2.size; omega)⟩
    · go_simp
      have hBz := (Below.refl w5.heap.size w5).alloc (Nat.le_refl _) (.cells #[.string ⟨#[]⟩, .int .i64 0, .int .i64 0, .int .i64 0, .string ⟨#[]⟩] 34)
      have hnew := heap_alloc_new w5 (.cells #[.string ⟨#[]⟩, .int .i64 0, .int .i64 0, .int .i64 0, .string ⟨#[]⟩] 34)
      have hS1 := k6 hS0 hBz
      refine hKK.out _ _ (fun _ => hS1) ?_; clear hKK KK
      try simp only [Act.put, List.setIfInBounds_toArray, List.set_cons_zero, List.set_cons_succ]
      obtain ⟨Z, hZ⟩ : ∃ z, w5.heap.size = z := ⟨_, rfl⟩
      obtain ⟨v1, hvv⟩ : ∃ z, w5.alloc (.cells #[.string ⟨#[]⟩, .int .i64 0, .int .i64 0, .int .i64 0, .string ⟨#[]⟩] 34) = z := ⟨_, rfl⟩
      rw [hvv] at hBz hS1 hnew ⊢
      rw [hZ] at hnew ⊢
      have hZ1 := hnew
      clear hBz hnew hvv
      refine heldG.readyG (rs := [2, 6]) (by kernel_rfl) (by simp) ?_
      refine (heldG.AllG.cons rfl (fun KK hKK => ?_) (heldG.AllG.cons rfl (fun KK hKK => ?_) heldG.AllG.nil))
      · go_simp
        refine (CP.out _).mono ?_
        rintro en v2 ⟨rfl, hBz⟩
        have hS2 := k6 hS1 hBz
        dsimp only
        refine hKK.out _ _ (fun _ => hS2) ?_; clear hKK KK
        try simp only [Act.put, List.setIfInBounds_toArray, List.set_cons_zero, List.set_cons_succ]
        have hZ2 := (hBz.block Z (Array.getElem?_eq_some_iff.1 hZ1).1).trans hZ1
        clear hBz
        refine heldG.readyG (rs := [6]) (by kernel_rfl) (by simp) ?_
        refine (heldG.AllG.cons rfl (fun KK hKK => ?_) heldG.AllG.nil)
        · go_simp
          have hBz := (Below.refl v2.heap.size v2).alloc (Nat.le_refl _) (.cells #[.string ⟨#[]⟩, .string ⟨#[]⟩, .string ⟨#[]⟩] 93)
          have hnew := heap_alloc_new v2 (.cells #[.string ⟨#[]⟩, .string ⟨#[]⟩, .string ⟨#[]⟩] 93)
          have hS3 := k6 hS2 hBz
          refine hKK.out _ _ (fun _ => hS3) ?_; clear hKK KK
          try simp only [Act.put, List.setIfInBounds_toArray, List.set_cons_zero, List.set_cons_succ]
          obtain ⟨Y, hY⟩ : ∃ z, v2.heap.size = z := ⟨_, rfl⟩
          obtain ⟨v3, hvv⟩ : ∃ z, v2.alloc (.cells #[.string ⟨#[]⟩, .string ⟨#[]⟩, .string ⟨#[]⟩] 93) = z := ⟨_, rfl⟩
          rw [hvv] at hBz hS3 hnew ⊢
          rw [hY] at hnew ⊢
          have hZ3 := (hBz.block Z (Array.getElem?_eq_some_iff.1 hZ2).1).trans hZ2
          have hY3 := hnew
          clear hBz hnew hvv
          have hYZ : Y ≠ Z := by
            rintro rfl
            rw [hY3] at hZ3; injection hZ3 with e; injection e with _ e2 _; exact absurd e2 (by decide)
          obtain ⟨y0, y1, y2, fy0, fy1, fy2⟩ := cells3 hY3
          have hov := over3_all hY3 hZ3 hYZ (.string HD) (.string P7) (.string P8)
          have hob := partsN.over3_below (w := v3) (Y := Y) (B := w4.heap.size) (by have h1 := hS2.2.2.2.2.2.2.size; omega) (.string HD) (.string P7) (.string P8)
          have hS4 := keep6b hS3 hob hXlt hGlt
          refine heldG.readyG (rs := [8]) (by kernel_rfl) (by simp) ?_
          refine heldG.AllG.cons rfl (fun KK hKK => ?_) heldG.AllG.nil
          go_simp
          refine hKK.out _ _ (fun _ => hS4) ?_; clear hKK KK hS4
          try simp only [Act.put, List.setIfInBounds_toArray, List.set_cons_zero, List.set_cons_succ]
          obtain ⟨v4, hv4⟩ : ∃ z, partsN.over3 v3 Y (.string HD) (.string P7) (.string P8) = z := ⟨_, rfl⟩
          have hv4' := hv4
          unfold partsN.over3 at hv4'
          rw [hv4']
          rw [hv4] at hov hob
          clear hv4 hv4'
          obtain ⟨z0, z1, z2, z3, z4, fz0, fz1, fz2, fz3, fz4⟩ := signSet.cells5 hov.2
          refine heldG.readyG (rs := [9]) (by kernel_rfl) (by simp) ?_
          refine heldG.AllG.cons rfl (fun KK hKK => ?_) heldG.AllG.nil
          go_simp
          refine hKK.out _ _ (fun h => by cases h) ?_; clear hKK KK
          try simp only [Act.put, List.setIfInBounds_toArray, List.set_cons_zero, List.set_cons_succ]
          refine heldG.doneG (by kernel_rfl) ?_ _
          go_wp2_with fail
          go_meet
          exact ⟨Y, Z, rfl, rfl, fin4_of hS3.2.2.2.2.2.2 hob hov.1 hov.2 hYZ (by have h1 := hS0.2.2.2.2.2.2.size; omega)⟩
      · go_simp
        have hBz := (Below.refl v1.heap.size v1).alloc (Nat.le_refl _) (.cells #[.string ⟨#[]⟩, .string ⟨#[]⟩, .string ⟨#[]⟩] 93)
        have hnew := heap_alloc_new v1 (.cells #[.string ⟨#[]⟩, .string ⟨#[]⟩, .string ⟨#[]⟩] 93)
        have hS2 := k6 hS1 hBz
        refine hKK.out _ _ (fun _ => hS2) ?_; clear hKK KK
        try simp only [Act.put, List.setIfInBounds_toArray, List.set_cons_zero, List.set_cons_succ]
        obtain ⟨Y, hY⟩ : ∃ z, v1.heap.size = z := ⟨_, rfl⟩
        obtain ⟨v2, hvv⟩ : ∃ z, v1.alloc (.cells #[.string ⟨#[]⟩, .string ⟨#[]⟩, .string ⟨#[]⟩] 93) = z := ⟨_, rfl⟩
        rw [hvv] at hBz hS2 hnew ⊢
        rw [hY] at hnew ⊢
        have hZ2 := (hBz.block Z (Array.getElem?_eq_some_iff.1 hZ1).1).trans hZ1
        have hY2 := hnew
        clear hBz hnew hvv
        refine heldG.readyG (rs := [2]) (by kernel_rfl) (by simp) ?_
        refine (heldG.AllG.cons rfl (fun KK hKK => ?_) heldG.AllG.nil)
        · go_simp
          refine (CP.out _).mono ?_
          rintro en v3 ⟨rfl, hBz⟩
          have hS3 := k6 hS2 hBz
          dsimp only
          refine hKK.out _ _ (fun _ => hS3) ?_; clear hKK KK
          try simp only [Act.put, List.setIfInBounds_toArray, List.set_cons_zero, List.set_cons_succ]
          have hY3 := (hBz.block Y (Array.getElem?_eq_some_iff.1 hY2).1).trans hY2
          have hZ3 := (hBz.block Z (Array.getElem?_eq_some_iff.1 hZ2).1).trans hZ2
          clear hBz
          have hYZ : Y ≠ Z := by
            rintro rfl
            rw [hY3] at hZ3; injection hZ3 with e; injection e with _ e2 _; exact absurd e2 (by decide)
          obtain ⟨y0, y1, y2, fy0, fy1, fy2⟩ := cells3 hY3
          have hov := over3_all hY3 hZ3 hYZ (.string HD) (.string P7) (.string P8)
          have hob := partsN.over3_below (w := v3) (Y := Y) (B := w4.heap.size) (by have h1 := hS1.2.2.2.2.2.2.size; omega) (.string HD) (.string P7) (.string P8)
          have hS4 := keep6b hS3 hob hXlt hGlt
          refine heldG.readyG (rs := [8]) (by kernel_rfl) (by simp) ?_
          refine heldG.AllG.cons rfl (fun KK hKK => ?_) heldG.AllG.nil
          go_simp
          refine hKK.out _ _ (fun _ => hS4) ?_; clear hKK KK hS4
          try simp only [Act.put, List.setIfInBounds_toArray, List.set_cons_zero, List.set_cons_succ]
          obtain ⟨v4, hv4⟩ : ∃ z, partsN.over3 v3 Y (.string HD) (.string P7) (.string P8) = z := ⟨_, rfl⟩
          have hv4' := hv4
          unfold partsN.over3 at hv4'
          rw [hv4']
          rw [hv4] at hov hob
          clear hv4 hv4'
          obtain ⟨z0, z1, z2, z3, z4, fz0, fz1, fz2, fz3, fz4⟩ := signSet.cells5 hov.2
          refine heldG.readyG (rs := [9]) (by kernel_rfl) (by simp) ?_
          refine heldG.AllG.cons rfl (fun KK hKK => ?_) heldG.AllG.nil
          go_simp
          refine hKK.out _ _ (fun h => by cases h) ?_; clear hKK KK
          try simp only [Act.put, List.setIfInBounds_toArray, List.set_cons_zero, List.set_cons_succ]
          refine heldG.doneG (by kernel_rfl) ?_ _
          go_wp2_with fail
          go_meet
          exact ⟨Y, Z, rfl, rfl, fin4_of hS3.2.2.2.2.2.2 hob hov.1 hov.2 hYZ (by have h1 := hS0.2.2.2.2.2.2.size; omega)⟩

  case rest =>
    obtain ⟨Y, Z, rfl, rfl, hfin⟩ := hcut
    have HX9 := Lib.hid ((hfin.bel.block X (Array.getElem?_eq_some_iff.1 HK4.out).1).trans HK4.out)
    have HBV := Lib.hid (show Bv X Y Z sg h HD P7 P8 wc from ⟨HX9.out, hfin.y, hfin.z⟩)
    have HBC := Lib.hid (HB4.out.trans (hfin.bel.mono HB4.out.size))
    have HB2C := Lib.hid (HB24.out.trans (hfin.bel.mono HB24.out.size))
    have hHs : HD.size = 18 := by rw [← size_len, HHD.out]; exact HGS.out.head_len
    obtain ⟨cu0, cu1, cu2, cu3, cu4, cu5, cu6⟩ := HGS.out.cuts
    have CO := Lib.hid (fun wx => opens.open_any kd wx hkd)
    obtain ⟨kf0, km0, ke0, ks0, hop, hkk⟩ := open_form kd.data.toList
    rw [hop] at CO
    have HKK := Lib.hid hkk
    clear hfin HX9 hop hkk
    trace "5"
    go_wp2_with fail
    refine (CO.out _).mono ?_
    rintro e w5 ⟨rfl, hB5⟩
    have HBV5 := Lib.hid (HBV.out.step hB5)
    have HB5 := Lib.hid (HBC.out.trans (hB5.mono HBC.out.size))
    have HB25 := Lib.hid (HB2C.out.trans (hB5.mono HB2C.out.size))
    have hb6 := (Below.refl w5.heap.size w5).alloc (Nat.le_refl _) (.cells #[.int .i64 kf0, .int .i64 km0, .int .i64 ke0, .int .i64 ks0] 32)
    have hv6 := heap_alloc_new w5 (.cells #[.int .i64 kf0, .int .i64 km0, .int .i64 ke0, .int .i64 ks0] 32)
    obtain ⟨V, hV⟩ : ∃ V, w5.heap.size = V := ⟨_, rfl⟩
    obtain ⟨w6, hw6⟩ : ∃ w6, w5.alloc (.cells #[.int .i64 kf0, .int .i64 km0, .int .i64 ke0, .int .i64 ks0] 32) = w6 := ⟨_, rfl⟩
    rw [hw6] at hb6 hv6
    rw [hV] at hv6
    have HBV6 := Lib.hid (HBV5.out.step hb6)
    have HB6 := Lib.hid (HB5.out.trans (hb6.mono HB5.out.size))
    have HB26 := Lib.hid (HB25.out.trans (hb6.mono HB25.out.size))
    have HV := Lib.hid hV; have HW6 := Lib.hid hw6; have HV6 := Lib.hid hv6
    clear hB5 hb6 hv6 hV hw6 CO
    have CCV := Lib.hid (fun wx => sigM.covered_any HD P7 P8 wx hHs)
    obtain ⟨A, hA⟩ : ∃ A, valL p0 0 = A := ⟨_, rfl⟩
    rw [show sigM.cutV HD.data.toList 0 2 = A by rw [← hA]; unfold sigM.cutV; rw [HHD.out, List.drop_zero]; exact congrArg (fun l => valL l 0) cu0] at CCV
    obtain ⟨ht, hht⟩ : ∃ z, h.t = z := ⟨_, rfl⟩
    have HA := Lib.hid hA; have HHT := Lib.hid hht
    obtain ⟨y0, y1, y2⟩ := HBV6.out.sig
    have z1 : w6.cell? ⟨Z, 1, none⟩ = some (.int .i64 ht) := by rw [← hht]; exact HBV6.out.fst.2.1
    have hS0 : w6.drew.cell? ⟨Y, 0, none⟩ = some (.string HD) ∧ w6.drew.cell? ⟨Y, 1, none⟩ = some (.string P7) ∧ w6.drew.cell? ⟨Y, 2, none⟩ = some (.string P8) ∧ w6.drew.cell? ⟨Z, 1, none⟩ = some (.int .i64 ht) ∧ Below w6.heap.size w6 w6.drew := ⟨y0, y1, y2, z1, (Below.refl _ _).drew⟩
    clear hA hht y0 y1 y2 z1
    trace "6"
    go_upto_region 6 with fail
    rw [HW6.out]
    try rw [HV.out]
    by_cases hc : ¬ ((A : Int) = ht)
    · have e1 : ((A : Int) != ht) = true := bne_iff_ne.2 hc
      have e2 : ((A : Int) == ht) = false := beq_eq_false_iff_ne.2 hc
      have HR1 : Hid (RR = 6) := Lib.hid (HVC.out.trans (by unfold verC; rw [if_pos (by rw [HA.out, HHT.out]; exact hc)]))
      go_region_held3 (fun w' => w'.cell? ⟨Y, 0, none⟩ = some (.string HD) ∧ w'.cell? ⟨Y, 1, none⟩ = some (.string P7) ∧ w'.cell? ⟨Y, 2, none⟩ = some (.string P8) ∧ w'.cell? ⟨Z, 1, none⟩ = some (.int .i64 ht) ∧ Below w6.heap.size w6 w') (first | assumption | (refine ⟨?_, ?_, ?_, ?_, ?_⟩ <;> assumption))
        (first | (go_at_call 75; refine (CCV.out _).mono ?_; rintro e w' ⟨rfl, hBz⟩; have hSz := k4 (by assumption) hBz; clear hBz))
      have HBN := Lib.hid (HB6.out.trans (hSz.2.2.2.2.mono HB6.out.size))
      trace "no"
      go_wp2_with fail
      go_ret
      exact ⟨by rw [HR1.out]; rfl, HBN.out⟩
    have hc0 : (A : Int) = ht := Classical.not_not.1 hc
    have HC0 : Hid (((valL p0 0 : Nat) : Int) = h.t) := Lib.hid (by rw [HA.out, HHT.out]; exact hc0)
    have e1 : ((A : Int) != ht) = false := by rw [hc0]; simp
    have e2 : ((A : Int) == ht) = true := by rw [hc0]; simp
    have HC0' := Lib.hid hc0
    clear hc hc0
    go_region_held3 (fun w' => w'.cell? ⟨Y, 0, none⟩ = some (.string HD) ∧ w'.cell? ⟨Y, 1, none⟩ = some (.string P7) ∧ w'.cell? ⟨Y, 2, none⟩ = some (.string P8) ∧ w'.cell? ⟨Z, 1, none⟩ = some (.int .i64 ht) ∧ Below w6.heap.size w6 w') (first | assumption | (refine ⟨?_, ?_, ?_, ?_, ?_⟩ <;> assumption))
      (first | (go_at_call 75; refine (CCV.out _).mono ?_; rintro e w' ⟨rfl, hBz⟩; have hSz := k4 (by assumption) hBz; clear hBz))
    obtain ⟨w7, hw7⟩ : ∃ w7, w' = w7 := ⟨_, rfl⟩
    rw [hw7] at hSz ⊢
    have hB7 := hSz.2.2.2.2
    have HBV7 := Lib.hid (HBV6.out.step hB7)
    have HB7 := Lib.hid (HB6.out.trans (hB7.mono HB6.out.size))
    have HB27 := Lib.hid (HB26.out.trans (hB7.mono HB26.out.size))
    have HV7 := Lib.hid ((hB7.block V (Array.getElem?_eq_some_iff.1 HV6.out).1).trans HV6.out)
    clear hSz hS0 hB7 hw7 e1 e2 CCV
    have hoh := HO.out h (List.mem_of_getElem? H0.out)
    have CE1 := Lib.hid (fun wx => nequal_any sg.o h.o wx HSG.out.o hoh.o)
    obtain ⟨E1, hE1⟩ : ∃ E1, equalS sg.o.data.toList h.o.data.toList = E1 := ⟨_, rfl⟩
    rw [hE1] at CE1
    have HE1 := Lib.hid hE1
    have hP7s : P7.size ≤ 255 := by
      obtain ⟨ls, hl⟩ := HGS.out.n7
      rw [← size_len, HP7.out]; exact hl.2.2
    have CW := Lib.hid (fun wx => nwithin_any h.o P7 wx hoh.o (by omega))
    rw [nameC.within_same, HP7.out] at CW
    obtain ⟨WI, hWI⟩ : ∃ WI, withinS h.o.data.toList p7 = WI := ⟨_, rfl⟩
    rw [hWI] at CW
    have HWI := Lib.hid hWI
    have CE2 := Lib.hid (fun wx => nequal_any ow P7 wx how (by omega))
    rw [HP7.out] at CE2
    obtain ⟨E2, hE2⟩ : ∃ E2, equalS ow.data.toList p7 = E2 := ⟨_, rfl⟩
    rw [hE2] at CE2
    have HE2 := Lib.hid hE2
    have x0 := HBV7.out.sgo
    have z0 := HBV7.out.fst.1
    clear hE1 hWI hE2
    trace "7"
    go_wp2_with fail
    refine (CE1.out _).mono ?_
    rintro e w8 ⟨rfl, hB8⟩
    have HBV8 := Lib.hid (HBV7.out.step hB8)
    have HB8 := Lib.hid (HB7.out.trans (hB8.mono HB7.out.size))
    have HB28 := Lib.hid (HB27.out.trans (hB8.mono HB27.out.size))
    have HV8 := Lib.hid ((hB8.block V (Array.getElem?_eq_some_iff.1 HV7.out).1).trans HV7.out)
    clear hB8 x0 z0 CE1
    cases hb : E1 with
    | false =>
      have HR1 : Hid (RR = 5) := Lib.hid (HVC.out.trans (by unfold verC; rw [if_neg (fun hh => hh HC0.out), if_pos (by rw [HE1.out, hb])]))
      subst hb
      trace "no"
      go_wp2_with fail
      go_ret
      exact ⟨by rw [HR1.out]; rfl, HB8.out⟩
    | true =>
    have HC1 : Hid (equalS sg.o.data.toList h.o.data.toList = true) := Lib.hid (by rw [HE1.out, hb])
    subst hb
    have z0 := HBV8.out.fst.1
    have y1 := HBV8.out.sig.2.1
    trace "8"
    go_wp2_with fail
    refine (CW.out _).mono ?_
    rintro e w9 ⟨rfl, hB9⟩
    have HBV9 := Lib.hid (HBV8.out.step hB9)
    have HB9 := Lib.hid (HB8.out.trans (hB9.mono HB8.out.size))
    have HB29 := Lib.hid (HB28.out.trans (hB9.mono HB28.out.size))
    have HV9 := Lib.hid ((hB9.block V (Array.getElem?_eq_some_iff.1 HV8.out).1).trans HV8.out)
    clear hB9 z0 y1 CW
    cases hb : WI with
    | false =>
      have HR1 : Hid (RR = 5) := Lib.hid (HVC.out.trans (by unfold verC; rw [if_neg (fun hh => hh HC0.out), if_neg (by rw [HC1.out]; decide), if_pos (by rw [HWI.out, hb])]))
      subst hb
      trace "no"
      go_wp2_with fail
      go_ret
      exact ⟨by rw [HR1.out]; rfl, HB9.out⟩
    | true =>
    have HC2 : Hid (withinS h.o.data.toList p7 = true) := Lib.hid (by rw [HWI.out, hb])
    subst hb
    have y1 := HBV9.out.sig.2.1
    trace "9"
    go_wp2_with fail
    refine (CE2.out _).mono ?_
    rintro e w10 ⟨rfl, hB10⟩
    have HBV10 := Lib.hid (HBV9.out.step hB10)
    have HB10 := Lib.hid (HB9.out.trans (hB10.mono HB9.out.size))
    have HB210 := Lib.hid (HB29.out.trans (hB10.mono HB29.out.size))
    have HV10 := Lib.hid ((hB10.block V (Array.getElem?_eq_some_iff.1 HV9.out).1).trans HV9.out)
    clear hB10 y1 CE2
    cases hb : E2 with
    | false =>
      have HR1 : Hid (RR = 1) := Lib.hid (HVC.out.trans (by unfold verC; rw [if_neg (fun hh => hh HC0.out), if_neg (by rw [HC1.out]; decide), if_neg (by rw [HC2.out]; decide), if_pos (by rw [HE2.out, hb])]))
      subst hb
      trace "no"
      go_wp2_with fail
      go_ret
      exact ⟨by rw [HR1.out]; rfl, HB10.out⟩
    | true =>
    have HC3 : Hid (equalS ow.data.toList p7 = true) := Lib.hid (by rw [HE2.out, hb])
    subst hb
    obtain ⟨OP, hOP⟩ : ∃ OP, isKeyB kd.data.toList = OP := ⟨_, rfl⟩
    rw [hOP]
    have HOP := Lib.hid hOP
    clear hOP
    cases hb : OP with
    | false =>
      have HR1 : Hid (RR = 24) := Lib.hid (HVC.out.trans (by unfold verC; rw [if_neg (fun hh => hh HC0.out), if_neg (by rw [HC1.out]; decide), if_neg (by rw [HC2.out]; decide), if_neg (by rw [HC3.out]; decide), if_pos (by rw [HOP.out, hb])]))
      subst hb
      trace "no"
      go_wp2_with fail
      go_ret
      exact ⟨by rw [HR1.out]; rfl, HB10.out⟩
    | true =>
    have HC4 : Hid (isKeyB kd.data.toList = true) := Lib.hid (by rw [HOP.out, hb])
    subst hb
    obtain ⟨hk12, hkm1, hkm2, hke⟩ := key_facts HC4.out
    obtain ⟨rfl, rfl⟩ := HKK.out HC4.out
    obtain ⟨M, hM⟩ : ∃ M, kM kd.data.toList = M := ⟨_, rfl⟩
    obtain ⟨E, hE⟩ : ∃ E, kE kd.data.toList = E := ⟨_, rfl⟩
    have HM := Lib.hid hM; have HE := Lib.hid hE
    rw [hM] at hkm1 hkm2 HV10
    rw [hE] at hke HV10
    obtain ⟨b1, hb1⟩ := verP.one HGS.out.l1
    have hHL : HD.data.toList[2]? = some b1 := by rw [HHD.out, cu1, hb1]; rfl
    have h2s : 2 < HD.size := by omega
    have hHb : HD[2] = b1 := by
      have h4 := getD_at HD 2 h2s
      rw [List.getD, hHL] at h4; exact h4.symm
    have y0 := HBV10.out.sig.1
    trace "10"
    by_cases hc : ¬ b1 = 253
    · have e1 : ((HD[2].toNat : Int) != 253) = true := by
        rw [hHb]
        refine bne_iff_ne.2 (fun e => hc (UInt8.toNat_inj.1 ?_))
        have : (253 : UInt8).toNat = 253 := rfl
        omega
      have HR1 : Hid (RR = 24) := Lib.hid (HVC.out.trans (by unfold verC; rw [if_neg (fun hh => hh HC0.out), if_neg (by rw [HC1.out]; decide), if_neg (by rw [HC2.out]; decide), if_neg (by rw [HC3.out]; decide), if_neg (by rw [HC4.out]; decide), if_pos (by rw [hb1]; intro e; injection e with e _; exact hc e)]))
      have HHB := Lib.hid hHb
      clear hHb hM hE hb1 hHL hc
      trace "no"
      go_wp2_with fail
      go_ret
      exact ⟨by rw [HR1.out]; rfl, HB10.out⟩
    have hc : b1 = 253 := Classical.not_not.1 hc
    subst hc
    have HC5 : Hid (p1 = [253]) := Lib.hid hb1
    have e1 : ((HD[2].toNat : Int) != 253) = false := by rw [hHb]; rfl
    have CTM := Lib.hid (fun wx => sigM.tag_any HD P7 P8 wx hHs)
    obtain ⟨G, hG⟩ : ∃ G, valL p6 0 = G := ⟨_, rfl⟩
    rw [show sigM.cutV HD.data.toList 16 18 = G by rw [← hG]; unfold sigM.cutV; rw [HHD.out]; exact congrArg (fun l => valL l 0) cu6] at CTM
    have CTK := Lib.hid (fun wx => tag.ntag_any kd wx hkd)
    obtain ⟨TG, hTG⟩ : ∃ TG, tagS kd.data.toList = TG := ⟨_, rfl⟩
    rw [hTG] at CTK
    have HG := Lib.hid hG; have HTG := Lib.hid hTG
    have y1 := HBV10.out.sig.2.1
    have y2 := HBV10.out.sig.2.2
    have HHB := Lib.hid hHb
    clear hG hTG hHb hM hE hb1 hHL
    trace "11"
    go_wp2_with fail
    refine (CTM.out _).mono ?_
    rintro e w11 ⟨rfl, hB11⟩
    have HBV11 := Lib.hid (HBV10.out.step hB11)
    have HB11 := Lib.hid (HB10.out.trans (hB11.mono HB10.out.size))
    have HB211 := Lib.hid (HB210.out.trans (hB11.mono HB210.out.size))
    have HV11 := Lib.hid ((hB11.block V (Array.getElem?_eq_some_iff.1 HV10.out).1).trans HV10.out)
    clear hB11 y0 y1 y2 e1 CTM
    go_wp2_with fail
    refine (CTK.out _).mono ?_
    rintro e w12 ⟨rfl, rfl⟩
    clear CTK
    by_cases hc : ¬ G = TG
    · have e1 : ((G : Int) != (TG : Int)) = true := bne_iff_ne.2 (fun e => hc (by omega))
      have HR1 : Hid (RR = 24) := Lib.hid (HVC.out.trans (by unfold verC; rw [if_neg (fun hh => hh HC0.out), if_neg (by rw [HC1.out]; decide), if_neg (by rw [HC2.out]; decide), if_neg (by rw [HC3.out]; decide), if_neg (by rw [HC4.out]; decide), if_neg (fun hh => hh HC5.out), if_pos (by rw [HG.out, HTG.out]; exact hc)]))
      trace "no"
      go_wp2_with fail
      go_ret
      exact ⟨by rw [HR1.out]; rfl, HB11.out⟩
    have hc : G = TG := Classical.not_not.1 hc
    have HC6 : Hid (valL p6 0 = tagS kd.data.toList) := Lib.hid (by rw [HG.out, HTG.out]; exact hc)
    have e1 : ((G : Int) != (TG : Int)) = false := by rw [hc]; simp
    obtain ⟨c3, hc3⟩ := verP.one HGS.out.l2
    have hlab : HD.data.toList[3]? = some c3 := by rw [HHD.out, cu2, hc3]; rfl
    have hval2 : valL p2 0 = c3.toNat := val_byte HGS.out.l2 (by rw [hc3]; rfl)
    have CLB := Lib.hid (fun wx => sigM.labels_any HD P7 P8 c3 wx hHs hlab)
    have CCN := Lib.hid (fun wx => sealA.count_any h.o wx hoh.o)
    obtain ⟨K, hK⟩ : ∃ K, lessS h.o.data.toList = K := ⟨_, rfl⟩
    rw [hK] at CCN
    obtain ⟨LB, hLB⟩ : ∃ LB, c3.toNat = LB := ⟨_, rfl⟩
    rw [hLB] at CLB
    have HLB := Lib.hid (hval2.trans hLB); have HK := Lib.hid hK; have HLAB := Lib.hid hlab; have HLBC := Lib.hid hLB
    have hHC := Lib.hid hc
    obtain ⟨y0, y1, y2⟩ := HBV11.out.sig
    have z0 := HBV11.out.fst.1
    have hS0 : w11.drew.cell? ⟨Y, 0, none⟩ = some (.string HD) ∧ w11.drew.cell? ⟨Y, 1, none⟩ = some (.string P7) ∧ w11.drew.cell? ⟨Y, 2, none⟩ = some (.string P8) ∧ w11.drew.cell? ⟨Z, 0, none⟩ = some (.string h.o) ∧ Below w11.heap.size w11 w11.drew := ⟨y0, y1, y2, z0, (Below.refl _ _).drew⟩
    clear hc hc3 hlab hval2 hK hLB y0 y1 y2 z0
    trace "12"
    go_upto_region 14 with fail
    clear e1
    by_cases hc : K < (LB : Int)
    · have e1 : decide (K < (LB : Int)) = true := decide_eq_true hc
      have HR1 : Hid (RR = 3) := Lib.hid (HVC.out.trans (by unfold verC; rw [if_neg (fun hh => hh HC0.out), if_neg (by rw [HC1.out]; decide), if_neg (by rw [HC2.out]; decide), if_neg (by rw [HC3.out]; decide), if_neg (by rw [HC4.out]; decide), if_neg (fun hh => hh HC5.out), if_neg (fun hh => hh HC6.out), if_pos (by rw [HK.out, HLB.out]; exact hc)]))
      go_region_held3 (fun w' => w'.cell? ⟨Y, 0, none⟩ = some (.string HD) ∧ w'.cell? ⟨Y, 1, none⟩ = some (.string P7) ∧ w'.cell? ⟨Y, 2, none⟩ = some (.string P8) ∧ w'.cell? ⟨Z, 0, none⟩ = some (.string h.o) ∧ Below w11.heap.size w11 w') (first | assumption | (refine ⟨?_, ?_, ?_, ?_, ?_⟩ <;> assumption))
        (first
          | (go_at_call 78; refine (CLB.out _).mono ?_; rintro e w' ⟨rfl, hBz⟩; have hSz := k4 (by assumption) hBz; clear hBz)
          | (go_at_call 55; refine (CCN.out _).mono ?_; rintro e w' ⟨rfl, hBz⟩; have hSz := k4 (by assumption) hBz; clear hBz))
      have HBN := Lib.hid (HB11.out.trans (hSz.2.2.2.2.mono HB11.out.size))
      trace "no"
      go_wp2_with fail
      go_ret
      exact ⟨by rw [HR1.out]; rfl, HBN.out⟩
    have HC7 : Hid (¬ lessS h.o.data.toList < ((valL p2 0 : Nat) : Int)) := Lib.hid (by rw [HK.out, HLB.out]; exact hc)
    have e1 : decide (K < (LB : Int)) = false := decide_eq_false hc
    go_region_held3 (fun w' => w'.cell? ⟨Y, 0, none⟩ = some (.string HD) ∧ w'.cell? ⟨Y, 1, none⟩ = some (.string P7) ∧ w'.cell? ⟨Y, 2, none⟩ = some (.string P8) ∧ w'.cell? ⟨Z, 0, none⟩ = some (.string h.o) ∧ Below w11.heap.size w11 w') (first | assumption | (refine ⟨?_, ?_, ?_, ?_, ?_⟩ <;> assumption))
      (first
        | (go_at_call 78; refine (CLB.out _).mono ?_; rintro e w' ⟨rfl, hBz⟩; have hSz := k4 (by assumption) hBz; clear hBz)
        | (go_at_call 55; refine (CCN.out _).mono ?_; rintro e w' ⟨rfl, hBz⟩; have hSz := k4 (by assumption) hBz; clear hBz))
    obtain ⟨w13, hw13⟩ : ∃ w13, w' = w13 := ⟨_, rfl⟩
    rw [hw13] at hSz ⊢
    have hB13 := hSz.2.2.2.2
    have HBV13 := Lib.hid (HBV11.out.step hB13)
    have HB13 := Lib.hid (HB11.out.trans (hB13.mono HB11.out.size))
    have HB213 := Lib.hid (HB211.out.trans (hB13.mono HB211.out.size))
    have HV13 := Lib.hid ((hB13.block V (Array.getElem?_eq_some_iff.1 HV11.out).1).trans HV11.out)
    clear hSz hS0 hB13 hw13 CLB CCN
    have CFR := Lib.hid (fun wx => sigM.from_any HD P7 P8 wx hHs)
    have CUN := Lib.hid (fun wx => sigM.until_any HD P7 P8 wx hHs)
    obtain ⟨FR, hFR⟩ : ∃ z, valL p5 0 = z := ⟨_, rfl⟩
    obtain ⟨UN, hUN⟩ : ∃ z, valL p4 0 = z := ⟨_, rfl⟩
    rw [show sigM.cutV HD.data.toList 12 16 = FR by rw [← hFR]; unfold sigM.cutV; rw [HHD.out]; exact congrArg (fun l => valL l 0) cu5] at CFR
    rw [show sigM.cutV HD.data.toList 8 12 = UN by rw [← hUN]; unfold sigM.cutV; rw [HHD.out]; exact congrArg (fun l => valL l 0) cu4] at CUN
    have HFR := Lib.hid hFR; have HUN := Lib.hid hUN
    obtain ⟨y0, y1, y2⟩ := HBV13.out.sig
    clear hFR hUN e1 hc
    trace "13"
    go_wp2_with fail
    refine (CFR.out _).mono ?_
    rintro e w14 ⟨rfl, hB14⟩
    have HBV14 := Lib.hid (HBV13.out.step hB14)
    have HB14 := Lib.hid (HB13.out.trans (hB14.mono HB13.out.size))
    have HB214 := Lib.hid (HB213.out.trans (hB14.mono HB213.out.size))
    have HV14 := Lib.hid ((hB14.block V (Array.getElem?_eq_some_iff.1 HV13.out).1).trans HV13.out)
    clear hB14 y0 y1 y2 CFR
    by_cases hc : now < (FR : Int)
    · have e1 : decide (now < (FR : Int)) = true := decide_eq_true hc
      have HR1 : Hid (RR = 25) := Lib.hid (HVC.out.trans (by unfold verC; rw [if_neg (fun hh => hh HC0.out), if_neg (by rw [HC1.out]; decide), if_neg (by rw [HC2.out]; decide), if_neg (by rw [HC3.out]; decide), if_neg (by rw [HC4.out]; decide), if_neg (fun hh => hh HC5.out), if_neg (fun hh => hh HC6.out), if_neg (by have hh := HC7.out; omega), if_pos (by rw [HFR.out]; exact hc)]))
      trace "no"
      go_wp2_with fail
      go_ret
      exact ⟨by rw [HR1.out]; rfl, HB14.out⟩
    have HC8 : Hid (¬ now < ((valL p5 0 : Nat) : Int)) := Lib.hid (by rw [HFR.out]; exact hc)
    have e1 : decide (now < (FR : Int)) = false := decide_eq_false hc
    obtain ⟨y0, y1, y2⟩ := HBV14.out.sig
    trace "14"
    go_wp2_with fail
    refine (CUN.out _).mono ?_
    rintro e w15 ⟨rfl, hB15⟩
    have HBV15 := Lib.hid (HBV14.out.step hB15)
    have HB15 := Lib.hid (HB14.out.trans (hB15.mono HB14.out.size))
    have HB215 := Lib.hid (HB214.out.trans (hB15.mono HB214.out.size))
    have HV15 := Lib.hid ((hB15.block V (Array.getElem?_eq_some_iff.1 HV14.out).1).trans HV14.out)
    clear hB15 y0 y1 y2 CUN
    by_cases hc2 : (UN : Int) < now
    · have e2 : decide ((UN : Int) < now) = true := decide_eq_true hc2
      have HR1 : Hid (RR = 25) := Lib.hid (HVC.out.trans (by unfold verC; rw [if_neg (fun hh => hh HC0.out), if_neg (by rw [HC1.out]; decide), if_neg (by rw [HC2.out]; decide), if_neg (by rw [HC3.out]; decide), if_neg (by rw [HC4.out]; decide), if_neg (fun hh => hh HC5.out), if_neg (fun hh => hh HC6.out), if_neg (by have hh := HC7.out; omega), if_neg (by have hh := HC8.out; omega), if_pos (by rw [HUN.out]; exact hc2)]))
      trace "no"
      go_wp2_with fail
      go_ret
      exact ⟨by rw [HR1.out]; rfl, HB15.out⟩
    have HC9 : Hid (¬ ((valL p4 0 : Nat) : Int) < now) := Lib.hid (by rw [HUN.out]; exact hc2)
    have e2 : decide ((UN : Int) < now) = false := decide_eq_false hc2
    trace "15"
    obtain ⟨y0, y1, y2⟩ := HBV15.out.sig
    have z0 := HBV15.out.fst.1
    have v1 : w15.cell? ⟨V, 1, none⟩ = some (.int .i64 (M : Int)) := by simp only [World.cell?, HV15.out]; rfl
    have v2 : w15.cell? ⟨V, 2, none⟩ = some (.int .i64 (E : Int)) := by simp only [World.cell?, HV15.out]; rfl
    go_upto_region 18 with fail
    clear hc hc2 e1 e2
    refine heldG.regionG (fun w' => w'.cell? ⟨Y, 0, none⟩ = some (.string HD) ∧ w'.cell? ⟨Y, 1, none⟩ = some (.string P7) ∧ w'.cell? ⟨Y, 2, none⟩ = some (.string P8) ∧ w'.cell? ⟨Z, 0, none⟩ = some (.string h.o) ∧ w'.cell? ⟨V, 1, none⟩ = some (.int .i64 (M : Int)) ∧ w'.cell? ⟨V, 2, none⟩ = some (.int .i64 (E : Int)) ∧ Below w15.heap.size w15 w') (fun _ => false) (by kernel_rfl) ?_
    have hS0 := k6 (W := w15) ⟨y0, y1, y2, z0, v1, v2, Below.refl _ _⟩ (Below.refl _ _).drew
    clear y0 y1 y2 z0 v1 v2
    obtain ⟨w16, hw16⟩ : ∃ z, w15.drew = z := ⟨_, rfl⟩
    rw [hw16] at hS0 ⊢
    clear hw16
    trace "16"
    by_cases h4 : ¬ P8.size = 4
    · have HR1 : Hid (RR = 26) := Lib.hid (HVC.out.trans (by unfold verC; rw [if_neg (fun hh => hh HC0.out), if_neg (by rw [HC1.out]; decide), if_neg (by rw [HC2.out]; decide), if_neg (by rw [HC3.out]; decide), if_neg (by rw [HC4.out]; decide), if_neg (fun hh => hh HC5.out), if_neg (fun hh => hh HC6.out), if_neg (by have hh := HC7.out; omega), if_neg (by have hh := HC8.out; omega), if_neg (by have hh := HC9.out; omega), if_pos (by rw [← HP8.out, size_len]; exact h4)]))
      have H4 := Lib.hid h4
      clear h4
      refine isSet.takeD (i := 0) (d := 129) (v := .pointer (some ⟨Y, 2, none⟩)) rfl rfl (by kernel_rfl) (by kernel_rfl) (by kernel_rfl) (fun _ _ _ h => h) (by kernel_rfl) rfl (Or.inl ⟨by kernel_rfl, ?_⟩) hS0 ?_
      · intro wz hSw
        obtain ⟨s0, s1, s2, s3, s4, s5, s6⟩ := hSw
        go_simp
      try simp only [Act.put, List.setIfInBounds_toArray, List.set_cons_zero, List.set_cons_succ]
      refine isSet.takeD (i := 1) (d := 130) (v := .string P8) rfl rfl (by kernel_rfl) (by kernel_rfl) (by kernel_rfl) (fun _ _ _ h => h) (by kernel_rfl) rfl (Or.inl ⟨by kernel_rfl, ?_⟩) hS0 ?_
      · intro wz hSw
        obtain ⟨s0, s1, s2, s3, s4, s5, s6⟩ := hSw
        go_simp
      try simp only [Act.put, List.setIfInBounds_toArray, List.set_cons_zero, List.set_cons_succ]
      refine isSet.takeD (i := 2) (d := 131) (v := .int .i64 (P8.size : Int)) rfl rfl (by kernel_rfl) (by kernel_rfl) (by kernel_rfl) (fun _ _ _ h => h) (by kernel_rfl) rfl (Or.inl ⟨by kernel_rfl, ?_⟩) hS0 ?_
      · intro wz hSw
        obtain ⟨s0, s1, s2, s3, s4, s5, s6⟩ := hSw
        go_simp
      try simp only [Act.put, List.setIfInBounds_toArray, List.set_cons_zero, List.set_cons_succ]
      refine isSet.takeD (i := 3) (d := 132) (v := .bool true) rfl rfl (by kernel_rfl) (by kernel_rfl) (by kernel_rfl) (fun _ _ _ h => h) (by kernel_rfl) rfl (Or.inl ⟨by kernel_rfl, ?_⟩) hS0 ?_
      · intro wz hSw
        obtain ⟨s0, s1, s2, s3, s4, s5, s6⟩ := hSw
        go_simp; first | done | exact H4.out | (have h9 := H4.out; omega) | simp [H4.out]
      try simp only [Act.put, List.setIfInBounds_toArray, List.set_cons_zero, List.set_cons_succ]
      refine isSet.takeD (i := 4) (d := 133) (v := .bool true) rfl rfl (by kernel_rfl) (by kernel_rfl) (by kernel_rfl) (fun _ _ _ h => h) (by kernel_rfl) rfl (Or.inl ⟨by kernel_rfl, ?_⟩) hS0 ?_
      · intro wz hSw
        obtain ⟨s0, s1, s2, s3, s4, s5, s6⟩ := hSw
        go_simp
      try simp only [Act.put, List.setIfInBounds_toArray, List.set_cons_zero, List.set_cons_succ]
      refine isSet.takeD (i := 5) (d := 134) (v := undef) rfl rfl (by kernel_rfl) (by kernel_rfl) (by kernel_rfl) (fun _ _ _ h => h) (by kernel_rfl) rfl (Or.inr ⟨by kernel_rfl, rfl⟩) hS0 ?_
      try simp only [Act.put, List.setIfInBounds_toArray, List.set_cons_zero, List.set_cons_succ]
      refine isSet.takeD (i := 6) (d := 135) (v := undef) rfl rfl (by kernel_rfl) (by kernel_rfl) (by kernel_rfl) (fun _ _ _ h => h) (by kernel_rfl) rfl (Or.inr ⟨by kernel_rfl, rfl⟩) hS0 ?_
      try simp only [Act.put, List.setIfInBounds_toArray, List.set_cons_zero, List.set_cons_succ]
      refine isSet.takeD (i := 7) (d := 136) (v := undef) rfl rfl (by kernel_rfl) (by kernel_rfl) (by kernel_rfl) (fun _ _ _ h => h) (by kernel_rfl) rfl (Or.inr ⟨by kernel_rfl, rfl⟩) hS0 ?_
      try simp only [Act.put, List.setIfInBounds_toArray, List.set_cons_zero, List.set_cons_succ]
      refine isSet.takeD (i := 8) (d := 137) (v := undef) rfl rfl (by kernel_rfl) (by kernel_rfl) (by kernel_rfl) (fun _ _ _ h => h) (by kernel_rfl) rfl (Or.inr ⟨by kernel_rfl, rfl⟩) hS0 ?_
      try simp only [Act.put, List.setIfInBounds_toArray, List.set_cons_zero, List.set_cons_succ]
      refine isSet.takeD (i := 9) (d := 138) (v := undef) rfl rfl (by kernel_rfl) (by kernel_rfl) (by kernel_rfl) (fun _ _ _ h => h) (by kernel_rfl) rfl (Or.inr ⟨by kernel_rfl, rfl⟩) hS0 ?_
      try simp only [Act.put, List.setIfInBounds_toArray, List.set_cons_zero, List.set_cons_succ]
      refine isSet.takeD (i := 10) (d := 139) (v := undef) rfl rfl (by kernel_rfl) (by kernel_rfl) (by kernel_rfl) (fun _ _ _ h => h) (by kernel_rfl) rfl (Or.inr ⟨by kernel_rfl, rfl⟩) hS0 ?_
      try simp only [Act.put, List.setIfInBounds_toArray, List.set_cons_zero, List.set_cons_succ]
      refine isSet.takeD (i := 11) (d := 140) (v := .bool true) rfl rfl (by kernel_rfl) (by kernel_rfl) (by kernel_rfl) (fun _ _ _ h => h) (by kernel_rfl) rfl (Or.inl ⟨by kernel_rfl, ?_⟩) hS0 ?_
      · intro wz hSw
        obtain ⟨s0, s1, s2, s3, s4, s5, s6⟩ := hSw
        go_simp
      try simp only [Act.put, List.setIfInBounds_toArray, List.set_cons_zero, List.set_cons_succ]
      refine isSet.takeD (i := 12) (d := 141) (v := .bool true) rfl rfl (by kernel_rfl) (by kernel_rfl) (by kernel_rfl) (fun _ _ _ h => h) (by kernel_rfl) rfl (Or.inl ⟨by kernel_rfl, ?_⟩) hS0 ?_
      · intro wz hSw
        obtain ⟨s0, s1, s2, s3, s4, s5, s6⟩ := hSw
        go_simp
      try simp only [Act.put, List.setIfInBounds_toArray, List.set_cons_zero, List.set_cons_succ]
      refine isSet.takeD (i := 13) (d := 142) (v := undef) rfl rfl (by kernel_rfl) (by kernel_rfl) (by kernel_rfl) (fun _ _ _ h => h) (by kernel_rfl) rfl (Or.inr ⟨by kernel_rfl, rfl⟩) hS0 ?_
      try simp only [Act.put, List.setIfInBounds_toArray, List.set_cons_zero, List.set_cons_succ]
      refine isSet.takeD (i := 14) (d := 143) (v := undef) rfl rfl (by kernel_rfl) (by kernel_rfl) (by kernel_rfl) (fun _ _ _ h => h) (by kernel_rfl) rfl (Or.inr ⟨by kernel_rfl, rfl⟩) hS0 ?_
      try simp only [Act.put, List.setIfInBounds_toArray, List.set_cons_zero, List.set_cons_succ]
      refine isSet.takeD (i := 15) (d := 144) (v := undef) rfl rfl (by kernel_rfl) (by kernel_rfl) (by kernel_rfl) (fun _ _ _ h => h) (by kernel_rfl) rfl (Or.inr ⟨by kernel_rfl, rfl⟩) hS0 ?_
      try simp only [Act.put, List.setIfInBounds_toArray, List.set_cons_zero, List.set_cons_succ]
      refine isSet.takeD (i := 16) (d := 145) (v := undef) rfl rfl (by kernel_rfl) (by kernel_rfl) (by kernel_rfl) (fun _ _ _ h => h) (by kernel_rfl) rfl (Or.inr ⟨by kernel_rfl, rfl⟩) hS0 ?_
      try simp only [Act.put, List.setIfInBounds_toArray, List.set_cons_zero, List.set_cons_succ]
      refine isSet.takeD (i := 17) (d := 146) (v := undef) rfl rfl (by kernel_rfl) (by kernel_rfl) (by kernel_rfl) (fun _ _ _ h => h) (by kernel_rfl) rfl (Or.inr ⟨by kernel_rfl, rfl⟩) hS0 ?_
      try simp only [Act.put, List.setIfInBounds_toArray, List.set_cons_zero, List.set_cons_succ]
      refine isSet.takeD (i := 18) (d := 147) (v := undef) rfl rfl (by kernel_rfl) (by kernel_rfl) (by kernel_rfl) (fun _ _ _ h => h) (by kernel_rfl) rfl (Or.inr ⟨by kernel_rfl, rfl⟩) hS0 ?_
      try simp only [Act.put, List.setIfInBounds_toArray, List.set_cons_zero, List.set_cons_succ]
      refine isSet.takeD (i := 19) (d := 148) (v := undef) rfl rfl (by kernel_rfl) (by kernel_rfl) (by kernel_rfl) (fun _ _ _ h => h) (by kernel_rfl) rfl (Or.inr ⟨by kernel_rfl, rfl⟩) hS0 ?_
      try simp only [Act.put, List.setIfInBounds_toArray, List.set_cons_zero, List.set_cons_succ]
      refine isSet.takeD (i := 20) (d := 149) (v := undef) rfl rfl (by kernel_rfl) (by kernel_rfl) (by kernel_rfl) (fun _ _ _ h => h) (by kernel_rfl) rfl (Or.inr ⟨by kernel_rfl, rfl⟩) hS0 ?_
      try simp only [Act.put, List.setIfInBounds_toArray, List.set_cons_zero, List.set_cons_succ]
      refine isSet.takeD (i := 21) (d := 150) (v := undef) rfl rfl (by kernel_rfl) (by kernel_rfl) (by kernel_rfl) (fun _ _ _ h => h) (by kernel_rfl) rfl (Or.inr ⟨by kernel_rfl, rfl⟩) hS0 ?_
      try simp only [Act.put, List.setIfInBounds_toArray, List.set_cons_zero, List.set_cons_succ]
      refine isSet.takeD (i := 22) (d := 151) (v := undef) rfl rfl (by kernel_rfl) (by kernel_rfl) (by kernel_rfl) (fun _ _ _ h => h) (by kernel_rfl) rfl (Or.inr ⟨by kernel_rfl, rfl⟩) hS0 ?_
      try simp only [Act.put, List.setIfInBounds_toArray, List.set_cons_zero, List.set_cons_succ]
      refine isSet.takeD (i := 23) (d := 152) (v := undef) rfl rfl (by kernel_rfl) (by kernel_rfl) (by kernel_rfl) (fun _ _ _ h => h) (by kernel_rfl) rfl (Or.inr ⟨by kernel_rfl, rfl⟩) hS0 ?_
      try simp only [Act.put, List.setIfInBounds_toArray, List.set_cons_zero, List.set_cons_succ]
      refine isSet.takeD (i := 24) (d := 153) (v := undef) rfl rfl (by kernel_rfl) (by kernel_rfl) (by kernel_rfl) (fun _ _ _ h => h) (by kernel_rfl) rfl (Or.inr ⟨by kernel_rfl, rfl⟩) hS0 ?_
      try simp only [Act.put, List.setIfInBounds_toArray, List.set_cons_zero, List.set_cons_succ]
      refine isSet.takeD (i := 25) (d := 154) (v := undef) rfl rfl (by kernel_rfl) (by kernel_rfl) (by kernel_rfl) (fun _ _ _ h => h) (by kernel_rfl) rfl (Or.inr ⟨by kernel_rfl, rfl⟩) hS0 ?_
      try simp only [Act.put, List.setIfInBounds_toArray, List.set_cons_zero, List.set_cons_succ]
      refine isSet.takeD (i := 26) (d := 155) (v := undef) rfl rfl (by kernel_rfl) (by kernel_rfl) (by kernel_rfl) (fun _ _ _ h => h) (by kernel_rfl) rfl (Or.inr ⟨by kernel_rfl, rfl⟩) hS0 ?_
      try simp only [Act.put, List.setIfInBounds_toArray, List.set_cons_zero, List.set_cons_succ]
      refine isSet.takeD (i := 27) (d := 156) (v := undef) rfl rfl (by kernel_rfl) (by kernel_rfl) (by kernel_rfl) (fun _ _ _ h => h) (by kernel_rfl) rfl (Or.inr ⟨by kernel_rfl, rfl⟩) hS0 ?_
      try simp only [Act.put, List.setIfInBounds_toArray, List.set_cons_zero, List.set_cons_succ]
      refine isSet.takeD (i := 28) (d := 157) (v := undef) rfl rfl (by kernel_rfl) (by kernel_rfl) (by kernel_rfl) (fun _ _ _ h => h) (by kernel_rfl) rfl (Or.inr ⟨by kernel_rfl, rfl⟩) hS0 ?_
      try simp only [Act.put, List.setIfInBounds_toArray, List.set_cons_zero, List.set_cons_succ]
      refine isSet.takeD (i := 29) (d := 158) (v := undef) rfl rfl (by kernel_rfl) (by kernel_rfl) (by kernel_rfl) (fun _ _ _ h => h) (by kernel_rfl) rfl (Or.inr ⟨by kernel_rfl, rfl⟩) hS0 ?_
      try simp only [Act.put, List.setIfInBounds_toArray, List.set_cons_zero, List.set_cons_succ]
      refine isSet.takeD (i := 30) (d := 159) (v := .bool true) rfl rfl (by kernel_rfl) (by kernel_rfl) (by kernel_rfl) (fun _ _ _ h => h) (by kernel_rfl) rfl (Or.inl ⟨by kernel_rfl, ?_⟩) hS0 ?_
      · intro wz hSw
        obtain ⟨s0, s1, s2, s3, s4, s5, s6⟩ := hSw
        go_simp
      try simp only [Act.put, List.setIfInBounds_toArray, List.set_cons_zero, List.set_cons_succ]
      refine isSet.takeD (i := 31) (d := 128) (v := .bool true) rfl rfl (by kernel_rfl) (by kernel_rfl) (by kernel_rfl) (fun _ _ _ h => h) (by kernel_rfl) rfl (Or.inl ⟨by kernel_rfl, ?_⟩) hS0 ?_
      · intro wz hSw
        obtain ⟨s0, s1, s2, s3, s4, s5, s6⟩ := hSw
        go_simp
      try simp only [Act.put, List.setIfInBounds_toArray, List.set_cons_zero, List.set_cons_succ]
      have hSF := hS0
      refine heldG.doneG (by kernel_rfl) ?_ _
      have HBN := Lib.hid (HB15.out.trans (hSF.2.2.2.2.2.2.mono HB15.out.size))
      trace "no"
      go_wp2_with fail
      go_ret
      exact ⟨by rw [HR1.out]; rfl, HBN.out⟩
    have h4 : P8.size = 4 := Classical.not_not.1 h4
    have HC10 : Hid (p8.length = 4) := Lib.hid (by rw [← HP8.out, size_len]; exact h4)
    have H4 := Lib.hid h4
    have CNU := Lib.hid (fun wx => val.number_any P8 wx (by omega))
    obtain ⟨NV, hNV⟩ : ∃ z, valL P8.data.toList 0 = z := ⟨_, rfl⟩
    have bNV : NV ≤ 4294967296 := by rw [← hNV]; exact Nat.le_of_lt (val4 (by rw [size_len]; omega))
    rw [hNV] at CNU
    have HNV : Hid (valL p8 0 = NV) := Lib.hid (by rw [← HP8.out]; exact hNV)
    clear h4 hNV
    by_cases h5 : M ≤ NV
    · have HR1 : Hid (RR = 26) := Lib.hid (HVC.out.trans (by unfold verC; rw [if_neg (fun hh => hh HC0.out), if_neg (by rw [HC1.out]; decide), if_neg (by rw [HC2.out]; decide), if_neg (by rw [HC3.out]; decide), if_neg (by rw [HC4.out]; decide), if_neg (fun hh => hh HC5.out), if_neg (fun hh => hh HC6.out), if_neg (by have hh := HC7.out; omega), if_neg (by have hh := HC8.out; omega), if_neg (by have hh := HC9.out; omega), if_neg (fun hh => hh HC10.out), if_pos (by rw [HNV.out, HM.out]; exact h5)]))
      have H5 := Lib.hid (show (M : Int) ≤ (NV : Int) by omega)
      have H5n := Lib.hid h5
      clear h5
      refine isSet.takeD (i := 0) (d := 129) (v := .pointer (some ⟨Y, 2, none⟩)) rfl rfl (by kernel_rfl) (by kernel_rfl) (by kernel_rfl) (fun _ _ _ h => h) (by kernel_rfl) rfl (Or.inl ⟨by kernel_rfl, ?_⟩) hS0 ?_
      · intro wz hSw
        obtain ⟨s0, s1, s2, s3, s4, s5, s6⟩ := hSw
        go_simp
      try simp only [Act.put, List.setIfInBounds_toArray, List.set_cons_zero, List.set_cons_succ]
      refine isSet.takeD (i := 1) (d := 130) (v := .string P8) rfl rfl (by kernel_rfl) (by kernel_rfl) (by kernel_rfl) (fun _ _ _ h => h) (by kernel_rfl) rfl (Or.inl ⟨by kernel_rfl, ?_⟩) hS0 ?_
      · intro wz hSw
        obtain ⟨s0, s1, s2, s3, s4, s5, s6⟩ := hSw
        go_simp
      try simp only [Act.put, List.setIfInBounds_toArray, List.set_cons_zero, List.set_cons_succ]
      refine isSet.takeD (i := 2) (d := 131) (v := .int .i64 (P8.size : Int)) rfl rfl (by kernel_rfl) (by kernel_rfl) (by kernel_rfl) (fun _ _ _ h => h) (by kernel_rfl) rfl (Or.inl ⟨by kernel_rfl, ?_⟩) hS0 ?_
      · intro wz hSw
        obtain ⟨s0, s1, s2, s3, s4, s5, s6⟩ := hSw
        go_simp
      try simp only [Act.put, List.setIfInBounds_toArray, List.set_cons_zero, List.set_cons_succ]
      refine isSet.takeD (i := 3) (d := 132) (v := .bool false) rfl rfl (by kernel_rfl) (by kernel_rfl) (by kernel_rfl) (fun _ _ _ h => h) (by kernel_rfl) rfl (Or.inl ⟨by kernel_rfl, ?_⟩) hS0 ?_
      · intro wz hSw
        obtain ⟨s0, s1, s2, s3, s4, s5, s6⟩ := hSw
        go_simp; first | done | exact H4.out | (have h9 := H4.out; omega) | simp [H4.out]
      try simp only [Act.put, List.setIfInBounds_toArray, List.set_cons_zero, List.set_cons_succ]
      refine isSet.takeD (i := 4) (d := 133) (v := .bool false) rfl rfl (by kernel_rfl) (by kernel_rfl) (by kernel_rfl) (fun _ _ _ h => h) (by kernel_rfl) rfl (Or.inl ⟨by kernel_rfl, ?_⟩) hS0 ?_
      · intro wz hSw
        obtain ⟨s0, s1, s2, s3, s4, s5, s6⟩ := hSw
        go_simp
      try simp only [Act.put, List.setIfInBounds_toArray, List.set_cons_zero, List.set_cons_succ]
      refine isSet.takeD (i := 5) (d := 134) (v := .pointer (some ⟨Y, 2, none⟩)) rfl rfl (by kernel_rfl) (by kernel_rfl) (by kernel_rfl) (fun _ _ _ h => h) (by kernel_rfl) rfl (Or.inl ⟨by kernel_rfl, ?_⟩) hS0 ?_
      · intro wz hSw
        obtain ⟨s0, s1, s2, s3, s4, s5, s6⟩ := hSw
        go_simp
      try simp only [Act.put, List.setIfInBounds_toArray, List.set_cons_zero, List.set_cons_succ]
      refine isSet.takeD (i := 6) (d := 135) (v := .string P8) rfl rfl (by kernel_rfl) (by kernel_rfl) (by kernel_rfl) (fun _ _ _ h => h) (by kernel_rfl) rfl (Or.inl ⟨by kernel_rfl, ?_⟩) hS0 ?_
      · intro wz hSw
        obtain ⟨s0, s1, s2, s3, s4, s5, s6⟩ := hSw
        go_simp
      try simp only [Act.put, List.setIfInBounds_toArray, List.set_cons_zero, List.set_cons_succ]
      refine isSet.takeD (i := 8) (d := 137) (v := .pointer (some ⟨V, 1, none⟩)) rfl rfl (by kernel_rfl) (by kernel_rfl) (by kernel_rfl) (fun _ _ _ h => h) (by kernel_rfl) rfl (Or.inl ⟨by kernel_rfl, ?_⟩) hS0 ?_
      · intro wz hSw
        obtain ⟨s0, s1, s2, s3, s4, s5, s6⟩ := hSw
        go_simp
      try simp only [Act.put, List.setIfInBounds_toArray, List.set_cons_zero, List.set_cons_succ]
      refine isSet.takeD (i := 9) (d := 138) (v := .int .i64 (M : Int)) rfl rfl (by kernel_rfl) (by kernel_rfl) (by kernel_rfl) (fun _ _ _ h => h) (by kernel_rfl) rfl (Or.inl ⟨by kernel_rfl, ?_⟩) hS0 ?_
      · intro wz hSw
        obtain ⟨s0, s1, s2, s3, s4, s5, s6⟩ := hSw
        go_simp
      try simp only [Act.put, List.setIfInBounds_toArray, List.set_cons_zero, List.set_cons_succ]
      refine heldG.readyG (rs := [7]) (by kernel_rfl) (by simp) ?_
      refine heldG.AllG.cons rfl (fun KK hKK => ?_) heldG.AllG.nil
      go_simp
      refine (CNU.out _).mono ?_
      rintro en wq ⟨rfl, rfl⟩
      dsimp only
      refine hKK.out _ _ (fun _ => hS0) ?_; clear hKK KK
      try simp only [Act.put, List.setIfInBounds_toArray, List.set_cons_zero, List.set_cons_succ]
      refine isSet.takeD (i := 10) (d := 139) (v := .bool true) rfl rfl (by kernel_rfl) (by kernel_rfl) (by kernel_rfl) (fun _ _ _ h => h) (by kernel_rfl) rfl (Or.inl ⟨by kernel_rfl, ?_⟩) hS0 ?_
      · intro wz hSw
        obtain ⟨s0, s1, s2, s3, s4, s5, s6⟩ := hSw
        go_simp; first | done | exact H5.out | exact H5n.out | (have h9 := H5n.out; simp; omega)
      try simp only [Act.put, List.setIfInBounds_toArray, List.set_cons_zero, List.set_cons_succ]
      refine isSet.takeD (i := 11) (d := 140) (v := .bool true) rfl rfl (by kernel_rfl) (by kernel_rfl) (by kernel_rfl) (fun _ _ _ h => h) (by kernel_rfl) rfl (Or.inl ⟨by kernel_rfl, ?_⟩) hS0 ?_
      · intro wz hSw
        obtain ⟨s0, s1, s2, s3, s4, s5, s6⟩ := hSw
        go_simp
      try simp only [Act.put, List.setIfInBounds_toArray, List.set_cons_zero, List.set_cons_succ]
      refine isSet.takeD (i := 12) (d := 141) (v := .bool true) rfl rfl (by kernel_rfl) (by kernel_rfl) (by kernel_rfl) (fun _ _ _ h => h) (by kernel_rfl) rfl (Or.inl ⟨by kernel_rfl, ?_⟩) hS0 ?_
      · intro wz hSw
        obtain ⟨s0, s1, s2, s3, s4, s5, s6⟩ := hSw
        go_simp
      try simp only [Act.put, List.setIfInBounds_toArray, List.set_cons_zero, List.set_cons_succ]
      refine isSet.takeD (i := 13) (d := 142) (v := undef) rfl rfl (by kernel_rfl) (by kernel_rfl) (by kernel_rfl) (fun _ _ _ h => h) (by kernel_rfl) rfl (Or.inr ⟨by kernel_rfl, rfl⟩) hS0 ?_
      try simp only [Act.put, List.setIfInBounds_toArray, List.set_cons_zero, List.set_cons_succ]
      refine isSet.takeD (i := 14) (d := 143) (v := undef) rfl rfl (by kernel_rfl) (by kernel_rfl) (by kernel_rfl) (fun _ _ _ h => h) (by kernel_rfl) rfl (Or.inr ⟨by kernel_rfl, rfl⟩) hS0 ?_
      try simp only [Act.put, List.setIfInBounds_toArray, List.set_cons_zero, List.set_cons_succ]
      refine isSet.takeD (i := 15) (d := 144) (v := undef) rfl rfl (by kernel_rfl) (by kernel_rfl) (by kernel_rfl) (fun _ _ _ h => h) (by kernel_rfl) rfl (Or.inr ⟨by kernel_rfl, rfl⟩) hS0 ?_
      try simp only [Act.put, List.setIfInBounds_toArray, List.set_cons_zero, List.set_cons_succ]
      refine isSet.takeD (i := 16) (d := 145) (v := undef) rfl rfl (by kernel_rfl) (by kernel_rfl) (by kernel_rfl) (fun _ _ _ h => h) (by kernel_rfl) rfl (Or.inr ⟨by kernel_rfl, rfl⟩) hS0 ?_
      try simp only [Act.put, List.setIfInBounds_toArray, List.set_cons_zero, List.set_cons_succ]
      refine isSet.takeD (i := 17) (d := 146) (v := undef) rfl rfl (by kernel_rfl) (by kernel_rfl) (by kernel_rfl) (fun _ _ _ h => h) (by kernel_rfl) rfl (Or.inr ⟨by kernel_rfl, rfl⟩) hS0 ?_
      try simp only [Act.put, List.setIfInBounds_toArray, List.set_cons_zero, List.set_cons_succ]
      refine isSet.takeD (i := 18) (d := 147) (v := undef) rfl rfl (by kernel_rfl) (by kernel_rfl) (by kernel_rfl) (fun _ _ _ h => h) (by kernel_rfl) rfl (Or.inr ⟨by kernel_rfl, rfl⟩) hS0 ?_
      try simp only [Act.put, List.setIfInBounds_toArray, List.set_cons_zero, List.set_cons_succ]
      refine isSet.takeD (i := 19) (d := 148) (v := undef) rfl rfl (by kernel_rfl) (by kernel_rfl) (by kernel_rfl) (fun _ _ _ h => h) (by kernel_rfl) rfl (Or.inr ⟨by kernel_rfl, rfl⟩) hS0 ?_
      try simp only [Act.put, List.setIfInBounds_toArray, List.set_cons_zero, List.set_cons_succ]
      refine isSet.takeD (i := 20) (d := 149) (v := undef) rfl rfl (by kernel_rfl) (by kernel_rfl) (by kernel_rfl) (fun _ _ _ h => h) (by kernel_rfl) rfl (Or.inr ⟨by kernel_rfl, rfl⟩) hS0 ?_
      try simp only [Act.put, List.setIfInBounds_toArray, List.set_cons_zero, List.set_cons_succ]
      refine isSet.takeD (i := 21) (d := 150) (v := undef) rfl rfl (by kernel_rfl) (by kernel_rfl) (by kernel_rfl) (fun _ _ _ h => h) (by kernel_rfl) rfl (Or.inr ⟨by kernel_rfl, rfl⟩) hS0 ?_
      try simp only [Act.put, List.setIfInBounds_toArray, List.set_cons_zero, List.set_cons_succ]
      refine isSet.takeD (i := 22) (d := 151) (v := undef) rfl rfl (by kernel_rfl) (by kernel_rfl) (by kernel_rfl) (fun _ _ _ h => h) (by kernel_rfl) rfl (Or.inr ⟨by kernel_rfl, rfl⟩) hS0 ?_
      try simp only [Act.put, List.setIfInBounds_toArray, List.set_cons_zero, List.set_cons_succ]
      refine isSet.takeD (i := 23) (d := 152) (v := undef) rfl rfl (by kernel_rfl) (by kernel_rfl) (by kernel_rfl) (fun _ _ _ h => h) (by kernel_rfl) rfl (Or.inr ⟨by kernel_rfl, rfl⟩) hS0 ?_
      try simp only [Act.put, List.setIfInBounds_toArray, List.set_cons_zero, List.set_cons_succ]
      refine isSet.takeD (i := 24) (d := 153) (v := undef) rfl rfl (by kernel_rfl) (by kernel_rfl) (by kernel_rfl) (fun _ _ _ h => h) (by kernel_rfl) rfl (Or.inr ⟨by kernel_rfl, rfl⟩) hS0 ?_
      try simp only [Act.put, List.setIfInBounds_toArray, List.set_cons_zero, List.set_cons_succ]
      refine isSet.takeD (i := 25) (d := 154) (v := undef) rfl rfl (by kernel_rfl) (by kernel_rfl) (by kernel_rfl) (fun _ _ _ h => h) (by kernel_rfl) rfl (Or.inr ⟨by kernel_rfl, rfl⟩) hS0 ?_
      try simp only [Act.put, List.setIfInBounds_toArray, List.set_cons_zero, List.set_cons_succ]
      refine isSet.takeD (i := 26) (d := 155) (v := undef) rfl rfl (by kernel_rfl) (by kernel_rfl) (by kernel_rfl) (fun _ _ _ h => h) (by kernel_rfl) rfl (Or.inr ⟨by kernel_rfl, rfl⟩) hS0 ?_
      try simp only [Act.put, List.setIfInBounds_toArray, List.set_cons_zero, List.set_cons_succ]
      refine isSet.takeD (i := 27) (d := 156) (v := undef) rfl rfl (by kernel_rfl) (by kernel_rfl) (by kernel_rfl) (fun _ _ _ h => h) (by kernel_rfl) rfl (Or.inr ⟨by kernel_rfl, rfl⟩) hS0 ?_
      try simp only [Act.put, List.setIfInBounds_toArray, List.set_cons_zero, List.set_cons_succ]
      refine isSet.takeD (i := 28) (d := 157) (v := undef) rfl rfl (by kernel_rfl) (by kernel_rfl) (by kernel_rfl) (fun _ _ _ h => h) (by kernel_rfl) rfl (Or.inr ⟨by kernel_rfl, rfl⟩) hS0 ?_
      try simp only [Act.put, List.setIfInBounds_toArray, List.set_cons_zero, List.set_cons_succ]
      refine isSet.takeD (i := 29) (d := 158) (v := undef) rfl rfl (by kernel_rfl) (by kernel_rfl) (by kernel_rfl) (fun _ _ _ h => h) (by kernel_rfl) rfl (Or.inr ⟨by kernel_rfl, rfl⟩) hS0 ?_
      try simp only [Act.put, List.setIfInBounds_toArray, List.set_cons_zero, List.set_cons_succ]
      refine isSet.takeD (i := 30) (d := 159) (v := .bool true) rfl rfl (by kernel_rfl) (by kernel_rfl) (by kernel_rfl) (fun _ _ _ h => h) (by kernel_rfl) rfl (Or.inl ⟨by kernel_rfl, ?_⟩) hS0 ?_
      · intro wz hSw
        obtain ⟨s0, s1, s2, s3, s4, s5, s6⟩ := hSw
        go_simp
      try simp only [Act.put, List.setIfInBounds_toArray, List.set_cons_zero, List.set_cons_succ]
      refine isSet.takeD (i := 31) (d := 128) (v := .bool true) rfl rfl (by kernel_rfl) (by kernel_rfl) (by kernel_rfl) (fun _ _ _ h => h) (by kernel_rfl) rfl (Or.inl ⟨by kernel_rfl, ?_⟩) hS0 ?_
      · intro wz hSw
        obtain ⟨s0, s1, s2, s3, s4, s5, s6⟩ := hSw
        go_simp
      try simp only [Act.put, List.setIfInBounds_toArray, List.set_cons_zero, List.set_cons_succ]
      have hSF := hS0
      refine heldG.doneG (by kernel_rfl) ?_ _
      have HBN := Lib.hid (HB15.out.trans (hSF.2.2.2.2.2.2.mono HB15.out.size))
      trace "no"
      go_wp2_with fail
      go_ret
      exact ⟨by rw [HR1.out]; rfl, HBN.out⟩
    have HC11 : Hid (¬ kM kd.data.toList ≤ valL p8 0) := Lib.hid (by rw [HNV.out, HM.out]; exact h5)
    have H5 := Lib.hid (show ¬ (M : Int) ≤ (NV : Int) by omega)
    have H5n := Lib.hid (show NV < M by omega)
    clear h5
    have bM1 : 0 < M := by omega
    have CPW := Lib.hid (fun wx => pow.power_any NV E M wx bM1 hkm2 bNV hke)
    have hpw := pow_lt (v := NV) (e := E) bM1
    obtain ⟨PW, hPW⟩ : ∃ PW, powS NV E M = PW := ⟨_, rfl⟩
    rw [hPW] at CPW hpw
    have HPW := Lib.hid hPW
    have bTX : (sealS.textS HD.data.toList P7.data.toList (c3.toNat : Int) h.o.data.toList DS).length ≤ 1099511627776 := by
      unfold sealS.textS
      have hbe := body_len (own := ownS (c3.toNat : Int) h.o.data.toList) (t2 := HD.data.toList.take 2) (ttl := (HD.data.toList.drop 4).take 4) (own_len _ _) (by rw [List.length_take]; omega) (by rw [List.length_take]; omega) DS
      have h1 := dfold.fold_short P7.data.toList
      have h2 := HBD.out
      have h3 := HLEN.out
      simp only [List.length_append, size_len]
      omega
    have CT := Lib.hid (fun (wx : World) (hB : Below w15.heap.size w15 wx) => sigText.text_any HD P7 P8 h.o c3 a6 n c6 DS wx hHs HLAB.out (by omega) hoh.o HLEN.out ((HRD6.out.below HB215.out rfl).below hB rfl) HBD.out hbig)
    obtain ⟨TX, hTX⟩ : ∃ TX : ByteArray, (⟨(sealS.textS HD.data.toList P7.data.toList (c3.toNat : Int) h.o.data.toList DS).toArray⟩ : ByteArray) = TX := ⟨_, rfl⟩
    rw [hTX] at CT
    have hTXd : TX.data.toList = sealS.textS HD.data.toList P7.data.toList (c3.toNat : Int) h.o.data.toList DS := by rw [← hTX]
    have hTXs : TX.size ≤ 1099511627776 := by rw [← size_len, hTXd]; exact bTX
    have CM := Lib.hid (fun wx => fig.mod_any TX M wx hTXs bM1 hkm2)
    obtain ⟨FG, hFG⟩ : ∃ FG, figL M (digestS TX.data.toList) 0 = FG := ⟨_, rfl⟩
    rw [hFG] at CM
    have HFG : Hid (figL (kM kd.data.toList) (digestS (sealS.textS (hdS p0 p1 p2 p3 p4 p5 p6) p7 ((valL p2 0 : Nat) : Int) h.o.data.toList (sortedT (L.map foldX)))) 0 = FG) := Lib.hid (by
      rw [HM.out, HDS.out, HLB.out, ← HLBC.out, ← HHD.out, ← HP7.out, ← hTXd, hFG])
    clear bTX hTX hTXd hTXs hFG hPW
    by_cases h6 : PW = FG
    · have HR1 : Hid (RR = 0) := Lib.hid (HVC.out.trans (by unfold verC; rw [if_neg (fun hh => hh HC0.out), if_neg (by rw [HC1.out]; decide), if_neg (by rw [HC2.out]; decide), if_neg (by rw [HC3.out]; decide), if_neg (by rw [HC4.out]; decide), if_neg (fun hh => hh HC5.out), if_neg (fun hh => hh HC6.out), if_neg (by have hh := HC7.out; omega), if_neg (by have hh := HC8.out; omega), if_neg (by have hh := HC9.out; omega), if_neg (fun hh => hh HC10.out), if_neg (by have hh := HC11.out; omega), if_neg (fun hh => hh (by rw [HNV.out, HE.out, HM.out, HPW.out]; exact h6.trans (by rw [← HM.out]; exact HFG.out.symm)))]))
      have H6 := Lib.hid h6
      clear h6
      refine isSet.takeD (i := 0) (d := 129) (v := .pointer (some ⟨Y, 2, none⟩)) rfl rfl (by kernel_rfl) (by kernel_rfl) (by kernel_rfl) (fun _ _ _ h => h) (by kernel_rfl) rfl (Or.inl ⟨by kernel_rfl, ?_⟩) hS0 ?_
      · intro wz hSw
        obtain ⟨s0, s1, s2, s3, s4, s5, s6⟩ := hSw
        go_simp
      try simp only [Act.put, List.setIfInBounds_toArray, List.set_cons_zero, List.set_cons_succ]
      refine isSet.takeD (i := 1) (d := 130) (v := .string P8) rfl rfl (by kernel_rfl) (by kernel_rfl) (by kernel_rfl) (fun _ _ _ h => h) (by kernel_rfl) rfl (Or.inl ⟨by kernel_rfl, ?_⟩) hS0 ?_
      · intro wz hSw
        obtain ⟨s0, s1, s2, s3, s4, s5, s6⟩ := hSw
        go_simp
      try simp only [Act.put, List.setIfInBounds_toArray, List.set_cons_zero, List.set_cons_succ]
      refine isSet.takeD (i := 2) (d := 131) (v := .int .i64 (P8.size : Int)) rfl rfl (by kernel_rfl) (by kernel_rfl) (by kernel_rfl) (fun _ _ _ h => h) (by kernel_rfl) rfl (Or.inl ⟨by kernel_rfl, ?_⟩) hS0 ?_
      · intro wz hSw
        obtain ⟨s0, s1, s2, s3, s4, s5, s6⟩ := hSw
        go_simp
      try simp only [Act.put, List.setIfInBounds_toArray, List.set_cons_zero, List.set_cons_succ]
      refine isSet.takeD (i := 3) (d := 132) (v := .bool false) rfl rfl (by kernel_rfl) (by kernel_rfl) (by kernel_rfl) (fun _ _ _ h => h) (by kernel_rfl) rfl (Or.inl ⟨by kernel_rfl, ?_⟩) hS0 ?_
      · intro wz hSw
        obtain ⟨s0, s1, s2, s3, s4, s5, s6⟩ := hSw
        go_simp; first | done | exact H4.out | (have h9 := H4.out; omega) | simp [H4.out]
      try simp only [Act.put, List.setIfInBounds_toArray, List.set_cons_zero, List.set_cons_succ]
      refine isSet.takeD (i := 4) (d := 133) (v := .bool false) rfl rfl (by kernel_rfl) (by kernel_rfl) (by kernel_rfl) (fun _ _ _ h => h) (by kernel_rfl) rfl (Or.inl ⟨by kernel_rfl, ?_⟩) hS0 ?_
      · intro wz hSw
        obtain ⟨s0, s1, s2, s3, s4, s5, s6⟩ := hSw
        go_simp
      try simp only [Act.put, List.setIfInBounds_toArray, List.set_cons_zero, List.set_cons_succ]
      refine isSet.takeD (i := 5) (d := 134) (v := .pointer (some ⟨Y, 2, none⟩)) rfl rfl (by kernel_rfl) (by kernel_rfl) (by kernel_rfl) (fun _ _ _ h => h) (by kernel_rfl) rfl (Or.inl ⟨by kernel_rfl, ?_⟩) hS0 ?_
      · intro wz hSw
        obtain ⟨s0, s1, s2, s3, s4, s5, s6⟩ := hSw
        go_simp
      try simp only [Act.put, List.setIfInBounds_toArray, List.set_cons_zero, List.set_cons_succ]
      refine isSet.takeD (i := 6) (d := 135) (v := .string P8) rfl rfl (by kernel_rfl) (by kernel_rfl) (by kernel_rfl) (fun _ _ _ h => h) (by kernel_rfl) rfl (Or.inl ⟨by kernel_rfl, ?_⟩) hS0 ?_
      · intro wz hSw
        obtain ⟨s0, s1, s2, s3, s4, s5, s6⟩ := hSw
        go_simp
      try simp only [Act.put, List.setIfInBounds_toArray, List.set_cons_zero, List.set_cons_succ]
      refine isSet.takeD (i := 8) (d := 137) (v := .pointer (some ⟨V, 1, none⟩)) rfl rfl (by kernel_rfl) (by kernel_rfl) (by kernel_rfl) (fun _ _ _ h => h) (by kernel_rfl) rfl (Or.inl ⟨by kernel_rfl, ?_⟩) hS0 ?_
      · intro wz hSw
        obtain ⟨s0, s1, s2, s3, s4, s5, s6⟩ := hSw
        go_simp
      try simp only [Act.put, List.setIfInBounds_toArray, List.set_cons_zero, List.set_cons_succ]
      refine isSet.takeD (i := 9) (d := 138) (v := .int .i64 (M : Int)) rfl rfl (by kernel_rfl) (by kernel_rfl) (by kernel_rfl) (fun _ _ _ h => h) (by kernel_rfl) rfl (Or.inl ⟨by kernel_rfl, ?_⟩) hS0 ?_
      · intro wz hSw
        obtain ⟨s0, s1, s2, s3, s4, s5, s6⟩ := hSw
        go_simp
      try simp only [Act.put, List.setIfInBounds_toArray, List.set_cons_zero, List.set_cons_succ]
      refine heldG.readyG (rs := [7]) (by kernel_rfl) (by simp) ?_
      refine heldG.AllG.cons rfl (fun KK hKK => ?_) heldG.AllG.nil
      go_simp
      refine (CNU.out _).mono ?_
      rintro en wq ⟨rfl, rfl⟩
      dsimp only
      refine hKK.out _ _ (fun _ => hS0) ?_; clear hKK KK
      try simp only [Act.put, List.setIfInBounds_toArray, List.set_cons_zero, List.set_cons_succ]
      refine isSet.takeD (i := 10) (d := 139) (v := .bool false) rfl rfl (by kernel_rfl) (by kernel_rfl) (by kernel_rfl) (fun _ _ _ h => h) (by kernel_rfl) rfl (Or.inl ⟨by kernel_rfl, ?_⟩) hS0 ?_
      · intro wz hSw
        obtain ⟨s0, s1, s2, s3, s4, s5, s6⟩ := hSw
        go_simp; first | done | exact H5.out | exact H5n.out | (have h9 := H5n.out; simp; omega)
      try simp only [Act.put, List.setIfInBounds_toArray, List.set_cons_zero, List.set_cons_succ]
      refine isSet.takeD (i := 11) (d := 140) (v := .bool false) rfl rfl (by kernel_rfl) (by kernel_rfl) (by kernel_rfl) (fun _ _ _ h => h) (by kernel_rfl) rfl (Or.inl ⟨by kernel_rfl, ?_⟩) hS0 ?_
      · intro wz hSw
        obtain ⟨s0, s1, s2, s3, s4, s5, s6⟩ := hSw
        go_simp
      try simp only [Act.put, List.setIfInBounds_toArray, List.set_cons_zero, List.set_cons_succ]
      refine isSet.takeD (i := 12) (d := 141) (v := .bool false) rfl rfl (by kernel_rfl) (by kernel_rfl) (by kernel_rfl) (fun _ _ _ h => h) (by kernel_rfl) rfl (Or.inl ⟨by kernel_rfl, ?_⟩) hS0 ?_
      · intro wz hSw
        obtain ⟨s0, s1, s2, s3, s4, s5, s6⟩ := hSw
        go_simp
      try simp only [Act.put, List.setIfInBounds_toArray, List.set_cons_zero, List.set_cons_succ]
      refine isSet.takeD (i := 13) (d := 142) (v := .pointer (some ⟨Y, 2, none⟩)) rfl rfl (by kernel_rfl) (by kernel_rfl) (by kernel_rfl) (fun _ _ _ h => h) (by kernel_rfl) rfl (Or.inl ⟨by kernel_rfl, ?_⟩) hS0 ?_
      · intro wz hSw
        obtain ⟨s0, s1, s2, s3, s4, s5, s6⟩ := hSw
        go_simp
      try simp only [Act.put, List.setIfInBounds_toArray, List.set_cons_zero, List.set_cons_succ]
      refine isSet.takeD (i := 14) (d := 143) (v := .string P8) rfl rfl (by kernel_rfl) (by kernel_rfl) (by kernel_rfl) (fun _ _ _ h => h) (by kernel_rfl) rfl (Or.inl ⟨by kernel_rfl, ?_⟩) hS0 ?_
      · intro wz hSw
        obtain ⟨s0, s1, s2, s3, s4, s5, s6⟩ := hSw
        go_simp
      try simp only [Act.put, List.setIfInBounds_toArray, List.set_cons_zero, List.set_cons_succ]
      refine isSet.takeD (i := 16) (d := 145) (v := .pointer (some ⟨V, 2, none⟩)) rfl rfl (by kernel_rfl) (by kernel_rfl) (by kernel_rfl) (fun _ _ _ h => h) (by kernel_rfl) rfl (Or.inl ⟨by kernel_rfl, ?_⟩) hS0 ?_
      · intro wz hSw
        obtain ⟨s0, s1, s2, s3, s4, s5, s6⟩ := hSw
        go_simp
      try simp only [Act.put, List.setIfInBounds_toArray, List.set_cons_zero, List.set_cons_succ]
      refine isSet.takeD (i := 17) (d := 146) (v := .int .i64 (E : Int)) rfl rfl (by kernel_rfl) (by kernel_rfl) (by kernel_rfl) (fun _ _ _ h => h) (by kernel_rfl) rfl (Or.inl ⟨by kernel_rfl, ?_⟩) hS0 ?_
      · intro wz hSw
        obtain ⟨s0, s1, s2, s3, s4, s5, s6⟩ := hSw
        go_simp
      try simp only [Act.put, List.setIfInBounds_toArray, List.set_cons_zero, List.set_cons_succ]
      refine isSet.takeD (i := 18) (d := 147) (v := .pointer (some ⟨V, 1, none⟩)) rfl rfl (by kernel_rfl) (by kernel_rfl) (by kernel_rfl) (fun _ _ _ h => h) (by kernel_rfl) rfl (Or.inl ⟨by kernel_rfl, ?_⟩) hS0 ?_
      · intro wz hSw
        obtain ⟨s0, s1, s2, s3, s4, s5, s6⟩ := hSw
        go_simp
      try simp only [Act.put, List.setIfInBounds_toArray, List.set_cons_zero, List.set_cons_succ]
      refine isSet.takeD (i := 19) (d := 148) (v := .int .i64 (M : Int)) rfl rfl (by kernel_rfl) (by kernel_rfl) (by kernel_rfl) (fun _ _ _ h => h) (by kernel_rfl) rfl (Or.inl ⟨by kernel_rfl, ?_⟩) hS0 ?_
      · intro wz hSw
        obtain ⟨s0, s1, s2, s3, s4, s5, s6⟩ := hSw
        go_simp
      try simp only [Act.put, List.setIfInBounds_toArray, List.set_cons_zero, List.set_cons_succ]
      refine isSet.takeD (i := 21) (d := 150) (v := .agg #[.string HD, .string P7, .string P8]) rfl rfl (by kernel_rfl) (by kernel_rfl) (by kernel_rfl) (fun _ _ _ h => h) (by kernel_rfl) rfl (Or.inl ⟨by kernel_rfl, ?_⟩) hS0 ?_
      · intro wz hSw
        obtain ⟨s0, s1, s2, s3, s4, s5, s6⟩ := hSw
        go_simp
      try simp only [Act.put, List.setIfInBounds_toArray, List.set_cons_zero, List.set_cons_succ]
      refine isSet.takeD (i := 22) (d := 151) (v := .pointer (some ⟨Z, 0, none⟩)) rfl rfl (by kernel_rfl) (by kernel_rfl) (by kernel_rfl) (fun _ _ _ h => h) (by kernel_rfl) rfl (Or.inl ⟨by kernel_rfl, ?_⟩) hS0 ?_
      · intro wz hSw
        obtain ⟨s0, s1, s2, s3, s4, s5, s6⟩ := hSw
        go_simp
      try simp only [Act.put, List.setIfInBounds_toArray, List.set_cons_zero, List.set_cons_succ]
      refine isSet.takeD (i := 23) (d := 152) (v := .string h.o) rfl rfl (by kernel_rfl) (by kernel_rfl) (by kernel_rfl) (fun _ _ _ h => h) (by kernel_rfl) rfl (Or.inl ⟨by kernel_rfl, ?_⟩) hS0 ?_
      · intro wz hSw
        obtain ⟨s0, s1, s2, s3, s4, s5, s6⟩ := hSw
        go_simp
      try simp only [Act.put, List.setIfInBounds_toArray, List.set_cons_zero, List.set_cons_succ]
      refine isSet.takeD (i := 24) (d := 153) (v := .slice a6 n c6) rfl rfl (by kernel_rfl) (by kernel_rfl) (by kernel_rfl) (fun _ _ _ h => h) (by kernel_rfl) rfl (Or.inl ⟨by kernel_rfl, ?_⟩) hS0 ?_
      · intro wz hSw
        obtain ⟨s0, s1, s2, s3, s4, s5, s6⟩ := hSw
        go_simp
      try simp only [Act.put, List.setIfInBounds_toArray, List.set_cons_zero, List.set_cons_succ]
      refine isSet.takeD (i := 26) (d := 155) (v := .pointer (some ⟨V, 1, none⟩)) rfl rfl (by kernel_rfl) (by kernel_rfl) (by kernel_rfl) (fun _ _ _ h => h) (by kernel_rfl) rfl (Or.inl ⟨by kernel_rfl, ?_⟩) hS0 ?_
      · intro wz hSw
        obtain ⟨s0, s1, s2, s3, s4, s5, s6⟩ := hSw
        go_simp
      try simp only [Act.put, List.setIfInBounds_toArray, List.set_cons_zero, List.set_cons_succ]
      refine isSet.takeD (i := 27) (d := 156) (v := .int .i64 (M : Int)) rfl rfl (by kernel_rfl) (by kernel_rfl) (by kernel_rfl) (fun _ _ _ h => h) (by kernel_rfl) rfl (Or.inl ⟨by kernel_rfl, ?_⟩) hS0 ?_
      · intro wz hSw
        obtain ⟨s0, s1, s2, s3, s4, s5, s6⟩ := hSw
        go_simp
      try simp only [Act.put, List.setIfInBounds_toArray, List.set_cons_zero, List.set_cons_succ]
      refine heldG.readyG (rs := [15]) (by kernel_rfl) (by simp) ?_
      refine heldG.AllG.cons rfl (fun KK hKK => ?_) heldG.AllG.nil
      go_simp
      refine (CNU.out _).mono ?_
      rintro en wq ⟨rfl, rfl⟩
      dsimp only
      refine hKK.out _ _ (fun _ => hS0) ?_; clear hKK KK
      try simp only [Act.put, List.setIfInBounds_toArray, List.set_cons_zero, List.set_cons_succ]
      refine heldG.readyG (rs := [20]) (by kernel_rfl) (by simp) ?_
      refine heldG.AllG.cons rfl (fun KK hKK => ?_) heldG.AllG.nil
      go_simp
      refine (CPW.out _).mono ?_
      rintro en wq ⟨rfl, rfl⟩
      dsimp only
      refine hKK.out _ _ (fun _ => hS0) ?_; clear hKK KK
      try simp only [Act.put, List.setIfInBounds_toArray, List.set_cons_zero, List.set_cons_succ]
      refine heldG.readyG (rs := [25]) (by kernel_rfl) (by simp) ?_
      refine heldG.AllG.cons rfl (fun KK hKK => ?_) heldG.AllG.nil
      go_simp
      refine (CT.out _ hS0.2.2.2.2.2.2).mono ?_
      rintro en wq25 ⟨rfl, hBz⟩
      have hS1 := k6 hS0 hBz
      dsimp only
      refine hKK.out _ _ (fun _ => hS1) ?_; clear hKK KK hBz
      try simp only [Act.put, List.setIfInBounds_toArray, List.set_cons_zero, List.set_cons_succ]
      refine heldG.readyG (rs := [28]) (by kernel_rfl) (by simp) ?_
      refine heldG.AllG.cons rfl (fun KK hKK => ?_) heldG.AllG.nil
      go_simp
      refine (CM.out _).mono ?_
      rintro en wq28 ⟨rfl, hBz⟩
      have hS2 := k6 hS1 hBz
      dsimp only
      refine hKK.out _ _ (fun _ => hS2) ?_; clear hKK KK hBz
      try simp only [Act.put, List.setIfInBounds_toArray, List.set_cons_zero, List.set_cons_succ]
      refine isSet.takeD (i := 29) (d := 158) (v := .bool false) rfl rfl (by kernel_rfl) (by kernel_rfl) (by kernel_rfl) (fun _ _ _ h => h) (by kernel_rfl) rfl (Or.inl ⟨by kernel_rfl, ?_⟩) hS2 ?_
      · intro wz hSw
        obtain ⟨s0, s1, s2, s3, s4, s5, s6⟩ := hSw
        go_simp; first | done | exact H6.out | (have h9 := H6.out; omega) | simp [H6.out]
      try simp only [Act.put, List.setIfInBounds_toArray, List.set_cons_zero, List.set_cons_succ]
      refine isSet.takeD (i := 30) (d := 159) (v := .bool false) rfl rfl (by kernel_rfl) (by kernel_rfl) (by kernel_rfl) (fun _ _ _ h => h) (by kernel_rfl) rfl (Or.inl ⟨by kernel_rfl, ?_⟩) hS2 ?_
      · intro wz hSw
        obtain ⟨s0, s1, s2, s3, s4, s5, s6⟩ := hSw
        go_simp
      try simp only [Act.put, List.setIfInBounds_toArray, List.set_cons_zero, List.set_cons_succ]
      refine isSet.takeD (i := 31) (d := 128) (v := .bool false) rfl rfl (by kernel_rfl) (by kernel_rfl) (by kernel_rfl) (fun _ _ _ h => h) (by kernel_rfl) rfl (Or.inl ⟨by kernel_rfl, ?_⟩) hS2 ?_
      · intro wz hSw
        obtain ⟨s0, s1, s2, s3, s4, s5, s6⟩ := hSw
        go_simp
      try simp only [Act.put, List.setIfInBounds_toArray, List.set_cons_zero, List.set_cons_succ]
      have hSF := hS2
      refine heldG.doneG (by kernel_rfl) ?_ _
      have HBN := Lib.hid (HB15.out.trans (hSF.2.2.2.2.2.2.mono HB15.out.size))
      trace "no"
      go_wp2_with fail
      go_ret
      exact ⟨by rw [HR1.out]; rfl, HBN.out⟩
    have HR1 : Hid (RR = 26) := Lib.hid (HVC.out.trans (by unfold verC; rw [if_neg (fun hh => hh HC0.out), if_neg (by rw [HC1.out]; decide), if_neg (by rw [HC2.out]; decide), if_neg (by rw [HC3.out]; decide), if_neg (by rw [HC4.out]; decide), if_neg (fun hh => hh HC5.out), if_neg (fun hh => hh HC6.out), if_neg (by have hh := HC7.out; omega), if_neg (by have hh := HC8.out; omega), if_neg (by have hh := HC9.out; omega), if_neg (fun hh => hh HC10.out), if_neg (by have hh := HC11.out; omega), if_pos (fun hh => h6 (by rw [HNV.out, HE.out, HM.out, HPW.out] at hh; exact hh.trans (by rw [← HM.out]; exact HFG.out)))]))
    have H6 := Lib.hid h6
    clear h6
    refine isSet.takeD (i := 0) (d := 129) (v := .pointer (some ⟨Y, 2, none⟩)) rfl rfl (by kernel_rfl) (by kernel_rfl) (by kernel_rfl) (fun _ _ _ h => h) (by kernel_rfl) rfl (Or.inl ⟨by kernel_rfl, ?_⟩) hS0 ?_
    · intro wz hSw
      obtain ⟨s0, s1, s2, s3, s4, s5, s6⟩ := hSw
      go_simp
    try simp only [Act.put, List.setIfInBounds_toArray, List.set_cons_zero, List.set_cons_succ]
    refine isSet.takeD (i := 1) (d := 130) (v := .string P8) rfl rfl (by kernel_rfl) (by kernel_rfl) (by kernel_rfl) (fun _ _ _ h => h) (by kernel_rfl) rfl (Or.inl ⟨by kernel_rfl, ?_⟩) hS0 ?_
    · intro wz hSw
      obtain ⟨s0, s1, s2, s3, s4, s5, s6⟩ := hSw
      go_simp
    try simp only [Act.put, List.setIfInBounds_toArray, List.set_cons_zero, List.set_cons_succ]
    refine isSet.takeD (i := 2) (d := 131) (v := .int .i64 (P8.size : Int)) rfl rfl (by kernel_rfl) (by kernel_rfl) (by kernel_rfl) (fun _ _ _ h => h) (by kernel_rfl) rfl (Or.inl ⟨by kernel_rfl, ?_⟩) hS0 ?_
    · intro wz hSw
      obtain ⟨s0, s1, s2, s3, s4, s5, s6⟩ := hSw
      go_simp
    try simp only [Act.put, List.setIfInBounds_toArray, List.set_cons_zero, List.set_cons_succ]
    refine isSet.takeD (i := 3) (d := 132) (v := .bool false) rfl rfl (by kernel_rfl) (by kernel_rfl) (by kernel_rfl) (fun _ _ _ h => h) (by kernel_rfl) rfl (Or.inl ⟨by kernel_rfl, ?_⟩) hS0 ?_
    · intro wz hSw
      obtain ⟨s0, s1, s2, s3, s4, s5, s6⟩ := hSw
      go_simp; first | done | exact H4.out | (have h9 := H4.out; omega) | simp [H4.out]
    try simp only [Act.put, List.setIfInBounds_toArray, List.set_cons_zero, List.set_cons_succ]
    refine isSet.takeD (i := 4) (d := 133) (v := .bool false) rfl rfl (by kernel_rfl) (by kernel_rfl) (by kernel_rfl) (fun _ _ _ h => h) (by kernel_rfl) rfl (Or.inl ⟨by kernel_rfl, ?_⟩) hS0 ?_
    · intro wz hSw
      obtain ⟨s0, s1, s2, s3, s4, s5, s6⟩ := hSw
      go_simp
    try simp only [Act.put, List.setIfInBounds_toArray, List.set_cons_zero, List.set_cons_succ]
    refine isSet.takeD (i := 5) (d := 134) (v := .pointer (some ⟨Y, 2, none⟩)) rfl rfl (by kernel_rfl) (by kernel_rfl) (by kernel_rfl) (fun _ _ _ h => h) (by kernel_rfl) rfl (Or.inl ⟨by kernel_rfl, ?_⟩) hS0 ?_
    · intro wz hSw
      obtain ⟨s0, s1, s2, s3, s4, s5, s6⟩ := hSw
      go_simp
    try simp only [Act.put, List.setIfInBounds_toArray, List.set_cons_zero, List.set_cons_succ]
    refine isSet.takeD (i := 6) (d := 135) (v := .string P8) rfl rfl (by kernel_rfl) (by kernel_rfl) (by kernel_rfl) (fun _ _ _ h => h) (by kernel_rfl) rfl (Or.inl ⟨by kernel_rfl, ?_⟩) hS0 ?_
    · intro wz hSw
      obtain ⟨s0, s1, s2, s3, s4, s5, s6⟩ := hSw
      go_simp
    try simp only [Act.put, List.setIfInBounds_toArray, List.set_cons_zero, List.set_cons_succ]
    refine isSet.takeD (i := 8) (d := 137) (v := .pointer (some ⟨V, 1, none⟩)) rfl rfl (by kernel_rfl) (by kernel_rfl) (by kernel_rfl) (fun _ _ _ h => h) (by kernel_rfl) rfl (Or.inl ⟨by kernel_rfl, ?_⟩) hS0 ?_
    · intro wz hSw
      obtain ⟨s0, s1, s2, s3, s4, s5, s6⟩ := hSw
      go_simp
    try simp only [Act.put, List.setIfInBounds_toArray, List.set_cons_zero, List.set_cons_succ]
    refine isSet.takeD (i := 9) (d := 138) (v := .int .i64 (M : Int)) rfl rfl (by kernel_rfl) (by kernel_rfl) (by kernel_rfl) (fun _ _ _ h => h) (by kernel_rfl) rfl (Or.inl ⟨by kernel_rfl, ?_⟩) hS0 ?_
    · intro wz hSw
      obtain ⟨s0, s1, s2, s3, s4, s5, s6⟩ := hSw
      go_simp
    try simp only [Act.put, List.setIfInBounds_toArray, List.set_cons_zero, List.set_cons_succ]
    refine heldG.readyG (rs := [7]) (by kernel_rfl) (by simp) ?_
    refine heldG.AllG.cons rfl (fun KK hKK => ?_) heldG.AllG.nil
    go_simp
    refine (CNU.out _).mono ?_
    rintro en wq ⟨rfl, rfl⟩
    dsimp only
    refine hKK.out _ _ (fun _ => hS0) ?_; clear hKK KK
    try simp only [Act.put, List.setIfInBounds_toArray, List.set_cons_zero, List.set_cons_succ]
    refine isSet.takeD (i := 10) (d := 139) (v := .bool false) rfl rfl (by kernel_rfl) (by kernel_rfl) (by kernel_rfl) (fun _ _ _ h => h) (by kernel_rfl) rfl (Or.inl ⟨by kernel_rfl, ?_⟩) hS0 ?_
    · intro wz hSw
      obtain ⟨s0, s1, s2, s3, s4, s5, s6⟩ := hSw
      go_simp; first | done | exact H5.out | exact H5n.out | (have h9 := H5n.out; simp; omega)
    try simp only [Act.put, List.setIfInBounds_toArray, List.set_cons_zero, List.set_cons_succ]
    refine isSet.takeD (i := 11) (d := 140) (v := .bool false) rfl rfl (by kernel_rfl) (by kernel_rfl) (by kernel_rfl) (fun _ _ _ h => h) (by kernel_rfl) rfl (Or.inl ⟨by kernel_rfl, ?_⟩) hS0 ?_
    · intro wz hSw
      obtain ⟨s0, s1, s2, s3, s4, s5, s6⟩ := hSw
      go_simp
    try simp only [Act.put, List.setIfInBounds_toArray, List.set_cons_zero, List.set_cons_succ]
    refine isSet.takeD (i := 12) (d := 141) (v := .bool false) rfl rfl (by kernel_rfl) (by kernel_rfl) (by kernel_rfl) (fun _ _ _ h => h) (by kernel_rfl) rfl (Or.inl ⟨by kernel_rfl, ?_⟩) hS0 ?_
    · intro wz hSw
      obtain ⟨s0, s1, s2, s3, s4, s5, s6⟩ := hSw
      go_simp
    try simp only [Act.put, List.setIfInBounds_toArray, List.set_cons_zero, List.set_cons_succ]
    refine isSet.takeD (i := 13) (d := 142) (v := .pointer (some ⟨Y, 2, none⟩)) rfl rfl (by kernel_rfl) (by kernel_rfl) (by kernel_rfl) (fun _ _ _ h => h) (by kernel_rfl) rfl (Or.inl ⟨by kernel_rfl, ?_⟩) hS0 ?_
    · intro wz hSw
      obtain ⟨s0, s1, s2, s3, s4, s5, s6⟩ := hSw
      go_simp
    try simp only [Act.put, List.setIfInBounds_toArray, List.set_cons_zero, List.set_cons_succ]
    refine isSet.takeD (i := 14) (d := 143) (v := .string P8) rfl rfl (by kernel_rfl) (by kernel_rfl) (by kernel_rfl) (fun _ _ _ h => h) (by kernel_rfl) rfl (Or.inl ⟨by kernel_rfl, ?_⟩) hS0 ?_
    · intro wz hSw
      obtain ⟨s0, s1, s2, s3, s4, s5, s6⟩ := hSw
      go_simp
    try simp only [Act.put, List.setIfInBounds_toArray, List.set_cons_zero, List.set_cons_succ]
    refine isSet.takeD (i := 16) (d := 145) (v := .pointer (some ⟨V, 2, none⟩)) rfl rfl (by kernel_rfl) (by kernel_rfl) (by kernel_rfl) (fun _ _ _ h => h) (by kernel_rfl) rfl (Or.inl ⟨by kernel_rfl, ?_⟩) hS0 ?_
    · intro wz hSw
      obtain ⟨s0, s1, s2, s3, s4, s5, s6⟩ := hSw
      go_simp
    try simp only [Act.put, List.setIfInBounds_toArray, List.set_cons_zero, List.set_cons_succ]
    refine isSet.takeD (i := 17) (d := 146) (v := .int .i64 (E : Int)) rfl rfl (by kernel_rfl) (by kernel_rfl) (by kernel_rfl) (fun _ _ _ h => h) (by kernel_rfl) rfl (Or.inl ⟨by kernel_rfl, ?_⟩) hS0 ?_
    · intro wz hSw
      obtain ⟨s0, s1, s2, s3, s4, s5, s6⟩ := hSw
      go_simp
    try simp only [Act.put, List.setIfInBounds_toArray, List.set_cons_zero, List.set_cons_succ]
    refine isSet.takeD (i := 18) (d := 147) (v := .pointer (some ⟨V, 1, none⟩)) rfl rfl (by kernel_rfl) (by kernel_rfl) (by kernel_rfl) (fun _ _ _ h => h) (by kernel_rfl) rfl (Or.inl ⟨by kernel_rfl, ?_⟩) hS0 ?_
    · intro wz hSw
      obtain ⟨s0, s1, s2, s3, s4, s5, s6⟩ := hSw
      go_simp
    try simp only [Act.put, List.setIfInBounds_toArray, List.set_cons_zero, List.set_cons_succ]
    refine isSet.takeD (i := 19) (d := 148) (v := .int .i64 (M : Int)) rfl rfl (by kernel_rfl) (by kernel_rfl) (by kernel_rfl) (fun _ _ _ h => h) (by kernel_rfl) rfl (Or.inl ⟨by kernel_rfl, ?_⟩) hS0 ?_
    · intro wz hSw
      obtain ⟨s0, s1, s2, s3, s4, s5, s6⟩ := hSw
      go_simp
    try simp only [Act.put, List.setIfInBounds_toArray, List.set_cons_zero, List.set_cons_succ]
    refine isSet.takeD (i := 21) (d := 150) (v := .agg #[.string HD, .string P7, .string P8]) rfl rfl (by kernel_rfl) (by kernel_rfl) (by kernel_rfl) (fun _ _ _ h => h) (by kernel_rfl) rfl (Or.inl ⟨by kernel_rfl, ?_⟩) hS0 ?_
    · intro wz hSw
      obtain ⟨s0, s1, s2, s3, s4, s5, s6⟩ := hSw
      go_simp
    try simp only [Act.put, List.setIfInBounds_toArray, List.set_cons_zero, List.set_cons_succ]
    refine isSet.takeD (i := 22) (d := 151) (v := .pointer (some ⟨Z, 0, none⟩)) rfl rfl (by kernel_rfl) (by kernel_rfl) (by kernel_rfl) (fun _ _ _ h => h) (by kernel_rfl) rfl (Or.inl ⟨by kernel_rfl, ?_⟩) hS0 ?_
    · intro wz hSw
      obtain ⟨s0, s1, s2, s3, s4, s5, s6⟩ := hSw
      go_simp
    try simp only [Act.put, List.setIfInBounds_toArray, List.set_cons_zero, List.set_cons_succ]
    refine isSet.takeD (i := 23) (d := 152) (v := .string h.o) rfl rfl (by kernel_rfl) (by kernel_rfl) (by kernel_rfl) (fun _ _ _ h => h) (by kernel_rfl) rfl (Or.inl ⟨by kernel_rfl, ?_⟩) hS0 ?_
    · intro wz hSw
      obtain ⟨s0, s1, s2, s3, s4, s5, s6⟩ := hSw
      go_simp
    try simp only [Act.put, List.setIfInBounds_toArray, List.set_cons_zero, List.set_cons_succ]
    refine isSet.takeD (i := 24) (d := 153) (v := .slice a6 n c6) rfl rfl (by kernel_rfl) (by kernel_rfl) (by kernel_rfl) (fun _ _ _ h => h) (by kernel_rfl) rfl (Or.inl ⟨by kernel_rfl, ?_⟩) hS0 ?_
    · intro wz hSw
      obtain ⟨s0, s1, s2, s3, s4, s5, s6⟩ := hSw
      go_simp
    try simp only [Act.put, List.setIfInBounds_toArray, List.set_cons_zero, List.set_cons_succ]
    refine isSet.takeD (i := 26) (d := 155) (v := .pointer (some ⟨V, 1, none⟩)) rfl rfl (by kernel_rfl) (by kernel_rfl) (by kernel_rfl) (fun _ _ _ h => h) (by kernel_rfl) rfl (Or.inl ⟨by kernel_rfl, ?_⟩) hS0 ?_
    · intro wz hSw
      obtain ⟨s0, s1, s2, s3, s4, s5, s6⟩ := hSw
      go_simp
    try simp only [Act.put, List.setIfInBounds_toArray, List.set_cons_zero, List.set_cons_succ]
    refine isSet.takeD (i := 27) (d := 156) (v := .int .i64 (M : Int)) rfl rfl (by kernel_rfl) (by kernel_rfl) (by kernel_rfl) (fun _ _ _ h => h) (by kernel_rfl) rfl (Or.inl ⟨by kernel_rfl, ?_⟩) hS0 ?_
    · intro wz hSw
      obtain ⟨s0, s1, s2, s3, s4, s5, s6⟩ := hSw
      go_simp
    try simp only [Act.put, List.setIfInBounds_toArray, List.set_cons_zero, List.set_cons_succ]
    refine heldG.readyG (rs := [15]) (by kernel_rfl) (by simp) ?_
    refine heldG.AllG.cons rfl (fun KK hKK => ?_) heldG.AllG.nil
    go_simp
    refine (CNU.out _).mono ?_
    rintro en wq ⟨rfl, rfl⟩
    dsimp only
    refine hKK.out _ _ (fun _ => hS0) ?_; clear hKK KK
    try simp only [Act.put, List.setIfInBounds_toArray, List.set_cons_zero, List.set_cons_succ]
    refine heldG.readyG (rs := [20]) (by kernel_rfl) (by simp) ?_
    refine heldG.AllG.cons rfl (fun KK hKK => ?_) heldG.AllG.nil
    go_simp
    refine (CPW.out _).mono ?_
    rintro en wq ⟨rfl, rfl⟩
    dsimp only
    refine hKK.out _ _ (fun _ => hS0) ?_; clear hKK KK
    try simp only [Act.put, List.setIfInBounds_toArray, List.set_cons_zero, List.set_cons_succ]
    refine heldG.readyG (rs := [25]) (by kernel_rfl) (by simp) ?_
    refine heldG.AllG.cons rfl (fun KK hKK => ?_) heldG.AllG.nil
    go_simp
    refine (CT.out _ hS0.2.2.2.2.2.2).mono ?_
    rintro en wq25 ⟨rfl, hBz⟩
    have hS1 := k6 hS0 hBz
    dsimp only
    refine hKK.out _ _ (fun _ => hS1) ?_; clear hKK KK hBz
    try simp only [Act.put, List.setIfInBounds_toArray, List.set_cons_zero, List.set_cons_succ]
    refine heldG.readyG (rs := [28]) (by kernel_rfl) (by simp) ?_
    refine heldG.AllG.cons rfl (fun KK hKK => ?_) heldG.AllG.nil
    go_simp
    refine (CM.out _).mono ?_
    rintro en wq28 ⟨rfl, hBz⟩
    have hS2 := k6 hS1 hBz
    dsimp only
    refine hKK.out _ _ (fun _ => hS2) ?_; clear hKK KK hBz
    try simp only [Act.put, List.setIfInBounds_toArray, List.set_cons_zero, List.set_cons_succ]
    refine isSet.takeD (i := 29) (d := 158) (v := .bool true) rfl rfl (by kernel_rfl) (by kernel_rfl) (by kernel_rfl) (fun _ _ _ h => h) (by kernel_rfl) rfl (Or.inl ⟨by kernel_rfl, ?_⟩) hS2 ?_
    · intro wz hSw
      obtain ⟨s0, s1, s2, s3, s4, s5, s6⟩ := hSw
      go_simp; first | done | exact H6.out | (have h9 := H6.out; omega) | simp [H6.out]
    try simp only [Act.put, List.setIfInBounds_toArray, List.set_cons_zero, List.set_cons_succ]
    refine isSet.takeD (i := 30) (d := 159) (v := .bool true) rfl rfl (by kernel_rfl) (by kernel_rfl) (by kernel_rfl) (fun _ _ _ h => h) (by kernel_rfl) rfl (Or.inl ⟨by kernel_rfl, ?_⟩) hS2 ?_
    · intro wz hSw
      obtain ⟨s0, s1, s2, s3, s4, s5, s6⟩ := hSw
      go_simp
    try simp only [Act.put, List.setIfInBounds_toArray, List.set_cons_zero, List.set_cons_succ]
    refine isSet.takeD (i := 31) (d := 128) (v := .bool true) rfl rfl (by kernel_rfl) (by kernel_rfl) (by kernel_rfl) (fun _ _ _ h => h) (by kernel_rfl) rfl (Or.inl ⟨by kernel_rfl, ?_⟩) hS2 ?_
    · intro wz hSw
      obtain ⟨s0, s1, s2, s3, s4, s5, s6⟩ := hSw
      go_simp
    try simp only [Act.put, List.setIfInBounds_toArray, List.set_cons_zero, List.set_cons_succ]
    have hSF := hS2
    refine heldG.doneG (by kernel_rfl) ?_ _
    have HBN := Lib.hid (HB15.out.trans (hSF.2.2.2.2.2.2.mono HB15.out.size))
    trace "no"
    go_wp2_with fail
    go_ret
    exact ⟨by rw [HR1.out]; rfl, HBN.out⟩
end Go.Proofs.YtflijhodlimjoaaGreat.verify
