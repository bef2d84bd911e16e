/- A record handed in by value: opened. The law gazetteerlaw4.SealVerifies: the two answers are one, the records are only read: walk. -/
import Derived.Test.YtflijhodlimjoaaGreatV33
import Derived.Test.YtflijhodlimjoaaGreatV34
import Derived.Test.YtflijhodlimjoaaGreatV35
import Derived.Deep.RegionHeld3
namespace Go.Proofs.YtflijhodlimjoaaGreat.recArg
open Go.ChangeShapes Go.WideShapes Go.RowKit Go.Deep Go.Proofs.YtflijhodlimjoaaGreat.kit Go.Proofs.YtflijhodlimjoaaGreat.timed Go.Proofs.YtflijhodlimjoaaGreat.nspec Go.Proofs.YtflijhodlimjoaaGreat.wireP Go.Proofs.YtflijhodlimjoaaGreat.wireM Go.Proofs.YtflijhodlimjoaaGreat.rows Go.Proofs.YtflijhodlimjoaaGreat.msgArg
set_option linter.unusedVariables false

set_option maxRecDepth 100000 in
theorem open_rec {H : Type} {enc : TypeId × Value → H} {w : World} {r : Reach} {b0 : Nat} {v : Value} {d : DataW H} {p : List MemPlace}
    (hv : Value.okWide Tryz.prog w r b0 34 v) (h : DataW.Trod enc Tryz.prog w 0 (fun _ => true) true 34 v d p) :
    ∃ x : Rc, v = .agg #[.string x.o, .int .i64 x.t, .int .i64 x.c, .int .i64 x.l, .string x.d] ∧ (x.o.size ≤ Rows.uptoBulk d ∧ x.d.size ≤ Rows.uptoBulk d) := by
  obtain ⟨cs, rfl, hsz⟩ := okWide_struct Tryz.underlying34 hv
  obtain ⟨fuel, hf⟩ := h
  have e : (Value.agg cs).cells.toList = cs.toList := rfl
  rw [e] at hf
  obtain ⟨t, ht, hs, _⟩ := rec_cells hf
  refine ⟨t, ?_, hs.1⟩
  congr 1
  apply Array.ext'
  rw [ht]
  rfl
end Go.Proofs.YtflijhodlimjoaaGreat.recArg
namespace Go.Proofs.YtflijhodlimjoaaGreat.sealVerifies
open Go.RowKit Go.Proofs.YtflijhodlimjoaaGreat.kit Go.Proofs.YtflijhodlimjoaaGreat.timed Go.Proofs.YtflijhodlimjoaaGreat.nspec Go.Proofs.YtflijhodlimjoaaGreat.wireP Go.Proofs.YtflijhodlimjoaaGreat.wireM Go.Proofs.YtflijhodlimjoaaGreat.rows Go.Proofs.YtflijhodlimjoaaGreat.sealS Go.Proofs.YtflijhodlimjoaaGreat.verP Go.Proofs.YtflijhodlimjoaaGreat.wholeR Go.Proofs.YtflijhodlimjoaaGreat.recsArg Go.Proofs.YtflijhodlimjoaaGreat.keepN
set_option linter.unusedVariables false

set_option maxRecDepth 100000 in
set_option maxHeartbeats 8000000 in
theorem sealVerifies_any (a : Option Addr) (n c : Nat) (L : List Rc) (sg : Rc) (ow kd : ByteArray) (now : Int) (w : World) {b b2 : Nat} (hi : InR w a n c L b) (hb : b ≤ 1048576) (hi2 : sg.o.size ≤ b2 ∧ sg.d.size ≤ b2) (hb2 : b2 ≤ 1048576) (how : ow.size ≤ 1048576) (hkd : kd.size ≤ 1048576) (hnow : (Lit.int .i64 now).wf = true) :
    Calls Tryz.prog 5 #[.slice a n c, .agg #[.string sg.o, .int .i64 sg.t, .int .i64 sg.c, .int .i64 sg.l, .string sg.d], .string ow, .string kd, .int .i64 now] w fun e w' => e = .returned (.bool true) ∧ Below w.heap.size w w' := by
  obtain ⟨ho, hn1, hbk⟩ := hi.ok hb
  have HO := Lib.hid ho; have HBK := Lib.hid hbk; have HN := Lib.hid hi.len; have HR := Lib.hid hi.rd; have HNIL := Lib.hid hi.nil
  have HSG : Hid (OkR sg) := Lib.hid ⟨by omega, by omega⟩
  obtain ⟨RR, hRR⟩ : ∃ RR, VerC L sg ow.data.toList kd.data.toList now = RR := ⟨_, rfl⟩
  have HRR := Lib.hid hRR
  have hb1 := (Below.refl w.heap.size w).alloc (Nat.le_refl _) (.cells #[.string sg.o, .int .i64 sg.t, .int .i64 sg.c, .int .i64 sg.l, .string sg.d] 34)
  have hk1 := heap_alloc_new w (.cells #[.string sg.o, .int .i64 sg.t, .int .i64 sg.c, .int .i64 sg.l, .string sg.d] 34)
  obtain ⟨X, hX⟩ : ∃ X, w.heap.size = X := ⟨_, rfl⟩
  obtain ⟨W, hW⟩ : ∃ W, w.alloc (.cells #[.string sg.o, .int .i64 sg.t, .int .i64 sg.c, .int .i64 sg.l, .string sg.d] 34) = W := ⟨_, rfl⟩
  rw [hW] at hb1 hk1
  rw [hX] at hk1
  have HX := Lib.hid hX; have HW := Lib.hid hW; have HB1 := Lib.hid hb1; have HK1 := Lib.hid hk1
  have CT := Lib.hid (twin_at W a c L (HR.out.below hb1 rfl) HNIL.out (by have := HN.out; omega) W (Below.refl _ _))
  rw [← HN.out] at CT
  clear ho hbk hi hRR hb1 hk1 hX hW hnow hi2
  go_enter Tryz.func5, Tryz.ntmps5
  go_upto_region 1 with fail
  rw [HW.out]
  try rw [HX.out]
  go_wp2_with fail
  refine CT.out.mono ?_
  rintro e w2 ⟨g, cap, rfl, htw, hB2⟩
  have HB2 := Lib.hid (HB1.out.trans (hB2.mono HB1.out.size))
  have HK2 := Lib.hid ((hB2.block X (Array.getElem?_eq_some_iff.1 HK1.out).1).trans HK1.out)
  have HTW := Lib.hid htw
  have CV := Lib.hid (fun (wx : World) (hB : Below w2.heap.size w2 wx) => verify.verify_any (some ⟨g, 0, none⟩) n cap L sg ow kd now wx HN.out (HTW.out.below hB).rd HO.out (by omega) HBK.out HSG.out (by omega) (by omega))
  have CR := Lib.hid (fun (wx : World) (hB : Below w2.heap.size w2 wx) => verifySet.verifyset_any a n c L sg ow kd now wx HN.out ((HR.out.below HB2.out rfl).below hB rfl) HO.out (by omega) HBK.out HSG.out (by omega) (by omega))
  rw [HRR.out] at CV CR
  have CW := Lib.hid (fun (wx : World) (hB : Below w2.heap.size w2 wx) => whole_any (some ⟨g, 0, none⟩) a cap c W.heap.size L wx (HTW.out.below hB) ((HR.out.below HB2.out rfl).below hB rfl) (by have := HN.out; omega))
  rw [← HN.out] at CW
  obtain ⟨x0, x1, x2, x3, x4, _⟩ := signSet.cells5 HK2.out
  have hS0 : w2.drew.cell? ⟨X, 0, none⟩ = some (.string sg.o) ∧ w2.drew.cell? ⟨X, 1, none⟩ = some (.int .i64 sg.t) ∧ w2.drew.cell? ⟨X, 2, none⟩ = some (.int .i64 sg.c) ∧ w2.drew.cell? ⟨X, 3, none⟩ = some (.int .i64 sg.l) ∧ w2.drew.cell? ⟨X, 4, none⟩ = some (.string sg.d) ∧ Below w2.heap.size w2 w2.drew := ⟨x0, x1, x2, x3, x4, (Below.refl _ _).drew⟩
  clear hB2 htw CT x0 x1 x2 x3 x4
  trace "1"
  go_upto_region 2 with fail
  go_region_held3 (fun w' => w'.cell? ⟨X, 0, none⟩ = some (.string sg.o) ∧ w'.cell? ⟨X, 1, none⟩ = some (.int .i64 sg.t) ∧ w'.cell? ⟨X, 2, none⟩ = some (.int .i64 sg.c) ∧ w'.cell? ⟨X, 3, none⟩ = some (.int .i64 sg.l) ∧ w'.cell? ⟨X, 4, none⟩ = some (.string sg.d) ∧ Below w2.heap.size w2 w') (first | assumption | (refine ⟨?_, ?_, ?_, ?_, ?_, ?_⟩ <;> assumption))
    (first
      | (go_at_call 16; refine (CV.out _ (‹_ ∧ _ ∧ _ ∧ _ ∧ _ ∧ Below _ _ _›).2.2.2.2.2).mono ?_; rintro e w' ⟨rfl, hBz⟩; have hSz := k5 (by assumption) hBz; clear hBz)
      | (go_at_call 17; refine (CR.out _ (‹_ ∧ _ ∧ _ ∧ _ ∧ _ ∧ Below _ _ _›).2.2.2.2.2).mono ?_; rintro e w' ⟨rfl, hBz⟩; have hSz := k5 (by assumption) hBz; clear hBz)
      | (go_at_call 13; refine (CW.out _ (‹_ ∧ _ ∧ _ ∧ _ ∧ _ ∧ Below _ _ _›).2.2.2.2.2).mono ?_; rintro e w' ⟨rfl, hBz⟩; have hSz := k5 (by assumption) hBz; clear hBz))
  trace "2"
  have HBF := Lib.hid (HB2.out.trans (hSz.2.2.2.2.2.mono HB2.out.size))
  clear hSz hS0 CV CR CW
  go_wp2_with fail
  go_ret
  exact ⟨rfl, HBF.out⟩
end Go.Proofs.YtflijhodlimjoaaGreat.sealVerifies
