/- gazetteersame: Whole, Head, WholeMessage on a twin: walks. -/
import Derived.Test.YtabhiangjomaeaaWP22
import Derived.Deep.RegionHeld3
namespace Go.Proofs.Ytabhiangjomaeaa.wholeM
open Go.RowKit Go.Proofs.Ytabhiangjomaeaa.kit Go.Proofs.Ytabhiangjomaeaa.timed Go.Proofs.Ytabhiangjomaeaa.nspec Go.Proofs.Ytabhiangjomaeaa.coded Go.Proofs.Ytabhiangjomaeaa.wireP Go.Proofs.Ytabhiangjomaeaa.wireM Go.Proofs.Ytabhiangjomaeaa.wpack Go.Proofs.Ytabhiangjomaeaa.rows Go.Proofs.Ytabhiangjomaeaa.same Go.Proofs.Ytabhiangjomaeaa.rpack Go.Proofs.Ytabhiangjomaeaa.twinM
set_option linter.unusedVariables false

def Ten (w : World) (g n m : Nat) (S : ByteArray) : Prop :=
  w.cell? ⟨g, n * 5, none⟩ = some (.string S) ∧ w.cell? ⟨g, n * 5 + 1, none⟩ = some (.int .i64 (-77)) ∧ w.cell? ⟨g, n * 5 + 2, none⟩ = some (.int .i64 (-77)) ∧ w.cell? ⟨g, n * 5 + 3, none⟩ = some (.int .i64 (-77)) ∧ w.cell? ⟨g, n * 5 + 4, none⟩ = some (.string S) ∧
  w.cell? ⟨g, m * 5, none⟩ = some (.string S) ∧ w.cell? ⟨g, m * 5 + 1, none⟩ = some (.int .i64 (-77)) ∧ w.cell? ⟨g, m * 5 + 2, none⟩ = some (.int .i64 (-77)) ∧ w.cell? ⟨g, m * 5 + 3, none⟩ = some (.int .i64 (-77)) ∧ w.cell? ⟨g, m * 5 + 4, none⟩ = some (.string S)
theorem ten_of {w : World} {g n cap : Nat} {base : Nat} {L : List Rc} (hn : L.length = n) (h : w.ownsRow base 52 5 (.slice (some ⟨g, 0, none⟩) (n + 2) cap) (n + 2) ((L ++ [spareR, spareR]).flatMap Rc.cells)) : Ten w g n (n + 1) ⟨#[115, 112, 97, 114, 101]⟩ := by
  have hc : ∀ (k i : Nat) (u : Value), (L ++ [spareR, spareR])[k]? = some spareR → spareR.cells[i]? = some u → w.cell? ⟨g, k * 5 + i, none⟩ = some u := by
    intro k i u hk hi
    have h1 := h.cells (g := g) rfl (k * 5 + i) u (flat_at Rc.cells 5 (fun _ => rfl) _ k spareR i u hk hi)
    rw [addr_at, Nat.zero_add] at h1; exact h1
  have e1 : (L ++ [spareR, spareR])[n]? = some spareR := by rw [List.getElem?_append_right (by omega), hn, Nat.sub_self]; rfl
  have e2 : (L ++ [spareR, spareR])[n + 1]? = some spareR := by rw [List.getElem?_append_right (by omega), hn, Nat.add_sub_cancel_left]; rfl
  exact ⟨hc n 0 _ e1 rfl, hc n 1 _ e1 rfl, hc n 2 _ e1 rfl, hc n 3 _ e1 rfl, hc n 4 _ e1 rfl, hc (n + 1) 0 _ e2 rfl, hc (n + 1) 1 _ e2 rfl, hc (n + 1) 2 _ e2 rfl, hc (n + 1) 3 _ e2 rfl, hc (n + 1) 4 _ e2 rfl⟩
theorem Ten.below {w w' : World} {g n m : Nat} {S : ByteArray} (h : Ten w g n m S) (hg : g < w.heap.size) (hB : Below w.heap.size w w') : Ten w' g n m S := by
  have hc : ∀ j, w'.cell? ⟨g, j, none⟩ = w.cell? ⟨g, j, none⟩ := fun j => hB.cell (p := ⟨g, j, none⟩) hg
  obtain ⟨h0, h1, h2, h3, h4, h5, h6, h7, h8, h9⟩ := h
  exact ⟨(hc _).trans h0, (hc _).trans h1, (hc _).trans h2, (hc _).trans h3, (hc _).trans h4, (hc _).trans h5, (hc _).trans h6, (hc _).trans h7, (hc _).trans h8, (hc _).trans h9⟩
theorem ten_keep {w w' : World} {g n m : Nat} {S : ByteArray} (h : Ten w g n m S) (hg : g < w.heap.size) (hB : Below w.heap.size w w') :
    w'.cell? ⟨g, n * 5, none⟩ = some (.string S) ∧ w'.cell? ⟨g, n * 5 + 1, none⟩ = some (.int .i64 (-77)) ∧ w'.cell? ⟨g, n * 5 + 2, none⟩ = some (.int .i64 (-77)) ∧ w'.cell? ⟨g, n * 5 + 3, none⟩ = some (.int .i64 (-77)) ∧ w'.cell? ⟨g, n * 5 + 4, none⟩ = some (.string S) ∧
    w'.cell? ⟨g, m * 5, none⟩ = some (.string S) ∧ w'.cell? ⟨g, m * 5 + 1, none⟩ = some (.int .i64 (-77)) ∧ w'.cell? ⟨g, m * 5 + 2, none⟩ = some (.int .i64 (-77)) ∧ w'.cell? ⟨g, m * 5 + 3, none⟩ = some (.int .i64 (-77)) ∧ w'.cell? ⟨g, m * 5 + 4, none⟩ = some (.string S) ∧ Below w.heap.size w w' := by
  obtain ⟨h0, h1, h2, h3, h4, h5, h6, h7, h8, h9⟩ := h.below hg hB
  exact ⟨h0, h1, h2, h3, h4, h5, h6, h7, h8, h9, hB⟩

set_option maxRecDepth 100000 in
set_option maxHeartbeats 8000000 in
theorem whole_any (a b : Option Addr) (c d base : Nat) (L : List Rc) (w : World) (h : TwR w base a c L) (hy : RdC w b 5 (L.map Rc.cells)) (hl : L.length ≤ 1099511627776) :
    Calls Try.prog 55 #[.slice a L.length c, .slice b L.length d] w fun e w' => e = .returned (.bool true) ∧ Below w.heap.size w w' := by
  have hrd := h.rd
  obtain ⟨hc1, hc2, ⟨g, rfl⟩, how⟩ := h
  have CR := Lib.hid (fun (wx : World) (hB : Below w.heap.size w wx) => records_same (some ⟨g, 0, none⟩) b L.length c d L wx rfl (hrd.below hB rfl) (hy.below hB rfl) hl)
  obtain ⟨g', cap', hv, hg1, hg2, _⟩ := own_at how (by omega)
  cases hv
  have HT0 := Lib.hid (ten_of rfl how)
  have CS := Lib.hid (fun w => spare_any w)
  obtain ⟨S, hS⟩ : ∃ S : ByteArray, (⟨#[115, 112, 97, 114, 101]⟩ : ByteArray) = S := ⟨_, rfl⟩
  rw [hS] at HT0 CS
  obtain ⟨n, hn⟩ : ∃ n, L.length = n := ⟨_, rfl⟩
  rw [hn] at CR HT0 hc1 hl ⊢
  obtain ⟨N1, hN1⟩ : ∃ N1, n + 1 = N1 := ⟨_, rfl⟩
  rw [hN1] at HT0
  have hcm : (c : Int) ≤ 9223372036854775807 := by unfold maxLen at hc2; omega
  have hnc : (n : Int) + 2 ≤ (c : Int) := by omega
  clear hrd hy how hS hn
  go_enter Try.func55, Try.ntmps55
  go_wp2_with fail
  obtain ⟨N2, hN2⟩ : ∃ N2, n + 2 = N2 := ⟨_, rfl⟩
  rw [hN2]
  have i1 : (n : Int) < (N2 : Int) := by omega
  have i2 : (N1 : Int) < (N2 : Int) := by omega
  have hN2b : N2 ≤ 1099511627800 := by omega
  have hv4 : IntKind.i64.wrap (N1 : Int) = (N1 : Int) := IntWalk.i64_in _ (by omega)
  have hv5 : IntKind.i64.wrap (n : Int) = (n : Int) := IntWalk.i64_in _ (by omega)
  have hv3 : IntKind.i64.wrap ((n : Int) + 1) = (N1 : Int) := by rw [IntWalk.i64_in _ (by omega)]; omega
  clear hN1 hN2
  have z1 : (0 : Int) ≤ (N1 : Int) := Int.natCast_nonneg _
  have z2 : (0 : Int) ≤ (n : Int) := Int.natCast_nonneg _
  have hBd : Below w.heap.size w w.drew := (Below.refl _ _).drew
  have hS0 := ten_keep HT0.out hg2 hBd
  go_region_held3 (fun w' => w'.cell? ⟨g, n * 5, none⟩ = some (.string S) ∧ w'.cell? ⟨g, n * 5 + 1, none⟩ = some (.int .i64 (-77)) ∧ w'.cell? ⟨g, n * 5 + 2, none⟩ = some (.int .i64 (-77)) ∧ w'.cell? ⟨g, n * 5 + 3, none⟩ = some (.int .i64 (-77)) ∧ w'.cell? ⟨g, n * 5 + 4, none⟩ = some (.string S) ∧
    w'.cell? ⟨g, N1 * 5, none⟩ = some (.string S) ∧ w'.cell? ⟨g, N1 * 5 + 1, none⟩ = some (.int .i64 (-77)) ∧ w'.cell? ⟨g, N1 * 5 + 2, none⟩ = some (.int .i64 (-77)) ∧ w'.cell? ⟨g, N1 * 5 + 3, none⟩ = some (.int .i64 (-77)) ∧ w'.cell? ⟨g, N1 * 5 + 4, none⟩ = some (.string S) ∧ Below w.heap.size w w') (first | assumption | (refine ⟨?_, ?_, ?_, ?_, ?_, ?_, ?_, ?_, ?_, ?_, ?_⟩ <;> assumption))
    (first
      | (go_at_call 32; refine (CR.out _ (by assumption)).mono ?_; rintro e w' ⟨rfl, hBz⟩; have hBy := Below.trans (by assumption) (hBz.mono (Below.size (by assumption))); have hSz := ten_keep HT0.out hg2 hBy; clear hBz)
      | (go_at_call 88; refine (CS.out _).mono ?_; rintro e w' ⟨rfl, hBz⟩; have hBy := Below.trans (by assumption) (hBz.mono (Below.size (by assumption))); have hSz := ten_keep HT0.out hg2 hBy; clear hBz))
  all_goals (go_wp2_with fail; go_ret; exact ⟨rfl, by assumption⟩)

set_option maxRecDepth 100000 in
set_option maxHeartbeats 4000000 in
theorem head_same (p q : Pl) (m : Mg) (nq na nu nr nq' na' nu' nr' : Nat) (w : World) :
    Calls Try.prog 54 #[.agg #[.int .i64 m.id, .bool m.rs, .int .i64 m.op, .bool m.aa, .bool m.tc, .bool m.rd, .bool m.ra, .bool m.ad, .bool m.cd, .int .i64 m.rc, .slice p.qa nq p.qc, .slice p.na na p.nc, .slice p.ua nu p.uc, .slice p.ra nr p.rc], .agg #[.int .i64 m.id, .bool m.rs, .int .i64 m.op, .bool m.aa, .bool m.tc, .bool m.rd, .bool m.ra, .bool m.ad, .bool m.cd, .int .i64 m.rc, .slice q.qa nq' q.qc, .slice q.na na' q.nc, .slice q.ua nu' q.uc, .slice q.ra nr' q.rc]] w fun e w' => e = .returned (.bool true) ∧ Below w.heap.size w w' := by
  have hB : Hid (Below w.heap.size w ((w.alloc (.cells #[.int .i64 m.id, .bool m.rs, .int .i64 m.op, .bool m.aa, .bool m.tc, .bool m.rd, .bool m.ra, .bool m.ad, .bool m.cd, .int .i64 m.rc, .slice p.qa nq p.qc, .slice p.na na p.nc, .slice p.ua nu p.uc, .slice p.ra nr p.rc] 37)).alloc (.cells #[.int .i64 m.id, .bool m.rs, .int .i64 m.op, .bool m.aa, .bool m.tc, .bool m.rd, .bool m.ra, .bool m.ad, .bool m.cd, .int .i64 m.rc, .slice q.qa nq' q.qc, .slice q.na na' q.nc, .slice q.ua nu' q.uc, .slice q.ra nr' q.rc] 37))) := Lib.hid (((Below.refl _ _).alloc (Nat.le_refl _) _).alloc (by simp) _)
  go_enter Try.func54, Try.ntmps54
  go_wp2_with fail
  go_ret
  exact ⟨rfl, hB.out⟩

theorem msg_cells {w : World} {b : Nat} {p : Pl} {m : Mg} {w' : World} (h : MsgAt w b p m) (hB : Below w.heap.size w w') : MsgAt w' b p m := h.below hB h.box.lt
set_option maxRecDepth 100000 in
set_option maxHeartbeats 4000000 in
theorem wholeM_any (P p : Pl) (m : Mg) (base : Nat) (w : World) (h : TwM w base P m) (hr : RdM w p m) (ho : OkM m) :
    Calls Try.prog 20 #[.agg #[.int .i64 m.id, .bool m.rs, .int .i64 m.op, .bool m.aa, .bool m.tc, .bool m.rd, .bool m.ra, .bool m.ad, .bool m.cd, .int .i64 m.rc, .slice P.qa m.qs.length P.qc, .slice P.na m.an.length P.nc, .slice P.ua m.au.length P.uc, .slice P.ra m.ar.length P.rc], .agg #[.int .i64 m.id, .bool m.rs, .int .i64 m.op, .bool m.aa, .bool m.tc, .bool m.rd, .bool m.ra, .bool m.ad, .bool m.cd, .int .i64 m.rc, .slice p.qa m.qs.length p.qc, .slice p.na m.an.length p.nc, .slice p.ua m.au.length p.uc, .slice p.ra m.ar.length p.rc]] w fun e w' => e = .returned (.bool true) ∧ Below w.heap.size w w' := by
  have CH := Lib.hid (fun w => head_same P p m m.qs.length m.an.length m.au.length m.ar.length m.qs.length m.an.length m.au.length m.ar.length w)
  have CQ := Lib.hid (fun (wx : World) (hB : Below w.heap.size w wx) => questions_same P.qa p.qa m.qs.length P.qc p.qc m.qs wx rfl (h.rd.q.below hB rfl) (hr.q.below hB rfl) ho.ql)
  have W1 := Lib.hid (fun (wx : World) (hB : Below w.heap.size w wx) => whole_any P.na p.na P.nc p.nc base m.an wx (h.n.below hB) (hr.n.below hB rfl) ho.nl)
  have W2 := Lib.hid (fun (wx : World) (hB : Below w.heap.size w wx) => whole_any P.ua p.ua P.uc p.uc base m.au wx (h.u.below hB) (hr.u.below hB rfl) ho.ul)
  have W3 := Lib.hid (fun (wx : World) (hB : Below w.heap.size w wx) => whole_any P.ra p.ra P.rc p.rc base m.ar wx (h.r.below hB) (hr.r.below hB rfl) ho.rl)
  have hm1 : MsgAt ((w.alloc (.cells #[.int .i64 m.id, .bool m.rs, .int .i64 m.op, .bool m.aa, .bool m.tc, .bool m.rd, .bool m.ra, .bool m.ad, .bool m.cd, .int .i64 m.rc, .slice P.qa m.qs.length P.qc, .slice P.na m.an.length P.nc, .slice P.ua m.au.length P.uc, .slice P.ra m.ar.length P.rc] 37)).alloc (.cells #[.int .i64 m.id, .bool m.rs, .int .i64 m.op, .bool m.aa, .bool m.tc, .bool m.rd, .bool m.ra, .bool m.ad, .bool m.cd, .int .i64 m.rc, .slice p.qa m.qs.length p.qc, .slice p.na m.an.length p.nc, .slice p.ua m.au.length p.uc, .slice p.ra m.ar.length p.rc] 37)) w.heap.size P m :=
    msg_cells (w := w.alloc (.cells #[.int .i64 m.id, .bool m.rs, .int .i64 m.op, .bool m.aa, .bool m.tc, .bool m.rd, .bool m.ra, .bool m.ad, .bool m.cd, .int .i64 m.rc, .slice P.qa m.qs.length P.qc, .slice P.na m.an.length P.nc, .slice P.ua m.au.length P.uc, .slice P.ra m.ar.length P.rc] 37)) (heap_alloc_new _ _) ((Below.refl _ _).alloc (Nat.le_refl _) _)
  have hm2 : MsgAt ((w.alloc (.cells #[.int .i64 m.id, .bool m.rs, .int .i64 m.op, .bool m.aa, .bool m.tc, .bool m.rd, .bool m.ra, .bool m.ad, .bool m.cd, .int .i64 m.rc, .slice P.qa m.qs.length P.qc, .slice P.na m.an.length P.nc, .slice P.ua m.au.length P.uc, .slice P.ra m.ar.length P.rc] 37)).alloc (.cells #[.int .i64 m.id, .bool m.rs, .int .i64 m.op, .bool m.aa, .bool m.tc, .bool m.rd, .bool m.ra, .bool m.ad, .bool m.cd, .int .i64 m.rc, .slice p.qa m.qs.length p.qc, .slice p.na m.an.length p.nc, .slice p.ua m.au.length p.uc, .slice p.ra m.ar.length p.rc] 37)) (w.heap.size + 1) p m := by
    have h := heap_alloc_new (w.alloc (.cells #[.int .i64 m.id, .bool m.rs, .int .i64 m.op, .bool m.aa, .bool m.tc, .bool m.rd, .bool m.ra, .bool m.ad, .bool m.cd, .int .i64 m.rc, .slice P.qa m.qs.length P.qc, .slice P.na m.an.length P.nc, .slice P.ua m.au.length P.uc, .slice P.ra m.ar.length P.rc] 37)) (.cells #[.int .i64 m.id, .bool m.rs, .int .i64 m.op, .bool m.aa, .bool m.tc, .bool m.rd, .bool m.ra, .bool m.ad, .bool m.cd, .int .i64 m.rc, .slice p.qa m.qs.length p.qc, .slice p.na m.an.length p.nc, .slice p.ua m.au.length p.uc, .slice p.ra m.ar.length p.rc] 37)
    rw [show (w.alloc (.cells #[.int .i64 m.id, .bool m.rs, .int .i64 m.op, .bool m.aa, .bool m.tc, .bool m.rd, .bool m.ra, .bool m.ad, .bool m.cd, .int .i64 m.rc, .slice P.qa m.qs.length P.qc, .slice P.na m.an.length P.nc, .slice P.ua m.au.length P.uc, .slice P.ra m.ar.length P.rc] 37)).heap.size = w.heap.size + 1 from by simp] at h
    exact h
  have hbel := ((Below.refl w.heap.size w).alloc (Nat.le_refl _) (.cells #[.int .i64 m.id, .bool m.rs, .int .i64 m.op, .bool m.aa, .bool m.tc, .bool m.rd, .bool m.ra, .bool m.ad, .bool m.cd, .int .i64 m.rc, .slice P.qa m.qs.length P.qc, .slice P.na m.an.length P.nc, .slice P.ua m.au.length P.uc, .slice P.ra m.ar.length P.rc] 37)).alloc (by simp) (.cells #[.int .i64 m.id, .bool m.rs, .int .i64 m.op, .bool m.aa, .bool m.tc, .bool m.rd, .bool m.ra, .bool m.ad, .bool m.cd, .int .i64 m.rc, .slice p.qa m.qs.length p.qc, .slice p.na m.an.length p.nc, .slice p.ua m.au.length p.uc, .slice p.ra m.ar.length p.rc] 37)
  have HM1 := Lib.hid hm1; have HM2 := Lib.hid hm2; have HB0 := Lib.hid hbel
  clear h hr ho hm1 hm2 hbel
  go_enter Try.func20, Try.ntmps20
  go_wp2_with fail
  refine (CH.out _).mono ?_
  rintro e w1 ⟨rfl, hB1⟩
  have M1 := Lib.hid (msg_cells HM1.out hB1); have M2 := Lib.hid (msg_cells HM2.out hB1)
  have B1 := Lib.hid (HB0.out.trans (hB1.mono HB0.out.size))
  have b10 := M1.out.box.c10; have c10 := M2.out.box.c10
  clear hB1
  go_wp2_with fail
  refine (CQ.out _ B1.out).mono ?_
  rintro e w2 ⟨rfl, hB2⟩
  have M3 := Lib.hid (msg_cells M1.out hB2); have M4 := Lib.hid (msg_cells M2.out hB2)
  have B2 := Lib.hid (B1.out.trans (hB2.mono B1.out.size))
  have b11 := M3.out.box.c11; have c11 := M4.out.box.c11
  clear hB2 b10 c10
  go_wp2_with fail
  refine (W1.out _ B2.out).mono ?_
  rintro e w3 ⟨rfl, hB3⟩
  have M5 := Lib.hid (msg_cells M3.out hB3); have M6 := Lib.hid (msg_cells M4.out hB3)
  have B3 := Lib.hid (B2.out.trans (hB3.mono B2.out.size))
  have b12 := M5.out.box.c12; have c12 := M6.out.box.c12
  clear hB3 b11 c11
  go_wp2_with fail
  refine (W2.out _ B3.out).mono ?_
  rintro e w4 ⟨rfl, hB4⟩
  have M7 := Lib.hid (msg_cells M5.out hB4); have M8 := Lib.hid (msg_cells M6.out hB4)
  have B4 := Lib.hid (B3.out.trans (hB4.mono B3.out.size))
  have b13 := M7.out.box.c13; have c13 := M8.out.box.c13
  clear hB4 b12 c12
  go_wp2_with fail
  refine (W3.out _ B4.out).mono ?_
  rintro e w5 ⟨rfl, hB5⟩
  have B5 := Lib.hid (B4.out.trans (hB5.mono B4.out.size))
  clear hB5 b13 c13
  go_wp2_with fail
  go_ret
  exact ⟨rfl, B5.out⟩
end Go.Proofs.Ytabhiangjomaeaa.wholeM
