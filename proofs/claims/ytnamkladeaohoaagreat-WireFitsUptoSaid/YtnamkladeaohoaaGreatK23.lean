/- gazetteersame: Whole, Head, WholeMessage on a twin: walks. Unpacking in plain words. wire.cursor: need, number: walks. (*wire.cursor).name: walk. (*wire.cursor).data: walk. (*wire.cursor).record: walk . wire.Unpack's sign: walk. -/
import Derived.Test.YtnamkladeaohoaaGreatK22
import Derived.Test.YtnamkladeaohoaaGreatK12
import Derived.Test.YtnamkladeaohoaaGreatK10
import Derived.Test.YtnamkladeaohoaaGreatK13
import Derived.Test.YtnamkladeaohoaaGreatK14
import Derived.Test.YtnamkladeaohoaaGreatK8
import Derived.Deep.RegionHeld3
import Derived.Deep.QuietTactic
import Derived.BigQuiet
import Derived.StillTailTactics
namespace Go.Proofs.YtnamkladeaohoaaGreat.wholeM
open Go.RowKit Go.Proofs.YtnamkladeaohoaaGreat.kit Go.Proofs.YtnamkladeaohoaaGreat.timed Go.Proofs.YtnamkladeaohoaaGreat.nspec Go.Proofs.YtnamkladeaohoaaGreat.coded Go.Proofs.YtnamkladeaohoaaGreat.wireP Go.Proofs.YtnamkladeaohoaaGreat.wireM Go.Proofs.YtnamkladeaohoaaGreat.wpack Go.Proofs.YtnamkladeaohoaaGreat.rows Go.Proofs.YtnamkladeaohoaaGreat.same Go.Proofs.YtnamkladeaohoaaGreat.rpack Go.Proofs.YtnamkladeaohoaaGreat.twinM
set_option linter.unusedVariables false

def Ten (w : World) (g n m : Nat) (S : ByteArray) : Prop :=
  w.cell? ⟨g, n * 5, none⟩ = some (.string S) ∧ w.cell? ⟨g, n * 5 + 1, none⟩ = some (.int .i64 (-77)) ∧ w.cell? ⟨g, n * 5 + 2, none⟩ = some (.int .i64 (-77)) ∧ w.cell? ⟨g, n * 5 + 3, none⟩ = some (.int .i64 (-77)) ∧ w.cell? ⟨g, n * 5 + 4, none⟩ = some (.string S) ∧
  w.cell? ⟨g, m * 5, none⟩ = some (.string S) ∧ w.cell? ⟨g, m * 5 + 1, none⟩ = some (.int .i64 (-77)) ∧ w.cell? ⟨g, m * 5 + 2, none⟩ = some (.int .i64 (-77)) ∧ w.cell? ⟨g, m * 5 + 3, none⟩ = some (.int .i64 (-77)) ∧ w.cell? ⟨g, m * 5 + 4, none⟩ = some (.string S)
theorem ten_of {w : World} {g n cap : Nat} {base : Nat} {L : List Rc} (hn : L.length = n) (h : w.ownsRow base 43 5 (.slice (some ⟨g, 0, none⟩) (n + 2) cap) (n + 2) ((L ++ [spareR, spareR]).flatMap Rc.cells)) : Ten w g n (n + 1) ⟨#[115, 112, 97, 114, 101]⟩ := by
  have hc : ∀ (k i : Nat) (u : Value), (L ++ [spareR, spareR])[k]? = some spareR → spareR.cells[i]? = some u → w.cell? ⟨g, k * 5 + i, none⟩ = some u := by
    intro k i u hk hi
    have h1 := h.cells (g := g) rfl (k * 5 + i) u (flat_at Rc.cells 5 (fun _ => rfl) _ k spareR i u hk hi)
    rw [addr_at, Nat.zero_add] at h1; exact h1
  have e1 : (L ++ [spareR, spareR])[n]? = some spareR := by rw [List.getElem?_append_right (by omega), hn, Nat.sub_self]; rfl
  have e2 : (L ++ [spareR, spareR])[n + 1]? = some spareR := by rw [List.getElem?_append_right (by omega), hn, Nat.add_sub_cancel_left]; rfl
  exact ⟨hc n 0 _ e1 rfl, hc n 1 _ e1 rfl, hc n 2 _ e1 rfl, hc n 3 _ e1 rfl, hc n 4 _ e1 rfl, hc (n + 1) 0 _ e2 rfl, hc (n + 1) 1 _ e2 rfl, hc (n + 1) 2 _ e2 rfl, hc (n + 1) 3 _ e2 rfl, hc (n + 1) 4 _ e2 rfl⟩
theorem Ten.below {w w' : World} {g n m : Nat} {S : ByteArray} (h : Ten w g n m S) (hg : g < w.heap.size) (hB : Below w.heap.size w w') : Ten w' g n m S := by
  have hc : ∀ j, w'.cell? ⟨g, j, none⟩ = w.cell? ⟨g, j, none⟩ := fun j => hB.cell (p := ⟨g, j, none⟩) hg
  obtain ⟨h0, h1, h2, h3, h4, h5, h6, h7, h8, h9⟩ := h
  exact ⟨(hc _).trans h0, (hc _).trans h1, (hc _).trans h2, (hc _).trans h3, (hc _).trans h4, (hc _).trans h5, (hc _).trans h6, (hc _).trans h7, (hc _).trans h8, (hc _).trans h9⟩
theorem ten_keep {w w' : World} {g n m : Nat} {S : ByteArray} (h : Ten w g n m S) (hg : g < w.heap.size) (hB : Below w.heap.size w w') :
    w'.cell? ⟨g, n * 5, none⟩ = some (.string S) ∧ w'.cell? ⟨g, n * 5 + 1, none⟩ = some (.int .i64 (-77)) ∧ w'.cell? ⟨g, n * 5 + 2, none⟩ = some (.int .i64 (-77)) ∧ w'.cell? ⟨g, n * 5 + 3, none⟩ = some (.int .i64 (-77)) ∧ w'.cell? ⟨g, n * 5 + 4, none⟩ = some (.string S) ∧
    w'.cell? ⟨g, m * 5, none⟩ = some (.string S) ∧ w'.cell? ⟨g, m * 5 + 1, none⟩ = some (.int .i64 (-77)) ∧ w'.cell? ⟨g, m * 5 + 2, none⟩ = some (.int .i64 (-77)) ∧ w'.cell? ⟨g, m * 5 + 3, none⟩ = some (.int .i64 (-77)) ∧ w'.cell? ⟨g, m * 5 + 4, none⟩ = some (.string S) ∧ Below w.heap.size w w' := by
  obtain ⟨h0, h1, h2, h3, h4, h5, h6, h7, h8, h9⟩ := h.below hg hB
  exact ⟨h0, h1, h2, h3, h4, h5, h6, h7, h8, h9, hB⟩

set_option maxRecDepth 100000 in
set_option maxHeartbeats 8000000 in
theorem whole_any (a b : Option Addr) (c d base : Nat) (L : List Rc) (w : World) (h : TwR w base a c L) (hy : RdC w b 5 (L.map Rc.cells)) (hl : L.length ≤ 1099511627776) :
    Calls Tryz.prog 20 #[.slice a L.length c, .slice b L.length d] w fun e w' => e = .returned (.bool true) ∧ Below w.heap.size w w' := by
  have hrd := h.rd
  obtain ⟨hc1, hc2, ⟨g, rfl⟩, how⟩ := h
  have CR := Lib.hid (fun (wx : World) (hB : Below w.heap.size w wx) => records_same (some ⟨g, 0, none⟩) b L.length c d L wx rfl (hrd.below hB rfl) (hy.below hB rfl) hl)
  obtain ⟨g', cap', hv, hg1, hg2, _⟩ := own_at how (by omega)
  cases hv
  have HT0 := Lib.hid (ten_of rfl how)
  have CS := Lib.hid (fun w => spare_any w)
  obtain ⟨S, hS⟩ : ∃ S : ByteArray, (⟨#[115, 112, 97, 114, 101]⟩ : ByteArray) = S := ⟨_, rfl⟩
  rw [hS] at HT0 CS
  obtain ⟨n, hn⟩ : ∃ n, L.length = n := ⟨_, rfl⟩
  rw [hn] at CR HT0 hc1 hl ⊢
  obtain ⟨N1, hN1⟩ : ∃ N1, n + 1 = N1 := ⟨_, rfl⟩
  rw [hN1] at HT0
  have hcm : (c : Int) ≤ 9223372036854775807 := by unfold maxLen at hc2; omega
  have hnc : (n : Int) + 2 ≤ (c : Int) := by omega
  clear hrd hy how hS hn
  go_enter Tryz.func20, Tryz.ntmps20
  go_wp2_with fail
  obtain ⟨N2, hN2⟩ : ∃ N2, n + 2 = N2 := ⟨_, rfl⟩
  rw [hN2]
  have i1 : (n : Int) < (N2 : Int) := by omega
  have i2 : (N1 : Int) < (N2 : Int) := by omega
  have hN2b : N2 ≤ 1099511627800 := by omega
  have hv4 : IntKind.i64.wrap (N1 : Int) = (N1 : Int) := IntWalk.i64_in _ (by omega)
  have hv5 : IntKind.i64.wrap (n : Int) = (n : Int) := IntWalk.i64_in _ (by omega)
  have hv3 : IntKind.i64.wrap ((n : Int) + 1) = (N1 : Int) := by rw [IntWalk.i64_in _ (by omega)]; omega
  clear hN1 hN2
  have z1 : (0 : Int) ≤ (N1 : Int) := Int.natCast_nonneg _
  have z2 : (0 : Int) ≤ (n : Int) := Int.natCast_nonneg _
  have hBd : Below w.heap.size w w.drew := (Below.refl _ _).drew
  have hS0 := ten_keep HT0.out hg2 hBd
  go_region_held3 (fun w' => w'.cell? ⟨g, n * 5, none⟩ = some (.string S) ∧ w'.cell? ⟨g, n * 5 + 1, none⟩ = some (.int .i64 (-77)) ∧ w'.cell? ⟨g, n * 5 + 2, none⟩ = some (.int .i64 (-77)) ∧ w'.cell? ⟨g, n * 5 + 3, none⟩ = some (.int .i64 (-77)) ∧ w'.cell? ⟨g, n * 5 + 4, none⟩ = some (.string S) ∧
    w'.cell? ⟨g, N1 * 5, none⟩ = some (.string S) ∧ w'.cell? ⟨g, N1 * 5 + 1, none⟩ = some (.int .i64 (-77)) ∧ w'.cell? ⟨g, N1 * 5 + 2, none⟩ = some (.int .i64 (-77)) ∧ w'.cell? ⟨g, N1 * 5 + 3, none⟩ = some (.int .i64 (-77)) ∧ w'.cell? ⟨g, N1 * 5 + 4, none⟩ = some (.string S) ∧ Below w.heap.size w w') (first | assumption | (refine ⟨?_, ?_, ?_, ?_, ?_, ?_, ?_, ?_, ?_, ?_, ?_⟩ <;> assumption))
    (first
      | (go_at_call 42; refine (CR.out _ (by assumption)).mono ?_; rintro e w' ⟨rfl, hBz⟩; have hBy := Below.trans (by assumption) (hBz.mono (Below.size (by assumption))); have hSz := ten_keep HT0.out hg2 hBy; clear hBz)
      | (go_at_call 43; refine (CS.out _).mono ?_; rintro e w' ⟨rfl, hBz⟩; have hBy := Below.trans (by assumption) (hBz.mono (Below.size (by assumption))); have hSz := ten_keep HT0.out hg2 hBy; clear hBz))
  all_goals (go_wp2_with fail; go_ret; exact ⟨rfl, by assumption⟩)

set_option maxRecDepth 100000 in
set_option maxHeartbeats 4000000 in
theorem head_same (p q : Pl) (m : Mg) (nq na nu nr nq' na' nu' nr' : Nat) (w : World) :
    Calls Tryz.prog 40 #[.agg #[.int .i64 m.id, .bool m.rs, .int .i64 m.op, .bool m.aa, .bool m.tc, .bool m.rd, .bool m.ra, .bool m.ad, .bool m.cd, .int .i64 m.rc, .slice p.qa nq p.qc, .slice p.na na p.nc, .slice p.ua nu p.uc, .slice p.ra nr p.rc], .agg #[.int .i64 m.id, .bool m.rs, .int .i64 m.op, .bool m.aa, .bool m.tc, .bool m.rd, .bool m.ra, .bool m.ad, .bool m.cd, .int .i64 m.rc, .slice q.qa nq' q.qc, .slice q.na na' q.nc, .slice q.ua nu' q.uc, .slice q.ra nr' q.rc]] w fun e w' => e = .returned (.bool true) ∧ Below w.heap.size w w' := by
  have hB : Hid (Below w.heap.size w ((w.alloc (.cells #[.int .i64 m.id, .bool m.rs, .int .i64 m.op, .bool m.aa, .bool m.tc, .bool m.rd, .bool m.ra, .bool m.ad, .bool m.cd, .int .i64 m.rc, .slice p.qa nq p.qc, .slice p.na na p.nc, .slice p.ua nu p.uc, .slice p.ra nr p.rc] 25)).alloc (.cells #[.int .i64 m.id, .bool m.rs, .int .i64 m.op, .bool m.aa, .bool m.tc, .bool m.rd, .bool m.ra, .bool m.ad, .bool m.cd, .int .i64 m.rc, .slice q.qa nq' q.qc, .slice q.na na' q.nc, .slice q.ua nu' q.uc, .slice q.ra nr' q.rc] 25))) := Lib.hid (((Below.refl _ _).alloc (Nat.le_refl _) _).alloc (by simp) _)
  go_enter Tryz.func40, Tryz.ntmps40
  go_wp2_with fail
  go_ret
  exact ⟨rfl, hB.out⟩

theorem msg_cells {w : World} {b : Nat} {p : Pl} {m : Mg} {w' : World} (h : MsgAt w b p m) (hB : Below w.heap.size w w') : MsgAt w' b p m := h.below hB h.box.lt
set_option maxRecDepth 100000 in
set_option maxHeartbeats 4000000 in
theorem wholeM_any (P p : Pl) (m : Mg) (base : Nat) (w : World) (h : TwM w base P m) (hr : RdM w p m) (ho : OkM m) :
    Calls Tryz.prog 13 #[.agg #[.int .i64 m.id, .bool m.rs, .int .i64 m.op, .bool m.aa, .bool m.tc, .bool m.rd, .bool m.ra, .bool m.ad, .bool m.cd, .int .i64 m.rc, .slice P.qa m.qs.length P.qc, .slice P.na m.an.length P.nc, .slice P.ua m.au.length P.uc, .slice P.ra m.ar.length P.rc], .agg #[.int .i64 m.id, .bool m.rs, .int .i64 m.op, .bool m.aa, .bool m.tc, .bool m.rd, .bool m.ra, .bool m.ad, .bool m.cd, .int .i64 m.rc, .slice p.qa m.qs.length p.qc, .slice p.na m.an.length p.nc, .slice p.ua m.au.length p.uc, .slice p.ra m.ar.length p.rc]] w fun e w' => e = .returned (.bool true) ∧ Below w.heap.size w w' := by
  have CH := Lib.hid (fun w => head_same P p m m.qs.length m.an.length m.au.length m.ar.length m.qs.length m.an.length m.au.length m.ar.length w)
  have CQ := Lib.hid (fun (wx : World) (hB : Below w.heap.size w wx) => questions_same P.qa p.qa m.qs.length P.qc p.qc m.qs wx rfl (h.rd.q.below hB rfl) (hr.q.below hB rfl) ho.ql)
  have W1 := Lib.hid (fun (wx : World) (hB : Below w.heap.size w wx) => whole_any P.na p.na P.nc p.nc base m.an wx (h.n.below hB) (hr.n.below hB rfl) ho.nl)
  have W2 := Lib.hid (fun (wx : World) (hB : Below w.heap.size w wx) => whole_any P.ua p.ua P.uc p.uc base m.au wx (h.u.below hB) (hr.u.below hB rfl) ho.ul)
  have W3 := Lib.hid (fun (wx : World) (hB : Below w.heap.size w wx) => whole_any P.ra p.ra P.rc p.rc base m.ar wx (h.r.below hB) (hr.r.below hB rfl) ho.rl)
  have hm1 : MsgAt ((w.alloc (.cells #[.int .i64 m.id, .bool m.rs, .int .i64 m.op, .bool m.aa, .bool m.tc, .bool m.rd, .bool m.ra, .bool m.ad, .bool m.cd, .int .i64 m.rc, .slice P.qa m.qs.length P.qc, .slice P.na m.an.length P.nc, .slice P.ua m.au.length P.uc, .slice P.ra m.ar.length P.rc] 25)).alloc (.cells #[.int .i64 m.id, .bool m.rs, .int .i64 m.op, .bool m.aa, .bool m.tc, .bool m.rd, .bool m.ra, .bool m.ad, .bool m.cd, .int .i64 m.rc, .slice p.qa m.qs.length p.qc, .slice p.na m.an.length p.nc, .slice p.ua m.au.length p.uc, .slice p.ra m.ar.length p.rc] 25)) w.heap.size P m :=
    msg_cells (w := w.alloc (.cells #[.int .i64 m.id, .bool m.rs, .int .i64 m.op, .bool m.aa, .bool m.tc, .bool m.rd, .bool m.ra, .bool m.ad, .bool m.cd, .int .i64 m.rc, .slice P.qa m.qs.length P.qc, .slice P.na m.an.length P.nc, .slice P.ua m.au.length P.uc, .slice P.ra m.ar.length P.rc] 25)) (heap_alloc_new _ _) ((Below.refl _ _).alloc (Nat.le_refl _) _)
  have hm2 : MsgAt ((w.alloc (.cells #[.int .i64 m.id, .bool m.rs, .int .i64 m.op, .bool m.aa, .bool m.tc, .bool m.rd, .bool m.ra, .bool m.ad, .bool m.cd, .int .i64 m.rc, .slice P.qa m.qs.length P.qc, .slice P.na m.an.length P.nc, .slice P.ua m.au.length P.uc, .slice P.ra m.ar.length P.rc] 25)).alloc (.cells #[.int .i64 m.id, .bool m.rs, .int .i64 m.op, .bool m.aa, .bool m.tc, .bool m.rd, .bool m.ra, .bool m.ad, .bool m.cd, .int .i64 m.rc, .slice p.qa m.qs.length p.qc, .slice p.na m.an.length p.nc, .slice p.ua m.au.length p.uc, .slice p.ra m.ar.length p.rc] 25)) (w.heap.size + 1) p m := by
    have h := heap_alloc_new (w.alloc (.cells #[.int .i64 m.id, .bool m.rs, .int .i64 m.op, .bool m.aa, .bool m.tc, .bool m.rd, .bool m.ra, .bool m.ad, .bool m.cd, .int .i64 m.rc, .slice P.qa m.qs.length P.qc, .slice P.na m.an.length P.nc, .slice P.ua m.au.length P.uc, .slice P.ra m.ar.length P.rc] 25)) (.cells #[.int .i64 m.id, .bool m.rs, .int .i64 m.op, .bool m.aa, .bool m.tc, .bool m.rd, .bool m.ra, .bool m.ad, .bool m.cd, .int .i64 m.rc, .slice p.qa m.qs.length p.qc, .slice p.na m.an.length p.nc, .slice p.ua m.au.length p.uc, .slice p.ra m.ar.length p.rc] 25)
    rw [show (w.alloc (.cells #[.int .i64 m.id, .bool m.rs, .int .i64 m.op, .bool m.aa, .bool m.tc, .bool m.rd, .bool m.ra, .bool m.ad, .bool m.cd, .int .i64 m.rc, .slice P.qa m.qs.length P.qc, .slice P.na m.an.length P.nc, .slice P.ua m.au.length P.uc, .slice P.ra m.ar.length P.rc] 25)).heap.size = w.heap.size + 1 from by simp] at h
    exact h
  have hbel := ((Below.refl w.heap.size w).alloc (Nat.le_refl _) (.cells #[.int .i64 m.id, .bool m.rs, .int .i64 m.op, .bool m.aa, .bool m.tc, .bool m.rd, .bool m.ra, .bool m.ad, .bool m.cd, .int .i64 m.rc, .slice P.qa m.qs.length P.qc, .slice P.na m.an.length P.nc, .slice P.ua m.au.length P.uc, .slice P.ra m.ar.length P.rc] 25)).alloc (by simp) (.cells #[.int .i64 m.id, .bool m.rs, .int .i64 m.op, .bool m.aa, .bool m.tc, .bool m.rd, .bool m.ra, .bool m.ad, .bool m.cd, .int .i64 m.rc, .slice p.qa m.qs.length p.qc, .slice p.na m.an.length p.nc, .slice p.ua m.au.length p.uc, .slice p.ra m.ar.length p.rc] 25)
  have HM1 := Lib.hid hm1; have HM2 := Lib.hid hm2; have HB0 := Lib.hid hbel
  clear h hr ho hm1 hm2 hbel
  go_enter Tryz.func13, Tryz.ntmps13
  go_wp2_with fail
  refine (CH.out _).mono ?_
  rintro e w1 ⟨rfl, hB1⟩
  have M1 := Lib.hid (msg_cells HM1.out hB1); have M2 := Lib.hid (msg_cells HM2.out hB1)
  have B1 := Lib.hid (HB0.out.trans (hB1.mono HB0.out.size))
  have b10 := M1.out.box.c10; have c10 := M2.out.box.c10
  clear hB1
  go_wp2_with fail
  refine (CQ.out _ B1.out).mono ?_
  rintro e w2 ⟨rfl, hB2⟩
  have M3 := Lib.hid (msg_cells M1.out hB2); have M4 := Lib.hid (msg_cells M2.out hB2)
  have B2 := Lib.hid (B1.out.trans (hB2.mono B1.out.size))
  have b11 := M3.out.box.c11; have c11 := M4.out.box.c11
  clear hB2 b10 c10
  go_wp2_with fail
  refine (W1.out _ B2.out).mono ?_
  rintro e w3 ⟨rfl, hB3⟩
  have M5 := Lib.hid (msg_cells M3.out hB3); have M6 := Lib.hid (msg_cells M4.out hB3)
  have B3 := Lib.hid (B2.out.trans (hB3.mono B2.out.size))
  have b12 := M5.out.box.c12; have c12 := M6.out.box.c12
  clear hB3 b11 c11
  go_wp2_with fail
  refine (W2.out _ B3.out).mono ?_
  rintro e w4 ⟨rfl, hB4⟩
  have M7 := Lib.hid (msg_cells M5.out hB4); have M8 := Lib.hid (msg_cells M6.out hB4)
  have B4 := Lib.hid (B3.out.trans (hB4.mono B3.out.size))
  have b13 := M7.out.box.c13; have c13 := M8.out.box.c13
  clear hB4 b12 c12
  go_wp2_with fail
  refine (W3.out _ B4.out).mono ?_
  rintro e w5 ⟨rfl, hB5⟩
  have B5 := Lib.hid (B4.out.trans (hB5.mono B4.out.size))
  clear hB5 b13 c13
  go_wp2_with fail
  go_ret
  exact ⟨rfl, B5.out⟩
end Go.Proofs.YtnamkladeaohoaaGreat.wholeM
namespace Go.Proofs.YtnamkladeaohoaaGreat.unpP
open Go.RowKit Go.Proofs.YtnamkladeaohoaaGreat.kit Go.Proofs.YtnamkladeaohoaaGreat.nspec Go.Proofs.YtnamkladeaohoaaGreat.rsplit Go.Proofs.YtnamkladeaohoaaGreat.check Go.Proofs.YtnamkladeaohoaaGreat.fld Go.Proofs.YtnamkladeaohoaaGreat.wireP Go.Proofs.YtnamkladeaohoaaGreat.wireM Go.Proofs.YtnamkladeaohoaaGreat.packP
set_option linter.unusedVariables false

def atB (b : Bs) (k : Nat) : Nat := (b.getD k 0).toNat
theorem atB_lt (b : Bs) (k : Nat) : atB b k < 256 := (b.getD k 0).toNat_lt
def cutB (b : Bs) (i j : Nat) : Bs := (b.drop i).take (j - i)
/-- a fault, or what was read and where it goes on -/
inductive Got (α : Type) where
  | bad (e : Int)
  | ok (x : α) (k : Nat)
/-- a name that may be short, from a place on -/
def nameU : Nat → Bs → Nat → Nat → Nat → Int → Nat → Got Bs
  | 0, _, _, _, _, _, _ => .bad 0
  | f + 1, b, at', start, lim, over, had =>
    if lim ≤ at' then .bad over
    else if atB b at' = 0 then .ok [0] (at' + 1)
    else if atB b at' < 64 then
      if lim < at' + 1 + atB b at' then .bad over
      else if 255 < had + 1 + atB b at' + 1 then .bad 4
      else match nameU f b (at' + 1 + atB b at') start lim over (had + 1 + atB b at') with
        | .bad e => .bad e
        | .ok r k => .ok (cutB b at' (at' + 1 + atB b at') ++ r) k
    else if atB b at' < 192 then .bad 9
    else if lim < at' + 2 then .bad over
    else if start ≤ (atB b at' - 192) * 256 + atB b (at' + 1) then .bad 9
    else match nameU f b ((atB b at' - 192) * 256 + atB b (at' + 1)) ((atB b at' - 192) * 256 + atB b (at' + 1)) b.length 10 had with
      | .bad e => .bad e
      | .ok r _ => .ok r (at' + 2)
/-- how much is left to read: labels, and places further ahead -/
def leftU (start had : Nat) : Nat := (256 - had) + start + 1
theorem nameU_fuel : ∀ (f g : Nat) (b : Bs) (k start lim : Nat) (over : Int) (had : Nat), had ≤ 255 → leftU start had < f → leftU start had < g → nameU f b k start lim over had = nameU g b k start lim over had
  | 0, _, _, _, _, _, _, _, _, h, _ => by omega
  | _, 0, _, _, _, _, _, _, _, _, h => by omega
  | f + 1, g + 1, b, k, start, lim, over, had, h0, h1, h2 => by
    simp only [nameU]
    unfold leftU at h1 h2
    by_cases c1 : lim ≤ k
    · rw [if_pos c1, if_pos c1]
    rw [if_neg c1, if_neg c1]
    by_cases c2 : atB b k = 0
    · rw [if_pos c2, if_pos c2]
    rw [if_neg c2, if_neg c2]
    by_cases c3 : atB b k < 64
    · rw [if_pos c3, if_pos c3]
      by_cases c4 : lim < k + 1 + atB b k
      · rw [if_pos c4, if_pos c4]
      rw [if_neg c4, if_neg c4]
      by_cases c5 : 255 < had + 1 + atB b k + 1
      · rw [if_pos c5, if_pos c5]
      rw [if_neg c5, if_neg c5]
      rw [nameU_fuel f g b _ start lim over _ (by omega) (by unfold leftU; omega) (by unfold leftU; omega)]
    rw [if_neg c3, if_neg c3]
    by_cases c6 : atB b k < 192
    · rw [if_pos c6, if_pos c6]
    rw [if_neg c6, if_neg c6]
    by_cases c7 : lim < k + 2
    · rw [if_pos c7, if_pos c7]
    rw [if_neg c7, if_neg c7]
    by_cases c8 : start ≤ (atB b k - 192) * 256 + atB b (k + 1)
    · rw [if_pos c8, if_pos c8]
    rw [if_neg c8, if_neg c8]
    rw [nameU_fuel f g b _ _ b.length 10 had h0 (by unfold leftU; omega) (by unfold leftU; omega)]
def nameR (b : Bs) (k start lim : Nat) (over : Int) (had : Nat) : Got Bs := nameU (leftU start had + 1) b k start lim over had
/-- one step -/
theorem nameR_step (b : Bs) (k start lim : Nat) (over : Int) (had : Nat) (h0 : had ≤ 255) : nameR b k start lim over had =
    if lim ≤ k then .bad over
    else if atB b k = 0 then .ok [0] (k + 1)
    else if atB b k < 64 then
      if lim < k + 1 + atB b k then .bad over
      else if 255 < had + 1 + atB b k + 1 then .bad 4
      else match nameR b (k + 1 + atB b k) start lim over (had + 1 + atB b k) with
        | .bad e => .bad e
        | .ok r j => .ok (cutB b k (k + 1 + atB b k) ++ r) j
    else if atB b k < 192 then .bad 9
    else if lim < k + 2 then .bad over
    else if start ≤ (atB b k - 192) * 256 + atB b (k + 1) then .bad 9
    else match nameR b ((atB b k - 192) * 256 + atB b (k + 1)) ((atB b k - 192) * 256 + atB b (k + 1)) b.length 10 had with
      | .bad e => .bad e
      | .ok r _ => .ok r (k + 2) := by
  unfold nameR
  conv => lhs; simp only [nameU]
  by_cases c1 : lim ≤ k
  · rw [if_pos c1, if_pos c1]
  rw [if_neg c1, if_neg c1]
  by_cases c2 : atB b k = 0
  · rw [if_pos c2, if_pos c2]
  rw [if_neg c2, if_neg c2]
  by_cases c3 : atB b k < 64
  · rw [if_pos c3, if_pos c3]
    by_cases c4 : lim < k + 1 + atB b k
    · rw [if_pos c4, if_pos c4]
    rw [if_neg c4, if_neg c4]
    by_cases c5 : 255 < had + 1 + atB b k + 1
    · rw [if_pos c5, if_pos c5]
    rw [if_neg c5, if_neg c5]
    rw [nameU_fuel (leftU start had) (leftU start (had + 1 + atB b k) + 1) b _ start lim over _ (by omega) (by unfold leftU; omega) (by omega)]
  rw [if_neg c3, if_neg c3]
  by_cases c6 : atB b k < 192
  · rw [if_pos c6, if_pos c6]
  rw [if_neg c6, if_neg c6]
  by_cases c7 : lim < k + 2
  · rw [if_pos c7, if_pos c7]
  rw [if_neg c7, if_neg c7]
  by_cases c8 : start ≤ (atB b k - 192) * 256 + atB b (k + 1)
  · rw [if_pos c8, if_pos c8]
  rw [if_neg c8, if_neg c8]
  rw [nameU_fuel (leftU start had) (leftU ((atB b k - 192) * 256 + atB b (k + 1)) had + 1) b _ _ b.length 10 had h0 (by unfold leftU; omega) (by omega)]
theorem cut_len (b : Bs) (i j : Nat) (h : i ≤ j) (hj : j ≤ b.length) : (cutB b i j).length = j - i := by
  unfold cutB; rw [List.length_take, List.length_drop]; omega
theorem cut_head (b : Bs) (k n : Nat) (hk : k < b.length) : cutB b k (k + 1 + n) = b.getD k 0 :: cutB b (k + 1) (k + 1 + n) := by
  unfold cutB
  rw [List.drop_eq_getElem_cons hk, show k + 1 + n - k = n + 1 by omega, List.take_succ_cons, show k + 1 + n - (k + 1) = n by omega]
  rw [List.getD_eq_getElem?_getD, List.getElem?_eq_getElem hk]; rfl
/-- what is read is a name -/
theorem nameU_is : ∀ (f : Nat) (b : Bs) (k start lim : Nat) (over : Int) (had : Nat) (s : Bs) (j : Nat), had + 1 ≤ 255 → lim ≤ b.length → nameU f b k start lim over had = .ok s j → ∃ ls, s = put ls ∧ okL ls ∧ had + s.length ≤ 255
  | 0, b, k, start, lim, over, had, s, j, _, _, h => by simp [nameU] at h
  | f + 1, b, k, start, lim, over, had, s, j, h0, hl, h => by
    simp only [nameU] at h
    by_cases c1 : lim ≤ k
    · rw [if_pos c1] at h; cases h
    rw [if_neg c1] at h
    by_cases c2 : atB b k = 0
    · rw [if_pos c2] at h; cases h
      exact ⟨[], rfl, by simp [okL], by simpa using h0⟩
    rw [if_neg c2] at h
    by_cases c3 : atB b k < 64
    · rw [if_pos c3] at h
      by_cases c4 : lim < k + 1 + atB b k
      · rw [if_pos c4] at h; cases h
      rw [if_neg c4] at h
      by_cases c5 : 255 < had + 1 + atB b k + 1
      · rw [if_pos c5] at h; cases h
      rw [if_neg c5] at h
      cases hr : nameU f b (k + 1 + atB b k) start lim over (had + 1 + atB b k) with
      | bad e => rw [hr] at h; cases h
      | ok r j' =>
        rw [hr] at h; cases h
        obtain ⟨ls, h1, h2, h3⟩ := nameU_is f b _ start lim over _ r j (by omega) hl hr
        have hlen : (cutB b (k + 1) (k + 1 + atB b k)).length = atB b k := by rw [cut_len b _ _ (by omega) (by omega)]; omega
        refine ⟨cutB b (k + 1) (k + 1 + atB b k) :: ls, ?_, okL_cons.2 ⟨by rw [hlen]; omega, h2⟩, ?_⟩
        · rw [cut_head b k _ (by omega), h1]
          simp only [put, hlen, List.cons_append]
          congr 1
          show b.getD k 0 = UInt8.ofNat (atB b k)
          unfold atB; simp
        · rw [List.length_append, cut_len b _ _ (by omega) (by omega)]; omega
    rw [if_neg c3] at h
    by_cases c6 : atB b k < 192
    · rw [if_pos c6] at h; cases h
    rw [if_neg c6] at h
    by_cases c7 : lim < k + 2
    · rw [if_pos c7] at h; cases h
    rw [if_neg c7] at h
    by_cases c8 : start ≤ (atB b k - 192) * 256 + atB b (k + 1)
    · rw [if_pos c8] at h; cases h
    rw [if_neg c8] at h
    cases hr : nameU f b ((atB b k - 192) * 256 + atB b (k + 1)) ((atB b k - 192) * 256 + atB b (k + 1)) b.length 10 had with
    | bad e => rw [hr] at h; cases h
    | ok r j' =>
      rw [hr] at h; cases h
      exact nameU_is f b _ _ b.length 10 had s j' h0 (Nat.le_refl _) hr
/-- where it goes on -/
theorem nameU_next : ∀ (f : Nat) (b : Bs) (k start lim : Nat) (over : Int) (had : Nat) (s : Bs) (j : Nat), nameU f b k start lim over had = .ok s j → k < j ∧ j ≤ lim
  | 0, b, k, start, lim, over, had, s, j, h => by simp [nameU] at h
  | f + 1, b, k, start, lim, over, had, s, j, h => by
    simp only [nameU] at h
    by_cases c1 : lim ≤ k
    · rw [if_pos c1] at h; cases h
    rw [if_neg c1] at h
    by_cases c2 : atB b k = 0
    · rw [if_pos c2] at h; cases h; omega
    rw [if_neg c2] at h
    by_cases c3 : atB b k < 64
    · rw [if_pos c3] at h
      by_cases c4 : lim < k + 1 + atB b k
      · rw [if_pos c4] at h; cases h
      rw [if_neg c4] at h
      by_cases c5 : 255 < had + 1 + atB b k + 1
      · rw [if_pos c5] at h; cases h
      rw [if_neg c5] at h
      cases hr : nameU f b (k + 1 + atB b k) start lim over (had + 1 + atB b k) with
      | bad e => rw [hr] at h; cases h
      | ok r j' =>
        rw [hr] at h; cases h
        have := nameU_next f b _ start lim over _ r j hr
        omega
    rw [if_neg c3] at h
    by_cases c6 : atB b k < 192
    · rw [if_pos c6] at h; cases h
    rw [if_neg c6] at h
    by_cases c7 : lim < k + 2
    · rw [if_pos c7] at h; cases h
    rw [if_neg c7] at h
    by_cases c8 : start ≤ (atB b k - 192) * 256 + atB b (k + 1)
    · rw [if_pos c8] at h; cases h
    rw [if_neg c8] at h
    cases hr : nameU f b ((atB b k - 192) * 256 + atB b (k + 1)) ((atB b k - 192) * 256 + atB b (k + 1)) b.length 10 had with
    | bad e => rw [hr] at h; cases h
    | ok r j' => rw [hr] at h; cases h; omega
/-- a name from a place on -/
def nameAt (b : Bs) (k lim : Nat) (over : Int) : Got Bs := nameR b k k lim over 0
def num2 (b : Bs) (k : Nat) : Nat := atB b k * 256 + atB b (k + 1)
def num4 (b : Bs) (k : Nat) : Nat := num2 b k * 65536 + num2 b (k + 2)
/-- data field by field: names made whole -/
def dataU : List (Option Nat) → Bs → Nat → Nat → Bs → Got Bs
  | [], b, k, lim, acc => if k = lim then .ok acc lim else .bad 7
  | none :: fs, b, k, lim, acc => match nameAt b k lim 7 with
    | .bad e => .bad e
    | .ok s j => dataU fs b j lim (acc ++ s)
  | some n :: fs, b, k, lim, acc => if lim < k + n then .bad 7 else dataU fs b (k + n) lim (acc ++ cutB b k (k + n))
def mkB (l : Bs) : ByteArray := ⟨l.toArray⟩
/-- a record from a place on -/
def recU (b : Bs) (k : Nat) : Got Rc :=
  match nameAt b k b.length 10 with
  | .bad e => .bad e
  | .ok o j =>
    if b.length < j + 10 then .bad 10
    else if b.length < j + 10 + num2 b (j + 8) then .bad 10
    else match (if num2 b (j + 8) = 0 ∨ shortL (num2 b j) = [] then Got.ok (cutB b (j + 10) (j + 10 + num2 b (j + 8))) 0 else dataU (shortL (num2 b j)) b (j + 10) (j + 10 + num2 b (j + 8)) []) with
      | .bad e => .bad e
      | .ok d _ =>
        if rightB ⟨mkB o, num2 b j, num2 b (j + 2), num4 b (j + 4), mkB d⟩ = true then .ok ⟨mkB o, num2 b j, num2 b (j + 2), num4 b (j + 4), mkB d⟩ (j + 10 + num2 b (j + 8)) else .bad 7
/-- a question from a place on -/
def quesU (b : Bs) (k : Nat) : Got Qn :=
  match nameAt b k b.length 10 with
  | .bad e => .bad e
  | .ok o j => if b.length < j + 4 then .bad 10 else .ok ⟨mkB o, num2 b j, num2 b (j + 2)⟩ (j + 4)
/-- so many things from a place on: the fault, and where it stands -/
inductive Many (α : Type) where
  | bad (e : Int) (k : Nat)
  | ok (l : List α) (k : Nat)
def manyU {α : Type} (f : Nat → Got α) : Nat → Nat → Many α
  | 0, k => .ok [] k
  | n + 1, k => match f k with
    | .bad e => .bad e k
    | .ok x j => match manyU f n j with
      | .bad e i => .bad e i
      | .ok l i => .ok (x :: l) i
def noM : Mg := ⟨0, false, 0, false, false, false, false, false, false, 0, [], [], [], []⟩
def signB (v k : Nat) : Bool := decide (v / 2 ^ k % 2 = 1)
/-- a message out of bytes, where its fault stands, and the fault -/
def unpackS (b : Bs) : Mg × Nat × Int :=
  if 65535 < b.length then (noM, 0, 12)
  else if b.length < 12 then (noM, b.length, 10)
  else if atB b 3 / 64 % 2 = 1 then (noM, 2, 8)
  else match manyU (quesU b) (num2 b 4) 12 with
    | .bad e k => (noM, k, e)
    | .ok qs k0 => match manyU (recU b) (num2 b 6) k0 with
      | .bad e k => (noM, k, e)
      | .ok an k1 => match manyU (recU b) (num2 b 8) k1 with
        | .bad e k => (noM, k, e)
        | .ok au k2 => match manyU (recU b) (num2 b 10) k2 with
          | .bad e k => (noM, k, e)
          | .ok ar k3 =>
            if k3 < b.length then (noM, k3, 11)
            else (⟨num2 b 0, signB (num2 b 2) 15, num2 b 2 / 2048 % 16, signB (num2 b 2) 10, signB (num2 b 2) 9, signB (num2 b 2) 8, signB (num2 b 2) 7, signB (num2 b 2) 5, signB (num2 b 2) 4, num2 b 2 % 16, qs, an, au, ar⟩, 0, 0)
end Go.Proofs.YtnamkladeaohoaaGreat.unpP
namespace Go.Proofs.YtnamkladeaohoaaGreat.cur
open Go.RowKit Go.Proofs.YtnamkladeaohoaaGreat.kit Go.Proofs.YtnamkladeaohoaaGreat.nspec Go.Proofs.YtnamkladeaohoaaGreat.rsplit Go.Proofs.YtnamkladeaohoaaGreat.check Go.Proofs.YtnamkladeaohoaaGreat.fld Go.Proofs.YtnamkladeaohoaaGreat.wireP Go.Proofs.YtnamkladeaohoaaGreat.wireM Go.Proofs.YtnamkladeaohoaaGreat.packP Go.Proofs.YtnamkladeaohoaaGreat.unpP Go.Proofs.YtnamkladeaohoaaGreat.rows
set_option linter.unusedVariables false

/-- bytes that can be read -/
def RdB (w : World) (a : Option Addr) (b : Bs) : Prop := ∀ (j : Nat) (c : UInt8), b[j]? = some c → ∃ g o, a = some ⟨g, o, none⟩ ∧ g < w.heap.size ∧ w.cell? ⟨g, o + j, none⟩ = some (.int .u8 (c.toNat : Int))
/-- what a cursor's walk may touch: its own block, new blocks -/
structure EffC (C : Nat) (w w' : World) : Prop where
  os : w'.os = w.os
  tape : w'.tape = w.tape
  output : w'.output = w.output
  size : w.heap.size ≤ w'.heap.size
  kept : ∀ k, k < w.heap.size → k ≠ C → w'.heap[k]? = w.heap[k]?
theorem EffC.refl (C : Nat) (w : World) : EffC C w w := ⟨rfl, rfl, rfl, Nat.le_refl _, fun _ _ _ => rfl⟩
theorem EffC.trans {C : Nat} {w w1 w2 : World} (h : EffC C w w1) (g : EffC C w1 w2) : EffC C w w2 :=
  ⟨g.os.trans h.os, g.tape.trans h.tape, g.output.trans h.output, Nat.le_trans h.size g.size, fun k hk hn => (g.kept k (Nat.lt_of_lt_of_le hk h.size) hn).trans (h.kept k hk hn)⟩
theorem EffC.of_below {C : Nat} {w w1 : World} (h : Below w.heap.size w w1) : EffC C w w1 := ⟨h.os, h.tape, h.output, h.size, fun k hk _ => h.block k hk⟩
theorem EffC.drewN (C : Nat) (w : World) (n : Nat) : EffC C w (w.drewN n) := ⟨rfl, rfl, rfl, Nat.le_refl _, fun _ _ _ => rfl⟩
theorem EffC.to_below {C B : Nat} {w w1 : World} (h : EffC C w w1) (hB : B ≤ C) (hs : B ≤ w.heap.size) : Below B w w1 := ⟨h.os, h.tape, h.output, h.size, fun k hk => h.kept k (by omega) (by omega)⟩
theorem atB_some {b : Bs} {k : Nat} (h : k < b.length) : ∃ c, b[k]? = some c ∧ atB b k = c.toNat := ⟨b[k], List.getElem?_eq_getElem h, by unfold atB; rw [List.getD_eq_getElem?_getD, List.getElem?_eq_getElem h]; rfl⟩
/-- so many bytes as a number, the highest first -/
def numB (b : Bs) (k : Nat) : Nat → Nat
  | 0 => 0
  | n + 1 => numB b k n * 256 + atB b (k + n)
theorem numB_two (b : Bs) (k : Nat) : numB b k 2 = num2 b k := by simp [numB, num2]
theorem numB_four (b : Bs) (k : Nat) : numB b k 4 = num4 b k := by
  simp only [numB, num4, num2, Nat.zero_mul, Nat.zero_add, Nat.add_zero]
  have e : k + 2 + 1 = k + 3 := rfl
  rw [e]; omega
theorem numB_lt (b : Bs) (k : Nat) : ∀ n, n ≤ 4 → numB b k n < 256 ^ n
  | 0, _ => by simp [numB]
  | n + 1, h => by
    have h1 := numB_lt b k n (by omega)
    have h2 := atB_lt b (k + n)
    simp only [numB, Nat.pow_succ]; omega
theorem or_byte {v c : Nat} (hv : v < 4294967296) (hc : c < 256) : bits .or .i64 ((v : Int) * 256) (c : Int) = ((v * 256 + c : Nat) : Int) := by
  have h := bits_join .i64 40 (by decide) psmall.wraps40 8 ((v : Int) * 256) (c : Int) (by omega) (by omega) (by omega) (by omega) (by omega) (by omega)
  rw [h]; omega
end Go.Proofs.YtnamkladeaohoaaGreat.cur
namespace Go.Proofs.YtnamkladeaohoaaGreat.cname
open Go.RowKit Go.Proofs.YtnamkladeaohoaaGreat.kit Go.Proofs.YtnamkladeaohoaaGreat.nspec Go.Proofs.YtnamkladeaohoaaGreat.rsplit Go.Proofs.YtnamkladeaohoaaGreat.check Go.Proofs.YtnamkladeaohoaaGreat.bits Go.Proofs.YtnamkladeaohoaaGreat.bld Go.Proofs.YtnamkladeaohoaaGreat.coded Go.Proofs.YtnamkladeaohoaaGreat.fld Go.Proofs.YtnamkladeaohoaaGreat.wireP Go.Proofs.YtnamkladeaohoaaGreat.wireM Go.Proofs.YtnamkladeaohoaaGreat.packP Go.Proofs.YtnamkladeaohoaaGreat.buf Go.Proofs.YtnamkladeaohoaaGreat.unpP Go.Proofs.YtnamkladeaohoaaGreat.rows Go.Proofs.YtnamkladeaohoaaGreat.cur
set_option linter.unusedVariables false

/-- what was read ahead, and where it goes on if that is settled -/
def comb (l : Bs) (af : Option Nat) : Got Bs → Got Bs
  | .bad e => .bad e
  | .ok s j => .ok (l ++ s) (af.getD j)
theorem comb_label (l : Bs) (af : Option Nat) (c : Bs) (g : Got Bs) : comb l af (match g with | .bad e => .bad e | .ok r j => .ok (c ++ r) j) = comb (l ++ c) af g := by
  cases g with
  | bad e => rfl
  | ok r j => simp [comb]
theorem comb_jump (l : Bs) (af : Option Nat) (k : Nat) (g : Got Bs) : comb l af (match g with | .bad e => .bad e | .ok r _ => .ok r k) = comb l (some (af.getD k)) g := by
  cases g with
  | bad e => rfl
  | ok r j => simp [comb]
theorem comb_nil (g : Got Bs) : comb [] none g = g := by cases g <;> simp [comb]
def afV : Option Nat → Int
  | none => -1
  | some j => (j : Int)
theorem cut_cells {w : World} {g o : Nat} {b : Bs} (h : RdB w (some ⟨g, o, none⟩) b) (i n : Nat) : ∀ (j : Nat) (u : Value), (Lib.byteCells (cutB b i (i + n)))[j]? = some u → w.cell? ((⟨g, o + i, none⟩ : Addr).add j) = some u := by
  intro j u hu
  simp only [Lib.byteCells, List.getElem?_map] at hu
  obtain ⟨c, hc, rfl⟩ := Option.map_eq_some_iff.1 hu
  unfold cutB at hc
  have hj : j < i + n - i := by have := (List.getElem?_eq_some_iff.1 hc).1; rw [List.length_take] at this; omega
  rw [List.getElem?_take_of_lt hj, List.getElem?_drop] at hc
  obtain ⟨g', o', h1, _, h3⟩ := h (i + j) c hc
  cases h1
  rw [addr_at, Nat.add_assoc]; exact h3
theorem byte_one (l : List UInt8) (u : Value) (h : u ∈ Lib.byteCells l) : u.oneCell' = true := by
  simp only [Lib.byteCells, List.mem_map] at h
  obtain ⟨c, _, rfl⟩ := h; rfl
theorem and63 {x : Int} (h₀ : 192 ≤ x) (h₁ : x < 256) : bits .and .i64 x 63 = x - 192 := by
  have h : bits .and .i64 x 63 = x % 64 := bits_mask .i64 40 (by decide) psmall.wraps40 6 (by decide) x (by omega) (by omega)
  rw [h]; omega

theorem _root_.Go.Proofs.YtnamkladeaohoaaGreat.cur.EffC.then_below {C : Nat} {w W w1 : World} (h : EffC C w W) (hB : Below w.heap.size W w1) : EffC C w w1 :=
  ⟨hB.os.trans h.os, hB.tape.trans h.tape, hB.output.trans h.output, Nat.le_trans h.size hB.size, fun k hk hn => (hB.block k hk).trans (h.kept k hk hn)⟩
end Go.Proofs.YtnamkladeaohoaaGreat.cname
namespace Go.Proofs.YtnamkladeaohoaaGreat.cdata
open Go.RowKit Go.Proofs.YtnamkladeaohoaaGreat.kit Go.Proofs.YtnamkladeaohoaaGreat.takes Go.Proofs.YtnamkladeaohoaaGreat.nspec Go.Proofs.YtnamkladeaohoaaGreat.rsplit Go.Proofs.YtnamkladeaohoaaGreat.check Go.Proofs.YtnamkladeaohoaaGreat.bits Go.Proofs.YtnamkladeaohoaaGreat.bld Go.Proofs.YtnamkladeaohoaaGreat.coded Go.Proofs.YtnamkladeaohoaaGreat.fld Go.Proofs.YtnamkladeaohoaaGreat.wireP Go.Proofs.YtnamkladeaohoaaGreat.wireM Go.Proofs.YtnamkladeaohoaaGreat.packP Go.Proofs.YtnamkladeaohoaaGreat.buf Go.Proofs.YtnamkladeaohoaaGreat.psmall Go.Proofs.YtnamkladeaohoaaGreat.fits Go.Proofs.YtnamkladeaohoaaGreat.pdata Go.Proofs.YtnamkladeaohoaaGreat.unpP Go.Proofs.YtnamkladeaohoaaGreat.rows Go.Proofs.YtnamkladeaohoaaGreat.cur Go.Proofs.YtnamkladeaohoaaGreat.cname
set_option linter.unusedVariables false

theorem cut_cat (b : Bs) (i j k : Nat) (h1 : i ≤ j) (h2 : j ≤ k) : cutB b i j ++ cutB b j k = cutB b i k := by
  unfold cutB
  have e : k - i = (j - i) + (k - j) := by omega
  rw [e, List.take_add, List.drop_drop, show i + (j - i) = j by omega]
theorem ten_two (b : Bs) (i lim : Nat) (A : Bs) : dataU [some 10, some 10] b i lim A = dataU [some 20] b i lim A := by
  have e1 : dataU [some 10, some 10] b i lim A = if lim < i + 10 then .bad 7 else if lim < i + 10 + 10 then .bad 7 else if i + 10 + 10 = lim then .ok (A ++ cutB b i (i + 10) ++ cutB b (i + 10) (i + 10 + 10)) lim else .bad 7 := rfl
  have e2 : dataU [some 20] b i lim A = if lim < i + 20 then .bad 7 else if i + 20 = lim then .ok (A ++ cutB b i (i + 20)) lim else .bad 7 := rfl
  rw [e1, e2]
  have hc : A ++ cutB b i (i + 10) ++ cutB b (i + 10) (i + 10 + 10) = A ++ cutB b i (i + 20) := by
    rw [List.append_assoc, cut_cat b i (i + 10) (i + 10 + 10) (by omega) (by omega)]
  rw [hc]
  by_cases c1 : lim < i + 10
  · rw [if_pos c1, if_pos (show lim < i + 20 by omega)]
  · rw [if_neg c1]
/-- two tens are twenty -/
theorem dataU_w {t : Int} (b : Bs) (k lim : Nat) (acc : Bs) : dataU (fieldsW t) b k lim acc = dataU (shortL t) b k lim acc := by
  by_cases h2 : t = 2 ∨ t = 5 ∨ t = 12
  · have e : fieldsW t = [none] := by simp only [fieldsW, shortB, if_pos h2]; rfl
    rw [e]; simp only [shortL, if_pos h2]
  by_cases h15 : t = 15
  · subst h15; rfl
  by_cases h6 : t = 6
  · subst h6
    have e : fieldsW 6 = [none, none, some 10, some 10] := rfl
    have e2 : shortL 6 = [none, none, some 20] := rfl
    rw [e, e2]
    have u : ∀ fs k acc, dataU (none :: fs) b k lim acc = match nameAt b k lim 7 with | .bad e => .bad e | .ok s j => dataU fs b j lim (acc ++ s) := fun _ _ _ => rfl
    rw [u, u]
    cases nameAt b k lim 7 with
    | bad x => rfl
    | ok s j =>
      show dataU [none, some 10, some 10] b j lim _ = dataU [none, some 20] b j lim _
      rw [u, u]
      cases nameAt b j lim 7 with
      | bad x => rfl
      | ok s2 i => exact ten_two b i lim _
  · have e : fieldsW t = [] := by simp only [fieldsW, shortB, if_neg h2, if_neg h15, if_neg h6]; rfl
    rw [e]; simp only [shortL, if_neg h2, if_neg h15, if_neg h6]
theorem short_nil (t : Int) : (shortB t).size = 0 ↔ shortL t = [] := by
  by_cases h2 : t = 2 ∨ t = 5 ∨ t = 12
  · simp only [shortB, shortL, if_pos h2]; simp [ByteArray.size]
  by_cases h15 : t = 15
  · subst h15; simp [shortB, shortL, ByteArray.size]
  by_cases h6 : t = 6
  · subst h6; simp [shortB, shortL, ByteArray.size]
  · simp only [shortB, shortL, if_neg h2, if_neg h15, if_neg h6]; simp [ByteArray.size]
/-- data of so many bytes, from a place on -/
def dataC (t : Int) (b : Bs) (k n : Nat) : Got Bs := if n = 0 ∨ shortL t = [] then .ok (cutB b k (k + n)) (k + n) else dataU (shortL t) b k (k + n) []
theorem dataC_eq {t : Int} (b : Bs) (k : Nat) {n : Nat} {S : ByteArray} (hS : S = if n = 0 then (⟨#[]⟩ : ByteArray) else shortB t) : (if S.size = 0 then Got.ok (cutB b k (k + n)) (k + n) else dataU (S.data.toList.map fieldB) b k (k + n) []) = dataC t b k n := by
  unfold dataC
  by_cases hn : n = 0
  · rw [if_pos hn] at hS
    have h0 : S.size = 0 := by rw [hS]; rfl
    rw [if_pos h0, if_pos (Or.inl hn)]
  · rw [if_neg hn] at hS
    subst hS
    by_cases hs : shortL t = []
    · rw [if_pos ((short_nil t).2 hs), if_pos (Or.inr hs)]
    · rw [if_neg (fun h => hs ((short_nil t).1 h)), if_neg (fun h => h.elim hn hs), ← dataU_w]; rfl
theorem dataU_len : ∀ (fs : List (Option Nat)) (b : Bs) (k lim : Nat) (acc : Bs) (s : Bs) (j : Nat), dataU fs b k lim acc = .ok s j → j = lim
  | [], b, k, lim, acc, s, j, h => by
    simp only [dataU] at h; split at h
    · cases h; rfl
    · cases h
  | none :: fs, b, k, lim, acc, s, j, h => by
    simp only [dataU] at h
    cases hn : nameAt b k lim 7 with
    | bad e => rw [hn] at h; cases h
    | ok r i => rw [hn] at h; exact dataU_len fs b i lim _ s j h
  | some n :: fs, b, k, lim, acc, s, j, h => by
    simp only [dataU] at h; split at h
    · cases h
    · exact dataU_len fs b _ lim _ s j h
theorem iter_eff {w w1 : World} {C Q : Nat} {s : ByteArray} {pos : Nat} (h : w.heap[Q]? = some (.stringIter s pos)) (he : EffC C w w1) (hne : Q ≠ C) : w1.heap[Q]? = some (.stringIter s pos) :=
  (he.kept Q (Array.getElem?_eq_some_iff.1 h).1 hne).trans h
theorem nameAt_len {b : Bs} {j T : Nat} {x : Int} {s : Bs} {i : Nat} (hT : T ≤ b.length) (h : nameAt b j T x = .ok s i) : s.length ≤ 255 ∧ i ≤ T := by
  obtain ⟨ls, h1, h2, h3⟩ := nameU_is _ b j j T x 0 s i (by omega) hT h
  exact ⟨by omega, (nameU_next _ b j j T x 0 s i h).2⟩
/-- the iterator moved on: nothing of old -/
theorem iter_below {w wr : World} {Q : Nat} {S : ByteArray} (pos : Nat) (hQ : w.heap.size ≤ Q) : Below w.heap.size wr (wr.iterAt Q S pos) :=
  ⟨rfl, rfl, rfl, by rw [Lib.iterAt_size]; exact Nat.le_refl _, fun k hk => Lib.iterAt_other _ _ _ _ _ (by omega)⟩
theorem iter_own {wr : World} {Q base pos pos' : Nat} {S : ByteArray} {v : Value} {n : Nat} {xs : List Value} (h : wr.ownsRow base 5 1 v n xs) (hQ : wr.heap[Q]? = some (.stringIter S pos)) : (wr.iterAt Q S pos').ownsRow base 5 1 v n xs :=
  own_keptG h (fun k cu hk => (Lib.iterAt_other _ _ _ _ _ (by intro e; subst e; rw [hQ] at hk; cases hk)).trans hk)
theorem not_empty {S : ByteArray} (h : S.size ≠ 0) : S.toList.isEmpty = false := by
  rw [Lib.toList_data]
  cases hx : S.data.toList with
  | nil => exact absurd (by rw [← size_len, hx]; rfl) h
  | cons a l => rfl
/-- what is still to read -/
def DRel (S : ByteArray) (b : Bs) (k T : Nat) (R : Got Bs) (pos j : Nat) (l : Bs) : Prop :=
  (S.size = 0 ∧ l = [] ∧ j = k) ∨ (S.size ≠ 0 ∧ dataU ((S.data.toList.drop pos).map fieldB) b j T l = R)
theorem DRel.start {S : ByteArray} {b : Bs} {k T : Nat} {R : Got Bs} (h : (if S.size = 0 then Got.ok (cutB b k T) T else dataU (S.data.toList.map fieldB) b k T []) = R) : DRel S b k T R 0 k [] := by
  by_cases h0 : S.size = 0
  · exact .inl ⟨h0, rfl, rfl⟩
  · right; rw [if_neg h0] at h; rw [List.drop_zero]; exact ⟨h0, h⟩
theorem DRel.go {S : ByteArray} {b : Bs} {k T : Nat} {R : Got Bs} {pos j : Nat} {l : Bs} (h : DRel S b k T R pos j l) (hlt : pos < S.size) : dataU (fieldB (S[pos]'hlt) :: (S.data.toList.drop (pos + 1)).map fieldB) b j T l = R := by
  rcases h with ⟨h0, _⟩ | ⟨_, h⟩
  · omega
  · rw [drop_cons S pos hlt, List.map_cons] at h; exact h
/-- the end: the rest is all, or nothing -/
theorem DRel.stop {S : ByteArray} {b : Bs} {k T : Nat} {R : Got Bs} {pos j : Nat} {l : Bs} (h : DRel S b k T R pos j l) (hge : S.size ≤ pos) (hR : (if S.size = 0 then Got.ok (cutB b k T) T else dataU (S.data.toList.map fieldB) b k T []) = R) : (S.size = 0 ∧ l = [] ∧ j = k ∧ R = .ok (cutB b k T) T) ∨ (S.size ≠ 0 ∧ j = T ∧ R = .ok l T) ∨ (S.size ≠ 0 ∧ j ≠ T ∧ R = .bad 7) := by
  rcases h with ⟨h0, h1, h2⟩ | ⟨h0, h⟩
  · rw [if_pos h0] at hR; exact .inl ⟨h0, h1, h2, hR.symm⟩
  · have hd : S.data.toList.drop pos = [] := List.drop_eq_nil_of_le (by simpa using hge)
    rw [hd] at h
    simp only [List.map_nil, dataU] at h
    by_cases hj : j = T
    · rw [if_pos hj] at h; exact .inr (.inl ⟨h0, hj, h.symm⟩)
    · rw [if_neg hj] at h; exact .inr (.inr ⟨h0, hj, h.symm⟩)
end Go.Proofs.YtnamkladeaohoaaGreat.cdata
namespace Go.Proofs.YtnamkladeaohoaaGreat.crec
open Go.RowKit Go.Proofs.YtnamkladeaohoaaGreat.kit Go.Proofs.YtnamkladeaohoaaGreat.takes Go.Proofs.YtnamkladeaohoaaGreat.nspec Go.Proofs.YtnamkladeaohoaaGreat.rsplit Go.Proofs.YtnamkladeaohoaaGreat.check Go.Proofs.YtnamkladeaohoaaGreat.bits Go.Proofs.YtnamkladeaohoaaGreat.bld Go.Proofs.YtnamkladeaohoaaGreat.coded Go.Proofs.YtnamkladeaohoaaGreat.fld Go.Proofs.YtnamkladeaohoaaGreat.wireP Go.Proofs.YtnamkladeaohoaaGreat.wireM Go.Proofs.YtnamkladeaohoaaGreat.packP Go.Proofs.YtnamkladeaohoaaGreat.buf Go.Proofs.YtnamkladeaohoaaGreat.psmall Go.Proofs.YtnamkladeaohoaaGreat.fits Go.Proofs.YtnamkladeaohoaaGreat.pdata Go.Proofs.YtnamkladeaohoaaGreat.unpP Go.Proofs.YtnamkladeaohoaaGreat.rows Go.Proofs.YtnamkladeaohoaaGreat.cur Go.Proofs.YtnamkladeaohoaaGreat.cname Go.Proofs.YtnamkladeaohoaaGreat.cdata
set_option linter.unusedVariables false

/-- a record as it is read -/
def recG (b : Bs) (k : Nat) : Got Rc :=
  match nameAt b k b.length 10 with
  | .bad e => .bad e
  | .ok o j =>
    if b.length < j + 10 then .bad 10
    else if b.length < j + 10 + num2 b (j + 8) then .bad 10
    else match dataC (num2 b j) b (j + 10) (num2 b (j + 8)) with
      | .bad e => .bad e
      | .ok d i =>
        if rightB ⟨mkB o, num2 b j, num2 b (j + 2), num4 b (j + 4), mkB d⟩ = true then .ok ⟨mkB o, num2 b j, num2 b (j + 2), num4 b (j + 4), mkB d⟩ i else .bad 7
theorem dataC_next {t : Int} {b : Bs} {k n : Nat} {d : Bs} {i : Nat} (h : dataC t b k n = .ok d i) : i = k + n := by
  unfold dataC at h
  split at h
  · cases h; rfl
  · exact dataU_len _ b k _ _ d i h
theorem recG_eq (b : Bs) (k : Nat) : recU b k = recG b k := by
  unfold recU recG
  cases nameAt b k b.length 10 with
  | bad e => rfl
  | ok o j =>
    by_cases c1 : b.length < j + 10
    · simp only [if_pos c1]
    by_cases c2 : b.length < j + 10 + num2 b (j + 8)
    · simp only [if_neg c1, if_pos c2]
    simp only [if_neg c1, if_neg c2]
    by_cases c3 : num2 b (j + 8) = 0 ∨ shortL (num2 b j) = []
    · have e : dataC (num2 b j) b (j + 10) (num2 b (j + 8)) = .ok (cutB b (j + 10) (j + 10 + num2 b (j + 8))) (j + 10 + num2 b (j + 8)) := by unfold dataC; rw [if_pos c3]
      rw [e, if_pos c3]
    · have e : dataC (num2 b j) b (j + 10) (num2 b (j + 8)) = dataU (shortL (num2 b j)) b (j + 10) (j + 10 + num2 b (j + 8)) [] := by unfold dataC; rw [if_neg c3]
      rw [e, if_neg c3]
      cases hd : dataU (shortL (num2 b j)) b (j + 10) (j + 10 + num2 b (j + 8)) [] with
      | bad x => rfl
      | ok d i =>
        have hi := dataU_len _ b _ _ _ d i hd
        subst hi; rfl
theorem eff_set {w w1 : World} {C B i : Nat} (he : EffC C w w1) (hB : w.heap.size ≤ B) (v : Value) : EffC C w (w1.setCell ⟨B, i, none⟩ v) :=
  he.then_below ⟨rfl, rfl, rfl, by simp, fun k hk => Below.heap_setCell _ ⟨B, i, none⟩ _ k (by show k ≠ B; omega)⟩
theorem blk_set {w1 : World} {C B i : Nat} {o : Obj} (hb : w1.heap[C]? = some o) (hB : B ≠ C) (v : Value) : (w1.setCell ⟨B, i, none⟩ v).heap[C]? = some o := by
  rw [Below.heap_setCell _ ⟨B, i, none⟩ _ C (by show C ≠ B; omega)]; exact hb
theorem num2_le (b : Bs) (k : Nat) : num2 b k ≤ 65535 := by unfold num2; have := atB_lt b k; have := atB_lt b (k + 1); omega
theorem num4_le (b : Bs) (k : Nat) : num4 b k ≤ 4294967295 := by unfold num4; have := num2_le b k; have := num2_le b (k + 2); omega
theorem right_read {s d : Bs} {t c l : Nat} (hs : ∃ ls, s = put ls ∧ okL ls ∧ 0 + s.length ≤ 255) (ht : t ≤ 65535) (hc : c ≤ 65535) (hl : l ≤ 4294967295) (hd : t = 41 → d.length ≤ 65535) :
    rightB ⟨mkB s, (t : Int), (c : Int), (l : Int), mkB d⟩ = (decide ((t : Int) = 41) || (emptyB ⟨mkB s, (t : Int), (c : Int), (l : Int), mkB d⟩ || decide (checkS (t : Int) d = 0))) := by
  obtain ⟨ls, h1, h2, h3⟩ := hs
  unfold rightB
  have hz : (mkB d).size = d.length := by unfold mkB; rw [mk_size]
  rw [isB_yes (s := mkB s) (ls := ls) ⟨by unfold mkB; simpa using h1, h2, by unfold mkB; simp; omega⟩, inB_yes (v := (t : Int)) (by omega) (by omega), inB_yes (v := (c : Int)) (by omega) (by omega), inB_yes (v := (l : Int)) (by omega) (by omega)]
  simp only [Bool.true_and]
  by_cases h : t = 41
  · have h' : (t : Int) = 41 := by omega
    rw [if_pos h', hz, decide_eq_true h', decide_eq_true (hd h), Bool.true_or]
  · have h' : ¬ (t : Int) = 41 := by omega
    rw [if_neg h', decide_eq_false h', Bool.false_or]; rfl
theorem data_41 {b : Bs} {k n : Nat} {d : Bs} {i t : Nat} (h : dataC (t : Int) b k n = .ok d i) (hn : n ≤ 65535) : t = 41 → d.length ≤ 65535 := by
  intro h41; subst h41
  have e : shortL ((41 : Nat) : Int) = [] := rfl
  unfold dataC at h
  rw [if_pos (Or.inr e)] at h
  cases h
  unfold cutB
  rw [List.length_take]; omega
theorem dataU_room : ∀ (fs : List (Option Nat)) (b : Bs) (k lim : Nat) (acc : Bs) (s : Bs) (j : Nat), lim ≤ b.length → b.length ≤ 65535 → dataU fs b k lim acc = .ok s j → s.length ≤ acc.length + fs.length * 65535
  | [], b, k, lim, acc, s, j, h1, h2, h => by
    simp only [dataU] at h; split at h
    · cases h; omega
    · cases h
  | none :: fs, b, k, lim, acc, s, j, h1, h2, h => by
    simp only [dataU] at h
    cases hn : nameAt b k lim 7 with
    | bad e => rw [hn] at h; cases h
    | ok r i =>
      rw [hn] at h
      have h3 := dataU_room fs b i lim _ s j h1 h2 h
      have h4 := (nameAt_len h1 hn).1
      rw [List.length_append] at h3
      rw [List.length_cons]; omega
  | some n :: fs, b, k, lim, acc, s, j, h1, h2, h => by
    simp only [dataU] at h; split at h
    · cases h
    · have h3 := dataU_room fs b _ lim _ s j h1 h2 h
      have h4 : (cutB b k (k + n)).length ≤ n := by unfold cutB; rw [List.length_take]; omega
      rw [List.length_append] at h3
      rw [List.length_cons]; omega
theorem short_three (t : Int) : (shortL t).length ≤ 3 := by
  unfold shortL
  by_cases h2 : t = 2 ∨ t = 5 ∨ t = 12
  · rw [if_pos h2]; simp
  by_cases h15 : t = 15
  · subst h15; decide
  by_cases h6 : t = 6
  · subst h6; decide
  · simp [h2, h15, h6]
theorem dataC_room {t : Int} {b : Bs} {k n : Nat} {d : Bs} {i : Nat} (h : dataC t b k n = .ok d i) (hk : k + n ≤ b.length) (hl : b.length ≤ 65535) : d.length ≤ 262140 := by
  unfold dataC at h
  split at h
  · cases h; unfold cutB; rw [List.length_take]; omega
  · have h1 := dataU_room _ b k _ _ d i hk hl h
    have h2 := short_three t
    simp only [List.length_nil] at h1
    omega
/-- a record in memory -/
def RcAt (w : World) (B : Nat) (x : Rc) : Prop := w.heap[B]? = some (.cells x.cells.toArray 43 (0, 0))
theorem RcAt.eff {w w1 : World} {B C : Nat} {x : Rc} (h : RcAt w B x) (he : EffC C w w1) (hne : B ≠ C) : RcAt w1 B x :=
  (he.kept B (Array.getElem?_eq_some_iff.1 h).1 hne).trans h
theorem RcAt.lt {w : World} {B : Nat} {x : Rc} (h : RcAt w B x) : B < w.heap.size := (Array.getElem?_eq_some_iff.1 h).1
theorem RcAt.c0 {w : World} {B : Nat} {x : Rc} (h : RcAt w B x) : w.cell? ⟨B, 0, none⟩ = some (.string x.o) := by unfold RcAt at h; simp only [World.cell?, h]; rfl
theorem RcAt.c1 {w : World} {B : Nat} {x : Rc} (h : RcAt w B x) : w.cell? ⟨B, 1, none⟩ = some (.int .i64 x.t) := by unfold RcAt at h; simp only [World.cell?, h]; rfl
theorem RcAt.c2 {w : World} {B : Nat} {x : Rc} (h : RcAt w B x) : w.cell? ⟨B, 2, none⟩ = some (.int .i64 x.c) := by unfold RcAt at h; simp only [World.cell?, h]; rfl
theorem RcAt.c3 {w : World} {B : Nat} {x : Rc} (h : RcAt w B x) : w.cell? ⟨B, 3, none⟩ = some (.int .i64 x.l) := by unfold RcAt at h; simp only [World.cell?, h]; rfl
theorem RcAt.c4 {w : World} {B : Nat} {x : Rc} (h : RcAt w B x) : w.cell? ⟨B, 4, none⟩ = some (.string x.d) := by unfold RcAt at h; simp only [World.cell?, h]; rfl
theorem RcAt.z {w : World} {B : Nat} {x : Rc} (h : RcAt w B x) (i : Nat) : w.frozen? ⟨B, i, none⟩ = false := by unfold RcAt at h; simp [World.frozen?, h]
theorem RcAt.st {w : World} {B : Nat} {x : Rc} (h : RcAt w B x) : RcAt (w.setCell ⟨B, 1, none⟩ (.int .i64 x.t)) B x := by
  unfold RcAt at *; rw [heap_setCell_same w B 1 _ _ (.int .i64 x.t) h]; rfl
theorem RcAt.s1 {w : World} {B : Nat} {x : Rc} (h : RcAt w B x) (v : Int) : RcAt (w.setCell ⟨B, 1, none⟩ (.int .i64 v)) B { x with t := v } := by
  unfold RcAt at *; rw [heap_setCell_same w B 1 _ _ (.int .i64 v) h]; rfl
theorem RcAt.s2 {w : World} {B : Nat} {x : Rc} (h : RcAt w B x) (v : Int) : RcAt (w.setCell ⟨B, 2, none⟩ (.int .i64 v)) B { x with c := v } := by
  unfold RcAt at *; rw [heap_setCell_same w B 2 _ _ (.int .i64 v) h]; rfl
theorem RcAt.s3 {w : World} {B : Nat} {x : Rc} (h : RcAt w B x) (v : Int) : RcAt (w.setCell ⟨B, 3, none⟩ (.int .i64 v)) B { x with l := v } := by
  unfold RcAt at *; rw [heap_setCell_same w B 3 _ _ (.int .i64 v) h]; rfl
theorem RcAt.s4 {w : World} {B : Nat} {x : Rc} (h : RcAt w B x) (v : ByteArray) : RcAt (w.setCell ⟨B, 4, none⟩ (.string v)) B { x with d := v } := by
  unfold RcAt at *; rw [heap_setCell_same w B 4 _ _ (.string v) h]; rfl
theorem RcAt.s0 {w : World} {B : Nat} {x : Rc} (h : RcAt w B x) (v : ByteArray) : RcAt (w.setCell ⟨B, 0, none⟩ (.string v)) B { x with o := v } := by
  unfold RcAt at *; rw [heap_setCell_same w B 0 _ _ (.string v) h]; rfl
def setRc (w : World) (P : Nat) (x : Rc) : World := ((((w.setCell ⟨P, 0, none⟩ (.string x.o)).setCell ⟨P, 1, none⟩ (.int .i64 x.t)).setCell ⟨P, 2, none⟩ (.int .i64 x.c)).setCell ⟨P, 3, none⟩ (.int .i64 x.l)).setCell ⟨P, 4, none⟩ (.string x.d)
theorem setRc_at {w : World} {P : Nat} {z : Rc} (h : RcAt w P z) (x : Rc) : RcAt (setRc w P x) P x := ((((h.s0 x.o).s1 x.t).s2 x.c).s3 x.l).s4 x.d
theorem setRc_eff {w W : World} {C P : Nat} (h : EffC C w W) (hP : w.heap.size ≤ P) (x : Rc) : EffC C w (setRc W P x) := eff_set (eff_set (eff_set (eff_set (eff_set h hP _) hP _) hP _) hP _) hP _
theorem setRc_blk {W : World} {C P : Nat} {o : Obj} (h : W.heap[C]? = some o) (hP : P ≠ C) (x : Rc) : (setRc W P x).heap[C]? = some o := blk_set (blk_set (blk_set (blk_set (blk_set h hP _) hP _) hP _) hP _) hP _
end Go.Proofs.YtnamkladeaohoaaGreat.crec
namespace Go.Proofs.YtnamkladeaohoaaGreat.usign
open Go.RowKit Go.Proofs.YtnamkladeaohoaaGreat.kit Go.Proofs.YtnamkladeaohoaaGreat.unpP
set_option linter.unusedVariables false

theorem and_mask {x : Int} {n : Nat} (hn : n ≤ 39) (h₀ : 0 ≤ x) (h₁ : x < 2 ^ 39) : bits .and .i64 x (2 ^ n - 1) = x % 2 ^ n :=
  bits_mask .i64 40 (by decide) psmall.wraps40 n (by omega) x (by omega) (by omega)
theorem sign_is (v k : Nat) (hv : v ≤ 65535) : (bits .and .i64 ((v : Int) / 2 ^ k) 1 == 1) = signB v k := by
  have e : ((v : Int) / 2 ^ k) = ((v / 2 ^ k : Nat) : Int) := by simp
  have hb : v / 2 ^ k ≤ 65535 := Nat.le_trans (Nat.div_le_self _ _) hv
  rw [e]
  unfold signB
  generalize v / 2 ^ k = x at hb
  have h : bits .and .i64 (x : Int) 1 = (x : Int) % 2 := bits_mask .i64 40 (by decide) psmall.wraps40 1 (by decide) _ (by omega) (by omega)
  rw [h]
  by_cases hx : x % 2 = 1
  · rw [decide_eq_true hx, beq_iff_eq]; omega
  · rw [decide_eq_false hx, beq_eq_false_iff_ne]; omega
end Go.Proofs.YtnamkladeaohoaaGreat.usign
