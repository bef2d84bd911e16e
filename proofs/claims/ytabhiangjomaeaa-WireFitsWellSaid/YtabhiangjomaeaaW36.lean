/- The law gazetteerlaw2.WireFitsWell: walk. -/
import Derived.Test.YtabhiangjomaeaaU18
import Derived.Test.YtabhiangjomaeaaU28
import Derived.Test.YtabhiangjomaeaaU30
import Derived.Test.YtabhiangjomaeaaW31
import Derived.Test.YtabhiangjomaeaaW35
namespace Go.Proofs.Ytabhiangjomaeaa.wireFW
open Go.RowKit Go.Proofs.Ytabhiangjomaeaa.kit Go.Proofs.Ytabhiangjomaeaa.timed Go.Proofs.Ytabhiangjomaeaa.nspec Go.Proofs.Ytabhiangjomaeaa.coded Go.Proofs.Ytabhiangjomaeaa.fld Go.Proofs.Ytabhiangjomaeaa.wireP Go.Proofs.Ytabhiangjomaeaa.wireM Go.Proofs.Ytabhiangjomaeaa.wireC Go.Proofs.Ytabhiangjomaeaa.packP Go.Proofs.Ytabhiangjomaeaa.wpack Go.Proofs.Ytabhiangjomaeaa.rows Go.Proofs.Ytabhiangjomaeaa.same Go.Proofs.Ytabhiangjomaeaa.shortP Go.Proofs.Ytabhiangjomaeaa.plainW Go.Proofs.Ytabhiangjomaeaa.putM Go.Proofs.Ytabhiangjomaeaa.unpP Go.Proofs.Ytabhiangjomaeaa.ust Go.Proofs.Ytabhiangjomaeaa.sameM Go.Proofs.Ytabhiangjomaeaa.fitP Go.Proofs.Ytabhiangjomaeaa.fitA Go.Proofs.Ytabhiangjomaeaa.fitM Go.Proofs.Ytabhiangjomaeaa.fitW
set_option linter.unusedVariables false

theorem mcells {w : World} {b : Nat} {p : Pl} {m : Mg} {w' : World} (h : MsgAt w b p m) (hB : Below w.heap.size w w') : MsgAt w' b p m := h.below hB h.box.lt
theorem qM_ok : OkW qM := by
  refine ⟨?_, ?_, ?_, ?_, ?_, ?_, ?_⟩ <;> first | (intro x hx; simp [qM] at hx) | (unfold maxLen; decide)
set_option maxRecDepth 100000 in
theorem question_nil (w : World) : Calls Try.prog 24 #[] w fun e w' => ∃ P : Pl, e = .returned (.agg #[.int .i64 7, .bool false, .int .i64 0, .bool false, .bool false, .bool true, .bool false, .bool false, .bool false, .int .i64 0, .slice P.qa 1 P.qc, .slice P.na 0 P.nc, .slice P.ua 0 P.uc, .slice P.ra 0 P.rc]) ∧ RdM w' P qM ∧ NilM P qM ∧ (P.qa = none → qM.qs.length = 0 ∧ P.qc = 0) ∧ Below w.heap.size w w' := by
  go_enter Try.func24, Try.ntmps24
  go_wp2_with fail
  refine bodyPost_ret (v := .agg (cellsM ⟨some ⟨w.heap.size + 1, 0, none⟩, 1, none, 0, none, 0, none, 0⟩ qM)) (by simp [results, Try.results24, go_sem, cellsM, qM]) rfl ⟨⟨some ⟨w.heap.size + 1, 0, none⟩, 1, none, 0, none, 0, none, 0⟩, rfl, ?_, ⟨fun _ => ⟨rfl, rfl⟩, fun _ => ⟨rfl, rfl⟩, fun _ => ⟨rfl, rfl⟩⟩, (fun h => by cases h), ?_⟩
  · exact q_one w _
  · exact ((Below.refl _ _).alloc (Nat.le_refl _) _).alloc (by simp) _
theorem fit_lit (p : Pl) (m : Mg) (limit : Int) (w : World) (hr : RdM w p m) (hnil : NilM p m) (hqn : p.qa = none → m.qs.length = 0 ∧ p.qc = 0) (ho : OkW m) (x : Mg) (e : Int) (hf : fitS m limit = (x, e)) :
    Calls Try.prog 30 #[.agg #[.int .i64 m.id, .bool m.rs, .int .i64 m.op, .bool m.aa, .bool m.tc, .bool m.rd, .bool m.ra, .bool m.ad, .bool m.cd, .int .i64 m.rc, .slice p.qa m.qs.length p.qc, .slice p.na m.an.length p.nc, .slice p.ua m.au.length p.uc, .slice p.ra m.ar.length p.rc], .int .i64 limit] w fun en w' => ∃ P : Pl, en = .returned (.tuple #[.agg #[.int .i64 x.id, .bool x.rs, .int .i64 x.op, .bool x.aa, .bool x.tc, .bool x.rd, .bool x.ra, .bool x.ad, .bool x.cd, .int .i64 x.rc, .slice P.qa x.qs.length P.qc, .slice P.na x.an.length P.nc, .slice P.ua x.au.length P.uc, .slice P.ra x.ar.length P.rc], .int .i64 e]) ∧ Own4 w.heap.size w' P x ∧ Below w.heap.size w w' :=
  (fit_any p m limit w hr hnil hqn ho).mono fun en w' ⟨P, h1, h2, h3⟩ => by
    rw [hf] at h1 h2
    exact ⟨P, h1, h2, h3⟩
theorem fit_q (l : Int) (P : Pl) (w : World) (hr : RdM w P qM) (hnil : NilM P qM) (hqn : P.qa = none → qM.qs.length = 0 ∧ P.qc = 0) (x : Mg) (e : Int) (hf : fitS qM l = (x, e)) :
    Calls Try.prog 30 #[.agg #[.int .i64 7, .bool false, .int .i64 0, .bool false, .bool false, .bool true, .bool false, .bool false, .bool false, .int .i64 0, .slice P.qa 1 P.qc, .slice P.na 0 P.nc, .slice P.ua 0 P.uc, .slice P.ra 0 P.rc], .int .i64 l] w fun en w' => ∃ P : Pl, en = .returned (.tuple #[.agg #[.int .i64 x.id, .bool x.rs, .int .i64 x.op, .bool x.aa, .bool x.tc, .bool x.rd, .bool x.ra, .bool x.ad, .bool x.cd, .int .i64 x.rc, .slice P.qa x.qs.length P.qc, .slice P.na x.an.length P.nc, .slice P.ua x.au.length P.uc, .slice P.ra x.ar.length P.rc], .int .i64 e]) ∧ Own4 w.heap.size w' P x ∧ Below w.heap.size w w' := fit_lit P qM l w hr hnil hqn qM_ok x e hf
theorem q_fits : fitsB qM 24 = true := by unfold fitsB; rw [qM_pack]; decide
theorem q24 : fitS qM 24 = (qM, 0) := fitS_same q_fits qM_check
theorem bareq_pack : packS (bare qM) = ([0, 7, 3, 0, 0, 1, 0, 0, 0, 0, 0, 0, 3, 119, 119, 119, 2, 101, 120, 0, 0, 1, 0, 1], 0) := by decide
theorem q23 : fitS qM 23 = (noM, 12) := by
  unfold fitS
  rw [if_neg (by rw [qM_check]; decide)]
  unfold fitU
  rw [if_neg (by unfold fitsB; rw [qM_pack]; decide)]
  show (if fitsB (bare qM) 23 = true then (bare qM, 0) else (noM, 12)) = _
  rw [if_neg (by unfold fitsB; rw [bareq_pack]; decide)]
theorem ok_checked {m : Mg} (h : checkB m = true) : OkW m := by
  have hl := check_len h
  have hd : ∀ (L : List Rc), L.all rightB = true → ∀ x ∈ L, x.d.size ≤ maxLen := fun L hL x hx => by
    have := (right_use (List.all_eq_true.1 hL x hx)).2.2.2.1
    unfold maxLen; omega
  have hf := few_checked h
  refine ⟨hd _ hl.2.2.1, hd _ hl.2.2.2.1, hd _ hl.2.2.2.2, ?_, ?_, ?_, ?_⟩ <;> (unfold maxLen; have := hf.ql; have := hf.nl; have := hf.ul; have := hf.rl; omega)
theorem few_no : Few noM := ⟨by decide, by decide, by decide, by decide⟩
theorem rd_no (w : World) : RdM w ⟨none, 0, none, 0, none, 0, none, 0⟩ noM := ⟨RdC.nil _ _ _, RdC.nil _ _ _, RdC.nil _ _ _, RdC.nil _ _ _⟩
theorem fits_use {x : Mg} {limit : Int} (h : fitsB x limit = true) : ∃ b : Bs, packS x = (b, 0) ∧ (b.length : Int) ≤ limit ∧ checkB x = true := by
  unfold fitsB at h
  simp only [Bool.and_eq_true, decide_eq_true_eq] at h
  refine ⟨(packS x).1, by rw [← h.1], h.2, ?_⟩
  cases hc : checkB x with
  | true => rfl
  | false =>
    have : packS x = ([], 8) := by unfold packS; rw [if_pos hc]
    rw [this] at h; exact absurd h.1 (by decide)
set_option maxRecDepth 100000 in
set_option maxHeartbeats 2000000 in
theorem records_diff (a b : Option Addr) (n n' c d : Nat) (w : World) (hn : n ≠ n') (h1 : n ≤ maxLen) (h2 : n' ≤ maxLen) :
    Calls Try.prog 32 #[.slice a n c, .slice b n' d] w fun e w' => e = .returned (.bool false) ∧ w' = w := by
  unfold maxLen at h1 h2
  have hi : ¬ (n : Int) = (n' : Int) := by omega
  have hb : ((n : Int) == (n' : Int)) = false := by rw [beq_eq_false_iff_ne]; exact hi
  go_enter Try.func32, Try.ntmps32
  go_wp2_with fail
  go_ret
  exact ⟨rfl, rfl⟩
theorem rd_put {b0 : Nat} {w : World} {X : Nat} {q q0 : Pl} {m m0 m1 : Mg} (h : Own4 b0 w q m) (hX : MsgAt w X q0 m0) (q1 : Pl) : RdM (putM w X q1 m1) q m :=
  (h.keep (w1 := putM w X q1 m1) fun k c t hk ht => (putM_far q1 m1 (other_t hk hX (by rcases ht with rfl | rfl <;> decide))).trans hk).rd
set_option maxRecDepth 100000 in
set_option maxHeartbeats 8000000 in
theorem law (p : Pl) (m : Mg) (limit : Int) (w : World) (hr : RdM w p m) (hnil : NilM p m) (hqn : p.qa = none → m.qs.length = 0 ∧ p.qc = 0) (ho : OkW m) :
    Calls Try.prog 7 #[.agg #[.int .i64 m.id, .bool m.rs, .int .i64 m.op, .bool m.aa, .bool m.tc, .bool m.rd, .bool m.ra, .bool m.ad, .bool m.cd, .int .i64 m.rc, .slice p.qa m.qs.length p.qc, .slice p.na m.an.length p.nc, .slice p.ua m.au.length p.uc, .slice p.ra m.ar.length p.rc], .int .i64 limit] w fun e w' => e = .returned (.bool true) ∧ Below w.heap.size w w' := by
  have hb0 := (Below.refl w.heap.size w).alloc (Nat.le_refl _) (.cells #[.int .i64 m.id, .bool m.rs, .int .i64 m.op, .bool m.aa, .bool m.tc, .bool m.rd, .bool m.ra, .bool m.ad, .bool m.cd, .int .i64 m.rc, .slice p.qa m.qs.length p.qc, .slice p.na m.an.length p.nc, .slice p.ua m.au.length p.uc, .slice p.ra m.ar.length p.rc] 37)
  have hm0 : MsgAt (w.alloc (.cells #[.int .i64 m.id, .bool m.rs, .int .i64 m.op, .bool m.aa, .bool m.tc, .bool m.rd, .bool m.ra, .bool m.ad, .bool m.cd, .int .i64 m.rc, .slice p.qa m.qs.length p.qc, .slice p.na m.an.length p.nc, .slice p.ua m.au.length p.uc, .slice p.ra m.ar.length p.rc] 37)) w.heap.size p m := heap_alloc_new _ _
  obtain ⟨⟨x, xe⟩, hfx⟩ : ∃ r, fitS m limit = r := ⟨_, rfl⟩
  have CF := Lib.hid (fun (wx : World) (hB : Below w.heap.size w wx) => fit_lit p m limit wx (hr.below hB rfl) hnil hqn ho x xe hfx)
  have CPM := Lib.hid (fun (wx : World) (hB : Below w.heap.size w wx) => wpack_any p m wx (hr.below hB rfl) ho)
  have HR := Lib.hid hr; have HFX := Lib.hid hfx; have HO := Lib.hid ho
  obtain ⟨w0, hw0⟩ : ∃ w0, w.alloc (.cells #[.int .i64 m.id, .bool m.rs, .int .i64 m.op, .bool m.aa, .bool m.tc, .bool m.rd, .bool m.ra, .bool m.ad, .bool m.cd, .int .i64 m.rc, .slice p.qa m.qs.length p.qc, .slice p.na m.an.length p.nc, .slice p.ua m.au.length p.uc, .slice p.ra m.ar.length p.rc] 37) = w0 := ⟨_, rfl⟩
  have HW0 := Lib.hid hw0
  rw [hw0] at hb0 hm0
  have HB0 := Lib.hid hb0; have HM0 := Lib.hid hm0
  clear hr hnil hqn ho hfx hw0 hb0 hm0
  go_enter Try.func7, Try.ntmps7
  go_upto_region 1 with fail
  rw [HW0.out]
  trace "1"
  go_wp2_with fail
  refine (question_nil _).mono ?_
  rintro e w1 ⟨P, rfl, hq1, hqn1, hqa1, hB1⟩
  have C24 := Lib.hid (fit_q 24 P w1 hq1 hqn1 hqa1 qM 0 q24)
  have HM1 := Lib.hid (mcells HM0.out hB1); have HB1 := Lib.hid (HB0.out.trans (hB1.mono HB0.out.size))
  clear hq1 hqn1 hqa1 hB1
  go_wp2_with fail
  refine C24.out.mono ?_
  rintro e w2 ⟨q, rfl, ho2, hB2⟩
  have HM2 := Lib.hid (mcells HM1.out hB2); have HB2 := Lib.hid (HB1.out.trans (hB2.mono HB1.out.size)); have HO2 := Lib.hid ho2
  clear hB2 C24 HM1 HB1 ho2
  trace "2"
  go_upto_region 2 with fail
  have hB3 := (Below.refl w2.heap.size w2).alloc (Nat.le_refl _) (.cells #[.int .i64 qM.id, .bool qM.rs, .int .i64 qM.op, .bool qM.aa, .bool qM.tc, .bool qM.rd, .bool qM.ra, .bool qM.ad, .bool qM.cd, .int .i64 qM.rc, .slice q.qa qM.qs.length q.qc, .slice q.na qM.an.length q.nc, .slice q.ua qM.au.length q.uc, .slice q.ra qM.ar.length q.rc] 37)
  have hX3 : MsgAt (w2.alloc (.cells #[.int .i64 qM.id, .bool qM.rs, .int .i64 qM.op, .bool qM.aa, .bool qM.tc, .bool qM.rd, .bool qM.ra, .bool qM.ad, .bool qM.cd, .int .i64 qM.rc, .slice q.qa qM.qs.length q.qc, .slice q.na qM.an.length q.nc, .slice q.ua qM.au.length q.uc, .slice q.ra qM.ar.length q.rc] 37)) w2.heap.size q qM := heap_alloc_new _ _
  have ho3 := HO2.out.keep (w1 := w2.alloc (.cells #[.int .i64 qM.id, .bool qM.rs, .int .i64 qM.op, .bool qM.aa, .bool qM.tc, .bool qM.rd, .bool qM.ra, .bool qM.ad, .bool qM.cd, .int .i64 qM.rc, .slice q.qa qM.qs.length q.qc, .slice q.na qM.an.length q.nc, .slice q.ua qM.au.length q.uc, .slice q.ra qM.ar.length q.rc] 37)) (fun k c t hj _ => (heap_alloc_old _ _ (blk_lt hj)).trans hj)
  obtain ⟨X, hX⟩ : ∃ X, w2.heap.size = X := ⟨_, rfl⟩
  have HXW : Hid (w.heap.size < X) := Lib.hid (by rw [← hX]; exact HM2.out.box.lt)
  obtain ⟨w3, hw3⟩ : ∃ w3, w2.alloc (.cells #[.int .i64 qM.id, .bool qM.rs, .int .i64 qM.op, .bool qM.aa, .bool qM.tc, .bool qM.rd, .bool qM.ra, .bool qM.ad, .bool qM.cd, .int .i64 qM.rc, .slice q.qa qM.qs.length q.qc, .slice q.na qM.an.length q.nc, .slice q.ua qM.au.length q.uc, .slice q.ra qM.ar.length q.rc] 37) = w3 := ⟨_, rfl⟩
  rw [hw3] at hB3 hX3 ho3 ⊢
  rw [hX] at hX3
  try rw [hX]
  have HM3 := Lib.hid (mcells HM2.out hB3); have HB3 := Lib.hid (HB2.out.trans (hB3.mono HB2.out.size)); have HX3 := Lib.hid hX3; have HRQ := Lib.hid ho3.rd
  clear hB3 hX3 ho3 hw3 hX HM2 HB2 HO2
  refine heldG.regionG (fun w' => MsgAt w' X q qM ∧ Below w3.heap.size w3 w') (fun _ => false) (by kernel_rfl) ?_
  have hS0 : MsgAt w3.drew X q qM ∧ Below w3.heap.size w3 w3.drew := ⟨HX3.out, (Below.refl _ _).drew⟩
  refine heldG.takeG (i := 0) (v := .int .i64 0) rfl (by kernel_rfl) (by kernel_rfl) (by kernel_rfl) (fun _ _ _ h => h) (by kernel_rfl) rfl (Or.inl ⟨by rfl, ?_⟩) hS0 ?_
  · intro wz hSw
    have hz := hSw.1.box
    have k0 := hz.c0; have k1 := hz.c1; have k2 := hz.c2; have k3 := hz.c3; have k4 := hz.c4; have k5 := hz.c5; have k6 := hz.c6; have k7 := hz.c7; have k8 := hz.c8; have k9 := hz.c9; have k10 := hz.c10; have k11 := hz.c11; have k12 := hz.c12; have k13 := hz.c13
    go_simp
  try simp only [Act.put, List.setIfInBounds_toArray]
  refine heldG.takeG (i := 1) (v := .bool false) rfl (by kernel_rfl) (by kernel_rfl) (by kernel_rfl) (fun _ _ _ h => h) (by kernel_rfl) rfl (Or.inl ⟨by rfl, ?_⟩) hS0 ?_
  · intro wz hSw
    have hz := hSw.1.box
    have k0 := hz.c0; have k1 := hz.c1; have k2 := hz.c2; have k3 := hz.c3; have k4 := hz.c4; have k5 := hz.c5; have k6 := hz.c6; have k7 := hz.c7; have k8 := hz.c8; have k9 := hz.c9; have k10 := hz.c10; have k11 := hz.c11; have k12 := hz.c12; have k13 := hz.c13
    go_simp
  try simp only [Act.put]
  refine heldG.takeG (i := 2) (v := .bool false) rfl (by kernel_rfl) (by kernel_rfl) (by kernel_rfl) (fun _ _ _ h => h) (by kernel_rfl) rfl (Or.inl ⟨by rfl, ?_⟩) hS0 ?_
  · intro wz hSw
    have hz := hSw.1.box
    have k0 := hz.c0; have k1 := hz.c1; have k2 := hz.c2; have k3 := hz.c3; have k4 := hz.c4; have k5 := hz.c5; have k6 := hz.c6; have k7 := hz.c7; have k8 := hz.c8; have k9 := hz.c9; have k10 := hz.c10; have k11 := hz.c11; have k12 := hz.c12; have k13 := hz.c13
    go_simp
  try simp only [Act.put]
  refine heldG.takeG (i := 3) (v := .agg #[.int .i64 qM.id, .bool qM.rs, .int .i64 qM.op, .bool qM.aa, .bool qM.tc, .bool qM.rd, .bool qM.ra, .bool qM.ad, .bool qM.cd, .int .i64 qM.rc, .slice q.qa qM.qs.length q.qc, .slice q.na qM.an.length q.nc, .slice q.ua qM.au.length q.uc, .slice q.ra qM.ar.length q.rc]) rfl (by kernel_rfl) (by kernel_rfl) (by kernel_rfl) (fun _ _ _ h => h) (by kernel_rfl) rfl (Or.inl ⟨by rfl, ?_⟩) hS0 ?_
  · intro wz hSw
    have hz := hSw.1.box
    have k0 := hz.c0; have k1 := hz.c1; have k2 := hz.c2; have k3 := hz.c3; have k4 := hz.c4; have k5 := hz.c5; have k6 := hz.c6; have k7 := hz.c7; have k8 := hz.c8; have k9 := hz.c9; have k10 := hz.c10; have k11 := hz.c11; have k12 := hz.c12; have k13 := hz.c13
    go_simp
  try simp only [Act.put]
  refine heldG.readyG (rs := [4]) (by kernel_rfl) (by simp) ?_
  refine heldG.AllG.cons rfl (fun KK hKK => ?_) heldG.AllG.nil
  go_simp
  refine (question_nil _).mono ?_
  rintro e w4 ⟨P2, rfl, hq4, _, _, hB4⟩
  have HB4 := Lib.hid (Below.trans hS0.2 (hB4.mono hS0.2.size))
  have HX4 := Lib.hid (mcells hS0.1 hB4)
  have C4 := Lib.hid (messages_same q P2 qM w4 (HRQ.out.below HB4.out rfl) hq4 (few_checked qM_check))
  dsimp only
  refine hKK.out _ _ (fun _ => ⟨HX4.out, HB4.out⟩) ?_; clear hKK KK hq4 hB4
  try simp only [Act.put, List.setIfInBounds_toArray, List.set_cons_zero, List.set_cons_succ]
  refine heldG.readyG (rs := [5]) (by kernel_rfl) (by simp) ?_
  refine heldG.AllG.cons rfl (fun KK hKK => ?_) heldG.AllG.nil
  go_simp
  refine C4.out.mono ?_
  rintro e w5 ⟨rfl, hB5⟩
  have HX5 := Lib.hid (mcells HX4.out hB5)
  have HB5 := Lib.hid (HB4.out.trans (hB5.mono HB4.out.size))
  dsimp only
  refine hKK.out _ _ (fun _ => ⟨HX5.out, HB5.out⟩) ?_; clear hKK KK hB5 C4 HX4 HB4
  try simp only [Act.put, List.setIfInBounds_toArray, List.set_cons_zero, List.set_cons_succ]
  refine heldG.readyG (rs := [6]) (by kernel_rfl) (by simp) ?_
  refine heldG.AllG.cons rfl (fun KK hKK => ?_) heldG.AllG.nil
  go_simp
  refine hKK.out _ _ (fun _ => ⟨HX5.out, HB5.out⟩) ?_; clear hKK KK
  try simp only [Act.put, List.setIfInBounds_toArray, List.set_cons_zero, List.set_cons_succ]
  refine heldG.readyG (rs := [7]) (by kernel_rfl) (by simp) ?_
  refine heldG.AllG.cons rfl (fun KK hKK => ?_) heldG.AllG.nil
  go_simp
  refine hKK.out _ _ (fun _ => ⟨HX5.out, HB5.out⟩) ?_; clear hKK KK
  try simp only [Act.put, List.setIfInBounds_toArray, List.set_cons_zero, List.set_cons_succ]
  refine heldG.doneG (by kernel_rfl) ?_ _
  have HM6 := Lib.hid (mcells HM3.out HB5.out); have HB6 := Lib.hid (HB3.out.trans (HB5.out.mono HB3.out.size))
  clear hS0 HX3 HRQ HM3 HB3 HB5
  trace "4"
  go_wp2_with fail
  refine (question_nil _).mono ?_
  rintro e w6 ⟨P6, rfl, hq6, hqn6, hqa6, hB6⟩
  have C23 := Lib.hid (fit_q 23 P6 w6 hq6 hqn6 hqa6 noM 12 q23)
  have HX6 := Lib.hid (mcells HX5.out hB6); have HM7 := Lib.hid (mcells HM6.out hB6); have HB7 := Lib.hid (HB6.out.trans (hB6.mono HB6.out.size))
  clear hq6 hqn6 hqa6 hB6 HX5 HM6 HB6
  go_wp2_with fail
  refine C23.out.mono ?_
  rintro e w7 ⟨q7, rfl, _, hB7⟩
  have HX7 := Lib.hid (mcells HX6.out hB7); have HM8 := Lib.hid (mcells HM7.out hB7); have HB8 := Lib.hid (HB7.out.trans (hB7.mono HB7.out.size))
  clear hB7 C23 HX6 HM7 HB7
  have hx := HM8.out.box
  have b0 := hx.c0; have b1 := hx.c1; have b2 := hx.c2; have b3 := hx.c3; have b4 := hx.c4; have b5 := hx.c5; have b6 := hx.c6; have b7 := hx.c7; have b8 := hx.c8; have b9 := hx.c9; have b10 := hx.c10; have b11 := hx.c11; have b12 := hx.c12; have b13 := hx.c13
  clear hx
  trace "5"
  go_wp2_with fail
  refine (CF.out w7 HB8.out).mono ?_
  rintro e w8 ⟨q8, rfl, ho8, hB8⟩
  have HX8 := Lib.hid (mcells HX7.out hB8); have HM9 := Lib.hid (mcells HM8.out hB8); have HB9 := Lib.hid (HB8.out.trans (hB8.mono HB8.out.size)); have HO8 := Lib.hid ho8
  clear b0 b1 b2 b3 b4 b5 b6 b7 b8 b9 b10 b11 b12 b13
  have hx := HX8.out.box
  have c0 := hx.c0; have c1 := hx.c1; have c2 := hx.c2; have c3 := hx.c3; have c4 := hx.c4; have c5 := hx.c5; have c6 := hx.c6; have c7 := hx.c7; have c8 := hx.c8; have c9 := hx.c9; have c10 := hx.c10; have c11 := hx.c11; have c12 := hx.c12; have c13 := hx.c13
  have hf := fun j => udoor.msg_frozen HX8.out j
  have f0 := hf 0; have f1 := hf 1; have f2 := hf 2; have f3 := hf 3; have f4 := hf 4; have f5 := hf 5; have f6 := hf 6; have f7 := hf 7; have f8 := hf 8; have f9 := hf 9; have f10 := hf 10; have f11 := hf 11; have f12 := hf 12; have f13 := hf 13
  clear hB8 ho8 hx hf HX7 HM8 HB8 CF
  trace "7"
  go_upto_region 8 with fail
  change Code.wp _ _ _ _ (putM w8 X q8 x)
  have hX9 := putM_blk q8 x HX8.out (by rfl)
  have hXY : w.heap.size ≠ X := by have := HXW.out; omega
  have hM9 : MsgAt (putM w8 X q8 x) w.heap.size p m := (putM_far q8 x hXY).trans HM9.out
  have hB9 := putM_below q8 x HB9.out (show w.heap.size ≤ X by have := HXW.out; omega)
  have hq9 : RdM (putM w8 X q8 x) q8 x := rd_put HO8.out HX8.out q8
  obtain ⟨w9, hw9⟩ : ∃ w9, putM w8 X q8 x = w9 := ⟨_, rfl⟩
  rw [hw9] at hX9 hM9 hB9 hq9 ⊢
  have HX9 : Hid (MsgAt w9 X q8 x) := Lib.hid hX9
  have HM10 := Lib.hid hM9; have HB10 := Lib.hid hB9; have HQ9 := Lib.hid hq9
  clear c0 c1 c2 c3 c4 c5 c6 c7 c8 c9 c10 c11 c12 c13
  clear f0 f1 f2 f3 f4 f5 f6 f7 f8 f9 f10 f11 f12 f13
  clear hX9 hM9 hB9 hq9 hw9 HX8 HM9 HB9 HO8 hXY
  have hx := HX9.out.box
  by_cases hxe : xe = 0
  · subst hxe
    obtain ⟨hfx, hkept⟩ := fitS_ok HFX.out
    obtain ⟨bx, hpx, hlx, hcx⟩ := fits_use hfx
    have CPX := Lib.hid (wpack_any q8 x w9 HQ9.out (ok_checked hcx))
    simp only [hpx] at CPX
    have HFW := Lib.hid (few_checked hcx)
    have HK := Lib.hid hkept
    have c0 := hx.c0; have c1 := hx.c1; have c2 := hx.c2; have c3 := hx.c3; have c4 := hx.c4; have c5 := hx.c5; have c6 := hx.c6; have c7 := hx.c7; have c8 := hx.c8; have c9 := hx.c9; have c10 := hx.c10; have c11 := hx.c11; have c12 := hx.c12; have c13 := hx.c13
    clear hx hkept hpx hfx hcx
    trace "8"
    go_wp2_with fail
    refine CPX.out.mono ?_
    rintro e w10 ⟨v10, rfl, ho10, hB10⟩
    obtain ⟨a10, c10', rfl⟩ := buf.own_slice1 ho10
    have HX10 := Lib.hid (mcells HX9.out hB10); have HM11 := Lib.hid (mcells HM10.out hB10); have HB11 := Lib.hid (HB10.out.trans (hB10.mono HB10.out.size)); have HQ10 := Lib.hid (HQ9.out.below hB10 rfl)
    clear c0 c1 c2 c3 c4 c5 c6 c7 c8 c9 c10 c11 c12 c13
    obtain ⟨n, hn⟩ : ∃ n, bx.length = n := ⟨_, rfl⟩
    rw [hn] at hlx ⊢
    have hlx' : ¬ limit < (n : Int) := by omega
    have hnm : n ≤ maxLen := by
      rcases ho10.2 with ⟨_, h2⟩ | ⟨_, _, _, _, _, _, h4, h5, _⟩
      · rw [hn] at h2; unfold maxLen; omega
      · rw [hn] at h4; omega
    unfold maxLen at hnm
    have hqs := HK.out.qs
    have c10 := HX10.out.box.c10
    have d10 := HM11.out.box.c10
    rw [hqs] at c10
    have CQ := Lib.hid (questions_same q8.qa p.qa m.qs.length q8.qc p.qc m.qs w10 rfl (by have h := HQ10.out.q; rw [hqs] at h; exact h) (HR.out.below HB11.out rfl).q (by rw [← hqs]; exact HFW.out.ql))
    clear hB10 ho10 CPX hn hqs HX9 HM10 HB10 HQ9
    trace "11"
    go_wp2_with fail
    refine CQ.out.mono ?_
    rintro e w11 ⟨rfl, hB11⟩
    have HX11 := Lib.hid (mcells HX10.out hB11); have HM12 := Lib.hid (mcells HM11.out hB11); have HB12 := Lib.hid (HB11.out.trans (hB11.mono HB11.out.size)); have HQ11 := Lib.hid (HQ10.out.below hB11 rfl)
    clear hB11 CQ c10 d10 HX10 HM11 HB11 HQ10
    have hy := HM12.out.box
    have b0 := hy.c0; have b1 := hy.c1; have b2 := hy.c2; have b3 := hy.c3; have b4 := hy.c4; have b5 := hy.c5; have b6 := hy.c6; have b7 := hy.c7; have b8 := hy.c8; have b9 := hy.c9; have b10 := hy.c10; have b11 := hy.c11; have b12 := hy.c12; have b13 := hy.c13
    clear hy
    obtain ⟨⟨bm, cm⟩, hpm⟩ : ∃ r, packS m = r := ⟨_, rfl⟩
    have hlm := pack_len m
    simp only [hpm] at CPM hlm
    have HPM := Lib.hid hpm
    clear hpm
    trace "13"
    go_wp2_with fail
    refine (CPM.out w11 HB12.out).mono ?_
    rintro e w12 ⟨v12, rfl, ho12, hB12⟩
    obtain ⟨a12, c12', rfl⟩ := buf.own_slice1 ho12
    have HX12 := Lib.hid (mcells HX11.out hB12); have HM13 := Lib.hid (mcells HM12.out hB12); have HB13 := Lib.hid (HB12.out.trans (hB12.mono HB12.out.size)); have HQ12 := Lib.hid (HQ11.out.below hB12 rfl)
    clear b0 b1 b2 b3 b4 b5 b6 b7 b8 b9 b10 b11 b12 b13
    obtain ⟨k, hk⟩ : ∃ k, bm.length = k := ⟨_, rfl⟩
    have HKL := Lib.hid hk
    rw [hk] at hlm ⊢
    clear hB12 ho12 hk HX11 HM12 HB12 HQ11 CPM
    have hx := HX12.out.box; have hy := HM13.out.box
    by_cases hcm : cm = 0
    · subst hcm
      by_cases hle : (k : Int) ≤ limit
      · have hfm : fitsB m limit = true := by
          unfold fitsB; rw [HPM.out]
          simp only [decide_true, Bool.true_and, decide_eq_true_eq, HKL.out]; exact hle
        obtain ⟨_, _, _, hcmm⟩ := fits_use hfm
        have hxm : x = m := by
          have h1 := (fitS_same hfm hcmm).symm.trans HFX.out
          exact ((Prod.mk.inj h1).1).symm
        subst hxm
        have CM := Lib.hid (messages_same q8 p x w12 HQ12.out (HR.out.below HB13.out rfl) HFW.out)
        have c0 := hx.c0; have c1 := hx.c1; have c2 := hx.c2; have c3 := hx.c3; have c4 := hx.c4; have c5 := hx.c5; have c6 := hx.c6; have c7 := hx.c7; have c8 := hx.c8; have c9 := hx.c9; have c10 := hx.c10; have c11 := hx.c11; have c12 := hx.c12; have c13 := hx.c13
        have b0 := hy.c0; have b1 := hy.c1; have b2 := hy.c2; have b3 := hy.c3; have b4 := hy.c4; have b5 := hy.c5; have b6 := hy.c6; have b7 := hy.c7; have b8 := hy.c8; have b9 := hy.c9; have b10 := hy.c10; have b11 := hy.c11; have b12 := hy.c12; have b13 := hy.c13
        clear hx hy hfm hcmm
        trace "15"
        go_wp2_with fail
        refine CM.out.mono ?_
        rintro e w14 ⟨rfl, hB14⟩
        have HB14 := Lib.hid (HB13.out.trans (hB14.mono HB13.out.size))
        clear hB14
        clear c0 c1 c2 c3 c4 c5 c6 c7 c8 c9 c10 c11 c12 c13
        clear b0 b1 b2 b3 b4 b5 b6 b7 b8 b9 b10 b11 b12 b13
        go_wp2_with fail
        go_ret
        exact ⟨rfl, HB14.out⟩
      · rcases HK.out.or with ⟨han, hau, htc⟩ | ⟨han, hau, htc⟩
        · have CA := Lib.hid (fun (wx : World) (hB : Below w12.heap.size w12 wx) => records_same q8.na p.na m.an.length q8.nc p.nc m.an wx rfl (by have h := (HQ12.out.below hB rfl).n; rw [han] at h; exact h) ((HR.out.below HB13.out rfl).below hB rfl).n (by rw [← han]; exact HFW.out.nl))
          have CB := Lib.hid (fun (wx : World) (hB : Below w12.heap.size w12 wx) => records_same q8.ua p.ua m.au.length q8.uc p.uc m.au wx rfl (by have h := (HQ12.out.below hB rfl).u; rw [hau] at h; exact h) ((HR.out.below HB13.out rfl).below hB rfl).u (by rw [← hau]; exact HFW.out.ul))
          have c11 := hx.c11; have b11 := hy.c11
          rw [han] at c11
          clear hx hy
          trace "16"
          go_wp2_with fail
          refine (CA.out w12 (Below.refl _ _)).mono ?_
          rintro e w13 ⟨rfl, hB13⟩
          have c12 := (mcells HX12.out hB13).box.c12; have b12 := (mcells HM13.out hB13).box.c12
          rw [hau] at c12
          have HB14 := Lib.hid hB13
          clear hB13 c11 b11
          go_wp2_with fail
          refine (CB.out w13 HB14.out).mono ?_
          rintro e w14 ⟨rfl, hB14⟩
          have hB15 := HB14.out.trans (hB14.mono HB14.out.size)
          have c4 := (mcells HX12.out hB15).box.c4; have b4 := (mcells HM13.out hB15).box.c4
          rw [htc] at c4
          have HB15 := Lib.hid (HB13.out.trans (hB15.mono HB13.out.size))
          clear hB14 hB15 c12 b12
          obtain ⟨T, hT⟩ : ∃ T, m.tc = T := ⟨_, rfl⟩
          rw [hT] at c4 b4
          cases T
          · go_wp2_with fail
            go_ret
            exact ⟨rfl, HB15.out⟩
          · go_wp2_with fail
            go_ret
            exact ⟨rfl, HB15.out⟩
        · have c4 := hx.c4
          rw [htc] at c4
          have c11 := hx.c11; have c12 := hx.c12; have b11 := hy.c11; have b12 := hy.c12; have b4 := hy.c4
          rw [han] at c11; rw [hau] at c12
          clear hx hy
          by_cases hla : m.an.length = 0
          · have han0 : m.an = [] := List.eq_nil_of_length_eq_zero hla
            have CA := Lib.hid (records_same q8.na p.na 0 q8.nc p.nc [] w12 rfl (RdC.nil _ _ _) (RdC.nil _ _ _) (by decide))
            rw [han0] at b11
            trace "16b"
            go_wp2_with fail
            refine CA.out.mono ?_
            rintro e w13 ⟨rfl, hB13⟩
            have hX := mcells HX12.out hB13; have hM := mcells HM13.out hB13
            have e4 := hX.box.c4; have e11 := hX.box.c11; have e12 := hX.box.c12; have d12 := hM.box.c12; have d4 := hM.box.c4
            rw [htc] at e4; rw [han] at e11; rw [hau] at e12
            have HX13 := Lib.hid hX; have HM14 := Lib.hid hM
            have HB14 := Lib.hid (HB13.out.trans (hB13.mono HB13.out.size))
            clear hX hM hB13 c4 c11 c12 b11 b12 b4 CA
            by_cases hlu : m.au.length = 0
            · have hau0 : m.au = [] := List.eq_nil_of_length_eq_zero hlu
              have CB := Lib.hid (records_same q8.ua p.ua 0 q8.uc p.uc [] w13 rfl (RdC.nil _ _ _) (RdC.nil _ _ _) (by decide))
              rw [hau0] at d12
              go_wp2_with fail
              refine CB.out.mono ?_
              rintro e w14 ⟨rfl, hB14⟩
              have c4 := (mcells HX13.out hB14).box.c4; have b4 := (mcells HM14.out hB14).box.c4
              rw [htc] at c4
              have HB15 := Lib.hid (HB14.out.trans (hB14.mono HB14.out.size))
              clear hB14 e4 e11 e12 d12 d4
              obtain ⟨T, hT⟩ : ∃ T, m.tc = T := ⟨_, rfl⟩
              rw [hT] at b4
              cases T
              · go_wp2_with fail
                go_ret
                exact ⟨rfl, HB15.out⟩
              · go_wp2_with fail
                go_ret
                exact ⟨rfl, HB15.out⟩
            · have CB := Lib.hid (records_diff q8.ua p.ua 0 m.au.length q8.uc p.uc w13 (fun h => hlu h.symm) (Nat.zero_le _) HO.out.ul)
              go_wp2_with fail
              refine CB.out.mono ?_
              rintro e w14 ⟨rfl, rfl⟩
              go_wp2_with fail
              go_ret
              exact ⟨rfl, HB14.out⟩
          · have CA := Lib.hid (records_diff q8.na p.na 0 m.an.length q8.nc p.nc w12 (fun h => hla h.symm) (Nat.zero_le _) HO.out.nl)
            trace "16c"
            go_wp2_with fail
            refine CA.out.mono ?_
            rintro e w13 ⟨rfl, rfl⟩
            go_wp2_with fail
            go_ret
            exact ⟨rfl, HB13.out⟩
    · have hcmb : (cm == 0) = false := by rw [beq_eq_false_iff_ne]; exact hcm
      rcases HK.out.or with ⟨han, hau, htc⟩ | ⟨han, hau, htc⟩
      · have CA := Lib.hid (fun (wx : World) (hB : Below w12.heap.size w12 wx) => records_same q8.na p.na m.an.length q8.nc p.nc m.an wx rfl (by have h := (HQ12.out.below hB rfl).n; rw [han] at h; exact h) ((HR.out.below HB13.out rfl).below hB rfl).n (by rw [← han]; exact HFW.out.nl))
        have CB := Lib.hid (fun (wx : World) (hB : Below w12.heap.size w12 wx) => records_same q8.ua p.ua m.au.length q8.uc p.uc m.au wx rfl (by have h := (HQ12.out.below hB rfl).u; rw [hau] at h; exact h) ((HR.out.below HB13.out rfl).below hB rfl).u (by rw [← hau]; exact HFW.out.ul))
        have c11 := hx.c11; have b11 := hy.c11
        rw [han] at c11
        clear hx hy
        trace "16"
        go_wp2_with fail
        refine (CA.out w12 (Below.refl _ _)).mono ?_
        rintro e w13 ⟨rfl, hB13⟩
        have c12 := (mcells HX12.out hB13).box.c12; have b12 := (mcells HM13.out hB13).box.c12
        rw [hau] at c12
        have HB14 := Lib.hid hB13
        clear hB13 c11 b11
        go_wp2_with fail
        refine (CB.out w13 HB14.out).mono ?_
        rintro e w14 ⟨rfl, hB14⟩
        have hB15 := HB14.out.trans (hB14.mono HB14.out.size)
        have c4 := (mcells HX12.out hB15).box.c4; have b4 := (mcells HM13.out hB15).box.c4
        rw [htc] at c4
        have HB15 := Lib.hid (HB13.out.trans (hB15.mono HB13.out.size))
        clear hB14 hB15 c12 b12
        obtain ⟨T, hT⟩ : ∃ T, m.tc = T := ⟨_, rfl⟩
        rw [hT] at c4 b4
        cases T
        · go_wp2_with fail
          go_ret
          exact ⟨rfl, HB15.out⟩
        · go_wp2_with fail
          go_ret
          exact ⟨rfl, HB15.out⟩
      · have c4 := hx.c4
        rw [htc] at c4
        have c11 := hx.c11; have c12 := hx.c12; have b11 := hy.c11; have b12 := hy.c12; have b4 := hy.c4
        rw [han] at c11; rw [hau] at c12
        clear hx hy
        by_cases hla : m.an.length = 0
        · have han0 : m.an = [] := List.eq_nil_of_length_eq_zero hla
          have CA := Lib.hid (records_same q8.na p.na 0 q8.nc p.nc [] w12 rfl (RdC.nil _ _ _) (RdC.nil _ _ _) (by decide))
          rw [han0] at b11
          trace "16b"
          go_wp2_with fail
          refine CA.out.mono ?_
          rintro e w13 ⟨rfl, hB13⟩
          have hX := mcells HX12.out hB13; have hM := mcells HM13.out hB13
          have e4 := hX.box.c4; have e11 := hX.box.c11; have e12 := hX.box.c12; have d12 := hM.box.c12; have d4 := hM.box.c4
          rw [htc] at e4; rw [han] at e11; rw [hau] at e12
          have HX13 := Lib.hid hX; have HM14 := Lib.hid hM
          have HB14 := Lib.hid (HB13.out.trans (hB13.mono HB13.out.size))
          clear hX hM hB13 c4 c11 c12 b11 b12 b4 CA
          by_cases hlu : m.au.length = 0
          · have hau0 : m.au = [] := List.eq_nil_of_length_eq_zero hlu
            have CB := Lib.hid (records_same q8.ua p.ua 0 q8.uc p.uc [] w13 rfl (RdC.nil _ _ _) (RdC.nil _ _ _) (by decide))
            rw [hau0] at d12
            go_wp2_with fail
            refine CB.out.mono ?_
            rintro e w14 ⟨rfl, hB14⟩
            have c4 := (mcells HX13.out hB14).box.c4; have b4 := (mcells HM14.out hB14).box.c4
            rw [htc] at c4
            have HB15 := Lib.hid (HB14.out.trans (hB14.mono HB14.out.size))
            clear hB14 e4 e11 e12 d12 d4
            obtain ⟨T, hT⟩ : ∃ T, m.tc = T := ⟨_, rfl⟩
            rw [hT] at b4
            cases T
            · go_wp2_with fail
              go_ret
              exact ⟨rfl, HB15.out⟩
            · go_wp2_with fail
              go_ret
              exact ⟨rfl, HB15.out⟩
          · have CB := Lib.hid (records_diff q8.ua p.ua 0 m.au.length q8.uc p.uc w13 (fun h => hlu h.symm) (Nat.zero_le _) HO.out.ul)
            go_wp2_with fail
            refine CB.out.mono ?_
            rintro e w14 ⟨rfl, rfl⟩
            go_wp2_with fail
            go_ret
            exact ⟨rfl, HB14.out⟩
        · have CA := Lib.hid (records_diff q8.na p.na 0 m.an.length q8.nc p.nc w12 (fun h => hla h.symm) (Nat.zero_le _) HO.out.nl)
          trace "16c"
          go_wp2_with fail
          refine CA.out.mono ?_
          rintro e w13 ⟨rfl, rfl⟩
          go_wp2_with fail
          go_ret
          exact ⟨rfl, HB13.out⟩
  · have hxb : (xe == 0) = false := by rw [beq_eq_false_iff_ne]; exact hxe
    have hxn := fitS_no HFX.out hxe
    subst hxn
    have CM := Lib.hid (messages_same q8 ⟨none, 0, none, 0, none, 0, none, 0⟩ noM w9 HQ9.out (rd_no w9) few_no)
    have c0 : w9.cell? ⟨X, 0, none⟩ = some (.int .i64 0) := hx.c0
    have c1 : w9.cell? ⟨X, 1, none⟩ = some (.bool false) := hx.c1
    have c2 : w9.cell? ⟨X, 2, none⟩ = some (.int .i64 0) := hx.c2
    have c3 : w9.cell? ⟨X, 3, none⟩ = some (.bool false) := hx.c3
    have c4 : w9.cell? ⟨X, 4, none⟩ = some (.bool false) := hx.c4
    have c5 : w9.cell? ⟨X, 5, none⟩ = some (.bool false) := hx.c5
    have c6 : w9.cell? ⟨X, 6, none⟩ = some (.bool false) := hx.c6
    have c7 : w9.cell? ⟨X, 7, none⟩ = some (.bool false) := hx.c7
    have c8 : w9.cell? ⟨X, 8, none⟩ = some (.bool false) := hx.c8
    have c9 : w9.cell? ⟨X, 9, none⟩ = some (.int .i64 0) := hx.c9
    have c10 : w9.cell? ⟨X, 10, none⟩ = some (.slice q8.qa 0 q8.qc) := hx.c10
    have c11 : w9.cell? ⟨X, 11, none⟩ = some (.slice q8.na 0 q8.nc) := hx.c11
    have c12 : w9.cell? ⟨X, 12, none⟩ = some (.slice q8.ua 0 q8.uc) := hx.c12
    have c13 : w9.cell? ⟨X, 13, none⟩ = some (.slice q8.ra 0 q8.rc) := hx.c13
    clear hx
    trace "9"
    go_wp2_with fail
    refine CM.out.mono ?_
    rintro e w10 ⟨rfl, hB10⟩
    have HB11 := Lib.hid (HB10.out.trans (hB10.mono HB10.out.size))
    clear hB10
    clear c0 c1 c2 c3 c4 c5 c6 c7 c8 c9 c10 c11 c12 c13
    go_wp2_with fail
    go_ret
    exact ⟨rfl, HB11.out⟩
theorem lawI (p : Pl) (m : Mg) (limit : Int) (w : World) {k : Nat} (hm : msgArg.InM w p m k) (hw : Lit.wf (.int .i64 limit) = true) :
    Calls Try.prog 7 #[.agg (cellsM p m), .int .i64 limit] w fun e w' => e = .returned (.bool true) ∧ Below w.heap.size w w' := law p m limit w hm.rd hm.nil hm.qnil hm.w
end Go.Proofs.Ytabhiangjomaeaa.wireFW
