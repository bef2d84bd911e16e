/- gazetteerref2.FitMessage: walk. -/
import Derived.Test.YtnamkladeaohoaaGreatK29
import Derived.Test.YtnamkladeaohoaaGreatK22
import Derived.Test.YtnamkladeaohoaaGreatK27
import Derived.Laws.CopyOwn
import Derived.Laws.Tables
namespace Go.Proofs.YtnamkladeaohoaaGreat.rfit
open Go.RowKit Go.Proofs.YtnamkladeaohoaaGreat.kit Go.Proofs.YtnamkladeaohoaaGreat.timed Go.Proofs.YtnamkladeaohoaaGreat.nspec Go.Proofs.YtnamkladeaohoaaGreat.wireP Go.Proofs.YtnamkladeaohoaaGreat.wireM Go.Proofs.YtnamkladeaohoaaGreat.wireC Go.Proofs.YtnamkladeaohoaaGreat.packP Go.Proofs.YtnamkladeaohoaaGreat.unpP Go.Proofs.YtnamkladeaohoaaGreat.wpack Go.Proofs.YtnamkladeaohoaaGreat.rows Go.Proofs.YtnamkladeaohoaaGreat.putM Go.Proofs.YtnamkladeaohoaaGreat.ust Go.Proofs.YtnamkladeaohoaaGreat.uend Go.Proofs.YtnamkladeaohoaaGreat.unpack Go.Proofs.YtnamkladeaohoaaGreat.fitP Go.Proofs.YtnamkladeaohoaaGreat.fitR Go.Proofs.YtnamkladeaohoaaGreat.fitM Go.Proofs.YtnamkladeaohoaaGreat.rpack Go.Proofs.YtnamkladeaohoaaGreat.rwithout
set_option linter.unusedVariables false

theorem wo_all (L : List Rc) : ∀ (j k : Nat) (acc : List Rc), (∀ x ∈ (woK L j k acc).1, x ∈ L ∨ x ∈ acc) ∧ (woK L j k acc).1.length ≤ j + acc.length ∧ k ≤ (woK L j k acc).2 + j
  | 0, k, acc => ⟨fun x hx => .inr hx, by simp [woK], by simp [woK]⟩
  | j + 1, k, acc => by
    unfold woK
    split
    · rename_i x hx
      split
      · obtain ⟨h1, h2, h3⟩ := wo_all L j (k - 1) acc
        exact ⟨h1, by omega, by omega⟩
      · obtain ⟨h1, h2, h3⟩ := wo_all L j k (x :: acc)
        refine ⟨fun y hy => ?_, by rw [List.length_cons] at h2; omega, by omega⟩
        rcases h1 y hy with h | h
        · exact .inl h
        · rcases List.mem_cons.1 h with e | e
          · subst e; exact .inl (List.mem_of_getElem? hx)
          · exact .inr e
    · exact ⟨fun x hx => .inr hx, by simp, by simp⟩
theorem without_in (L : List Rc) (k : Nat) : (∀ x ∈ (withoutS L k).1, x ∈ L) ∧ (withoutS L k).1.length ≤ L.length ∧ ((withoutS L k).2 = true → k ≤ L.length) := by
  obtain ⟨h1, h2, h3⟩ := wo_all L L.length k []
  refine ⟨fun x hx => ?_, by unfold withoutS; simpa using h2, fun h => ?_⟩
  · rcases h1 x hx with h | h
    · exact h
    · cases h
  · unfold withoutS at h
    simp only [beq_iff_eq] at h
    omega
theorem ok_ar {m : Mg} (h : OkM m) {L : List Rc} (hL : ∀ x ∈ L, x ∈ m.ar) (hl : L.length ≤ m.ar.length) : OkM { m with ar := L } :=
  ⟨h.q, h.n, h.u, fun x hx => h.r x (hL x hx), h.ql, h.nl, h.ul, Nat.le_trans hl h.rl⟩
theorem ok_last {m : Mg} (h : OkM m) {L : List Rc} (hL : ∀ x ∈ L, x ∈ m.ar) (hl : L.length ≤ m.ar.length) : OkM { m with an := [], au := [], tc := true, ar := L } :=
  ⟨h.q, fun x hx => (by cases hx), fun x hx => (by cases hx), fun x hx => h.r x (hL x hx), h.ql, Nat.zero_le _, Nat.zero_le _, Nat.le_trans hl h.rl⟩
/-- what is kept for an answer to be read -/
def Kp (b0 : Nat) (w' wx : World) : Prop := ∀ (k : Nat) (c : Array Value), b0 ≤ k → w'.heap[k]? = some (.cells c 43 (0, 0)) → wx.heap[k]? = some (.cells c 43 (0, 0))
theorem own_kp {w w1 : World} {b0 size : Nat} {v : Value} {n : Nat} {xs : List Value} (h : w.ownsRow b0 43 size v n xs) (hk : Kp b0 w w1) : w1.ownsRow b0 43 size v n xs := by
  refine ⟨h.1, ?_⟩
  rcases h.2 with h1 | ⟨g, cap, cur, h1, h2, h3, h4⟩
  · exact .inl h1
  · exact .inr ⟨g, cap, cur, h1, h2, hk g cur h2 h3, h4⟩
def RFitE (b0 : Nat) (w0 : World) (p : Pl) (m : Mg) (r : Mg × Int) (e : Ending) (w' : World) : Prop :=
  ∃ pl : Pl, e = .returned (.tuple #[.agg (cellsM pl r.1), .int .i64 r.2]) ∧ (∀ wx : World, RdM wx p m → Kp b0 w' wx → RdM wx pl r.1) ∧ Below b0 w0 w'
theorem rres_read {w : World} {B : Nat} {p : Pl} {m : Mg} {y : Value} (tmps : Array Value) (h4 : tmps[4]?.getD undef = .pointer (some ⟨B, 0, none⟩)) (h5 : tmps[5]?.getD undef = y) (hM : MsgAt w B p m) :
    (results Tryz.f11 tmps).run Tryz.prog w = .ok (.tuple #[.agg (cellsM p m), y]) w := by
  have b := hM.box
  simp [results, Tryz.results11, h4, h5, asAddr, go_sem, b.c0, b.c1, b.c2, b.c3, b.c4, b.c5, b.c6, b.c7, b.c8, b.c9, b.c10, b.c11, b.c12, b.c13, cellsM]
theorem rfin {b0 B : Nat} {w0 w1 : World} {P0 : Pl} {M0 : Mg} {p : Pl} {m : Mg} {r : Mg × Int} {y : Value} (tmps : Array Value) (h4 : tmps[4]?.getD undef = .pointer (some ⟨B, 0, none⟩)) (h5 : tmps[5]?.getD undef = y) (hM : MsgAt w1 B p m) (hr : r.1 = m) (hy : y = .int .i64 r.2) (ho : ∀ wx : World, RdM wx P0 M0 → Kp b0 w1 wx → RdM wx p m) (hB : Below b0 w0 w1) :
    bodyPost Tryz.prog Tryz.f11 (RFitE b0 w0 P0 M0 r) .ret { tmps := tmps, defers := [] } w1 := by
  subst hr; subst hy
  exact bodyPost_ret (v := .tuple #[.agg (cellsM p r.1), .int .i64 r.2]) (rres_read tmps h4 h5 hM) rfl ⟨p, rfl, ho, hB⟩
def boxesR (w : World) (p : Pl) (m : Mg) : World := (w.alloc (.cells (cellsM p m) 25)).alloc (.cells (cellsM noP noM) 25)
/-- FitMessage's two boxes -/
structure FR (b0 : Nat) (w0 wr : World) (p : Pl) (m : Mg) : Prop where
  msg : MsgAt wr b0 p m
  res : MsgAt wr (b0 + 1) noP noM
  bel : Below b0 w0 wr
theorem FR.below {b0 : Nat} {w0 wr w1 : World} {p : Pl} {m : Mg} (h : FR b0 w0 wr p m) (hB : Below wr.heap.size wr w1) : FR b0 w0 w1 p m :=
  ⟨(hB.block _ (blk_lt h.msg)).trans h.msg, (hB.block _ (blk_lt h.res)).trans h.res, h.bel.trans (hB.mono (by have := blk_lt h.msg; omega))⟩
theorem boxesR_at (w : World) (p : Pl) (m : Mg) : FR w.heap.size w (boxesR w p m) p m := by
  have s1 : ∀ (w : World) o, (w.alloc o).heap.size = w.heap.size + 1 := fun w o => by simp
  refine ⟨?_, ?_, ((Below.refl w.heap.size w).alloc (Nat.le_refl _) _).alloc (by rw [s1]; omega) _⟩
  · exact (heap_alloc_old _ _ (by rw [s1]; omega)).trans (heap_alloc_new _ _)
  · have h := heap_alloc_new (w.alloc (.cells (cellsM p m) 25)) (.cells (cellsM noP noM) 25)
    rw [s1] at h
    exact h
theorem box_ar (w : World) (p : Pl) (m : Mg) (ao : Option Addr) (co nl : Nat) (l : List Rc) (h : l.length = nl) : MsgAt (w.alloc (.cells #[.int .i64 m.id, .bool m.rs, .int .i64 m.op, .bool m.aa, .bool m.tc, .bool m.rd, .bool m.ra, .bool m.ad, .bool m.cd, .int .i64 m.rc, .slice p.qa m.qs.length p.qc, .slice p.na m.an.length p.nc, .slice p.ua m.au.length p.uc, .slice ao nl co] 25)) w.heap.size { p with ra := ao, rc := co } { m with ar := l } := by
  subst h; exact heap_alloc_new _ _
def lastM (m : Mg) (l : List Rc) : Mg := { m with an := [], au := [], tc := true, ar := l }
def lastP (p : Pl) (a : Option Addr) (c : Nat) : Pl := { p with na := none, nc := 0, ua := none, uc := 0, ra := a, rc := c }
theorem box_last (w : World) (p : Pl) (m : Mg) : MsgAt (w.alloc (.cells #[.int .i64 m.id, .bool m.rs, .int .i64 m.op, .bool m.aa, .bool true, .bool m.rd, .bool m.ra, .bool m.ad, .bool m.cd, .int .i64 m.rc, .slice p.qa m.qs.length p.qc, .slice none 0 0, .slice none 0 0, .slice none 0 0] 25)) w.heap.size (lastP p none 0) (lastM m []) := heap_alloc_new _ _
theorem infoMsg : (Tryz.prog.info? 25).map (fun i => i.size) = some 14 := by kernel_rfl
theorem row_box {w w1 : World} {b B : Nat} {p : Pl} {m : Mg} {v : Value} {n : Nat} {xs : List Value} (h : w.ownsRow b 43 5 v n xs) (hM : MsgAt w B p m) (hgr : w.grownBy w1 v.ownBlock) : MsgAt w1 B p m :=
  (hgr.block _ (blk_lt hM) (row_neG h hM (fun c' f e => by injection e with _ e2 _; exact absurd e2 (by decide)))).trans hM
theorem box_push {w : World} {X : Nat} {p : Pl} {m : Mg} {a a' : Option Addr} {c c' : Nat} {l l' : List Rc} (h : MsgAt w X (lastP p a c) (lastM m l)) : MsgAt (w.setCell ⟨X, 13, none⟩ (.slice a' l'.length c')) X (lastP p a' c') (lastM m l') := by
  have s := heap_setCell_same _ _ 13 _ _ (.slice a' l'.length c') h
  refine s.trans ?_
  simp [cellsM, lastM, lastP]
theorem fits_pack {x : Mg} {b : Bs} {e limit : Int} (h : packS x = (b, e)) : fitsB x limit = (decide (e = 0) && decide ((b.length : Int) ≤ limit)) := by
  unfold fitsB; rw [h]
def flt (l : List Rc) : List Rc := l.filter fun x => decide (x.t = 41)
theorem flt_yes {l : List Rc} {k : Nat} {x : Rc} (h : l[k]? = some x) (ht : x.t = 41) : flt (l.take (k + 1)) = flt (l.take k) ++ [x] := by
  unfold flt
  rw [List.take_add_one, h, List.filter_append]
  simp [ht]
theorem flt_no {l : List Rc} {k : Nat} {x : Rc} (h : l[k]? = some x) (ht : x.t ≠ 41) : flt (l.take (k + 1)) = flt (l.take k) := by
  unfold flt
  rw [List.take_add_one, h, List.filter_append]
  simp [ht]
theorem flt_len (l : List Rc) (k : Nat) : (flt (l.take k)).length ≤ l.length := Nat.le_trans (List.length_filter_le _ _) (by rw [List.length_take]; omega)
theorem rd_ar {w : World} {b : Nat} {p : Pl} {m : Mg} {a : Option Addr} {c : Nat} {l : List Rc} (h : RdM w p m) (ho : w.ownsRow b 43 5 (.slice a l.length c) l.length (l.flatMap Rc.cells)) : RdM w { p with ra := a, rc := c } { m with ar := l } ∧ (a = none → l.length = 0 ∧ c = 0) := by
  obtain ⟨_, _, e1, _, _, hn, h1⟩ := rdc_own Rc.cells 5 (fun _ => rfl) rfl ho
  cases e1
  exact ⟨⟨h.q, h.n, h.u, h1⟩, hn⟩
theorem rd_last {w : World} {b : Nat} {p : Pl} {m : Mg} {a : Option Addr} {c : Nat} {l : List Rc} (h : RdM w p m) (ho : w.ownsRow b 43 5 (.slice a l.length c) l.length (l.flatMap Rc.cells)) : RdM w (lastP p a c) (lastM m l) ∧ (a = none → l.length = 0 ∧ c = 0) := by
  obtain ⟨_, _, e1, _, _, hn, h1⟩ := rdc_own Rc.cells 5 (fun _ => rfl) rfl ho
  cases e1
  exact ⟨⟨h.q, RdC.nil _ _ _, RdC.nil _ _ _, h1⟩, hn⟩
theorem own_setRow {w : World} {b B n : Nat} {p0 : Pl} {m0 : Mg} {v : Value} {xs : List Value} {c' : Array Value} (h : w.ownsRow b 43 5 v n xs) (hX : MsgAt w B p0 m0) : (w.setRow B c').ownsRow b 43 5 v n xs :=
  own_keptG h fun k c hk => (setRow_other _ _ _ _ (other_t hk hX (by decide))).trans hk
set_option maxRecDepth 100000 in
set_option maxHeartbeats 8000000 in
theorem rfit_any (p : Pl) (m : Mg) (limit : Int) (w : World) (hr : RdM w p m) (hnil : NilM p m) (ho : OkM m) :
    Calls Tryz.prog 11 #[.agg #[.int .i64 m.id, .bool m.rs, .int .i64 m.op, .bool m.aa, .bool m.tc, .bool m.rd, .bool m.ra, .bool m.ad, .bool m.cd, .int .i64 m.rc, .slice p.qa m.qs.length p.qc, .slice p.na m.an.length p.nc, .slice p.ua m.au.length p.uc, .slice p.ra m.ar.length p.rc], .int .i64 limit] w (RFitE w.heap.size w p m (refS m limit)) := by
  obtain ⟨R, hR⟩ : ∃ R, refS m limit = R := ⟨_, rfl⟩
  rw [hR]
  have hst := boxesR_at w p m
  have HR := Lib.hid hR; have HO := Lib.hid ho; have HNI := Lib.hid hnil; have HRD := Lib.hid hr
  obtain ⟨b0, hbb⟩ : ∃ b0, w.heap.size = b0 := ⟨_, rfl⟩
  have HBB := Lib.hid hbb
  obtain ⟨W, hW⟩ : ∃ W, boxesR w p m = W := ⟨_, rfl⟩
  rw [hW, hbb] at hst
  rw [hbb]
  have CK := Lib.hid (wireD.rcheck_any p m W (hr.below hst.bel hbb.symm) ho)
  have HW := Lib.hid hW; have HST := Lib.hid hst
  have hx := hst.msg.box
  have c0 := hx.c0; have c1 := hx.c1; have c2 := hx.c2; have c3 := hx.c3; have c4 := hx.c4; have c5 := hx.c5; have c6 := hx.c6; have c7 := hx.c7; have c8 := hx.c8; have c9 := hx.c9; have c10 := hx.c10; have c11 := hx.c11; have c12 := hx.c12; have c13 := hx.c13
  clear hx hR hst hW hr hnil ho
  go_enter Tryz.func11, Tryz.ntmps11
  go_upto_region 1 with fail
  change Code.wp _ _ _ _ (boxesR w p m)
  rw [HW.out]
  trace "1"
  go_wp2_with fail
  refine CK.out.mono ?_
  rintro e w1 ⟨rfl, hB1⟩
  clear c0 c1 c2 c3 c4 c5 c6 c7 c8 c9 c10 c11 c12 c13
  have HS1 := Lib.hid (HST.out.below hB1)
  clear hB1 HST CK HW
  by_cases hc : checkB m = false
  · have HRR : Hid (R = (noM, 8)) := Lib.hid (by rw [← HR.out]; unfold refS; rw [if_pos hc])
    have hz : MsgAt w1 (b0 + 1) noP noM := HS1.out.res
    have hx := hz.box
    have c0 := hx.c0; have c1 := hx.c1; have c2 := hx.c2; have c3 := hx.c3; have c4 := hx.c4; have c5 := hx.c5; have c6 := hx.c6; have c7 := hx.c7; have c8 := hx.c8; have c9 := hx.c9; have c10 := hx.c10; have c11 := hx.c11; have c12 := hx.c12; have c13 := hx.c13
    have hff := fun j => udoor.msg_frozen hz j
    have f0 := hff 0; have f1 := hff 1; have f2 := hff 2; have f3 := hff 3; have f4 := hff 4; have f5 := hff 5; have f6 := hff 6; have f7 := hff 7; have f8 := hff 8; have f9 := hff 9; have f10 := hff 10; have f11 := hff 11; have f12 := hff 12; have f13 := hff 13
    rw [hc]
    clear hx hff
    trace "2"
    go_wp2_with fail
    exact rfin _ rfl rfl (putM_blk noP noM hz (by rfl)) (by rw [HRR.out]) (by rw [HRR.out]; rfl) (fun _ _ _ => ⟨RdC.nil _ _ _, RdC.nil _ _ _, RdC.nil _ _ _, RdC.nil _ _ _⟩) (putM_below noP noM HS1.out.bel (by omega))
  · have hc1 : checkB m = true := by simpa using hc
    have HR2 : Hid (refU m limit (m.ar.length + 2) 0 = R) := Lib.hid (by rw [← HR.out]; unfold refS; rw [if_neg hc])
    rw [hc1]
    clear HR hc hc1
    obtain ⟨nr, hnr⟩ : ∃ nr, m.ar.length = nr := ⟨_, rfl⟩
    have hnb : nr ≤ 1099511627776 := by rw [← hnr]; exact HO.out.rl
    have HNR := Lib.hid hnr
    rw [hnr] at HR2
    clear hnr
    trace "3"
    go_wp2_with fail
    go_loopg [6] (nr + 2) (fun gas nv wr => ∃ n : Nat, nv = .int .i64 (n : Int) ∧ n + gas = nr + 2 ∧ n ≤ nr + 1 ∧ Hid (FR b0 w wr p m) ∧ Hid (refU m limit gas n = R))
    case atStart => exact ⟨0, rfl, by omega, by omega, HS1, HR2⟩
    case round =>
      clear HS1 HR2
      obtain ⟨n, rfl, hng, hn1, HS, HR⟩ := hrel
      have HWB : Hid (b0 ≤ wr.heap.size) := Lib.hid (by have := blk_lt HS.out.msg; omega)
      obtain ⟨gk', hgk'⟩ : ∃ g, g = gk := ⟨_, rfl⟩
      rw [← hgk'] at hng HR
      have HNG := Lib.hid hng
      have hx13 := HS.out.msg.box.c13
      rw [HNR.out] at hx13
      obtain ⟨⟨l, ok⟩, hl⟩ : ∃ r, withoutS m.ar n = r := ⟨_, rfl⟩
      have CW := Lib.hid (without_any p.ra nr p.rc n m.ar wr HNR.out.symm (HRD.out.below HS.out.bel HBB.out.symm).r hnb (by omega))
      have hli := without_in m.ar n
      rw [hl] at CW hli
      have HLI := Lib.hid hli; have HL := Lib.hid hl
      clear hli hl hng
      dsimp only at CW
      trace "4"
      go_wp2_with fail
      refine CW.out.mono ?_
      rintro e w2 ⟨ao, co, rfl, ho1, hB1⟩
      have HS2 := Lib.hid (HS.out.below hB1); have HOW := Lib.hid ho1
      obtain ⟨nl, hnl⟩ : ∃ nl, l.length = nl := ⟨_, rfl⟩
      have HNL := Lib.hid hnl
      have hnlb : nl ≤ 1099511627776 := by rw [← hnl]; have := HLI.out.2.1; rw [HNR.out] at this; omega
      rw [hnl]
      clear ho1 hB1 hnl CW HS hx13
      cases ok with
      | true =>
        have hx := HS2.out.msg.box
        have c0 := hx.c0; have c1 := hx.c1; have c2 := hx.c2; have c3 := hx.c3; have c4 := hx.c4; have c5 := hx.c5; have c6 := hx.c6; have c7 := hx.c7; have c8 := hx.c8; have c9 := hx.c9; have c10 := hx.c10; have c11 := hx.c11; have c12 := hx.c12; have c13 := hx.c13
        clear hx
        trace "5"
        go_upto_region 9 with fail
        have hM3 := box_ar w2 p m ao co nl l HNL.out
        have hB3 := (Below.refl w2.heap.size w2).alloc (Nat.le_refl _) (.cells #[.int .i64 m.id, .bool m.rs, .int .i64 m.op, .bool m.aa, .bool m.tc, .bool m.rd, .bool m.ra, .bool m.ad, .bool m.cd, .int .i64 m.rc, .slice p.qa m.qs.length p.qc, .slice p.na m.an.length p.nc, .slice p.ua m.au.length p.uc, .slice ao nl co] 25)
        obtain ⟨X, hX⟩ : ∃ X, w2.heap.size = X := ⟨_, rfl⟩
        obtain ⟨w3, hw3⟩ : ∃ w3, w2.alloc (.cells #[.int .i64 m.id, .bool m.rs, .int .i64 m.op, .bool m.aa, .bool m.tc, .bool m.rd, .bool m.ra, .bool m.ad, .bool m.cd, .int .i64 m.rc, .slice p.qa m.qs.length p.qc, .slice p.na m.an.length p.nc, .slice p.ua m.au.length p.uc, .slice ao nl co] 25) = w3 := ⟨_, rfl⟩
        rw [hw3] at hM3 hB3 ⊢
        rw [hX] at hM3
        try rw [hX]
        have hXb : b0 + 1 < X := by rw [← hX]; exact blk_lt HS2.out.res
        have HS3 := Lib.hid (HS2.out.below hB3); have HM3 := Lib.hid hM3
        have ho3 := own_below HOW.out hB3
        have hrd := rd_ar (HRD.out.below HS3.out.bel HBB.out.symm) ho3
        have HOW3 := Lib.hid ho3
        obtain ⟨⟨pb, pe⟩, hpk⟩ : ∃ r, packS { m with ar := l } = r := ⟨_, rfl⟩
        have CP := Lib.hid (rpack_any { p with ra := ao, rc := co } { m with ar := l } w3 hrd.1 (ok_ar HO.out HLI.out.1 HLI.out.2.1) ⟨HNI.out.n, HNI.out.u, hrd.2⟩)
        rw [hpk] at CP
        have HPK := Lib.hid (fits_pack (limit := limit) hpk)
        obtain ⟨nb, hnb'⟩ : ∃ nb, pb.length = nb := ⟨_, rfl⟩
        rw [hnb'] at CP HPK
        dsimp only at CP
        rw [HNL.out] at CP
        have hx := hM3.box
        clear c0 c1 c2 c3 c4 c5 c6 c7 c8 c9 c10 c11 c12 c13
        have c0 := hx.c0; have c1 := hx.c1; have c2 := hx.c2; have c3 := hx.c3; have c4 := hx.c4; have c5 := hx.c5; have c6 := hx.c6; have c7 := hx.c7; have c8 := hx.c8; have c9 := hx.c9; have c10 := hx.c10; have c11 := hx.c11; have c12 := hx.c12; have c13 := hx.c13
        dsimp only at c0 c1 c2 c3 c4 c5 c6 c7 c8 c9 c10 c11 c12 c13
        rw [HNL.out] at c13
        clear hx hM3 hB3 hw3 hX ho3 hrd hpk hnb' HS2 HOW
        trace "6"
        go_wp2_with fail
        refine CP.out.mono ?_
        rintro e w4 ⟨v, rfl, hov, hB4⟩
        obtain ⟨av, cv, rfl⟩ := own_sl hov
        have hnbm := own_len hov
        unfold maxLen at hnbm
        have HS4 := Lib.hid (HS3.out.below hB4); have HM4 : Hid (MsgAt w4 X { p with ra := ao, rc := co } { m with ar := l }) := Lib.hid ((hB4.block _ (blk_lt HM3.out)).trans HM3.out); have HOW4 := Lib.hid (own_below HOW3.out hB4)
        clear c0 c1 c2 c3 c4 c5 c6 c7 c8 c9 c10 c11 c12 c13
        clear hov hB4 CP HS3 HM3 HOW3
        have HRU : Hid ((if fitsB { m with ar := l } limit = true then ({ m with ar := l }, 0) else refU m limit (gk' - 1) (n + 1)) = R) := Lib.hid (by
          rw [← HR.out]
          obtain ⟨f, hf⟩ : ∃ f, gk' = f + 1 := ⟨gk' - 1, by have := HNG.out; omega⟩
          rw [hf, Nat.add_sub_cancel]
          conv => rhs; unfold refU
          rw [HL.out]; simp only [if_true])
        cases hft : fitsB { m with ar := l } limit with
        | true =>
          have HRR : Hid (R = ({ m with ar := l }, 0)) := Lib.hid (by rw [← HRU.out, if_pos hft])
          have hpf := HPK.out.symm.trans hft
          simp only [Bool.and_eq_true, decide_eq_true_eq] at hpf
          obtain ⟨hpe, hlim⟩ := hpf
          subst hpe
          have elim : decide ((nb : Int) ≤ limit) = true := decide_eq_true hlim
          have hM := HM4.out; have hZ : MsgAt w4 (b0 + 1) noP noM := HS4.out.res
          clear HRU hft HR
          trace "7"
          go_wp2_with (first | (refine wpList_load_row rfl 25 _ rfl X rfl 25 _ _ _ hM Tryz.underlying25 rfl (by rw [infoMsg]; rfl) ?_) | (refine wpList_store_row rfl 25 _ _ rfl (b0 + 1) _ rfl rfl 25 _ hZ (by rw [infoMsg]; rfl) (by rfl) (cells_all _ _) ?_))
          have hM2 : MsgAt (w4.setRow (b0 + 1) (cellsM { p with ra := ao, rc := co } { m with ar := l })) (b0 + 1) { p with ra := ao, rc := co } { m with ar := l } := setRow_heap _ _ _ _ _ _ HS4.out.res
          have hB2 := below_setRow HS4.out.bel (show b0 ≤ b0 + 1 by omega) (cellsM { p with ra := ao, rc := co } { m with ar := l })
          have ho2 := own_setRow (c' := cellsM { p with ra := ao, rc := co } { m with ar := l }) HOW4.out HS4.out.res
          have hO2 := fun (wx : World) (hm : RdM wx p m) (hk : Kp b0 _ wx) => (rd_ar hm (own_kp ho2 (fun k c h1 h2 => hk k c (Nat.le_trans HWB.out h1) h2))).1
          exact rfin _ rfl rfl hM2 (by rw [HRR.out]) (by rw [HRR.out]; rfl) hO2 hB2
        | false =>
          have HRN : Hid (refU m limit (gk' - 1) (n + 1) = R) := Lib.hid (by rw [← HRU.out, if_neg (by rw [hft]; decide)])
          have hn2 : n ≤ nr := by have h := HLI.out.2.2 (by simp); rw [HNR.out] at h; exact h
          have hpf := HPK.out.symm.trans hft
          clear HRU hft HR
          by_cases hpe : pe = 0
          · subst hpe
            have hlim : ¬ (nb : Int) ≤ limit := by intro h; rw [decide_eq_true h] at hpf; cases hpf
            have elim : decide ((nb : Int) ≤ limit) = false := decide_eq_false hlim
            trace "8"
            go_wp2_with fail
            have hng := HNG.out
            go_roundg (gk' - 1)
            case rel => exact ⟨n + 1, by go_num, by omega, by omega, HS4, HRN⟩
            case measure => omega
          · have hpb : (pe == 0) = false := by rw [beq_eq_false_iff_ne]; exact hpe
            trace "9"
            go_wp2_with fail
            have hng := HNG.out
            go_roundg (gk' - 1)
            case rel => exact ⟨n + 1, by go_num, by omega, by omega, HS4, HRN⟩
            case measure => omega
      | false =>
        have HRL : Hid (lastR m limit = R) := Lib.hid (by
          rw [← HR.out]
          obtain ⟨f, hf⟩ : ∃ f, gk' = f + 1 := ⟨gk' - 1, by have := HNG.out; omega⟩
          rw [hf]
          conv => rhs; unfold refU
          rw [HL.out]; rfl)
        have hx := HS2.out.msg.box
        have c0 := hx.c0; have c1 := hx.c1; have c2 := hx.c2; have c3 := hx.c3; have c4 := hx.c4; have c5 := hx.c5; have c6 := hx.c6; have c7 := hx.c7; have c8 := hx.c8; have c9 := hx.c9; have c10 := hx.c10; have c11 := hx.c11; have c12 := hx.c12; have c13 := hx.c13
        clear hx HR HL HLI HOW HNL hnlb
        trace "10"
        go_upto_region 15 with fail
        have hM3 := box_last w2 p m
        have hB3 := (Below.refl w2.heap.size w2).alloc (Nat.le_refl _) (.cells #[.int .i64 m.id, .bool m.rs, .int .i64 m.op, .bool m.aa, .bool true, .bool m.rd, .bool m.ra, .bool m.ad, .bool m.cd, .int .i64 m.rc, .slice p.qa m.qs.length p.qc, .slice none 0 0, .slice none 0 0, .slice none 0 0] 25)
        obtain ⟨X, hX⟩ : ∃ X, w2.heap.size = X := ⟨_, rfl⟩
        obtain ⟨w3, hw3⟩ : ∃ w3, w2.alloc (.cells #[.int .i64 m.id, .bool m.rs, .int .i64 m.op, .bool m.aa, .bool true, .bool m.rd, .bool m.ra, .bool m.ad, .bool m.cd, .int .i64 m.rc, .slice p.qa m.qs.length p.qc, .slice none 0 0, .slice none 0 0, .slice none 0 0] 25) = w3 := ⟨_, rfl⟩
        rw [hw3] at hM3 hB3 ⊢
        rw [hX] at hM3
        try rw [hX]
        have hXb : b0 + 1 < X := by rw [← hX]; exact blk_lt HS2.out.res
        have HS3 := Lib.hid (HS2.out.below hB3); have HM3 := Lib.hid hM3
        have hx13 := HS3.out.msg.box.c13
        rw [HNR.out] at hx13
        obtain ⟨i0, hif, hz0, hz1, hz2⟩ := info_parts infoRec
        clear c0 c1 c2 c3 c4 c5 c6 c7 c8 c9 c10 c11 c12 c13
        clear hM3 hB3 hw3 hX HS2
        trace "11"
        go_wp2_with fail
        clear hx13
        go_loopg [57] (nr + 1) (fun gas kv wr => ∃ (k : Nat) (av : Option Addr) (cv : Nat), kv = .int .i64 (k : Int) ∧ k ≤ nr ∧ k + gas = nr + 1 ∧ Hid (FR b0 w wr p m) ∧ Hid (MsgAt wr X (lastP p av cv) (lastM m (flt (m.ar.take k)))) ∧ Hid (wr.ownsRow b0 43 5 (.slice av (flt (m.ar.take k)).length cv) (flt (m.ar.take k)).length ((flt (m.ar.take k)).flatMap Rc.cells)))
        case atStart => exact ⟨0, none, 0, rfl, by omega, by omega, HS3, HM3, Lib.hid (World.ownsRow_nil _ _ _ _)⟩
        case round =>
          clear HS3 HM3
          obtain ⟨k, av, cv, rfl, hk, hkg, HS, HM, HOW⟩ := hrel
          have HKG := Lib.hid hkg; clear hkg
          obtain ⟨nl, hnl⟩ : ∃ nl, (flt (m.ar.take k)).length = nl := ⟨_, rfl⟩
          have HNL := Lib.hid hnl
          have hnlb : nl ≤ 1099511627776 := by rw [← hnl]; exact Nat.le_trans (flt_len _ _) (by rw [HNR.out]; exact hnb)
          rw [hnl] at HOW
          clear hnl
          have hbz : b0 ≤ wr.heap.size := by have := blk_lt HS.out.msg; omega
          by_cases hlt : k < nr
          · obtain ⟨x, hx⟩ : ∃ x, m.ar[k]? = some x := ⟨_, List.getElem?_eq_getElem (by rw [HNR.out]; exact hlt)⟩
            obtain ⟨g1, o1, ha1, hg1, hcl1⟩ := at_r (HRD.out.below HS.out.bel HBB.out.symm).r hx
            obtain ⟨x0, x1, x2, x3, x4⟩ := hcl1
            have zk : (0 : Int) ≤ (k : Int) := by omega
            have zl : (k : Int) < (nr : Int) := by omega
            have hB5 := (Below.refl wr.heap.size wr).alloc (Nat.le_refl _) (.cells #[.string x.o, .int .i64 x.t, .int .i64 x.c, .int .i64 x.l, .string x.d] 43)
            have hy := heap_alloc_new wr (.cells #[.string x.o, .int .i64 x.t, .int .i64 x.c, .int .i64 x.l, .string x.d] 43)
            obtain ⟨Y, hY⟩ : ∃ Y, wr.heap.size = Y := ⟨_, rfl⟩
            obtain ⟨w5, hw5⟩ : ∃ w5, wr.alloc (.cells #[.string x.o, .int .i64 x.t, .int .i64 x.c, .int .i64 x.l, .string x.d] 43) = w5 := ⟨_, rfl⟩
            rw [hw5] at hB5 hy
            rw [hY] at hy
            have HW5 := Lib.hid hw5; have HY := Lib.hid hY
            have HS5 := Lib.hid (HS.out.below hB5); have HM5 : Hid (MsgAt w5 X (lastP p av cv) (lastM m (flt (m.ar.take k)))) := Lib.hid ((hB5.block _ (blk_lt HM.out)).trans HM.out); have HO5 := Lib.hid (own_below HOW.out hB5)
            have y0 : w5.cell? ⟨Y, 0, none⟩ = some (.string x.o) := by simp only [World.cell?, hy]; rfl
            have y1 : w5.cell? ⟨Y, 1, none⟩ = some (.int .i64 x.t) := by simp only [World.cell?, hy]; rfl
            have y2 : w5.cell? ⟨Y, 2, none⟩ = some (.int .i64 x.c) := by simp only [World.cell?, hy]; rfl
            have y3 : w5.cell? ⟨Y, 3, none⟩ = some (.int .i64 x.l) := by simp only [World.cell?, hy]; rfl
            have y4 : w5.cell? ⟨Y, 4, none⟩ = some (.string x.d) := by simp only [World.cell?, hy]; rfl
            have hbz5 : b0 ≤ w5.heap.size := Nat.le_trans hbz hB5.size
            rw [ha1]
            have HA1 := Lib.hid ha1
            clear ha1
            clear hB5 hy hw5 hY hlt HS HM HOW hbz
            trace "12"
            go_upto_region 18 with fail
            rw [HW5.out]
            try rw [HY.out]
            clear x0 x1 x2 x3 x4
            by_cases ht : x.t = 41
            · have HFL := Lib.hid (flt_yes hx ht)
              obtain ⟨xo, xt, xc, xl, xd⟩ := x
              dsimp only at ht y0 y1 y2 y3 y4 HW5 HFL
              subst ht
              have c13 := HM5.out.box.c13
              have c13' : w5.cell? ⟨X, 13, none⟩ = some (.slice av nl cv) := by rw [← HNL.out]; exact c13
              clear hx c13
              trace "13"
              go_wp2_with (at_builtin; refine wpList_append_lies _ rfl _ _ 23 rfl b0 43 i0 _ 5 56 Tryz.underlying23 hif hz0 hz1 hz2 rfl (by decide) (.slice av nl cv) nl ((flt (m.ar.take k)).flatMap Rc.cells) rfl (HO5.out.alloc _) ⟨w5.heap.size, 0, none⟩ 1 1 (⟨xo, 41, xc, xl, xd⟩ : Rc).cells rfl rfl ?d1 ?d2 (by decide) ?d3 ?d4 ?d5 _ rfl ?_)
              case d1 => exact World.news_of_block (heap_alloc_new _ _)
              case d2 => exact rec_one _
              case d3 => unfold maxLen; omega
              case d4 => omega
              case d5 => simp; omega
              intro g3 cp w7 hown7 hgr hat hlt7
              have hBa := (Below.refl w5.heap.size w5).alloc (Nat.le_refl _) (.cells #[.string xo, .int .i64 41, .int .i64 xc, .int .i64 xl, .string xd] 43)
              have hM6 : MsgAt (w5.alloc (.cells #[.string xo, .int .i64 41, .int .i64 xc, .int .i64 xl, .string xd] 43)) X (lastP p av cv) (lastM m (flt (m.ar.take k))) := (hBa.block _ (blk_lt HM5.out)).trans HM5.out
              have hS6 := HS5.out.below hBa
              have hM7 := row_box (HO5.out.alloc _) hM6 hgr
              have hS7 : FR b0 w w7 p m := ⟨row_box (HO5.out.alloc _) hS6.msg hgr, row_box (HO5.out.alloc _) hS6.res hgr, below_append' hS6.bel (by simp; omega) (HO5.out.alloc _) hgr⟩
              have hfl : (flt (m.ar.take (k + 1))).length = nl + 1 := by rw [HFL.out, List.length_append, HNL.out]; rfl
              have hO7 : w7.ownsRow b0 43 5 (.slice (some ⟨g3, 0, none⟩) (nl + 1) cp) (nl + 1) ((flt (m.ar.take (k + 1))).flatMap Rc.cells) := by
                rw [HFL.out, List.flatMap_append]; simpa using hown7
              have d13 := hM7.box.c13
              have d13' : w7.cell? ⟨X, 13, none⟩ = some (.slice av nl cv) := by rw [← HNL.out]; exact d13
              have f13 := udoor.msg_frozen hM7 13
              have hM8 := box_push (a' := some ⟨g3, 0, none⟩) (c' := cp) (l' := flt (m.ar.take (k + 1))) hM7
              rw [hfl] at hM8
              have hS8 : FR b0 w (w7.setCell ⟨X, 13, none⟩ (.slice (some ⟨g3, 0, none⟩) (nl + 1) cp)) p m := ⟨(far_one (by omega)).trans hS7.msg, (far_one (by omega)).trans hS7.res, below_one hS7.bel (by omega)⟩
              have hO8 : (w7.setCell ⟨X, 13, none⟩ (.slice (some ⟨g3, 0, none⟩) (nl + 1) cp)).ownsRow b0 43 5 (.slice (some ⟨g3, 0, none⟩) (flt (m.ar.take (k + 1))).length cp) (flt (m.ar.take (k + 1))).length ((flt (m.ar.take (k + 1))).flatMap Rc.cells) := by
                rw [hfl]
                exact own_keptG hO7 fun j c hj => (far_one (other_t hj hM7 (by decide))).trans hj
              have HM8 := Lib.hid hM8; have HS8 := Lib.hid hS8; have HO8 := Lib.hid hO8
              clear hown7 hgr hat hlt7 hBa hM6 hS6 hM7 hS7 hfl hO7 d13 hM8 hS8 hO8 c13'
              trace "14"
              go_upto_region 20 with fail
              obtain ⟨w8, hw8⟩ : ∃ w8, w7.setCell ⟨X, 13, none⟩ (.slice (some ⟨g3, 0, none⟩) (nl + 1) cp) = w8 := ⟨_, rfl⟩
              rw [hw8] at HM8 HS8 HO8 ⊢
              clear hw8 d13' f13 y0 y1 y2 y3 y4
              go_wp2_with fail
              have hkg := HKG.out
              rw [← HA1.out]
              go_roundg (gk - 1)
              case rel => exact ⟨k + 1, some ⟨g3, 0, none⟩, cp, by go_num, by omega, by omega, HS8, HM8, HO8⟩
              case measure => omega
            · have HFL := Lib.hid (flt_no hx ht)
              have hte : (x.t == 41) = false := by rw [beq_eq_false_iff_ne]; exact ht
              have HM6 : Hid (MsgAt w5 X (lastP p av cv) (lastM m (flt (m.ar.take (k + 1))))) := Lib.hid (by rw [HFL.out]; exact HM5.out)
              have HO6 : Hid (w5.ownsRow b0 43 5 (.slice av (flt (m.ar.take (k + 1))).length cv) (flt (m.ar.take (k + 1))).length ((flt (m.ar.take (k + 1))).flatMap Rc.cells)) := Lib.hid (by rw [HFL.out, HNL.out]; exact HO5.out)
              clear hx
              trace "15"
              go_wp2_with fail
              have hkg := HKG.out
              rw [← HA1.out]
              go_roundg (gk - 1)
              case rel => exact ⟨k + 1, av, cv, by go_num, by omega, by omega, HS5, HM6, HO6⟩
              case measure => omega
          · have hke : k = nr := by omega
            subst hke
            have hzk : ¬ (k : Int) < (k : Int) := by omega
            have htk : m.ar.take k = m.ar := List.take_of_length_le (by rw [HNR.out]; exact Nat.le_refl _)
            rw [htk] at HM HOW HNL
            have how := HOW.out
            rw [← HNL.out] at how
            have hrd := rd_last (HRD.out.below HS.out.bel HBB.out.symm) how
            have hfm : ∀ x ∈ flt m.ar, x ∈ m.ar := fun x hx => (List.mem_filter.1 hx).1
            obtain ⟨⟨pb, pe⟩, hpk⟩ : ∃ r, packS (lastM m (flt m.ar)) = r := ⟨_, rfl⟩
            have CP := Lib.hid (rpack_any (lastP p av cv) (lastM m (flt m.ar)) wr hrd.1 (ok_last HO.out hfm (List.length_filter_le _ _)) ⟨fun _ => ⟨rfl, rfl⟩, fun _ => ⟨rfl, rfl⟩, hrd.2⟩)
            rw [hpk] at CP
            have HPK := Lib.hid (fits_pack (limit := limit) hpk)
            obtain ⟨nb, hnb'⟩ : ∃ nb, pb.length = nb := ⟨_, rfl⟩
            rw [hnb'] at CP HPK
            have hl3 : (lastM m (flt m.ar)).ar.length = nl := HNL.out
            rw [hl3] at CP
            dsimp only [lastM, lastP, List.length_nil] at CP
            have hx := HM.out.box
            have c0 := hx.c0; have c1 := hx.c1; have c2 := hx.c2; have c3 := hx.c3; have c4 := hx.c4; have c5 := hx.c5; have c6 := hx.c6; have c7 := hx.c7; have c8 := hx.c8; have c9 := hx.c9; have c10 := hx.c10; have c11 := hx.c11; have c12 := hx.c12; have c13 := hx.c13
            rw [hl3] at c13
            dsimp only [lastM, lastP, List.length_nil] at c0 c1 c2 c3 c4 c5 c6 c7 c8 c9 c10 c11 c12 c13
            clear hx hpk hnb' how hrd htk
            trace "16"
            go_wp2_with fail
            refine CP.out.mono ?_
            rintro e w4 ⟨v, rfl, hov, hB4⟩
            obtain ⟨avx, cvx, rfl⟩ := own_sl hov
            have hnbm := own_len hov
            unfold maxLen at hnbm
            have HS4 := Lib.hid (HS.out.below hB4); have HM4 : Hid (MsgAt w4 X (lastP p av cv) (lastM m (flt m.ar))) := Lib.hid ((hB4.block _ (blk_lt HM.out)).trans HM.out); have HOW4 := Lib.hid (own_below HOW.out hB4)
            clear c0 c1 c2 c3 c4 c5 c6 c7 c8 c9 c10 c11 c12 c13
            clear hov hB4 CP HS HM HOW
            have HRU : Hid ((if fitsB (lastM m (flt m.ar)) limit = true then (lastM m (flt m.ar), 0) else (noM, 12)) = R) := Lib.hid HRL.out
            cases hft : fitsB (lastM m (flt m.ar)) limit with
            | true =>
              have HRR : Hid (R = (lastM m (flt m.ar), 0)) := Lib.hid (by rw [← HRU.out, if_pos hft])
              have hpf := HPK.out.symm.trans hft
              simp only [Bool.and_eq_true, decide_eq_true_eq] at hpf
              obtain ⟨hpe, hlim⟩ := hpf
              subst hpe
              have elim : decide ((nb : Int) ≤ limit) = true := decide_eq_true hlim
              have hM := HM4.out; have hZ : MsgAt w4 (b0 + 1) noP noM := HS4.out.res
              clear HRU hft
              trace "17"
              go_wp2_with (first | (refine wpList_load_row rfl 25 _ rfl X rfl 25 _ _ _ hM Tryz.underlying25 rfl (by rw [infoMsg]; rfl) ?_) | (refine wpList_store_row rfl 25 _ _ rfl (b0 + 1) _ rfl rfl 25 _ hZ (by rw [infoMsg]; rfl) (by rfl) (cells_all _ _) ?_))
              have hM2 := setRow_heap w4 (b0 + 1) _ (cellsM (lastP p av cv) (lastM m (flt m.ar))) _ _ HS4.out.res
              have hB2 := below_setRow HS4.out.bel (show b0 ≤ b0 + 1 by omega) (cellsM (lastP p av cv) (lastM m (flt m.ar)))
              have ho2 := own_setRow (c' := cellsM (lastP p av cv) (lastM m (flt m.ar))) HOW4.out HS4.out.res
              rw [← HNL.out] at ho2
              have hO2 := fun (wx : World) (hm : RdM wx p m) (hk : Kp b0 _ wx) => (rd_last hm (own_kp ho2 hk)).1
              exact rfin _ rfl rfl hM2 (by rw [HRR.out]) (by rw [HRR.out]; rfl) hO2 hB2
            | false =>
              have HRR : Hid (R = (noM, 12)) := Lib.hid (by rw [← HRU.out, if_neg (by rw [hft]; decide)])
              have hpf := HPK.out.symm.trans hft
              have hz : MsgAt w4 (b0 + 1) noP noM := HS4.out.res
              have hx := hz.box
              have c0 := hx.c0; have c1 := hx.c1; have c2 := hx.c2; have c3 := hx.c3; have c4 := hx.c4; have c5 := hx.c5; have c6 := hx.c6; have c7 := hx.c7; have c8 := hx.c8; have c9 := hx.c9; have c10 := hx.c10; have c11 := hx.c11; have c12 := hx.c12; have c13 := hx.c13
              have hff := fun j => udoor.msg_frozen hz j
              have f0 := hff 0; have f1 := hff 1; have f2 := hff 2; have f3 := hff 3; have f4 := hff 4; have f5 := hff 5; have f6 := hff 6; have f7 := hff 7; have f8 := hff 8; have f9 := hff 9; have f10 := hff 10; have f11 := hff 11; have f12 := hff 12; have f13 := hff 13
              clear hx hff HRU hft
              by_cases hpe : pe = 0
              · subst hpe
                have hlim : ¬ (nb : Int) ≤ limit := by intro h; rw [decide_eq_true h] at hpf; cases hpf
                have elim : decide ((nb : Int) ≤ limit) = false := decide_eq_false hlim
                trace "18"
                go_wp2_with fail
                exact rfin _ rfl rfl (putM_blk noP noM hz (by rfl)) (by rw [HRR.out]) (by rw [HRR.out]; rfl) (fun _ _ _ => ⟨RdC.nil _ _ _, RdC.nil _ _ _, RdC.nil _ _ _, RdC.nil _ _ _⟩) (putM_below noP noM HS4.out.bel (by omega))
              · have hpb : (pe == 0) = false := by rw [beq_eq_false_iff_ne]; exact hpe
                trace "19"
                go_wp2_with fail
                exact rfin _ rfl rfl (putM_blk noP noM hz (by rfl)) (by rw [HRR.out]) (by rw [HRR.out]; rfl) (fun _ _ _ => ⟨RdC.nil _ _ _, RdC.nil _ _ _, RdC.nil _ _ _, RdC.nil _ _ _⟩) (putM_below noP noM HS4.out.bel (by omega))
end Go.Proofs.YtnamkladeaohoaaGreat.rfit
