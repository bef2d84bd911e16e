/- wire.Fit: walk. gazetteerlaw2.question, plainSize: walks. -/
import Derived.Test.YtabhiangjomaeaaW33
import Derived.Test.YtabhiangjomaeaaW34
import Derived.Test.YtabhiangjomaeaaU14
import Derived.Test.YtabhiangjomaeaaU15
import Derived.BigRegion
import Derived.Deep.RegionHeld3
import Derived.Laws.CopyOwn
import Derived.Laws.Tables
namespace Go.Proofs.Ytabhiangjomaeaa.fitW
open Go.RowKit Go.Proofs.Ytabhiangjomaeaa.kit Go.Proofs.Ytabhiangjomaeaa.timed Go.Proofs.Ytabhiangjomaeaa.nspec Go.Proofs.Ytabhiangjomaeaa.wireP Go.Proofs.Ytabhiangjomaeaa.wireM Go.Proofs.Ytabhiangjomaeaa.wireC Go.Proofs.Ytabhiangjomaeaa.packP Go.Proofs.Ytabhiangjomaeaa.unpP Go.Proofs.Ytabhiangjomaeaa.wpack Go.Proofs.Ytabhiangjomaeaa.rows Go.Proofs.Ytabhiangjomaeaa.putM Go.Proofs.Ytabhiangjomaeaa.ust Go.Proofs.Ytabhiangjomaeaa.uend Go.Proofs.Ytabhiangjomaeaa.unpack Go.Proofs.Ytabhiangjomaeaa.markP Go.Proofs.Ytabhiangjomaeaa.fitP Go.Proofs.Ytabhiangjomaeaa.fitA Go.Proofs.Ytabhiangjomaeaa.fitM Go.Proofs.Ytabhiangjomaeaa.cloneR Go.Proofs.Ytabhiangjomaeaa.delete Go.Proofs.Ytabhiangjomaeaa.sameM
set_option linter.unusedVariables false

theorem via {P G : Prop} (h : (Unit → P) → G) (k : P) : G := h fun _ => k
theorem at_row {lo : Nat} {wr : World} {n : Nat} {xs : List Value} {a : Option Addr} {c : Nat} {t : TypeId} {z : Nat} (h : wr.ownsRow lo t z (.slice a n c) n xs) (hn : 1 ≤ n) : ∃ g, a = some ⟨g, 0, none⟩ ∧ n ≤ c ∧ c ≤ maxLen := by
  rcases h.2 with ⟨_, h2⟩ | ⟨g, cap, cur, h1, h2, h3, h4, h5, h6, h7⟩
  · omega
  · injection h1 with e1 e2 e3
    subst e3
    exact ⟨g, e1, h4, h5⟩
theorem at_type {lo g n c : Nat} {wr : World} {L : List Rc} (h : wr.ownsRow lo 52 5 (.slice (some ⟨g, 0, none⟩) n c) n (L.flatMap Rc.cells)) {i : Nat} {x : Rc} (hx : L[i]? = some x) : wr.cell? ⟨g, i * 5 + 1, none⟩ = some (.int .i64 x.t) := by
  have h1 := h.cells (g := g) rfl (i * 5 + 1) _ (flat_at Rc.cells 5 (fun _ => rfl) _ i x 1 _ hx rfl)
  rw [addr_at, Nat.zero_add] at h1; exact h1
def S4 (w1 : World) (b0 : Nat) (p : Pl) (m : Mg) (w' : World) : Prop := w'.cell? ⟨b0, 10, none⟩ = some (.slice p.qa m.qs.length p.qc) ∧ w'.cell? ⟨b0, 11, none⟩ = some (.slice p.na m.an.length p.nc) ∧ w'.cell? ⟨b0, 12, none⟩ = some (.slice p.ua m.au.length p.uc) ∧ w'.cell? ⟨b0, 13, none⟩ = some (.slice p.ra m.ar.length p.rc) ∧ Below w1.heap.size w1 w'
theorem cells4 {w1 w' : World} {b0 : Nat} {p : Pl} {m : Mg} (h : MsgAt w1 b0 p m) (hB : Below w1.heap.size w1 w') : w'.cell? ⟨b0, 10, none⟩ = some (.slice p.qa m.qs.length p.qc) ∧ w'.cell? ⟨b0, 11, none⟩ = some (.slice p.na m.an.length p.nc) ∧ w'.cell? ⟨b0, 12, none⟩ = some (.slice p.ua m.au.length p.uc) ∧ w'.cell? ⟨b0, 13, none⟩ = some (.slice p.ra m.ar.length p.rc) ∧ Below w1.heap.size w1 w' := by
  have hm : MsgAt w' b0 p m := (hB.block _ (blk_lt h)).trans h
  have bx := hm.box
  exact ⟨bx.c10, bx.c11, bx.c12, bx.c13, hB⟩
def RowO (W : World) (b0 : Nat) (t : TypeId) (z n : Nat) (xs : List Value) : Option (Option Addr × Nat) → Prop
  | none => True
  | some x => W.ownsRow b0 t z (.slice x.1 n x.2) n xs
def ApO : Option (Option Addr × Nat) → Option (Option Addr × Nat) → Prop
  | some x, some y => Apart x.1 y.1
  | _, _ => True
/-- which of the four lists are copied -/
structure Rows (b0 : Nat) (W : World) (m : Mg) (oq on ou or : Option (Option Addr × Nat)) : Prop where
  q : RowO W b0 50 3 m.qs.length (m.qs.flatMap Qn.cells) oq
  n : RowO W b0 52 5 m.an.length (m.an.flatMap Rc.cells) on
  u : RowO W b0 52 5 m.au.length (m.au.flatMap Rc.cells) ou
  r : RowO W b0 52 5 m.ar.length (m.ar.flatMap Rc.cells) or
  nu : ApO on ou
  nr : ApO on or
  ur : ApO ou or
theorem RowO.below {W W' : World} {b0 : Nat} {t : TypeId} {z n : Nat} {xs : List Value} {o : Option (Option Addr × Nat)} (h : RowO W b0 t z n xs o) (hB : Below W.heap.size W W') : RowO W' b0 t z n xs o := by
  cases o with
  | none => trivial
  | some x => exact own_below h hB
theorem ApO.new {w1 w2 : World} {b0 : Nat} {t t' : TypeId} {z z' n n' c : Nat} {a : Option Addr} {xs xs' : List Value} {o : Option (Option Addr × Nat)} (hnew : w2.ownsRow w1.heap.size t z (.slice a n c) n xs) (h : RowO w1 b0 t' z' n' xs' o) : ApO (some (a, c)) o := by
  cases o with
  | none => trivial
  | some x => exact apart_new hnew h
theorem ApO.symm {x y : Option (Option Addr × Nat)} (h : ApO x y) : ApO y x := by
  cases x <;> cases y <;> first | trivial | exact Apart.symm h
section
variable {b0 : Nat} {W W' : World} {m : Mg} {oq on ou or : Option (Option Addr × Nat)} {a : Option Addr} {c : Nat}
theorem Rows.stepQ (h : Rows b0 W m none on ou or) (hnew : W'.ownsRow W.heap.size 50 3 (.slice a m.qs.length c) m.qs.length (m.qs.flatMap Qn.cells)) (hb : b0 ≤ W.heap.size) (hB : Below W.heap.size W W') : Rows b0 W' m (some (a, c)) on ou or :=
  ⟨own_mono hnew hb, h.n.below hB, h.u.below hB, h.r.below hB, h.nu, h.nr, h.ur⟩
theorem Rows.stepN (h : Rows b0 W m oq none ou or) (hnew : W'.ownsRow W.heap.size 52 5 (.slice a m.an.length c) m.an.length (m.an.flatMap Rc.cells)) (hb : b0 ≤ W.heap.size) (hB : Below W.heap.size W W') : Rows b0 W' m oq (some (a, c)) ou or :=
  ⟨h.q.below hB, own_mono hnew hb, h.u.below hB, h.r.below hB, ApO.new hnew h.u, ApO.new hnew h.r, h.ur⟩
theorem Rows.stepU (h : Rows b0 W m oq on none or) (hnew : W'.ownsRow W.heap.size 52 5 (.slice a m.au.length c) m.au.length (m.au.flatMap Rc.cells)) (hb : b0 ≤ W.heap.size) (hB : Below W.heap.size W W') : Rows b0 W' m oq on (some (a, c)) or :=
  ⟨h.q.below hB, h.n.below hB, own_mono hnew hb, h.r.below hB, (ApO.new hnew h.n).symm, h.nr, ApO.new hnew h.r⟩
theorem Rows.stepR (h : Rows b0 W m oq on ou none) (hnew : W'.ownsRow W.heap.size 52 5 (.slice a m.ar.length c) m.ar.length (m.ar.flatMap Rc.cells)) (hb : b0 ≤ W.heap.size) (hB : Below W.heap.size W W') : Rows b0 W' m oq on ou (some (a, c)) :=
  ⟨h.q.below hB, h.n.below hB, h.u.below hB, own_mono hnew hb, h.nu, (ApO.new hnew h.n).symm, (ApO.new hnew h.u).symm⟩
end
theorem leafR {b0 : Nat} {w0 w1 W : World} {limit : Int} {p : Pl} {m : Mg} {aq aN aU aR : Option Addr} {cq cN cU cR : Nat} (hm : MsgAt w1 b0 p m) (hl : w1.heap[b0 + 1]? = some (.cells #[.int .i64 limit] 3 (0, 0))) (hr : MsgAt w1 (b0 + 2) noP noM) (hB : Below b0 w0 w1) (hB' : Below w1.heap.size w1 W) (h : Rows b0 W m (some (aq, cq)) (some (aN, cN)) (some (aU, cU)) (some (aR, cR))) :
    FSt b0 w0 ((((W.setCell ⟨b0, 10, none⟩ (.slice aq m.qs.length cq)).setCell ⟨b0, 11, none⟩ (.slice aN m.an.length cN)).setCell ⟨b0, 12, none⟩ (.slice aU m.au.length cU)).setCell ⟨b0, 13, none⟩ (.slice aR m.ar.length cR)) limit ⟨aq, cq, aN, cN, aU, cU, aR, cR⟩ m :=
  fst_make ((hB'.block _ (blk_lt hm)).trans hm) ((hB'.block _ (blk_lt hl)).trans hl) ((hB'.block _ (blk_lt hr)).trans hr) (hB.trans (hB'.mono (by have := blk_lt hm; omega))) h.q h.n h.u h.r h.nu h.nr h.ur
theorem leaf {b0 : Nat} {w0 w1 W : World} {limit : Int} {p : Pl} {m : Mg} {aq aN aU aR : Option Addr} {cq cN cU cR : Nat} (hm : MsgAt w1 b0 p m) (hl : w1.heap[b0 + 1]? = some (.cells #[.int .i64 limit] 3 (0, 0))) (hr : MsgAt w1 (b0 + 2) noP noM) (hB : Below b0 w0 w1) (hB' : Below w1.heap.size w1 W)
    (hQ : W.ownsRow b0 50 3 (.slice aq m.qs.length cq) m.qs.length (m.qs.flatMap Qn.cells)) (hN : W.ownsRow b0 52 5 (.slice aN m.an.length cN) m.an.length (m.an.flatMap Rc.cells))
    (hU : W.ownsRow b0 52 5 (.slice aU m.au.length cU) m.au.length (m.au.flatMap Rc.cells)) (hR : W.ownsRow b0 52 5 (.slice aR m.ar.length cR) m.ar.length (m.ar.flatMap Rc.cells))
    (nu : Apart aN aU) (nr : Apart aN aR) (ur : Apart aU aR) :
    FSt b0 w0 ((((W.setCell ⟨b0, 10, none⟩ (.slice aq m.qs.length cq)).setCell ⟨b0, 11, none⟩ (.slice aN m.an.length cN)).setCell ⟨b0, 12, none⟩ (.slice aU m.au.length cU)).setCell ⟨b0, 13, none⟩ (.slice aR m.ar.length cR)) limit ⟨aq, cq, aN, cN, aU, cU, aR, cR⟩ m :=
  fst_make ((hB'.block _ (blk_lt hm)).trans hm) ((hB'.block _ (blk_lt hl)).trans hl) ((hB'.block _ (blk_lt hr)).trans hr) (hB.trans (hB'.mono (by have := blk_lt hm; omega))) hQ hN hU hR nu nr ur
set_option maxRecDepth 100000 in
set_option maxHeartbeats 8000000 in
theorem fit_any (p : Pl) (m : Mg) (limit : Int) (w : World) (hr : RdM w p m) (hnil : NilM p m) (hqn : p.qa = none → m.qs.length = 0 ∧ p.qc = 0) (ho : OkW m) :
    Calls Try.prog 30 #[.agg #[.int .i64 m.id, .bool m.rs, .int .i64 m.op, .bool m.aa, .bool m.tc, .bool m.rd, .bool m.ra, .bool m.ad, .bool m.cd, .int .i64 m.rc, .slice p.qa m.qs.length p.qc, .slice p.na m.an.length p.nc, .slice p.ua m.au.length p.uc, .slice p.ra m.ar.length p.rc], .int .i64 limit] w (FitE w.heap.size w (fitS m limit)) := by
  obtain ⟨R, hR⟩ : ∃ R, fitS m limit = R := ⟨_, rfl⟩
  rw [hR]
  obtain ⟨hm0, hl0, hz0, hb0⟩ := boxesF_at w p m limit
  have hr0 : RdM (boxesF w p m limit) p m := hr.below hb0 rfl
  have HR := Lib.hid hR; have HO := Lib.hid ho; have HNI := Lib.hid hnil; have HQN := Lib.hid hqn
  obtain ⟨b0, hbb⟩ : ∃ b0, w.heap.size = b0 := ⟨_, rfl⟩
  obtain ⟨W, hW⟩ : ∃ W, boxesF w p m limit = W := ⟨_, rfl⟩
  rw [hW, hbb] at hm0 hl0 hz0 hb0
  rw [hW] at hr0
  rw [hbb]
  have CK := Lib.hid (wcheck_any p m W hr0 ho)
  have HW := Lib.hid hW; have HM0 := Lib.hid hm0; have HL0 := Lib.hid hl0; have HZ0 := Lib.hid hz0; have HB0 := Lib.hid hb0; have HR0 := Lib.hid hr0
  have hx := hm0.box
  have c0 := hx.c0; have c1 := hx.c1; have c2 := hx.c2; have c3 := hx.c3; have c4 := hx.c4; have c5 := hx.c5; have c6 := hx.c6; have c7 := hx.c7; have c8 := hx.c8; have c9 := hx.c9; have c10 := hx.c10; have c11 := hx.c11; have c12 := hx.c12; have c13 := hx.c13
  clear hx hR hm0 hl0 hz0 hb0 hr0 hW hr hnil hqn ho
  go_enter Try.func30, Try.ntmps30
  go_upto_region 1 with fail
  change Code.wp _ _ _ _ (boxesF w p m limit)
  rw [HW.out]
  trace "1"
  go_wp2_with fail
  refine CK.out.mono ?_
  rintro e w1 ⟨rfl, hB1⟩
  clear c0 c1 c2 c3 c4 c5 c6 c7 c8 c9 c10 c11 c12 c13
  have HM1 : Hid (MsgAt w1 b0 p m) := Lib.hid ((hB1.block _ (blk_lt HM0.out)).trans HM0.out)
  have HL1 := Lib.hid ((hB1.block _ (blk_lt HL0.out)).trans HL0.out)
  have HZ1 : Hid (MsgAt w1 (b0 + 2) noP noM) := Lib.hid ((hB1.block _ (blk_lt HZ0.out)).trans HZ0.out)
  have HB1 := Lib.hid (HB0.out.trans (hB1.mono (by have := blk_lt HM0.out; omega)))
  have HR1 := Lib.hid (HR0.out.below hB1 rfl)
  clear hB1 HM0 HL0 HZ0 HB0 HR0 CK
  by_cases hc : checkB m = false
  · have HRR : Hid (R = (noM, 8)) := Lib.hid (by rw [← HR.out]; unfold fitS; rw [if_pos hc])
    have hz : MsgAt w1 (b0 + 1 + 1) noP noM := HZ1.out
    have hx := hz.box
    have c0 := hx.c0; have c1 := hx.c1; have c2 := hx.c2; have c3 := hx.c3; have c4 := hx.c4; have c5 := hx.c5; have c6 := hx.c6; have c7 := hx.c7; have c8 := hx.c8; have c9 := hx.c9; have c10 := hx.c10; have c11 := hx.c11; have c12 := hx.c12; have c13 := hx.c13
    have hff := fun j => udoor.msg_frozen hz j
    have f0 := hff 0; have f1 := hff 1; have f2 := hff 2; have f3 := hff 3; have f4 := hff 4; have f5 := hff 5; have f6 := hff 6; have f7 := hff 7; have f8 := hff 8; have f9 := hff 9; have f10 := hff 10; have f11 := hff 11; have f12 := hff 12; have f13 := hff 13
    rw [hc]
    clear hx hff
    trace "2"
    go_wp2_with fail
    exact fin _ rfl rfl (putM_blk noP noM hz (by rfl)) (by rw [HRR.out]) (by rw [HRR.out]; rfl) (Own4.none _ _) (putM_below noP noM HB1.out (by omega))
  · have hc1 : checkB m = true := by simpa using hc
    have HF := Lib.hid (few_checked hc1)
    have HR2 : Hid (fitU limit (m.ar.length + 1) m = R) := Lib.hid (by rw [← HR.out]; unfold fitS; rw [if_neg hc])
    rw [hc1]
    clear HR hc hc1
    have HLE := Lib.hid (show b0 ≤ w1.heap.size by have := blk_lt HM1.out; omega)
    have CQ : Hid (∀ wx : World, Below w1.heap.size w1 wx → Calls Try.prog 70 #[.slice p.qa m.qs.length p.qc] wx fun e w' => ∃ a' c', e = .returned (.slice a' m.qs.length c') ∧ (w'.cell? ⟨b0, 10, none⟩ = some (.slice p.qa m.qs.length p.qc) ∧ w'.cell? ⟨b0, 11, none⟩ = some (.slice p.na m.an.length p.nc) ∧ w'.cell? ⟨b0, 12, none⟩ = some (.slice p.ua m.au.length p.uc) ∧ w'.cell? ⟨b0, 13, none⟩ = some (.slice p.ra m.ar.length p.rc) ∧ Below w1.heap.size w1 w') ∧ ∀ on ou or, Rows b0 wx m none on ou or → Rows b0 w' m (some (a', c')) on ou or) := Lib.hid (fun wx hB => (clone_qn p.qa m.qs.length p.qc m.qs wx rfl (HR1.out.below hB rfl).q HQN.out HF.out.ql).mono (fun e w' ⟨a', c', h1, h2, h3⟩ => ⟨a', c', h1, cells4 HM1.out (hB.trans (h3.mono hB.size)), fun _ _ _ h => h.stepQ h2 (Nat.le_trans HLE.out hB.size) h3⟩))
    have CN : Hid (∀ wx : World, Below w1.heap.size w1 wx → Calls Try.prog 71 #[.slice p.na m.an.length p.nc] wx fun e w' => ∃ a' c', e = .returned (.slice a' m.an.length c') ∧ (w'.cell? ⟨b0, 10, none⟩ = some (.slice p.qa m.qs.length p.qc) ∧ w'.cell? ⟨b0, 11, none⟩ = some (.slice p.na m.an.length p.nc) ∧ w'.cell? ⟨b0, 12, none⟩ = some (.slice p.ua m.au.length p.uc) ∧ w'.cell? ⟨b0, 13, none⟩ = some (.slice p.ra m.ar.length p.rc) ∧ Below w1.heap.size w1 w') ∧ ∀ oq ou or, Rows b0 wx m oq none ou or → Rows b0 w' m oq (some (a', c')) ou or) := Lib.hid (fun wx hB => (clone_rec p.na m.an.length p.nc m.an wx rfl (HR1.out.below hB rfl).n HNI.out.n HF.out.nl).mono (fun e w' ⟨a', c', h1, h2, h3⟩ => ⟨a', c', h1, cells4 HM1.out (hB.trans (h3.mono hB.size)), fun _ _ _ h => h.stepN h2 (Nat.le_trans HLE.out hB.size) h3⟩))
    have CU : Hid (∀ wx : World, Below w1.heap.size w1 wx → Calls Try.prog 71 #[.slice p.ua m.au.length p.uc] wx fun e w' => ∃ a' c', e = .returned (.slice a' m.au.length c') ∧ (w'.cell? ⟨b0, 10, none⟩ = some (.slice p.qa m.qs.length p.qc) ∧ w'.cell? ⟨b0, 11, none⟩ = some (.slice p.na m.an.length p.nc) ∧ w'.cell? ⟨b0, 12, none⟩ = some (.slice p.ua m.au.length p.uc) ∧ w'.cell? ⟨b0, 13, none⟩ = some (.slice p.ra m.ar.length p.rc) ∧ Below w1.heap.size w1 w') ∧ ∀ oq on or, Rows b0 wx m oq on none or → Rows b0 w' m oq on (some (a', c')) or) := Lib.hid (fun wx hB => (clone_rec p.ua m.au.length p.uc m.au wx rfl (HR1.out.below hB rfl).u HNI.out.u HF.out.ul).mono (fun e w' ⟨a', c', h1, h2, h3⟩ => ⟨a', c', h1, cells4 HM1.out (hB.trans (h3.mono hB.size)), fun _ _ _ h => h.stepU h2 (Nat.le_trans HLE.out hB.size) h3⟩))
    have CR : Hid (∀ wx : World, Below w1.heap.size w1 wx → Calls Try.prog 71 #[.slice p.ra m.ar.length p.rc] wx fun e w' => ∃ a' c', e = .returned (.slice a' m.ar.length c') ∧ (w'.cell? ⟨b0, 10, none⟩ = some (.slice p.qa m.qs.length p.qc) ∧ w'.cell? ⟨b0, 11, none⟩ = some (.slice p.na m.an.length p.nc) ∧ w'.cell? ⟨b0, 12, none⟩ = some (.slice p.ua m.au.length p.uc) ∧ w'.cell? ⟨b0, 13, none⟩ = some (.slice p.ra m.ar.length p.rc) ∧ Below w1.heap.size w1 w') ∧ ∀ oq on ou, Rows b0 wx m oq on ou none → Rows b0 w' m oq on ou (some (a', c'))) := Lib.hid (fun wx hB => (clone_rec p.ra m.ar.length p.rc m.ar wx rfl (HR1.out.below hB rfl).r HNI.out.r HF.out.rl).mono (fun e w' ⟨a', c', h1, h2, h3⟩ => ⟨a', c', h1, cells4 HM1.out (hB.trans (h3.mono hB.size)), fun _ _ _ h => h.stepR h2 (Nat.le_trans HLE.out hB.size) h3⟩))
    have hS0 := cells4 HM1.out (Below.refl w1.heap.size w1).drew
    have f10 : ∀ w', Below w1.heap.size w1 w' → w'.frozen? ⟨b0, 10, none⟩ = false := fun w' hB => udoor.msg_frozen ((hB.block _ (blk_lt HM1.out)).trans HM1.out) 10
    obtain ⟨c10, c11, c12, c13, hBd⟩ := hS0
    have hRw0 : Rows b0 w1.drew m none none none none := ⟨trivial, trivial, trivial, trivial, trivial, trivial, trivial⟩
    trace "3"
    go_upto_region 4 with fail
    refine' via (P := ∀ (aq : Option Addr) (cq : Nat) (aN : Option Addr) (cN : Nat) (aU : Option Addr) (cU : Nat) (aR : Option Addr) (cR : Nat) (W : World), Below w1.heap.size w1 W → Rows b0 W m (some (aq, cq)) (some (aN, cN)) (some (aU, cU)) (some (aR, cR)) → (_ : Option Addr → Nat → Option Addr → Nat → Option Addr → Nat → Option Addr → Nat → World → Prop) aq cq aN cN aU cU aR cR W) (fun key => ?reg) ?key
    case reg =>
      refine heldG.regionG (S4 w1 b0 p m) (fun i => decide (13 ≤ i)) (by kernel_rfl) ?_
      have hS0 : S4 w1 b0 p m w1.drew := cells4 HM1.out (Below.refl w1.heap.size w1).drew
      trace "takes"
      refine heldG.takeG (i := 0) (v := .pointer (some ⟨b0, 10, none⟩)) rfl (by kernel_rfl) (by kernel_rfl) (by kernel_rfl) (fun _ _ _ h => h) (by kernel_rfl) rfl (Or.inl ⟨by rfl, ?_⟩) hS0 ?_
      · intro w hSw
        obtain ⟨k10, k11, k12, k13, kB⟩ := hSw
        go_simp
      try simp only [Act.put, List.setIfInBounds_toArray]
      refine heldG.takeG (i := 1) (v := .slice p.qa m.qs.length p.qc) rfl (by kernel_rfl) (by kernel_rfl) (by kernel_rfl) (fun _ _ _ h => h) (by kernel_rfl) rfl (Or.inl ⟨by rfl, ?_⟩) hS0 ?_
      · intro w hSw
        obtain ⟨k10, k11, k12, k13, kB⟩ := hSw
        go_simp
      try simp only [Act.put]
      refine heldG.takeG (i := 3) (v := .pointer (some ⟨b0, 11, none⟩)) rfl (by kernel_rfl) (by kernel_rfl) (by kernel_rfl) (fun _ _ _ h => h) (by kernel_rfl) rfl (Or.inl ⟨by rfl, ?_⟩) hS0 ?_
      · intro w hSw
        obtain ⟨k10, k11, k12, k13, kB⟩ := hSw
        go_simp
      try simp only [Act.put]
      refine heldG.takeG (i := 4) (v := .slice p.na m.an.length p.nc) rfl (by kernel_rfl) (by kernel_rfl) (by kernel_rfl) (fun _ _ _ h => h) (by kernel_rfl) rfl (Or.inl ⟨by rfl, ?_⟩) hS0 ?_
      · intro w hSw
        obtain ⟨k10, k11, k12, k13, kB⟩ := hSw
        go_simp
      try simp only [Act.put]
      refine heldG.takeG (i := 6) (v := .pointer (some ⟨b0, 12, none⟩)) rfl (by kernel_rfl) (by kernel_rfl) (by kernel_rfl) (fun _ _ _ h => h) (by kernel_rfl) rfl (Or.inl ⟨by rfl, ?_⟩) hS0 ?_
      · intro w hSw
        obtain ⟨k10, k11, k12, k13, kB⟩ := hSw
        go_simp
      try simp only [Act.put]
      refine heldG.takeG (i := 7) (v := .slice p.ua m.au.length p.uc) rfl (by kernel_rfl) (by kernel_rfl) (by kernel_rfl) (fun _ _ _ h => h) (by kernel_rfl) rfl (Or.inl ⟨by rfl, ?_⟩) hS0 ?_
      · intro w hSw
        obtain ⟨k10, k11, k12, k13, kB⟩ := hSw
        go_simp
      try simp only [Act.put]
      refine heldG.takeG (i := 9) (v := .pointer (some ⟨b0, 13, none⟩)) rfl (by kernel_rfl) (by kernel_rfl) (by kernel_rfl) (fun _ _ _ h => h) (by kernel_rfl) rfl (Or.inl ⟨by rfl, ?_⟩) hS0 ?_
      · intro w hSw
        obtain ⟨k10, k11, k12, k13, kB⟩ := hSw
        go_simp
      try simp only [Act.put]
      refine heldG.takeG (i := 10) (v := .slice p.ra m.ar.length p.rc) rfl (by kernel_rfl) (by kernel_rfl) (by kernel_rfl) (fun _ _ _ h => h) (by kernel_rfl) rfl (Or.inl ⟨by rfl, ?_⟩) hS0 ?_
      · intro w hSw
        obtain ⟨k10, k11, k12, k13, kB⟩ := hSw
        go_simp
      try simp only [Act.put]
      trace "tree"
      refine heldG.readyG (rs := [2]) (by kernel_rfl) (by simp) ?_
      refine heldG.AllG.cons rfl (fun KK hKK => ?_) heldG.AllG.nil
      go_simp
      refine (CQ.out _ (by assumption)).mono ?_
      rintro e w' ⟨aq, cq, rfl, hSz, hst⟩
      have hRw := hst _ _ _ (by assumption)
      have hBy := hSz.2.2.2.2
      clear hst
      dsimp only
      refine hKK.out _ _ (fun _ => hSz) ?_; clear hKK KK
      try simp only [Act.put, List.setIfInBounds_toArray, List.set_cons_zero, List.set_cons_succ]
      refine heldG.takeG (i := 12) (v := .pointer (some ⟨b0, 10, none⟩)) rfl (by kernel_rfl) (by kernel_rfl) (by kernel_rfl) (fun _ _ _ h => h) (by kernel_rfl) rfl (Or.inl ⟨by rfl, ?_⟩) hSz ?_
      · intro w hSw
        obtain ⟨k10, k11, k12, k13, kB⟩ := hSw
        go_simp
      try simp only [Act.put, List.setIfInBounds_toArray]
      refine heldG.readyG (rs := [5]) (by kernel_rfl) (by simp) ?_
      refine heldG.AllG.cons rfl (fun KK hKK => ?_) heldG.AllG.nil
      go_simp
      refine (CN.out _ (by assumption)).mono ?_
      rintro e w' ⟨aN, cN, rfl, hSz, hst⟩
      have hRw := hst _ _ _ (by assumption)
      have hBy := hSz.2.2.2.2
      clear hst
      dsimp only
      refine hKK.out _ _ (fun _ => hSz) ?_; clear hKK KK
      try simp only [Act.put, List.setIfInBounds_toArray, List.set_cons_zero, List.set_cons_succ]
      refine heldG.readyG (rs := [8]) (by kernel_rfl) (by simp) ?_
      refine heldG.AllG.cons rfl (fun KK hKK => ?_) heldG.AllG.nil
      go_simp
      refine (CU.out _ (by assumption)).mono ?_
      rintro e w' ⟨aU, cU, rfl, hSz, hst⟩
      have hRw := hst _ _ _ (by assumption)
      have hBy := hSz.2.2.2.2
      clear hst
      dsimp only
      refine hKK.out _ _ (fun _ => hSz) ?_; clear hKK KK
      try simp only [Act.put, List.setIfInBounds_toArray, List.set_cons_zero, List.set_cons_succ]
      refine heldG.readyG (rs := [11]) (by kernel_rfl) (by simp) ?_
      refine heldG.AllG.cons rfl (fun KK hKK => ?_) heldG.AllG.nil
      go_simp
      refine (CR.out _ (by assumption)).mono ?_
      rintro e w' ⟨aR, cR, rfl, hSz, hst⟩
      have hRw := hst _ _ _ (by assumption)
      have hBy := hSz.2.2.2.2
      clear hst
      dsimp only
      refine hKK.out _ _ (fun _ => hSz) ?_; clear hKK KK
      try simp only [Act.put, List.setIfInBounds_toArray, List.set_cons_zero, List.set_cons_succ]
      exact key () aq cq aN cN aU cU aR cR _ hBy hRw
    case key =>
      intro aq cq aN cN aU cU aR cR W hBy hRw
      try dsimp only
      have hMW : MsgAt W b0 p m := (hBy.block _ (blk_lt HM1.out)).trans HM1.out
      have bx := hMW.box
      have c10 := bx.c10; have c11 := bx.c11; have c12 := bx.c12; have c13 := bx.c13
      have g10 := udoor.msg_frozen hMW 10; have g11 := udoor.msg_frozen hMW 11; have g12 := udoor.msg_frozen hMW 12; have g13 := udoor.msg_frozen hMW 13
      have HS := Lib.hid (leafR HM1.out HL1.out HZ1.out HB1.out hBy hRw)
      clear bx hMW
      trace "key"
      refine heldG.readyG (rs := [13]) (by kernel_rfl) (by simp) ?_
      refine heldG.AllG.cons rfl (fun KK hKK => ?_) heldG.AllG.nil
      go_simp
      refine hKK.out _ _ (fun h => absurd h (by decide)) ?_; clear hKK KK
      try simp only [Act.put, List.setIfInBounds_toArray, List.set_cons_zero, List.set_cons_succ]
      refine heldG.readyG (rs := [14]) (by kernel_rfl) (by simp) ?_
      refine heldG.AllG.cons rfl (fun KK hKK => ?_) heldG.AllG.nil
      go_simp
      refine hKK.out _ _ (fun h => absurd h (by decide)) ?_; clear hKK KK
      try simp only [Act.put, List.setIfInBounds_toArray, List.set_cons_zero, List.set_cons_succ]
      refine heldG.readyG (rs := [15]) (by kernel_rfl) (by simp) ?_
      refine heldG.AllG.cons rfl (fun KK hKK => ?_) heldG.AllG.nil
      go_simp
      refine hKK.out _ _ (fun h => absurd h (by decide)) ?_; clear hKK KK
      try simp only [Act.put, List.setIfInBounds_toArray, List.set_cons_zero, List.set_cons_succ]
      refine heldG.readyG (rs := [16]) (by kernel_rfl) (by simp) ?_
      refine heldG.AllG.cons rfl (fun KK hKK => ?_) heldG.AllG.nil
      go_simp
      refine hKK.out _ _ (fun h => absurd h (by decide)) ?_; clear hKK KK
      try simp only [Act.put, List.setIfInBounds_toArray, List.set_cons_zero, List.set_cons_succ]
      refine heldG.readyG (rs := [17]) (by kernel_rfl) (by simp) ?_
      refine heldG.AllG.cons rfl (fun KK hKK => ?_) heldG.AllG.nil
      go_simp
      refine hKK.out _ _ (fun h => absurd h (by decide)) ?_; clear hKK KK
      try simp only [Act.put, List.setIfInBounds_toArray, List.set_cons_zero, List.set_cons_succ]
      refine heldG.readyG (rs := [18]) (by kernel_rfl) (by simp) ?_
      refine heldG.AllG.cons rfl (fun KK hKK => ?_) heldG.AllG.nil
      go_simp
      refine hKK.out _ _ (fun h => absurd h (by decide)) ?_; clear hKK KK
      try simp only [Act.put, List.setIfInBounds_toArray, List.set_cons_zero, List.set_cons_succ]
      refine heldG.readyG (rs := [19]) (by kernel_rfl) (by simp) ?_
      refine heldG.AllG.cons rfl (fun KK hKK => ?_) heldG.AllG.nil
      go_simp
      refine hKK.out _ _ (fun h => absurd h (by decide)) ?_; clear hKK KK
      try simp only [Act.put, List.setIfInBounds_toArray, List.set_cons_zero, List.set_cons_succ]
      refine heldG.doneG (by kernel_rfl) ?_ _
      clear c10 c11 c12 c13 g10 g11 g12 g13 hBy hRw
      obtain ⟨W0, hW0⟩ : ∃ W0, (((W.setCell ⟨b0, 10, none⟩ (.slice aq m.qs.length cq)).setCell ⟨b0, 11, none⟩ (.slice aN m.an.length cN)).setCell ⟨b0, 12, none⟩ (.slice aU m.au.length cU)).setCell ⟨b0, 13, none⟩ (.slice aR m.ar.length cR) = W0 := ⟨_, rfl⟩
      rw [hW0] at HS ⊢
      have HAL : Hid (m.ar.length ≤ 1099511627776) := Lib.hid HF.out.rl
      clear hW0 HM1 HL1 HZ1 HB1 HR1 HNI HQN HF CQ CN CU CR HLE hRw0 f10 hBd
      try clear c10 c11 c12 c13
      trace "loop"
      go_wp2_with fail
      go_loopg [7] (m.ar.length + 1) (fun gas _ wr => ∃ (pl : Pl) (x : Mg), x.ar.length + 1 ≤ gas ∧ Hid (FSt b0 w wr limit pl x) ∧ Hid (OkW x) ∧ Hid (x.ar.length ≤ 1099511627776) ∧ Hid (fitU limit gas x = R))
      case atStart => exact ⟨_, m, Nat.le_refl _, HS, HO, HAL, HR2⟩
      case round =>
        clear HS HO HAL HR2
        obtain ⟨pl, x, hg, HS, HO, HAL, HR⟩ := hrel
        have HG := Lib.hid hg; clear hg
        have CF := Lib.hid (fits_any pl x (b0 + 1) limit wr HS.out.own.rd HO.out HS.out.limC)
        have bx := HS.out.msg.box
        have c0 := bx.c0; have c1 := bx.c1; have c2 := bx.c2; have c3 := bx.c3; have c4 := bx.c4; have c5 := bx.c5; have c6 := bx.c6; have c7 := bx.c7; have c8 := bx.c8; have c9 := bx.c9; have c10 := bx.c10; have c11 := bx.c11; have c12 := bx.c12; have c13 := bx.c13
        clear bx
        trace "5"
        go_wp2_with fail
        refine CF.out.mono ?_
        rintro e w1 ⟨rfl, hB1⟩
        have HS1 := Lib.hid (HS.out.below hB1)
        clear c0 c1 c2 c3 c4 c5 c6 c7 c8 c9 c10 c11 c12 c13
        clear hB1 HS CF
        cases hft : fitsB x limit with
        | true =>
          have HRR : Hid (R = (x, 0)) := Lib.hid (by
            rw [← HR.out]
            obtain ⟨f, hf⟩ : ∃ f, gk = f + 1 := ⟨gk - 1, by have := HG.out; omega⟩
            rw [hf]; unfold fitU; rw [if_pos hft])
          have hM := HS1.out.msg; have hZ : MsgAt w1 (b0 + 1 + 1) noP noM := HS1.out.res
          clear HR HG
          trace "14"
          go_wp2_with (first | (refine wpList_load_row rfl 37 _ rfl b0 rfl 37 _ _ _ hM Try.underlying37 rfl (by rw [infoMsg]; rfl) ?_) | (refine wpList_store_row rfl 37 _ _ rfl (b0 + 2) _ rfl rfl 37 _ hZ (by rw [infoMsg]; rfl) (by rfl) (cells_all _ _) ?_))
          have hM2 : MsgAt (w1.setRow (b0 + 2) (cellsM pl x)) (b0 + 2) pl x := setRow_heap _ _ _ _ _ _ HS1.out.res
          have hO2 : Own4 b0 (w1.setRow (b0 + 2) (cellsM pl x)) pl x := HS1.out.own.keep fun j c t hj ht => (setRow_other _ _ _ _ (other_t hj HS1.out.res (by rcases ht with rfl | rfl <;> decide))).trans hj
          exact fin _ rfl rfl hM2 (by rw [HRR.out]) (by rw [HRR.out]; rfl) hO2 (below_setRow HS1.out.bel (by omega) _)
        | false =>
          obtain ⟨n, hn⟩ : ∃ n, x.ar.length = n := ⟨_, rfl⟩
          have HN := Lib.hid hn
          have hnb : n ≤ 1099511627776 := by rw [← hn]; exact HAL.out
          have HFT := Lib.hid hft
          have c13 := HS1.out.msg.box.c13
          rw [hn] at c13
          obtain ⟨RK, hRK⟩ : ∃ RK, lastK x.ar n = RK := ⟨_, rfl⟩
          have HRK := Lib.hid hRK; have HRK0 := Lib.hid hRK
          clear hn hft hRK
          trace "6"
          go_wp2_with fail
          clear c13
          obtain ⟨gk', hgk'⟩ : ∃ g, g = gk := ⟨_, rfl⟩
          rw [← hgk'] at HG HR
          go_loopg [7] (n + 1) (fun gas kv wr => ∃ j : Nat, kv = .int .i64 ((j : Int) - 1) ∧ j ≤ n ∧ j + 1 = gas ∧ w1 = wr ∧ Hid (lastK x.ar j = RK))
          case atStart => exact ⟨n, by go_num, Nat.le_refl _, rfl, rfl, HRK⟩
          case round =>
            clear HRK
            obtain ⟨j, hkv, hj, hjg, rfl, HRK⟩ := hrel
            have HJG := Lib.hid hjg; clear hjg
            have bx := HS1.out.msg.box
            have c13 := bx.c13
            rw [HN.out] at c13
            by_cases hj0 : j = 0
            · subst hj0
              have hkv' := hkv.trans (show Value.int .i64 (((0 : Nat) : Int) - 1) = Value.int .i64 (-1) from rfl)
              subst hkv'
              have HRN : Hid (RK = none) := Lib.hid (by rw [← HRK.out]; rfl)
              have c11 := bx.c11; have c12 := bx.c12; have c4 := bx.c4
              have f11 := udoor.msg_frozen HS1.out.msg 11; have f12 := udoor.msg_frozen HS1.out.msg 12; have f4 := udoor.msg_frozen HS1.out.msg 4
              clear bx hkv HJG HRK
              trace "10"
              go_upto_region 11 with fail
              have HS2 := Lib.hid HS1.out.bare
              obtain ⟨w2, hw2⟩ : ∃ w2, ((w1.setCell ⟨b0, 11, none⟩ (.slice none 0 0)).setCell ⟨b0, 12, none⟩ (.slice none 0 0)).setCell ⟨b0, 4, none⟩ (.bool true) = w2 := ⟨_, rfl⟩
              rw [hw2] at HS2 ⊢
              clear hw2 c11 c12 c4 c13 f11 f12 f4
              have CF := Lib.hid (fits_any _ (bare x) (b0 + 1) limit w2 HS2.out.own.rd (ok_bare HO.out) HS2.out.limC)
              have by_ := HS2.out.msg.box
              have c0 : w2.cell? ⟨b0, 0, none⟩ = some (.int .i64 x.id) := by_.c0
              have c1 : w2.cell? ⟨b0, 1, none⟩ = some (.bool x.rs) := by_.c1
              have c2 : w2.cell? ⟨b0, 2, none⟩ = some (.int .i64 x.op) := by_.c2
              have c3 : w2.cell? ⟨b0, 3, none⟩ = some (.bool x.aa) := by_.c3
              have c4 : w2.cell? ⟨b0, 4, none⟩ = some (.bool true) := by_.c4
              have c5 : w2.cell? ⟨b0, 5, none⟩ = some (.bool x.rd) := by_.c5
              have c6 : w2.cell? ⟨b0, 6, none⟩ = some (.bool x.ra) := by_.c6
              have c7 : w2.cell? ⟨b0, 7, none⟩ = some (.bool x.ad) := by_.c7
              have c8 : w2.cell? ⟨b0, 8, none⟩ = some (.bool x.cd) := by_.c8
              have c9 : w2.cell? ⟨b0, 9, none⟩ = some (.int .i64 x.rc) := by_.c9
              have c10 : w2.cell? ⟨b0, 10, none⟩ = some (.slice pl.qa x.qs.length pl.qc) := by_.c10
              have c11 : w2.cell? ⟨b0, 11, none⟩ = some (.slice none 0 0) := by_.c11
              have c12 : w2.cell? ⟨b0, 12, none⟩ = some (.slice none 0 0) := by_.c12
              have c13 : w2.cell? ⟨b0, 13, none⟩ = some (.slice pl.ra x.ar.length pl.rc) := by_.c13
              clear by_
              trace "11"
              go_wp2_with fail
              refine CF.out.mono ?_
              rintro e w3 ⟨rfl, hB3⟩
              have HS3 := Lib.hid (HS2.out.below hB3)
              clear c0 c1 c2 c3 c4 c5 c6 c7 c8 c9 c10 c11 c12 c13
              clear hB3 HS2 CF
              have HF2 : Hid ((if fitsB (bare x) limit = true then (bare x, 0) else (noM, 12)) = R) := Lib.hid (by
                rw [← HR.out]
                obtain ⟨f, hf⟩ : ∃ f, gk' = f + 1 := ⟨gk' - 1, by have := HG.out; omega⟩
                rw [hf]
                conv => rhs; unfold fitU
                rw [if_neg (show ¬ fitsB x limit = true by rw [HFT.out]; decide), HN.out, HRK0.out, HRN.out])
              cases hft : fitsB (bare x) limit with
              | true =>
                have HRR : Hid (R = (bare x, 0)) := Lib.hid (by rw [← HF2.out, if_pos hft])
                have hM := HS3.out.msg; have hZ : MsgAt w3 (b0 + 1 + 1) noP noM := HS3.out.res
                clear HR HG HF2
                trace "14b"
                go_wp2_with (first | (refine wpList_load_row rfl 37 _ rfl b0 rfl 37 _ _ _ hM Try.underlying37 rfl (by rw [infoMsg]; rfl) ?_) | (refine wpList_store_row rfl 37 _ _ rfl (b0 + 2) _ rfl rfl 37 _ hZ (by rw [infoMsg]; rfl) (by rfl) (cells_all _ _) ?_))
                have hM2 := setRow_heap w3 (b0 + 2) _ (cellsM { pl with na := none, nc := 0, ua := none, uc := 0 } (bare x)) _ _ HS3.out.res
                have hO2 : Own4 b0 (w3.setRow (b0 + 2) (cellsM { pl with na := none, nc := 0, ua := none, uc := 0 } (bare x))) { pl with na := none, nc := 0, ua := none, uc := 0 } (bare x) := HS3.out.own.keep fun j c t hj ht => (setRow_other _ _ _ _ (other_t hj HS3.out.res (by rcases ht with rfl | rfl <;> decide))).trans hj
                exact fin _ rfl rfl hM2 (by rw [HRR.out]) (by rw [HRR.out]; rfl) hO2 (below_setRow HS3.out.bel (by omega) _)
              | false =>
                have HRR : Hid (R = (noM, 12)) := Lib.hid (by rw [← HF2.out, if_neg (by rw [hft]; decide)])
                have hz : MsgAt w3 (b0 + 1 + 1) noP noM := HS3.out.res
                have hx := hz.box
                have c0 := hx.c0; have c1 := hx.c1; have c2 := hx.c2; have c3 := hx.c3; have c4 := hx.c4; have c5 := hx.c5; have c6 := hx.c6; have c7 := hx.c7; have c8 := hx.c8; have c9 := hx.c9; have c10 := hx.c10; have c11 := hx.c11; have c12 := hx.c12; have c13 := hx.c13
                have hff := fun j => udoor.msg_frozen hz j
                have f0 := hff 0; have f1 := hff 1; have f2 := hff 2; have f3 := hff 3; have f4 := hff 4; have f5 := hff 5; have f6 := hff 6; have f7 := hff 7; have f8 := hff 8; have f9 := hff 9; have f10 := hff 10; have f11 := hff 11; have f12 := hff 12; have f13 := hff 13
                clear hx hff HR HG HF2
                trace "12"
                go_wp2_with fail
                exact fin _ rfl rfl (putM_blk noP noM hz (by rfl)) (by rw [HRR.out]) (by rw [HRR.out]; rfl) (Own4.none _ _) (putM_below noP noM HS3.out.bel (by omega))
            · obtain ⟨i, rfl⟩ : ∃ i, j = i + 1 := ⟨j - 1, by omega⟩
              have hkv' := hkv.trans (show Value.int .i64 (((i + 1 : Nat) : Int) - 1) = Value.int .i64 (i : Int) by congr 1; omega)
              subst hkv'
              have hin : (i : Int) < (n : Int) := by omega
              obtain ⟨r, hr⟩ : ∃ r, x.ar[i]? = some r := ⟨_, List.getElem?_eq_getElem (by rw [HN.out]; omega)⟩
              have hown := HS1.out.own.r
              rw [HN.out] at hown
              obtain ⟨g, ha, hc1, hc2⟩ := at_row hown (by omega)
              rw [ha] at hown c13
              have HA := Lib.hid ha
              have hty := at_type hown hr
              obtain ⟨C, hC⟩ : ∃ C, pl.rc = C := ⟨_, rfl⟩
              have HC := Lib.hid hC
              rw [hC] at hown c13 hc1 hc2
              have HOW := Lib.hid hown
              have HCM := Lib.hid hc2; have HCN := Lib.hid hc1
              unfold maxLen at hc2
              clear bx hkv hC ha hown
              by_cases ht : r.t = 41
              · have HR2 : Hid (lastK x.ar i = RK) := Lib.hid (by rw [← HRK.out]; conv => rhs; unfold lastK; rw [hr]; simp only; rw [if_pos ht])
                rw [ht] at hty
                clear HRK hr ht
                trace "8"
                go_wp2_with fail
                have hjg := HJG.out
                go_roundg (gk - 1)
                case rel => exact ⟨i, by go_num, by omega, by omega, rfl, HR2⟩
                case measure => omega
              · have HR2 : Hid (RK = some i) := Lib.hid (by rw [← HRK.out]; unfold lastK; rw [hr]; simp only; rw [if_neg ht])
                have hte : (r.t == 41) = false := by rw [beq_eq_false_iff_ne]; exact ht
                obtain ⟨T, hT⟩ : ∃ T, r.t = T := ⟨_, rfl⟩
                rw [hT] at hty hte ht
                obtain ⟨q, hq⟩ : ∃ q, n = i + q + 1 := ⟨n - i - 1, by omega⟩
                have CD := Lib.hid (delete_rec b0 g C i q x.ar w1 (by rw [HN.out]; exact hq) (by have h := HOW.out; rw [hq] at h; exact h) (by omega))
                rw [← hq] at CD
                have HQ := Lib.hid hq
                have hi64 : (i : Int) + 1 ≤ 1099511627777 := by omega
                have hneg : ¬ (i : Int) < 0 := by omega
                have hnegb : decide ((i : Int) < 0) = false := decide_eq_false hneg
                clear HRK hr hT hq ht hj hj0 hnb hc1 hc2
                have hnc : n ≤ C := HCN.out
                trace "13"
                go_upto_region 13 with fail
                trace "13a"
                go_wp2_with fail
                refine CD.out.mono ?_
                rintro e w2 ⟨rfl, ho2, hg2⟩
                have HS3 := Lib.hid (HS1.out.less (k := i) HA.out HC.out (show (x.ar.eraseIdx i).length = i + q by rw [List.length_eraseIdx_of_lt (by rw [HN.out]; omega), HN.out]; have := HQ.out; omega) ho2 hg2)
                have hm2 := HS1.out.delM HA.out hg2
                have d13 := hm2.box.c13
                have z13 := udoor.msg_frozen hm2 13
                rw [HN.out, HA.out, HC.out] at d13
                have HRL : Hid (fitU limit (gk' - 1) (less x i) = R) := Lib.hid (by
                  rw [← HR.out]
                  obtain ⟨f, hf⟩ : ∃ f, gk' = f + 1 := ⟨gk' - 1, by have := HG.out; omega⟩
                  rw [hf, Nat.add_sub_cancel]
                  conv => rhs; unfold fitU
                  rw [if_neg (show ¬ fitsB x limit = true by rw [HFT.out]; decide), HN.out, HRK0.out, HR2.out])
                have HOL := Lib.hid (ok_less HO.out i)
                have HAL2 : Hid ((less x i).ar.length ≤ 1099511627776) := Lib.hid (Nat.le_trans (less_len x i) HAL.out)
                have HLL : Hid ((less x i).ar.length + 1 = n) := Lib.hid (by show (x.ar.eraseIdx i).length + 1 = n; rw [List.length_eraseIdx_of_lt (by rw [HN.out]; omega), HN.out]; omega)
                clear hm2 ho2 hg2 CD HOW
                trace "13b"
                go_wp2_with fail
                have hg := HG.out; have hll := HLL.out; have hnn := HN.out
                go_roundg (gk' - 1)
                case rel => exact ⟨pl, less x i, by omega, HS3, HOL, HAL2, HRL⟩
                case measure => omega
end Go.Proofs.Ytabhiangjomaeaa.fitW
namespace Go.Proofs.Ytabhiangjomaeaa.plainW
open Go.RowKit Go.Proofs.Ytabhiangjomaeaa.kit Go.Proofs.Ytabhiangjomaeaa.timed Go.Proofs.Ytabhiangjomaeaa.nspec Go.Proofs.Ytabhiangjomaeaa.rsplit Go.Proofs.Ytabhiangjomaeaa.check Go.Proofs.Ytabhiangjomaeaa.fld Go.Proofs.Ytabhiangjomaeaa.wireP Go.Proofs.Ytabhiangjomaeaa.wireM Go.Proofs.Ytabhiangjomaeaa.packP Go.Proofs.Ytabhiangjomaeaa.wpack Go.Proofs.Ytabhiangjomaeaa.rows Go.Proofs.Ytabhiangjomaeaa.shortP
set_option linter.unusedVariables false

def qQ : Qn := ⟨⟨#[3, 119, 119, 119, 2, 101, 120, 0]⟩, 1, 1⟩
def qM : Mg := ⟨7, false, 0, false, false, true, false, false, false, 0, [qQ], [], [], []⟩
theorem q_one (w : World) (o : Obj) : RdM ((w.alloc o).alloc (.cells #[.string ⟨#[3, 119, 119, 119, 2, 101, 120, 0]⟩, .int .i64 1, .int .i64 1] 50)) ⟨some ⟨w.heap.size + 1, 0, none⟩, 1, none, 0, none, 0, none, 0⟩ qM := by
  have hb := heap_alloc_new (w.alloc o) (.cells #[.string ⟨#[3, 119, 119, 119, 2, 101, 120, 0]⟩, .int .i64 1, .int .i64 1] 50)
  rw [show (w.alloc o).heap.size = w.heap.size + 1 from by simp] at hb
  refine ⟨?_, RdC.nil _ _ _, RdC.nil _ _ _, RdC.nil _ _ _⟩
  intro j x hx
  have hj : j = 0 := by
    have := (List.getElem?_eq_some_iff.1 hx).1
    simp [qM] at this; omega
  subst hj
  have hx2 : x = qQ.cells := by simpa [qM] using hx.symm
  subst hx2
  refine ⟨rfl, w.heap.size + 1, 0, rfl, (Array.getElem?_eq_some_iff.1 hb).1, fun i u hu => ?_⟩
  have hi : i < 3 := by have := (List.getElem?_eq_some_iff.1 hu).1; simpa [Qn.cells, qQ] using this
  match i, hi with
  | 0, _ => simp only [World.cell?, hb]; simpa [Qn.cells, qQ] using hu
  | 1, _ => simp only [World.cell?, hb]; simpa [Qn.cells, qQ] using hu
  | 2, _ => simp only [World.cell?, hb]; simpa [Qn.cells, qQ] using hu
theorem qM_check : checkB qM = true := by decide
theorem qM_pack : packS qM = ([0, 7, 1, 0, 0, 1, 0, 0, 0, 0, 0, 0, 3, 119, 119, 119, 2, 101, 120, 0, 0, 1, 0, 1], 0) := by decide
theorem qM_plain : plainM qM = 24 := by decide
set_option maxRecDepth 100000 in
theorem question_any (w : World) : Calls Try.prog 24 #[] w fun e w' => ∃ P : Pl, e = .returned (.agg (cellsM P qM)) ∧ RdM w' P qM ∧ Below w.heap.size w w' := by
  go_enter Try.func24, Try.ntmps24
  go_wp2_with fail
  refine bodyPost_ret (v := .agg (cellsM ⟨some ⟨w.heap.size + 1, 0, none⟩, 1, none, 0, none, 0, none, 0⟩ qM)) (by simp [results, Try.results24, go_sem, cellsM, qM]) rfl ⟨_, rfl, ?_, ?_⟩
  · exact q_one w _
  · exact ((Below.refl _ _).alloc (Nat.le_refl _) _).alloc (by simp) _
/-- what a sum has behind so many -/
theorem sum_step {α : Type} (f : α → Nat) {L : List α} {k : Nat} {x : α} (hx : L[k]? = some x) : ((L.take (k + 1)).map f).sum = ((L.take k).map f).sum + f x := by
  obtain ⟨h1, h2⟩ := List.getElem?_eq_some_iff.1 hx
  rw [List.take_succ_eq_append_getElem h1, List.map_append, List.sum_append, h2]; simp
theorem sum_le {α : Type} (f : α → Nat) (c : Nat) : ∀ (L : List α), (∀ x ∈ L, f x ≤ c) → (L.map f).sum ≤ L.length * c
  | [], _ => by simp
  | x :: L, h => by
    simp only [List.map_cons, List.sum_cons, List.length_cons, Nat.succ_mul]
    have h1 := h x List.mem_cons_self
    have h2 := sum_le f c L (fun y hy => h y (List.mem_cons_of_mem _ hy))
    omega
theorem sum_take {α : Type} (f : α → Nat) (c : Nat) (L : List α) (h : ∀ x ∈ L, f x ≤ c) (k : Nat) (hk : k ≤ 65535) : ((L.take k).map f).sum ≤ 65535 * c := by
  refine Nat.le_trans (sum_le f c _ (fun x hx => h x (List.mem_of_mem_take hx))) (Nat.mul_le_mul_right _ ?_)
  rw [List.length_take]; omega
set_option maxRecDepth 100000 in
set_option maxHeartbeats 8000000 in
theorem plain_any (p : Pl) (m : Mg) (w : World) (hm : RdM w p m) (hc : checkB m = true) :
    Calls Try.prog 25 #[.agg #[.int .i64 m.id, .bool m.rs, .int .i64 m.op, .bool m.aa, .bool m.tc, .bool m.rd, .bool m.ra, .bool m.ad, .bool m.cd, .int .i64 m.rc, .slice p.qa m.qs.length p.qc, .slice p.na m.an.length p.nc, .slice p.ua m.au.length p.uc, .slice p.ra m.ar.length p.rc]] w fun e w' => e = .returned (.int .i64 (plainM m : Int)) ∧ Below w.heap.size w w' := by
  obtain ⟨R, HR⟩ : ∃ R, Hid (plainM m = R) := ⟨_, Lib.hid rfl⟩
  rw [HR.out]
  have hlen := check_len hc
  have hq : ∀ x ∈ m.qs, plainQ x ≤ 300 := fun x hx => by
    obtain ⟨ls, hls⟩ := q_use (List.all_eq_true.1 hlen.2.1 x hx)
    have := is_len hls; unfold plainQ; omega
  have hr : ∀ (L : List Rc), L.all rightB = true → ∀ x ∈ L, plainR x ≤ 70000 := fun L hL x hx => by
    obtain ⟨⟨ls, hls⟩, _, _, hd, _⟩ := right_use (List.all_eq_true.1 hL x hx)
    have := is_len hls; unfold plainR; omega
  have HQ := Lib.hid hq
  have HNr := Lib.hid (hr m.an hlen.2.2.1); have HUr := Lib.hid (hr m.au hlen.2.2.2.1); have HRr := Lib.hid (hr m.ar hlen.2.2.2.2)
  have hl4 : m.qs.length ≤ 65535 ∧ m.an.length ≤ 65535 ∧ m.au.length ≤ 65535 ∧ m.ar.length ≤ 65535 := by
    simp only [checkB, Bool.and_eq_true] at hc
    exact of_decide_eq_true hc.2.2.2.1
  have HM := Lib.hid hm
  obtain ⟨nq, hnq⟩ : ∃ n, m.qs.length = n := ⟨_, rfl⟩
  obtain ⟨nn, hnn⟩ : ∃ n, m.an.length = n := ⟨_, rfl⟩
  obtain ⟨nu, hnu⟩ : ∃ n, m.au.length = n := ⟨_, rfl⟩
  obtain ⟨nr, hnr⟩ : ∃ n, m.ar.length = n := ⟨_, rfl⟩
  have HNQ := Lib.hid hnq; have HNN := Lib.hid hnn; have HNU := Lib.hid hnu; have HNR := Lib.hid hnr
  obtain ⟨qa, qc, na, nc, ua, uc, ra, rcc⟩ := p
  dsimp only
  have hbel := (Below.refl w.heap.size w).alloc (Nat.le_refl _) (.cells #[.int .i64 m.id, .bool m.rs, .int .i64 m.op, .bool m.aa, .bool m.tc, .bool m.rd, .bool m.ra, .bool m.ad, .bool m.cd, .int .i64 m.rc, .slice qa m.qs.length qc, .slice na m.an.length nc, .slice ua m.au.length uc, .slice ra m.ar.length rcc] 37)
  have hm0 : MsgAt (w.alloc (.cells #[.int .i64 m.id, .bool m.rs, .int .i64 m.op, .bool m.aa, .bool m.tc, .bool m.rd, .bool m.ra, .bool m.ad, .bool m.cd, .int .i64 m.rc, .slice qa m.qs.length qc, .slice na m.an.length nc, .slice ua m.au.length uc, .slice ra m.ar.length rcc] 37)) w.heap.size ⟨qa, qc, na, nc, ua, uc, ra, rcc⟩ m := heap_alloc_new _ _
  rw [hnq, hnn, hnu, hnr] at hl4 hbel hm0 ⊢
  obtain ⟨l1, l2, l3, l4⟩ := hl4
  have HBEL := Lib.hid hbel; have HM0 := Lib.hid hm0
  have hsum : (plainM m : Nat) = 12 + ((m.qs.take nq).map plainQ).sum + ((m.an.take nn).map plainR).sum + ((m.au.take nu).map plainR).sum + ((m.ar.take nr).map plainR).sum := by
    rw [← hnq, ← hnn, ← hnu, ← hnr]; simp only [List.take_length]; rfl
  have HS := Lib.hid (hsum.symm.trans HR.out)
  clear hq hr hlen hm hnq hnn hnu hnr hbel hm0 hsum
  go_enter Try.func25, Try.ntmps25
  go_upto_region 2 with (fail)
  obtain ⟨w0, hw0⟩ : ∃ w0, w.alloc (.cells #[.int .i64 m.id, .bool m.rs, .int .i64 m.op, .bool m.aa, .bool m.tc, .bool m.rd, .bool m.ra, .bool m.ad, .bool m.cd, .int .i64 m.rc, .slice qa nq qc, .slice na nn nc, .slice ua nu uc, .slice ra nr rcc] 37) = w0 := ⟨_, rfl⟩
  rw [hw0] at HBEL HM0 ⊢
  clear hw0
  have b10 := HM0.out.box.c10
  dsimp only at b10
  rw [HNQ.out] at b10
  obtain ⟨T0, hT0⟩ : ∃ T : Nat, 12 = T := ⟨_, rfl⟩
  have HT0 : Hid (12 = T0 + ((m.qs.take 0).map plainQ).sum) := Lib.hid (by rw [← hT0]; simp)
  have HTb0 : Hid (T0 ≤ 12) := Lib.hid (by omega)
  have HTT0 := Lib.hid hT0
  have HMx0 := HM0; have HBx0 := HBEL
  clear hT0
  go_wp2_with fail
  go_loopg [3, 5, 15] (nq + 1) (fun gas sv _ kv wr => ∃ (k s : Nat), kv = .int .i64 (k : Int) ∧ sv = .int .i64 (s : Int) ∧ k ≤ nq ∧ k + gas = nq + 1 ∧ Hid (s = T0 + ((m.qs.take k).map plainQ).sum) ∧ Hid (MsgAt wr w.heap.size ⟨qa, qc, na, nc, ua, uc, ra, rcc⟩ m) ∧ Hid (Below w.heap.size w wr))
  case atStart => exact ⟨0, 12, rfl, rfl, by omega, by omega, HT0, HMx0, HBx0⟩
  case round =>
    clear b10
    obtain ⟨k, s, rfl, rfl, hk, hkg, HSS, HMS, HB⟩ := hrel
    have HK := Lib.hid hkg; clear hkg
    have hsb : s ≤ 100000000000 := by
      have h1 := sum_take plainQ 300 m.qs HQ.out k (by omega)
      have h2 := HSS.out; have h3 := HTb0.out; omega
    by_cases hlt : k < nq
    · obtain ⟨x, hx⟩ : ∃ x, m.qs[k]? = some x := ⟨_, List.getElem?_eq_getElem (by have := HNQ.out; omega)⟩
      obtain ⟨g, o, hga, hg, hat⟩ := at_q HM.out.q hx
      obtain ⟨x0, x1, x2⟩ := hat.below HB.out hg
      subst hga
      have hf := HQ.out x (List.mem_of_getElem? hx)
      have HST := Lib.hid (sum_step plainQ hx)
      obtain ⟨v, hv⟩ : ∃ v, plainQ x = v := ⟨_, rfl⟩
      have hvv : x.n.size + 4 = v := hv
      rw [hv] at HST hf
      have hBa := (Below.refl wr.heap.size wr).alloc (Nat.le_refl _) (.cells #[.string x.n, .int .i64 x.t, .int .i64 x.c] 50)
      have HM2 := Lib.hid (HMS.out.below hBa HMS.out.box.lt); have HB2 := Lib.hid (HB.out.trans (hBa.mono HB.out.size))
      have hlw : w.heap.size < wr.heap.size := HMS.out.box.lt
      have zl : (k : Int) < (nq : Int) := by omega
      have HVV := Lib.hid hvv
      have hnb : x.n.size ≤ 300 := by omega
      clear hx hat hv hvv hBa hf
      go_wp2_with fail
      have hkg := HK.out
      go_roundg (gk - 1)
      case rel => exact ⟨k + 1, s + v, by go_num, (by have h := HVV.out; congr 1; omega), by omega, by omega, Lib.hid (by rw [HST.out]; have := HSS.out; omega), HM2, HB2⟩
      case measure => omega
    · have hkn : nq = k := by omega
      subst hkn
      obtain ⟨T1, hT1⟩ : ∃ T, T0 + ((m.qs.take nq).map plainQ).sum = T := ⟨_, rfl⟩
      have HT1 : Hid (s = T1 + ((m.an.take 0).map plainR).sum) := Lib.hid (by rw [HSS.out, hT1]; simp)
      have HTb1 : Hid (T1 ≤ 19660612) := Lib.hid (by have h1 := sum_take plainQ 300 m.qs HQ.out nq (by omega); have h3 := HTb0.out; omega)
      have HTT1 := Lib.hid hT1
      have HMx1 := HMS; have HBx1 := HB
      have b11 := HMS.out.box.c11
      dsimp only at b11
      rw [HNN.out] at b11
      clear hT1 hlt
      go_wp2_with fail
      go_loopg [3, 7, 29] (nn + 1) (fun gas sv _ kv wr => ∃ (k s : Nat), kv = .int .i64 (k : Int) ∧ sv = .int .i64 (s : Int) ∧ k ≤ nn ∧ k + gas = nn + 1 ∧ Hid (s = T1 + ((m.an.take k).map plainR).sum) ∧ Hid (MsgAt wr w.heap.size ⟨qa, qc, na, nc, ua, uc, ra, rcc⟩ m) ∧ Hid (Below w.heap.size w wr))
      case atStart => exact ⟨0, s, rfl, rfl, by omega, by omega, HT1, HMx1, HBx1⟩
      case round =>
        clear b11
        obtain ⟨k, s, rfl, rfl, hk, hkg, HSS, HMS, HB⟩ := hrel
        have HK := Lib.hid hkg; clear hkg
        have hsb : s ≤ 100000000000 := by
          have h1 := sum_take plainR 70000 m.an HNr.out k (by omega)
          have h2 := HSS.out; have h3 := HTb1.out; omega
        by_cases hlt : k < nn
        · obtain ⟨x, hx⟩ : ∃ x, m.an[k]? = some x := ⟨_, List.getElem?_eq_getElem (by have := HNN.out; omega)⟩
          obtain ⟨g, o, hga, hg, hat⟩ := at_r HM.out.n hx
          obtain ⟨x0, x1, x2, x3, x4⟩ := hat.below HB.out hg
          subst hga
          have hf := HNr.out x (List.mem_of_getElem? hx)
          have HST := Lib.hid (sum_step plainR hx)
          obtain ⟨v, hv⟩ : ∃ v, plainR x = v := ⟨_, rfl⟩
          have hvv : x.o.size + 10 + x.d.size = v := hv
          rw [hv] at HST hf
          have hBa := (Below.refl wr.heap.size wr).alloc (Nat.le_refl _) (.cells #[.string x.o, .int .i64 x.t, .int .i64 x.c, .int .i64 x.l, .string x.d] 52)
          have HM2 := Lib.hid (HMS.out.below hBa HMS.out.box.lt); have HB2 := Lib.hid (HB.out.trans (hBa.mono HB.out.size))
          have hlw : w.heap.size < wr.heap.size := HMS.out.box.lt
          have zl : (k : Int) < (nn : Int) := by omega
          have HVV := Lib.hid hvv
          have hnb : x.o.size ≤ 70000 := by omega
          have hdb : x.d.size ≤ 70000 := by omega
          clear hx hat hv hvv hBa hf
          go_wp2_with fail
          have hkg := HK.out
          go_roundg (gk - 1)
          case rel => exact ⟨k + 1, s + v, by go_num, (by have h := HVV.out; congr 1; omega), by omega, by omega, Lib.hid (by rw [HST.out]; have := HSS.out; omega), HM2, HB2⟩
          case measure => omega
        · have hkn : nn = k := by omega
          subst hkn
          obtain ⟨T2, hT2⟩ : ∃ T, T1 + ((m.an.take nn).map plainR).sum = T := ⟨_, rfl⟩
          have HT2 : Hid (s = T2 + ((m.au.take 0).map plainR).sum) := Lib.hid (by rw [HSS.out, hT2]; simp)
          have HTb2 : Hid (T2 ≤ 4607110612) := Lib.hid (by have h1 := sum_take plainR 70000 m.an HNr.out nn (by omega); have h3 := HTb1.out; omega)
          have HTT2 := Lib.hid hT2
          have HMx2 := HMS; have HBx2 := HB
          have b12 := HMS.out.box.c12
          dsimp only at b12
          rw [HNU.out] at b12
          clear hT2 hlt
          go_wp2_with fail
          go_loopg [3, 9, 47] (nu + 1) (fun gas sv _ kv wr => ∃ (k s : Nat), kv = .int .i64 (k : Int) ∧ sv = .int .i64 (s : Int) ∧ k ≤ nu ∧ k + gas = nu + 1 ∧ Hid (s = T2 + ((m.au.take k).map plainR).sum) ∧ Hid (MsgAt wr w.heap.size ⟨qa, qc, na, nc, ua, uc, ra, rcc⟩ m) ∧ Hid (Below w.heap.size w wr))
          case atStart => exact ⟨0, s, rfl, rfl, by omega, by omega, HT2, HMx2, HBx2⟩
          case round =>
            clear b12
            obtain ⟨k, s, rfl, rfl, hk, hkg, HSS, HMS, HB⟩ := hrel
            have HK := Lib.hid hkg; clear hkg
            have hsb : s ≤ 100000000000 := by
              have h1 := sum_take plainR 70000 m.au HUr.out k (by omega)
              have h2 := HSS.out; have h3 := HTb2.out; omega
            by_cases hlt : k < nu
            · obtain ⟨x, hx⟩ : ∃ x, m.au[k]? = some x := ⟨_, List.getElem?_eq_getElem (by have := HNU.out; omega)⟩
              obtain ⟨g, o, hga, hg, hat⟩ := at_r HM.out.u hx
              obtain ⟨x0, x1, x2, x3, x4⟩ := hat.below HB.out hg
              subst hga
              have hf := HUr.out x (List.mem_of_getElem? hx)
              have HST := Lib.hid (sum_step plainR hx)
              obtain ⟨v, hv⟩ : ∃ v, plainR x = v := ⟨_, rfl⟩
              have hvv : x.o.size + 10 + x.d.size = v := hv
              rw [hv] at HST hf
              have hBa := (Below.refl wr.heap.size wr).alloc (Nat.le_refl _) (.cells #[.string x.o, .int .i64 x.t, .int .i64 x.c, .int .i64 x.l, .string x.d] 52)
              have HM2 := Lib.hid (HMS.out.below hBa HMS.out.box.lt); have HB2 := Lib.hid (HB.out.trans (hBa.mono HB.out.size))
              have hlw : w.heap.size < wr.heap.size := HMS.out.box.lt
              have zl : (k : Int) < (nu : Int) := by omega
              have HVV := Lib.hid hvv
              have hnb : x.o.size ≤ 70000 := by omega
              have hdb : x.d.size ≤ 70000 := by omega
              clear hx hat hv hvv hBa hf
              go_wp2_with fail
              have hkg := HK.out
              go_roundg (gk - 1)
              case rel => exact ⟨k + 1, s + v, by go_num, (by have h := HVV.out; congr 1; omega), by omega, by omega, Lib.hid (by rw [HST.out]; have := HSS.out; omega), HM2, HB2⟩
              case measure => omega
            · have hkn : nu = k := by omega
              subst hkn
              obtain ⟨T3, hT3⟩ : ∃ T, T2 + ((m.au.take nu).map plainR).sum = T := ⟨_, rfl⟩
              have HT3 : Hid (s = T3 + ((m.ar.take 0).map plainR).sum) := Lib.hid (by rw [HSS.out, hT3]; simp)
              have HTb3 : Hid (T3 ≤ 9194560612) := Lib.hid (by have h1 := sum_take plainR 70000 m.au HUr.out nu (by omega); have h3 := HTb2.out; omega)
              have HTT3 := Lib.hid hT3
              have HMx3 := HMS; have HBx3 := HB
              have b13 := HMS.out.box.c13
              dsimp only at b13
              rw [HNR.out] at b13
              clear hT3 hlt
              go_wp2_with fail
              go_loopg [3, 11, 65] (nr + 1) (fun gas sv _ kv wr => ∃ (k s : Nat), kv = .int .i64 (k : Int) ∧ sv = .int .i64 (s : Int) ∧ k ≤ nr ∧ k + gas = nr + 1 ∧ Hid (s = T3 + ((m.ar.take k).map plainR).sum) ∧ Hid (MsgAt wr w.heap.size ⟨qa, qc, na, nc, ua, uc, ra, rcc⟩ m) ∧ Hid (Below w.heap.size w wr))
              case atStart => exact ⟨0, s, rfl, rfl, by omega, by omega, HT3, HMx3, HBx3⟩
              case round =>
                clear b13
                obtain ⟨k, s, rfl, rfl, hk, hkg, HSS, HMS, HB⟩ := hrel
                have HK := Lib.hid hkg; clear hkg
                have hsb : s ≤ 100000000000 := by
                  have h1 := sum_take plainR 70000 m.ar HRr.out k (by omega)
                  have h2 := HSS.out; have h3 := HTb3.out; omega
                by_cases hlt : k < nr
                · obtain ⟨x, hx⟩ : ∃ x, m.ar[k]? = some x := ⟨_, List.getElem?_eq_getElem (by have := HNR.out; omega)⟩
                  obtain ⟨g, o, hga, hg, hat⟩ := at_r HM.out.r hx
                  obtain ⟨x0, x1, x2, x3, x4⟩ := hat.below HB.out hg
                  subst hga
                  have hf := HRr.out x (List.mem_of_getElem? hx)
                  have HST := Lib.hid (sum_step plainR hx)
                  obtain ⟨v, hv⟩ : ∃ v, plainR x = v := ⟨_, rfl⟩
                  have hvv : x.o.size + 10 + x.d.size = v := hv
                  rw [hv] at HST hf
                  have hBa := (Below.refl wr.heap.size wr).alloc (Nat.le_refl _) (.cells #[.string x.o, .int .i64 x.t, .int .i64 x.c, .int .i64 x.l, .string x.d] 52)
                  have HM2 := Lib.hid (HMS.out.below hBa HMS.out.box.lt); have HB2 := Lib.hid (HB.out.trans (hBa.mono HB.out.size))
                  have hlw : w.heap.size < wr.heap.size := HMS.out.box.lt
                  have zl : (k : Int) < (nr : Int) := by omega
                  have HVV := Lib.hid hvv
                  have hnb : x.o.size ≤ 70000 := by omega
                  have hdb : x.d.size ≤ 70000 := by omega
                  clear hx hat hv hvv hBa hf
                  go_wp2_with fail
                  have hkg := HK.out
                  go_roundg (gk - 1)
                  case rel => exact ⟨k + 1, s + v, by go_num, (by have h := HVV.out; congr 1; omega), by omega, by omega, Lib.hid (by rw [HST.out]; have := HSS.out; omega), HM2, HB2⟩
                  case measure => omega
                · have hkn : nr = k := by omega
                  subst hkn
                  have hR : s = R := by have h1 := HS.out; have h2 := HSS.out; have t0 := HTT0.out; have t1 := HTT1.out; have t2 := HTT2.out; have t3 := HTT3.out; omega
                  subst hR
                  go_wp2_with fail
                  go_ret
                  exact ⟨rfl, HB.out⟩
end Go.Proofs.Ytabhiangjomaeaa.plainW
