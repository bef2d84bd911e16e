/- wire.Fit: walk. The reference's FitMessage in plain words: it is wire.Fit's answer. gazetteerref2.Without: walk. -/
import Derived.Test.YtnamkladeaohoaaGreatK27
import Derived.Test.YtnamkladeaohoaaGreatK28
import Derived.Test.YtnamkladeaohoaaGreatK24
import Derived.BigRegion
import Derived.Deep.RegionHeld3
import Derived.Laws.CopyOwn
import Derived.Laws.Tables
import Derived.Laws.OwnMore
import Derived.Deep.AppendLies
namespace Go.Proofs.YtnamkladeaohoaaGreat.fitW
open Go.RowKit Go.Proofs.YtnamkladeaohoaaGreat.kit Go.Proofs.YtnamkladeaohoaaGreat.timed Go.Proofs.YtnamkladeaohoaaGreat.nspec Go.Proofs.YtnamkladeaohoaaGreat.wireP Go.Proofs.YtnamkladeaohoaaGreat.wireM Go.Proofs.YtnamkladeaohoaaGreat.wireC Go.Proofs.YtnamkladeaohoaaGreat.packP Go.Proofs.YtnamkladeaohoaaGreat.unpP Go.Proofs.YtnamkladeaohoaaGreat.wpack Go.Proofs.YtnamkladeaohoaaGreat.rows Go.Proofs.YtnamkladeaohoaaGreat.putM Go.Proofs.YtnamkladeaohoaaGreat.ust Go.Proofs.YtnamkladeaohoaaGreat.uend Go.Proofs.YtnamkladeaohoaaGreat.unpack Go.Proofs.YtnamkladeaohoaaGreat.markP Go.Proofs.YtnamkladeaohoaaGreat.fitP Go.Proofs.YtnamkladeaohoaaGreat.fitA Go.Proofs.YtnamkladeaohoaaGreat.fitM Go.Proofs.YtnamkladeaohoaaGreat.cloneR Go.Proofs.YtnamkladeaohoaaGreat.delete Go.Proofs.YtnamkladeaohoaaGreat.sameM
set_option linter.unusedVariables false

theorem via {P G : Prop} (h : (Unit → P) → G) (k : P) : G := h fun _ => k
theorem at_row {lo : Nat} {wr : World} {n : Nat} {xs : List Value} {a : Option Addr} {c : Nat} {t : TypeId} {z : Nat} (h : wr.ownsRow lo t z (.slice a n c) n xs) (hn : 1 ≤ n) : ∃ g, a = some ⟨g, 0, none⟩ ∧ n ≤ c ∧ c ≤ maxLen := by
  rcases h.2 with ⟨_, h2⟩ | ⟨g, cap, cur, h1, h2, h3, h4, h5, h6, h7⟩
  · omega
  · injection h1 with e1 e2 e3
    subst e3
    exact ⟨g, e1, h4, h5⟩
theorem at_type {lo g n c : Nat} {wr : World} {L : List Rc} (h : wr.ownsRow lo 43 5 (.slice (some ⟨g, 0, none⟩) n c) n (L.flatMap Rc.cells)) {i : Nat} {x : Rc} (hx : L[i]? = some x) : wr.cell? ⟨g, i * 5 + 1, none⟩ = some (.int .i64 x.t) := by
  have h1 := h.cells (g := g) rfl (i * 5 + 1) _ (flat_at Rc.cells 5 (fun _ => rfl) _ i x 1 _ hx rfl)
  rw [addr_at, Nat.zero_add] at h1; exact h1
def S4 (w1 : World) (b0 : Nat) (p : Pl) (m : Mg) (w' : World) : Prop := w'.cell? ⟨b0, 10, none⟩ = some (.slice p.qa m.qs.length p.qc) ∧ w'.cell? ⟨b0, 11, none⟩ = some (.slice p.na m.an.length p.nc) ∧ w'.cell? ⟨b0, 12, none⟩ = some (.slice p.ua m.au.length p.uc) ∧ w'.cell? ⟨b0, 13, none⟩ = some (.slice p.ra m.ar.length p.rc) ∧ Below w1.heap.size w1 w'
theorem cells4 {w1 w' : World} {b0 : Nat} {p : Pl} {m : Mg} (h : MsgAt w1 b0 p m) (hB : Below w1.heap.size w1 w') : w'.cell? ⟨b0, 10, none⟩ = some (.slice p.qa m.qs.length p.qc) ∧ w'.cell? ⟨b0, 11, none⟩ = some (.slice p.na m.an.length p.nc) ∧ w'.cell? ⟨b0, 12, none⟩ = some (.slice p.ua m.au.length p.uc) ∧ w'.cell? ⟨b0, 13, none⟩ = some (.slice p.ra m.ar.length p.rc) ∧ Below w1.heap.size w1 w' := by
  have hm : MsgAt w' b0 p m := (hB.block _ (blk_lt h)).trans h
  have bx := hm.box
  exact ⟨bx.c10, bx.c11, bx.c12, bx.c13, hB⟩
def RowO (W : World) (b0 : Nat) (t : TypeId) (z n : Nat) (xs : List Value) : Option (Option Addr × Nat) → Prop
  | none => True
  | some x => W.ownsRow b0 t z (.slice x.1 n x.2) n xs
def ApO : Option (Option Addr × Nat) → Option (Option Addr × Nat) → Prop
  | some x, some y => Apart x.1 y.1
  | _, _ => True
/-- which of the four lists are copied -/
structure Rows (b0 : Nat) (W : World) (m : Mg) (oq on ou or : Option (Option Addr × Nat)) : Prop where
  q : RowO W b0 35 3 m.qs.length (m.qs.flatMap Qn.cells) oq
  n : RowO W b0 43 5 m.an.length (m.an.flatMap Rc.cells) on
  u : RowO W b0 43 5 m.au.length (m.au.flatMap Rc.cells) ou
  r : RowO W b0 43 5 m.ar.length (m.ar.flatMap Rc.cells) or
  nu : ApO on ou
  nr : ApO on or
  ur : ApO ou or
theorem RowO.below {W W' : World} {b0 : Nat} {t : TypeId} {z n : Nat} {xs : List Value} {o : Option (Option Addr × Nat)} (h : RowO W b0 t z n xs o) (hB : Below W.heap.size W W') : RowO W' b0 t z n xs o := by
  cases o with
  | none => trivial
  | some x => exact own_below h hB
theorem ApO.new {w1 w2 : World} {b0 : Nat} {t t' : TypeId} {z z' n n' c : Nat} {a : Option Addr} {xs xs' : List Value} {o : Option (Option Addr × Nat)} (hnew : w2.ownsRow w1.heap.size t z (.slice a n c) n xs) (h : RowO w1 b0 t' z' n' xs' o) : ApO (some (a, c)) o := by
  cases o with
  | none => trivial
  | some x => exact apart_new hnew h
theorem ApO.symm {x y : Option (Option Addr × Nat)} (h : ApO x y) : ApO y x := by
  cases x <;> cases y <;> first | trivial | exact Apart.symm h
section
variable {b0 : Nat} {W W' : World} {m : Mg} {oq on ou or : Option (Option Addr × Nat)} {a : Option Addr} {c : Nat}
theorem Rows.stepQ (h : Rows b0 W m none on ou or) (hnew : W'.ownsRow W.heap.size 35 3 (.slice a m.qs.length c) m.qs.length (m.qs.flatMap Qn.cells)) (hb : b0 ≤ W.heap.size) (hB : Below W.heap.size W W') : Rows b0 W' m (some (a, c)) on ou or :=
  ⟨own_mono hnew hb, h.n.below hB, h.u.below hB, h.r.below hB, h.nu, h.nr, h.ur⟩
theorem Rows.stepN (h : Rows b0 W m oq none ou or) (hnew : W'.ownsRow W.heap.size 43 5 (.slice a m.an.length c) m.an.length (m.an.flatMap Rc.cells)) (hb : b0 ≤ W.heap.size) (hB : Below W.heap.size W W') : Rows b0 W' m oq (some (a, c)) ou or :=
  ⟨h.q.below hB, own_mono hnew hb, h.u.below hB, h.r.below hB, ApO.new hnew h.u, ApO.new hnew h.r, h.ur⟩
theorem Rows.stepU (h : Rows b0 W m oq on none or) (hnew : W'.ownsRow W.heap.size 43 5 (.slice a m.au.length c) m.au.length (m.au.flatMap Rc.cells)) (hb : b0 ≤ W.heap.size) (hB : Below W.heap.size W W') : Rows b0 W' m oq on (some (a, c)) or :=
  ⟨h.q.below hB, h.n.below hB, own_mono hnew hb, h.r.below hB, (ApO.new hnew h.n).symm, h.nr, ApO.new hnew h.r⟩
theorem Rows.stepR (h : Rows b0 W m oq on ou none) (hnew : W'.ownsRow W.heap.size 43 5 (.slice a m.ar.length c) m.ar.length (m.ar.flatMap Rc.cells)) (hb : b0 ≤ W.heap.size) (hB : Below W.heap.size W W') : Rows b0 W' m oq on ou (some (a, c)) :=
  ⟨h.q.below hB, h.n.below hB, h.u.below hB, own_mono hnew hb, h.nu, (ApO.new hnew h.n).symm, (ApO.new hnew h.u).symm⟩
end
theorem leafR {b0 : Nat} {w0 w1 W : World} {limit : Int} {p : Pl} {m : Mg} {aq aN aU aR : Option Addr} {cq cN cU cR : Nat} (hm : MsgAt w1 b0 p m) (hl : w1.heap[b0 + 1]? = some (.cells #[.int .i64 limit] 3 (0, 0))) (hr : MsgAt w1 (b0 + 2) noP noM) (hB : Below b0 w0 w1) (hB' : Below w1.heap.size w1 W) (h : Rows b0 W m (some (aq, cq)) (some (aN, cN)) (some (aU, cU)) (some (aR, cR))) :
    FSt b0 w0 ((((W.setCell ⟨b0, 10, none⟩ (.slice aq m.qs.length cq)).setCell ⟨b0, 11, none⟩ (.slice aN m.an.length cN)).setCell ⟨b0, 12, none⟩ (.slice aU m.au.length cU)).setCell ⟨b0, 13, none⟩ (.slice aR m.ar.length cR)) limit ⟨aq, cq, aN, cN, aU, cU, aR, cR⟩ m :=
  fst_make ((hB'.block _ (blk_lt hm)).trans hm) ((hB'.block _ (blk_lt hl)).trans hl) ((hB'.block _ (blk_lt hr)).trans hr) (hB.trans (hB'.mono (by have := blk_lt hm; omega))) h.q h.n h.u h.r h.nu h.nr h.ur
theorem leaf {b0 : Nat} {w0 w1 W : World} {limit : Int} {p : Pl} {m : Mg} {aq aN aU aR : Option Addr} {cq cN cU cR : Nat} (hm : MsgAt w1 b0 p m) (hl : w1.heap[b0 + 1]? = some (.cells #[.int .i64 limit] 3 (0, 0))) (hr : MsgAt w1 (b0 + 2) noP noM) (hB : Below b0 w0 w1) (hB' : Below w1.heap.size w1 W)
    (hQ : W.ownsRow b0 35 3 (.slice aq m.qs.length cq) m.qs.length (m.qs.flatMap Qn.cells)) (hN : W.ownsRow b0 43 5 (.slice aN m.an.length cN) m.an.length (m.an.flatMap Rc.cells))
    (hU : W.ownsRow b0 43 5 (.slice aU m.au.length cU) m.au.length (m.au.flatMap Rc.cells)) (hR : W.ownsRow b0 43 5 (.slice aR m.ar.length cR) m.ar.length (m.ar.flatMap Rc.cells))
    (nu : Apart aN aU) (nr : Apart aN aR) (ur : Apart aU aR) :
    FSt b0 w0 ((((W.setCell ⟨b0, 10, none⟩ (.slice aq m.qs.length cq)).setCell ⟨b0, 11, none⟩ (.slice aN m.an.length cN)).setCell ⟨b0, 12, none⟩ (.slice aU m.au.length cU)).setCell ⟨b0, 13, none⟩ (.slice aR m.ar.length cR)) limit ⟨aq, cq, aN, cN, aU, cU, aR, cR⟩ m :=
  fst_make ((hB'.block _ (blk_lt hm)).trans hm) ((hB'.block _ (blk_lt hl)).trans hl) ((hB'.block _ (blk_lt hr)).trans hr) (hB.trans (hB'.mono (by have := blk_lt hm; omega))) hQ hN hU hR nu nr ur
set_option maxRecDepth 100000 in
set_option maxHeartbeats 8000000 in
theorem fit_any (p : Pl) (m : Mg) (limit : Int) (w : World) (hr : RdM w p m) (hnil : NilM p m) (hqn : p.qa = none → m.qs.length = 0 ∧ p.qc = 0) (ho : OkW m) :
    Calls Tryz.prog 10 #[.agg #[.int .i64 m.id, .bool m.rs, .int .i64 m.op, .bool m.aa, .bool m.tc, .bool m.rd, .bool m.ra, .bool m.ad, .bool m.cd, .int .i64 m.rc, .slice p.qa m.qs.length p.qc, .slice p.na m.an.length p.nc, .slice p.ua m.au.length p.uc, .slice p.ra m.ar.length p.rc], .int .i64 limit] w (FitE w.heap.size w (fitS m limit)) := by
  obtain ⟨R, hR⟩ : ∃ R, fitS m limit = R := ⟨_, rfl⟩
  rw [hR]
  obtain ⟨hm0, hl0, hz0, hb0⟩ := boxesF_at w p m limit
  have hr0 : RdM (boxesF w p m limit) p m := hr.below hb0 rfl
  have HR := Lib.hid hR; have HO := Lib.hid ho; have HNI := Lib.hid hnil; have HQN := Lib.hid hqn
  obtain ⟨b0, hbb⟩ : ∃ b0, w.heap.size = b0 := ⟨_, rfl⟩
  obtain ⟨W, hW⟩ : ∃ W, boxesF w p m limit = W := ⟨_, rfl⟩
  rw [hW, hbb] at hm0 hl0 hz0 hb0
  rw [hW] at hr0
  rw [hbb]
  have CK := Lib.hid (wcheck_any p m W hr0 ho)
  have HW := Lib.hid hW; have HM0 := Lib.hid hm0; have HL0 := Lib.hid hl0; have HZ0 := Lib.hid hz0; have HB0 := Lib.hid hb0; have HR0 := Lib.hid hr0
  have hx := hm0.box
  have c0 := hx.c0; have c1 := hx.c1; have c2 := hx.c2; have c3 := hx.c3; have c4 := hx.c4; have c5 := hx.c5; have c6 := hx.c6; have c7 := hx.c7; have c8 := hx.c8; have c9 := hx.c9; have c10 := hx.c10; have c11 := hx.c11; have c12 := hx.c12; have c13 := hx.c13
  clear hx hR hm0 hl0 hz0 hb0 hr0 hW hr hnil hqn ho
  go_enter Tryz.func10, Tryz.ntmps10
  go_upto_region 1 with fail
  change Code.wp _ _ _ _ (boxesF w p m limit)
  rw [HW.out]
  trace "1"
  go_wp2_with fail
  refine CK.out.mono ?_
  rintro e w1 ⟨rfl, hB1⟩
  clear c0 c1 c2 c3 c4 c5 c6 c7 c8 c9 c10 c11 c12 c13
  have HM1 : Hid (MsgAt w1 b0 p m) := Lib.hid ((hB1.block _ (blk_lt HM0.out)).trans HM0.out)
  have HL1 := Lib.hid ((hB1.block _ (blk_lt HL0.out)).trans HL0.out)
  have HZ1 : Hid (MsgAt w1 (b0 + 2) noP noM) := Lib.hid ((hB1.block _ (blk_lt HZ0.out)).trans HZ0.out)
  have HB1 := Lib.hid (HB0.out.trans (hB1.mono (by have := blk_lt HM0.out; omega)))
  have HR1 := Lib.hid (HR0.out.below hB1 rfl)
  clear hB1 HM0 HL0 HZ0 HB0 HR0 CK
  by_cases hc : checkB m = false
  · have HRR : Hid (R = (noM, 8)) := Lib.hid (by rw [← HR.out]; unfold fitS; rw [if_pos hc])
    have hz : MsgAt w1 (b0 + 1 + 1) noP noM := HZ1.out
    have hx := hz.box
    have c0 := hx.c0; have c1 := hx.c1; have c2 := hx.c2; have c3 := hx.c3; have c4 := hx.c4; have c5 := hx.c5; have c6 := hx.c6; have c7 := hx.c7; have c8 := hx.c8; have c9 := hx.c9; have c10 := hx.c10; have c11 := hx.c11; have c12 := hx.c12; have c13 := hx.c13
    have hff := fun j => udoor.msg_frozen hz j
    have f0 := hff 0; have f1 := hff 1; have f2 := hff 2; have f3 := hff 3; have f4 := hff 4; have f5 := hff 5; have f6 := hff 6; have f7 := hff 7; have f8 := hff 8; have f9 := hff 9; have f10 := hff 10; have f11 := hff 11; have f12 := hff 12; have f13 := hff 13
    rw [hc]
    clear hx hff
    trace "2"
    go_wp2_with fail
    exact fin _ rfl rfl (putM_blk noP noM hz (by rfl)) (by rw [HRR.out]) (by rw [HRR.out]; rfl) (Own4.none _ _) (putM_below noP noM HB1.out (by omega))
  · have hc1 : checkB m = true := by simpa using hc
    have HF := Lib.hid (few_checked hc1)
    have HR2 : Hid (fitU limit (m.ar.length + 1) m = R) := Lib.hid (by rw [← HR.out]; unfold fitS; rw [if_neg hc])
    rw [hc1]
    clear HR hc hc1
    have HLE := Lib.hid (show b0 ≤ w1.heap.size by have := blk_lt HM1.out; omega)
    have CQ : Hid (∀ wx : World, Below w1.heap.size w1 wx → Calls Tryz.prog 34 #[.slice p.qa m.qs.length p.qc] wx fun e w' => ∃ a' c', e = .returned (.slice a' m.qs.length c') ∧ (w'.cell? ⟨b0, 10, none⟩ = some (.slice p.qa m.qs.length p.qc) ∧ w'.cell? ⟨b0, 11, none⟩ = some (.slice p.na m.an.length p.nc) ∧ w'.cell? ⟨b0, 12, none⟩ = some (.slice p.ua m.au.length p.uc) ∧ w'.cell? ⟨b0, 13, none⟩ = some (.slice p.ra m.ar.length p.rc) ∧ Below w1.heap.size w1 w') ∧ ∀ on ou or, Rows b0 wx m none on ou or → Rows b0 w' m (some (a', c')) on ou or) := Lib.hid (fun wx hB => (clone_qn p.qa m.qs.length p.qc m.qs wx rfl (HR1.out.below hB rfl).q HQN.out HF.out.ql).mono (fun e w' ⟨a', c', h1, h2, h3⟩ => ⟨a', c', h1, cells4 HM1.out (hB.trans (h3.mono hB.size)), fun _ _ _ h => h.stepQ h2 (Nat.le_trans HLE.out hB.size) h3⟩))
    have CN : Hid (∀ wx : World, Below w1.heap.size w1 wx → Calls Tryz.prog 35 #[.slice p.na m.an.length p.nc] wx fun e w' => ∃ a' c', e = .returned (.slice a' m.an.length c') ∧ (w'.cell? ⟨b0, 10, none⟩ = some (.slice p.qa m.qs.length p.qc) ∧ w'.cell? ⟨b0, 11, none⟩ = some (.slice p.na m.an.length p.nc) ∧ w'.cell? ⟨b0, 12, none⟩ = some (.slice p.ua m.au.length p.uc) ∧ w'.cell? ⟨b0, 13, none⟩ = some (.slice p.ra m.ar.length p.rc) ∧ Below w1.heap.size w1 w') ∧ ∀ oq ou or, Rows b0 wx m oq none ou or → Rows b0 w' m oq (some (a', c')) ou or) := Lib.hid (fun wx hB => (clone_rec p.na m.an.length p.nc m.an wx rfl (HR1.out.below hB rfl).n HNI.out.n HF.out.nl).mono (fun e w' ⟨a', c', h1, h2, h3⟩ => ⟨a', c', h1, cells4 HM1.out (hB.trans (h3.mono hB.size)), fun _ _ _ h => h.stepN h2 (Nat.le_trans HLE.out hB.size) h3⟩))
    have CU : Hid (∀ wx : World, Below w1.heap.size w1 wx → Calls Tryz.prog 35 #[.slice p.ua m.au.length p.uc] wx fun e w' => ∃ a' c', e = .returned (.slice a' m.au.length c') ∧ (w'.cell? ⟨b0, 10, none⟩ = some (.slice p.qa m.qs.length p.qc) ∧ w'.cell? ⟨b0, 11, none⟩ = some (.slice p.na m.an.length p.nc) ∧ w'.cell? ⟨b0, 12, none⟩ = some (.slice p.ua m.au.length p.uc) ∧ w'.cell? ⟨b0, 13, none⟩ = some (.slice p.ra m.ar.length p.rc) ∧ Below w1.heap.size w1 w') ∧ ∀ oq on or, Rows b0 wx m oq on none or → Rows b0 w' m oq on (some (a', c')) or) := Lib.hid (fun wx hB => (clone_rec p.ua m.au.length p.uc m.au wx rfl (HR1.out.below hB rfl).u HNI.out.u HF.out.ul).mono (fun e w' ⟨a', c', h1, h2, h3⟩ => ⟨a', c', h1, cells4 HM1.out (hB.trans (h3.mono hB.size)), fun _ _ _ h => h.stepU h2 (Nat.le_trans HLE.out hB.size) h3⟩))
    have CR : Hid (∀ wx : World, Below w1.heap.size w1 wx → Calls Tryz.prog 35 #[.slice p.ra m.ar.length p.rc] wx fun e w' => ∃ a' c', e = .returned (.slice a' m.ar.length c') ∧ (w'.cell? ⟨b0, 10, none⟩ = some (.slice p.qa m.qs.length p.qc) ∧ w'.cell? ⟨b0, 11, none⟩ = some (.slice p.na m.an.length p.nc) ∧ w'.cell? ⟨b0, 12, none⟩ = some (.slice p.ua m.au.length p.uc) ∧ w'.cell? ⟨b0, 13, none⟩ = some (.slice p.ra m.ar.length p.rc) ∧ Below w1.heap.size w1 w') ∧ ∀ oq on ou, Rows b0 wx m oq on ou none → Rows b0 w' m oq on ou (some (a', c'))) := Lib.hid (fun wx hB => (clone_rec p.ra m.ar.length p.rc m.ar wx rfl (HR1.out.below hB rfl).r HNI.out.r HF.out.rl).mono (fun e w' ⟨a', c', h1, h2, h3⟩ => ⟨a', c', h1, cells4 HM1.out (hB.trans (h3.mono hB.size)), fun _ _ _ h => h.stepR h2 (Nat.le_trans HLE.out hB.size) h3⟩))
    have hS0 := cells4 HM1.out (Below.refl w1.heap.size w1).drew
    have f10 : ∀ w', Below w1.heap.size w1 w' → w'.frozen? ⟨b0, 10, none⟩ = false := fun w' hB => udoor.msg_frozen ((hB.block _ (blk_lt HM1.out)).trans HM1.out) 10
    obtain ⟨c10, c11, c12, c13, hBd⟩ := hS0
    have hRw0 : Rows b0 w1.drew m none none none none := ⟨trivial, trivial, trivial, trivial, trivial, trivial, trivial⟩
    trace "3"
    go_upto_region 4 with fail
    refine' via (P := ∀ (aq : Option Addr) (cq : Nat) (aN : Option Addr) (cN : Nat) (aU : Option Addr) (cU : Nat) (aR : Option Addr) (cR : Nat) (W : World), Below w1.heap.size w1 W → Rows b0 W m (some (aq, cq)) (some (aN, cN)) (some (aU, cU)) (some (aR, cR)) → (_ : Option Addr → Nat → Option Addr → Nat → Option Addr → Nat → Option Addr → Nat → World → Prop) aq cq aN cN aU cU aR cR W) (fun key => ?reg) ?key
    case reg =>
      refine heldG.regionG (S4 w1 b0 p m) (fun i => decide (13 ≤ i)) (by kernel_rfl) ?_
      have hS0 : S4 w1 b0 p m w1.drew := cells4 HM1.out (Below.refl w1.heap.size w1).drew
      trace "takes"
      refine heldG.takeG (i := 0) (v := .pointer (some ⟨b0, 10, none⟩)) rfl (by kernel_rfl) (by kernel_rfl) (by kernel_rfl) (fun _ _ _ h => h) (by kernel_rfl) rfl (Or.inl ⟨by rfl, ?_⟩) hS0 ?_
      · intro w hSw
        obtain ⟨k10, k11, k12, k13, kB⟩ := hSw
        go_simp
      try simp only [Act.put, List.setIfInBounds_toArray]
      refine heldG.takeG (i := 1) (v := .slice p.qa m.qs.length p.qc) rfl (by kernel_rfl) (by kernel_rfl) (by kernel_rfl) (fun _ _ _ h => h) (by kernel_rfl) rfl (Or.inl ⟨by rfl, ?_⟩) hS0 ?_
      · intro w hSw
        obtain ⟨k10, k11, k12, k13, kB⟩ := hSw
        go_simp
      try simp only [Act.put]
      refine heldG.takeG (i := 3) (v := .pointer (some ⟨b0, 11, none⟩)) rfl (by kernel_rfl) (by kernel_rfl) (by kernel_rfl) (fun _ _ _ h => h) (by kernel_rfl) rfl (Or.inl ⟨by rfl, ?_⟩) hS0 ?_
      · intro w hSw
        obtain ⟨k10, k11, k12, k13, kB⟩ := hSw
        go_simp
      try simp only [Act.put]
      refine heldG.takeG (i := 4) (v := .slice p.na m.an.length p.nc) rfl (by kernel_rfl) (by kernel_rfl) (by kernel_rfl) (fun _ _ _ h => h) (by kernel_rfl) rfl (Or.inl ⟨by rfl, ?_⟩) hS0 ?_
      · intro w hSw
        obtain ⟨k10, k11, k12, k13, kB⟩ := hSw
        go_simp
      try simp only [Act.put]
      refine heldG.takeG (i := 6) (v := .pointer (some ⟨b0, 12, none⟩)) rfl (by kernel_rfl) (by kernel_rfl) (by kernel_rfl) (fun _ _ _ h => h) (by kernel_rfl) rfl (Or.inl ⟨by rfl, ?_⟩) hS0 ?_
      · intro w hSw
        obtain ⟨k10, k11, k12, k13, kB⟩ := hSw
        go_simp
      try simp only [Act.put]
      refine heldG.takeG (i := 7) (v := .slice p.ua m.au.length p.uc) rfl (by kernel_rfl) (by kernel_rfl) (by kernel_rfl) (fun _ _ _ h => h) (by kernel_rfl) rfl (Or.inl ⟨by rfl, ?_⟩) hS0 ?_
      · intro w hSw
        obtain ⟨k10, k11, k12, k13, kB⟩ := hSw
        go_simp
      try simp only [Act.put]
      refine heldG.takeG (i := 9) (v := .pointer (some ⟨b0, 13, none⟩)) rfl (by kernel_rfl) (by kernel_rfl) (by kernel_rfl) (fun _ _ _ h => h) (by kernel_rfl) rfl (Or.inl ⟨by rfl, ?_⟩) hS0 ?_
      · intro w hSw
        obtain ⟨k10, k11, k12, k13, kB⟩ := hSw
        go_simp
      try simp only [Act.put]
      refine heldG.takeG (i := 10) (v := .slice p.ra m.ar.length p.rc) rfl (by kernel_rfl) (by kernel_rfl) (by kernel_rfl) (fun _ _ _ h => h) (by kernel_rfl) rfl (Or.inl ⟨by rfl, ?_⟩) hS0 ?_
      · intro w hSw
        obtain ⟨k10, k11, k12, k13, kB⟩ := hSw
        go_simp
      try simp only [Act.put]
      trace "tree"
      refine heldG.readyG (rs := [2]) (by kernel_rfl) (by simp) ?_
      refine heldG.AllG.cons rfl (fun KK hKK => ?_) heldG.AllG.nil
      go_simp
      refine (CQ.out _ (by assumption)).mono ?_
      rintro e w' ⟨aq, cq, rfl, hSz, hst⟩
      have hRw := hst _ _ _ (by assumption)
      have hBy := hSz.2.2.2.2
      clear hst
      dsimp only
      refine hKK.out _ _ (fun _ => hSz) ?_; clear hKK KK
      try simp only [Act.put, List.setIfInBounds_toArray, List.set_cons_zero, List.set_cons_succ]
      refine heldG.takeG (i := 12) (v := .pointer (some ⟨b0, 10, none⟩)) rfl (by kernel_rfl) (by kernel_rfl) (by kernel_rfl) (fun _ _ _ h => h) (by kernel_rfl) rfl (Or.inl ⟨by rfl, ?_⟩) hSz ?_
      · intro w hSw
        obtain ⟨k10, k11, k12, k13, kB⟩ := hSw
        go_simp
      try simp only [Act.put, List.setIfInBounds_toArray]
      refine heldG.readyG (rs := [5]) (by kernel_rfl) (by simp) ?_
      refine heldG.AllG.cons rfl (fun KK hKK => ?_) heldG.AllG.nil
      go_simp
      refine (CN.out _ (by assumption)).mono ?_
      rintro e w' ⟨aN, cN, rfl, hSz, hst⟩
      have hRw := hst _ _ _ (by assumption)
      have hBy := hSz.2.2.2.2
      clear hst
      dsimp only
      refine hKK.out _ _ (fun _ => hSz) ?_; clear hKK KK
      try simp only [Act.put, List.setIfInBounds_toArray, List.set_cons_zero, List.set_cons_succ]
      refine heldG.readyG (rs := [8]) (by kernel_rfl) (by simp) ?_
      refine heldG.AllG.cons rfl (fun KK hKK => ?_) heldG.AllG.nil
      go_simp
      refine (CU.out _ (by assumption)).mono ?_
      rintro e w' ⟨aU, cU, rfl, hSz, hst⟩
      have hRw := hst _ _ _ (by assumption)
      have hBy := hSz.2.2.2.2
      clear hst
      dsimp only
      refine hKK.out _ _ (fun _ => hSz) ?_; clear hKK KK
      try simp only [Act.put, List.setIfInBounds_toArray, List.set_cons_zero, List.set_cons_succ]
      refine heldG.readyG (rs := [11]) (by kernel_rfl) (by simp) ?_
      refine heldG.AllG.cons rfl (fun KK hKK => ?_) heldG.AllG.nil
      go_simp
      refine (CR.out _ (by assumption)).mono ?_
      rintro e w' ⟨aR, cR, rfl, hSz, hst⟩
      have hRw := hst _ _ _ (by assumption)
      have hBy := hSz.2.2.2.2
      clear hst
      dsimp only
      refine hKK.out _ _ (fun _ => hSz) ?_; clear hKK KK
      try simp only [Act.put, List.setIfInBounds_toArray, List.set_cons_zero, List.set_cons_succ]
      exact key () aq cq aN cN aU cU aR cR _ hBy hRw
    case key =>
      intro aq cq aN cN aU cU aR cR W hBy hRw
      try dsimp only
      have hMW : MsgAt W b0 p m := (hBy.block _ (blk_lt HM1.out)).trans HM1.out
      have bx := hMW.box
      have c10 := bx.c10; have c11 := bx.c11; have c12 := bx.c12; have c13 := bx.c13
      have g10 := udoor.msg_frozen hMW 10; have g11 := udoor.msg_frozen hMW 11; have g12 := udoor.msg_frozen hMW 12; have g13 := udoor.msg_frozen hMW 13
      have HS := Lib.hid (leafR HM1.out HL1.out HZ1.out HB1.out hBy hRw)
      clear bx hMW
      trace "key"
      refine heldG.readyG (rs := [13]) (by kernel_rfl) (by simp) ?_
      refine heldG.AllG.cons rfl (fun KK hKK => ?_) heldG.AllG.nil
      go_simp
      refine hKK.out _ _ (fun h => absurd h (by decide)) ?_; clear hKK KK
      try simp only [Act.put, List.setIfInBounds_toArray, List.set_cons_zero, List.set_cons_succ]
      refine heldG.readyG (rs := [14]) (by kernel_rfl) (by simp) ?_
      refine heldG.AllG.cons rfl (fun KK hKK => ?_) heldG.AllG.nil
      go_simp
      refine hKK.out _ _ (fun h => absurd h (by decide)) ?_; clear hKK KK
      try simp only [Act.put, List.setIfInBounds_toArray, List.set_cons_zero, List.set_cons_succ]
      refine heldG.readyG (rs := [15]) (by kernel_rfl) (by simp) ?_
      refine heldG.AllG.cons rfl (fun KK hKK => ?_) heldG.AllG.nil
      go_simp
      refine hKK.out _ _ (fun h => absurd h (by decide)) ?_; clear hKK KK
      try simp only [Act.put, List.setIfInBounds_toArray, List.set_cons_zero, List.set_cons_succ]
      refine heldG.readyG (rs := [16]) (by kernel_rfl) (by simp) ?_
      refine heldG.AllG.cons rfl (fun KK hKK => ?_) heldG.AllG.nil
      go_simp
      refine hKK.out _ _ (fun h => absurd h (by decide)) ?_; clear hKK KK
      try simp only [Act.put, List.setIfInBounds_toArray, List.set_cons_zero, List.set_cons_succ]
      refine heldG.readyG (rs := [17]) (by kernel_rfl) (by simp) ?_
      refine heldG.AllG.cons rfl (fun KK hKK => ?_) heldG.AllG.nil
      go_simp
      refine hKK.out _ _ (fun h => absurd h (by decide)) ?_; clear hKK KK
      try simp only [Act.put, List.setIfInBounds_toArray, List.set_cons_zero, List.set_cons_succ]
      refine heldG.readyG (rs := [18]) (by kernel_rfl) (by simp) ?_
      refine heldG.AllG.cons rfl (fun KK hKK => ?_) heldG.AllG.nil
      go_simp
      refine hKK.out _ _ (fun h => absurd h (by decide)) ?_; clear hKK KK
      try simp only [Act.put, List.setIfInBounds_toArray, List.set_cons_zero, List.set_cons_succ]
      refine heldG.readyG (rs := [19]) (by kernel_rfl) (by simp) ?_
      refine heldG.AllG.cons rfl (fun KK hKK => ?_) heldG.AllG.nil
      go_simp
      refine hKK.out _ _ (fun h => absurd h (by decide)) ?_; clear hKK KK
      try simp only [Act.put, List.setIfInBounds_toArray, List.set_cons_zero, List.set_cons_succ]
      refine heldG.doneG (by kernel_rfl) ?_ _
      clear c10 c11 c12 c13 g10 g11 g12 g13 hBy hRw
      obtain ⟨W0, hW0⟩ : ∃ W0, (((W.setCell ⟨b0, 10, none⟩ (.slice aq m.qs.length cq)).setCell ⟨b0, 11, none⟩ (.slice aN m.an.length cN)).setCell ⟨b0, 12, none⟩ (.slice aU m.au.length cU)).setCell ⟨b0, 13, none⟩ (.slice aR m.ar.length cR) = W0 := ⟨_, rfl⟩
      rw [hW0] at HS ⊢
      have HAL : Hid (m.ar.length ≤ 1099511627776) := Lib.hid HF.out.rl
      clear hW0 HM1 HL1 HZ1 HB1 HR1 HNI HQN HF CQ CN CU CR HLE hRw0 f10 hBd
      try clear c10 c11 c12 c13
      trace "loop"
      go_wp2_with fail
      go_loopg [7] (m.ar.length + 1) (fun gas _ wr => ∃ (pl : Pl) (x : Mg), x.ar.length + 1 ≤ gas ∧ Hid (FSt b0 w wr limit pl x) ∧ Hid (OkW x) ∧ Hid (x.ar.length ≤ 1099511627776) ∧ Hid (fitU limit gas x = R))
      case atStart => exact ⟨_, m, Nat.le_refl _, HS, HO, HAL, HR2⟩
      case round =>
        clear HS HO HAL HR2
        obtain ⟨pl, x, hg, HS, HO, HAL, HR⟩ := hrel
        have HG := Lib.hid hg; clear hg
        have CF := Lib.hid (fits_any pl x (b0 + 1) limit wr HS.out.own.rd HO.out HS.out.limC)
        have bx := HS.out.msg.box
        have c0 := bx.c0; have c1 := bx.c1; have c2 := bx.c2; have c3 := bx.c3; have c4 := bx.c4; have c5 := bx.c5; have c6 := bx.c6; have c7 := bx.c7; have c8 := bx.c8; have c9 := bx.c9; have c10 := bx.c10; have c11 := bx.c11; have c12 := bx.c12; have c13 := bx.c13
        clear bx
        trace "5"
        go_wp2_with fail
        refine CF.out.mono ?_
        rintro e w1 ⟨rfl, hB1⟩
        have HS1 := Lib.hid (HS.out.below hB1)
        clear c0 c1 c2 c3 c4 c5 c6 c7 c8 c9 c10 c11 c12 c13
        clear hB1 HS CF
        cases hft : fitsB x limit with
        | true =>
          have HRR : Hid (R = (x, 0)) := Lib.hid (by
            rw [← HR.out]
            obtain ⟨f, hf⟩ : ∃ f, gk = f + 1 := ⟨gk - 1, by have := HG.out; omega⟩
            rw [hf]; unfold fitU; rw [if_pos hft])
          have hM := HS1.out.msg; have hZ : MsgAt w1 (b0 + 1 + 1) noP noM := HS1.out.res
          clear HR HG
          trace "14"
          go_wp2_with (first | (refine wpList_load_row rfl 25 _ rfl b0 rfl 25 _ _ _ hM Tryz.underlying25 rfl (by rw [infoMsg]; rfl) ?_) | (refine wpList_store_row rfl 25 _ _ rfl (b0 + 2) _ rfl rfl 25 _ hZ (by rw [infoMsg]; rfl) (by rfl) (cells_all _ _) ?_))
          have hM2 : MsgAt (w1.setRow (b0 + 2) (cellsM pl x)) (b0 + 2) pl x := setRow_heap _ _ _ _ _ _ HS1.out.res
          have hO2 : Own4 b0 (w1.setRow (b0 + 2) (cellsM pl x)) pl x := HS1.out.own.keep fun j c t hj ht => (setRow_other _ _ _ _ (other_t hj HS1.out.res (by rcases ht with rfl | rfl <;> decide))).trans hj
          exact fin _ rfl rfl hM2 (by rw [HRR.out]) (by rw [HRR.out]; rfl) hO2 (below_setRow HS1.out.bel (by omega) _)
        | false =>
          obtain ⟨n, hn⟩ : ∃ n, x.ar.length = n := ⟨_, rfl⟩
          have HN := Lib.hid hn
          have hnb : n ≤ 1099511627776 := by rw [← hn]; exact HAL.out
          have HFT := Lib.hid hft
          have c13 := HS1.out.msg.box.c13
          rw [hn] at c13
          obtain ⟨RK, hRK⟩ : ∃ RK, lastK x.ar n = RK := ⟨_, rfl⟩
          have HRK := Lib.hid hRK; have HRK0 := Lib.hid hRK
          clear hn hft hRK
          trace "6"
          go_wp2_with fail
          clear c13
          obtain ⟨gk', hgk'⟩ : ∃ g, g = gk := ⟨_, rfl⟩
          rw [← hgk'] at HG HR
          go_loopg [7] (n + 1) (fun gas kv wr => ∃ j : Nat, kv = .int .i64 ((j : Int) - 1) ∧ j ≤ n ∧ j + 1 = gas ∧ w1 = wr ∧ Hid (lastK x.ar j = RK))
          case atStart => exact ⟨n, by go_num, Nat.le_refl _, rfl, rfl, HRK⟩
          case round =>
            clear HRK
            obtain ⟨j, hkv, hj, hjg, rfl, HRK⟩ := hrel
            have HJG := Lib.hid hjg; clear hjg
            have bx := HS1.out.msg.box
            have c13 := bx.c13
            rw [HN.out] at c13
            by_cases hj0 : j = 0
            · subst hj0
              have hkv' := hkv.trans (show Value.int .i64 (((0 : Nat) : Int) - 1) = Value.int .i64 (-1) from rfl)
              subst hkv'
              have HRN : Hid (RK = none) := Lib.hid (by rw [← HRK.out]; rfl)
              have c11 := bx.c11; have c12 := bx.c12; have c4 := bx.c4
              have f11 := udoor.msg_frozen HS1.out.msg 11; have f12 := udoor.msg_frozen HS1.out.msg 12; have f4 := udoor.msg_frozen HS1.out.msg 4
              clear bx hkv HJG HRK
              trace "10"
              go_upto_region 11 with fail
              have HS2 := Lib.hid HS1.out.bare
              obtain ⟨w2, hw2⟩ : ∃ w2, ((w1.setCell ⟨b0, 11, none⟩ (.slice none 0 0)).setCell ⟨b0, 12, none⟩ (.slice none 0 0)).setCell ⟨b0, 4, none⟩ (.bool true) = w2 := ⟨_, rfl⟩
              rw [hw2] at HS2 ⊢
              clear hw2 c11 c12 c4 c13 f11 f12 f4
              have CF := Lib.hid (fits_any _ (bare x) (b0 + 1) limit w2 HS2.out.own.rd (ok_bare HO.out) HS2.out.limC)
              have by_ := HS2.out.msg.box
              have c0 : w2.cell? ⟨b0, 0, none⟩ = some (.int .i64 x.id) := by_.c0
              have c1 : w2.cell? ⟨b0, 1, none⟩ = some (.bool x.rs) := by_.c1
              have c2 : w2.cell? ⟨b0, 2, none⟩ = some (.int .i64 x.op) := by_.c2
              have c3 : w2.cell? ⟨b0, 3, none⟩ = some (.bool x.aa) := by_.c3
              have c4 : w2.cell? ⟨b0, 4, none⟩ = some (.bool true) := by_.c4
              have c5 : w2.cell? ⟨b0, 5, none⟩ = some (.bool x.rd) := by_.c5
              have c6 : w2.cell? ⟨b0, 6, none⟩ = some (.bool x.ra) := by_.c6
              have c7 : w2.cell? ⟨b0, 7, none⟩ = some (.bool x.ad) := by_.c7
              have c8 : w2.cell? ⟨b0, 8, none⟩ = some (.bool x.cd) := by_.c8
              have c9 : w2.cell? ⟨b0, 9, none⟩ = some (.int .i64 x.rc) := by_.c9
              have c10 : w2.cell? ⟨b0, 10, none⟩ = some (.slice pl.qa x.qs.length pl.qc) := by_.c10
              have c11 : w2.cell? ⟨b0, 11, none⟩ = some (.slice none 0 0) := by_.c11
              have c12 : w2.cell? ⟨b0, 12, none⟩ = some (.slice none 0 0) := by_.c12
              have c13 : w2.cell? ⟨b0, 13, none⟩ = some (.slice pl.ra x.ar.length pl.rc) := by_.c13
              clear by_
              trace "11"
              go_wp2_with fail
              refine CF.out.mono ?_
              rintro e w3 ⟨rfl, hB3⟩
              have HS3 := Lib.hid (HS2.out.below hB3)
              clear c0 c1 c2 c3 c4 c5 c6 c7 c8 c9 c10 c11 c12 c13
              clear hB3 HS2 CF
              have HF2 : Hid ((if fitsB (bare x) limit = true then (bare x, 0) else (noM, 12)) = R) := Lib.hid (by
                rw [← HR.out]
                obtain ⟨f, hf⟩ : ∃ f, gk' = f + 1 := ⟨gk' - 1, by have := HG.out; omega⟩
                rw [hf]
                conv => rhs; unfold fitU
                rw [if_neg (show ¬ fitsB x limit = true by rw [HFT.out]; decide), HN.out, HRK0.out, HRN.out])
              cases hft : fitsB (bare x) limit with
              | true =>
                have HRR : Hid (R = (bare x, 0)) := Lib.hid (by rw [← HF2.out, if_pos hft])
                have hM := HS3.out.msg; have hZ : MsgAt w3 (b0 + 1 + 1) noP noM := HS3.out.res
                clear HR HG HF2
                trace "14b"
                go_wp2_with (first | (refine wpList_load_row rfl 25 _ rfl b0 rfl 25 _ _ _ hM Tryz.underlying25 rfl (by rw [infoMsg]; rfl) ?_) | (refine wpList_store_row rfl 25 _ _ rfl (b0 + 2) _ rfl rfl 25 _ hZ (by rw [infoMsg]; rfl) (by rfl) (cells_all _ _) ?_))
                have hM2 := setRow_heap w3 (b0 + 2) _ (cellsM { pl with na := none, nc := 0, ua := none, uc := 0 } (bare x)) _ _ HS3.out.res
                have hO2 : Own4 b0 (w3.setRow (b0 + 2) (cellsM { pl with na := none, nc := 0, ua := none, uc := 0 } (bare x))) { pl with na := none, nc := 0, ua := none, uc := 0 } (bare x) := HS3.out.own.keep fun j c t hj ht => (setRow_other _ _ _ _ (other_t hj HS3.out.res (by rcases ht with rfl | rfl <;> decide))).trans hj
                exact fin _ rfl rfl hM2 (by rw [HRR.out]) (by rw [HRR.out]; rfl) hO2 (below_setRow HS3.out.bel (by omega) _)
              | false =>
                have HRR : Hid (R = (noM, 12)) := Lib.hid (by rw [← HF2.out, if_neg (by rw [hft]; decide)])
                have hz : MsgAt w3 (b0 + 1 + 1) noP noM := HS3.out.res
                have hx := hz.box
                have c0 := hx.c0; have c1 := hx.c1; have c2 := hx.c2; have c3 := hx.c3; have c4 := hx.c4; have c5 := hx.c5; have c6 := hx.c6; have c7 := hx.c7; have c8 := hx.c8; have c9 := hx.c9; have c10 := hx.c10; have c11 := hx.c11; have c12 := hx.c12; have c13 := hx.c13
                have hff := fun j => udoor.msg_frozen hz j
                have f0 := hff 0; have f1 := hff 1; have f2 := hff 2; have f3 := hff 3; have f4 := hff 4; have f5 := hff 5; have f6 := hff 6; have f7 := hff 7; have f8 := hff 8; have f9 := hff 9; have f10 := hff 10; have f11 := hff 11; have f12 := hff 12; have f13 := hff 13
                clear hx hff HR HG HF2
                trace "12"
                go_wp2_with fail
                exact fin _ rfl rfl (putM_blk noP noM hz (by rfl)) (by rw [HRR.out]) (by rw [HRR.out]; rfl) (Own4.none _ _) (putM_below noP noM HS3.out.bel (by omega))
            · obtain ⟨i, rfl⟩ : ∃ i, j = i + 1 := ⟨j - 1, by omega⟩
              have hkv' := hkv.trans (show Value.int .i64 (((i + 1 : Nat) : Int) - 1) = Value.int .i64 (i : Int) by congr 1; omega)
              subst hkv'
              have hin : (i : Int) < (n : Int) := by omega
              obtain ⟨r, hr⟩ : ∃ r, x.ar[i]? = some r := ⟨_, List.getElem?_eq_getElem (by rw [HN.out]; omega)⟩
              have hown := HS1.out.own.r
              rw [HN.out] at hown
              obtain ⟨g, ha, hc1, hc2⟩ := at_row hown (by omega)
              rw [ha] at hown c13
              have HA := Lib.hid ha
              have hty := at_type hown hr
              obtain ⟨C, hC⟩ : ∃ C, pl.rc = C := ⟨_, rfl⟩
              have HC := Lib.hid hC
              rw [hC] at hown c13 hc1 hc2
              have HOW := Lib.hid hown
              have HCM := Lib.hid hc2; have HCN := Lib.hid hc1
              unfold maxLen at hc2
              clear bx hkv hC ha hown
              by_cases ht : r.t = 41
              · have HR2 : Hid (lastK x.ar i = RK) := Lib.hid (by rw [← HRK.out]; conv => rhs; unfold lastK; rw [hr]; simp only; rw [if_pos ht])
                rw [ht] at hty
                clear HRK hr ht
                trace "8"
                go_wp2_with fail
                have hjg := HJG.out
                go_roundg (gk - 1)
                case rel => exact ⟨i, by go_num, by omega, by omega, rfl, HR2⟩
                case measure => omega
              · have HR2 : Hid (RK = some i) := Lib.hid (by rw [← HRK.out]; unfold lastK; rw [hr]; simp only; rw [if_neg ht])
                have hte : (r.t == 41) = false := by rw [beq_eq_false_iff_ne]; exact ht
                obtain ⟨T, hT⟩ : ∃ T, r.t = T := ⟨_, rfl⟩
                rw [hT] at hty hte ht
                obtain ⟨q, hq⟩ : ∃ q, n = i + q + 1 := ⟨n - i - 1, by omega⟩
                have CD := Lib.hid (delete_rec b0 g C i q x.ar w1 (by rw [HN.out]; exact hq) (by have h := HOW.out; rw [hq] at h; exact h) (by omega))
                rw [← hq] at CD
                have HQ := Lib.hid hq
                have hi64 : (i : Int) + 1 ≤ 1099511627777 := by omega
                have hneg : ¬ (i : Int) < 0 := by omega
                have hnegb : decide ((i : Int) < 0) = false := decide_eq_false hneg
                clear HRK hr hT hq ht hj hj0 hnb hc1 hc2
                have hnc : n ≤ C := HCN.out
                trace "13"
                go_upto_region 13 with fail
                trace "13a"
                go_wp2_with fail
                refine CD.out.mono ?_
                rintro e w2 ⟨rfl, ho2, hg2⟩
                have HS3 := Lib.hid (HS1.out.less (k := i) HA.out HC.out (show (x.ar.eraseIdx i).length = i + q by rw [List.length_eraseIdx_of_lt (by rw [HN.out]; omega), HN.out]; have := HQ.out; omega) ho2 hg2)
                have hm2 := HS1.out.delM HA.out hg2
                have d13 := hm2.box.c13
                have z13 := udoor.msg_frozen hm2 13
                rw [HN.out, HA.out, HC.out] at d13
                have HRL : Hid (fitU limit (gk' - 1) (less x i) = R) := Lib.hid (by
                  rw [← HR.out]
                  obtain ⟨f, hf⟩ : ∃ f, gk' = f + 1 := ⟨gk' - 1, by have := HG.out; omega⟩
                  rw [hf, Nat.add_sub_cancel]
                  conv => rhs; unfold fitU
                  rw [if_neg (show ¬ fitsB x limit = true by rw [HFT.out]; decide), HN.out, HRK0.out, HR2.out])
                have HOL := Lib.hid (ok_less HO.out i)
                have HAL2 : Hid ((less x i).ar.length ≤ 1099511627776) := Lib.hid (Nat.le_trans (less_len x i) HAL.out)
                have HLL : Hid ((less x i).ar.length + 1 = n) := Lib.hid (by show (x.ar.eraseIdx i).length + 1 = n; rw [List.length_eraseIdx_of_lt (by rw [HN.out]; omega), HN.out]; omega)
                clear hm2 ho2 hg2 CD HOW
                trace "13b"
                go_wp2_with fail
                have hg := HG.out; have hll := HLL.out; have hnn := HN.out
                go_roundg (gk' - 1)
                case rel => exact ⟨pl, less x i, by omega, HS3, HOL, HAL2, HRL⟩
                case measure => omega
end Go.Proofs.YtnamkladeaohoaaGreat.fitW
namespace Go.Proofs.YtnamkladeaohoaaGreat.fitR
open Go.RowKit Go.Proofs.YtnamkladeaohoaaGreat.kit Go.Proofs.YtnamkladeaohoaaGreat.nspec Go.Proofs.YtnamkladeaohoaaGreat.wireP Go.Proofs.YtnamkladeaohoaaGreat.wireM Go.Proofs.YtnamkladeaohoaaGreat.wireC Go.Proofs.YtnamkladeaohoaaGreat.packP Go.Proofs.YtnamkladeaohoaaGreat.shortP Go.Proofs.YtnamkladeaohoaaGreat.unpP Go.Proofs.YtnamkladeaohoaaGreat.fitP
set_option linter.unusedVariables false

/-- the loop of Without: k records are left, n are still to go, acc is kept -/
def woK (l : List Rc) : Nat → Nat → List Rc → List Rc × Nat
  | 0, n, acc => (acc, n)
  | k + 1, n, acc => match l[k]? with
    | some x => if 0 < n ∧ x.t ≠ 41 then woK l k (n - 1) acc else woK l k n (x :: acc)
    | none => (acc, n)
/-- the same on the list turned round -/
def dropN : List Rc → Nat → List Rc × Nat
  | [], n => ([], n)
  | x :: r, n => if 0 < n ∧ x.t ≠ 41 then dropN r (n - 1) else (x :: (dropN r n).1, (dropN r n).2)
def del1 : List Rc → Option (List Rc)
  | [] => none
  | x :: r => if x.t ≠ 41 then some r else (del1 r).map (x :: ·)
theorem woK_is (l : List Rc) : ∀ (k n : Nat) (acc : List Rc), k ≤ l.length → woK l k n acc = ((dropN (l.take k).reverse n).1.reverse ++ acc, (dropN (l.take k).reverse n).2)
  | 0, n, acc, _ => by simp [woK, dropN]
  | k + 1, n, acc, h => by
    obtain ⟨x, hx⟩ : ∃ x, l[k]? = some x := ⟨_, List.getElem?_eq_getElem (by omega)⟩
    have ht : (l.take (k + 1)).reverse = x :: (l.take k).reverse := by
      rw [List.take_add_one, hx]; simp
    unfold woK
    rw [hx, ht]
    simp only [dropN]
    by_cases hc : 0 < n ∧ x.t ≠ 41
    · rw [if_pos hc, if_pos hc, woK_is l k (n - 1) acc (by omega)]
    · rw [if_neg hc, if_neg hc, woK_is l k n (x :: acc) (by omega)]
      simp
theorem dropN_zero : ∀ r : List Rc, dropN r 0 = (r, 0)
  | [] => rfl
  | x :: r => by
    unfold dropN
    rw [if_neg (by omega), dropN_zero r]
theorem dropN_one : ∀ r : List Rc, dropN r 1 = match del1 r with | some r' => (r', 0) | none => (r, 1)
  | [] => rfl
  | x :: r => by
    unfold dropN del1
    by_cases hx : x.t ≠ 41
    · rw [if_pos ⟨by omega, hx⟩, if_pos hx, dropN_zero]
    · rw [if_neg (fun h => hx h.2), if_neg hx, dropN_one r]
      cases del1 r <;> rfl
/-- one more -/
theorem dropN_succ : ∀ (r : List Rc) (n : Nat), (dropN r n).2 = 0 → dropN r (n + 1) = dropN (dropN r n).1 1
  | [], n, h => by
    have : n = 0 := h
    subst this; rfl
  | x :: r, n, h => by
    by_cases hx : x.t ≠ 41
    · by_cases hn : 0 < n
      · have e1 : dropN (x :: r) n = dropN r (n - 1) := by
          conv => lhs; unfold dropN
          rw [if_pos ⟨hn, hx⟩]
        have e2 : dropN (x :: r) (n + 1) = dropN r (n - 1 + 1) := by
          conv => lhs; unfold dropN
          rw [if_pos ⟨by omega, hx⟩, show n + 1 - 1 = n - 1 + 1 by omega]
        rw [e1] at h
        rw [e1, e2]
        exact dropN_succ r (n - 1) h
      · have : n = 0 := by omega
        subst this
        rw [dropN_zero]
    · have e : ∀ k, dropN (x :: r) k = (x :: (dropN r k).1, (dropN r k).2) := fun k => by
        conv => lhs; unfold dropN
        rw [if_neg (fun h => hx h.2)]
      rw [e n] at h ⊢
      rw [e (n + 1), dropN_succ r n h]
      conv => rhs; unfold dropN
      rw [if_neg (fun h => hx h.2)]
theorem lastK_pre (A B : List Rc) : ∀ k, k ≤ A.length → lastK (A ++ B) k = lastK A k
  | 0, _ => rfl
  | k + 1, h => by
    unfold lastK
    rw [List.getElem?_append_left (by omega)]
    split
    · rw [lastK_pre A B k (by omega)]
    · rfl
theorem snoc_cases (L : List Rc) : L = [] ∨ ∃ A x, L = A ++ [x] := by
  cases h : L.reverse with
  | nil => left; simpa using h
  | cons x r => right; exact ⟨r.reverse, x, by rw [← List.reverse_reverse L, h]; simp⟩
theorem del1_last : ∀ (n : Nat) (L : List Rc), L.length = n → del1 L.reverse = (lastK L L.length).map (fun k => (L.eraseIdx k).reverse)
  | n, L, hn => by
    rcases snoc_cases L with rfl | ⟨A, x, rfl⟩
    · rfl
    · have hl : (A ++ [x]).length = A.length + 1 := by simp
      rw [hl]
      have hx : (A ++ [x])[A.length]? = some x := by rw [List.getElem?_append_right (Nat.le_refl _), Nat.sub_self]; rfl
      conv => rhs; unfold lastK
      rw [hx, List.reverse_append]
      show del1 (x :: A.reverse) = _
      unfold del1
      by_cases ht : x.t = 41
      · rw [if_neg (fun h => h ht)]
        simp only
        rw [if_pos ht, lastK_pre A [x] _ (Nat.le_refl _), del1_last A.length A rfl]
        cases hk : lastK A A.length with
        | none => rfl
        | some k =>
          have hlt := lastK_lt hk
          show some (x :: (A.eraseIdx k).reverse) = some (((A ++ [x]).eraseIdx k).reverse)
          rw [List.eraseIdx_append_of_lt_length hlt]
          simp
      · rw [if_pos ht]
        simp only
        rw [if_neg ht]
        show some A.reverse = some (((A ++ [x]).eraseIdx A.length).reverse)
        rw [List.eraseIdx_append_of_length_le (Nat.le_refl _), Nat.sub_self]
        simp
  termination_by n => n
  decreasing_by (simp at hn; omega)
/-- Without -/
def withoutS (l : List Rc) (n : Nat) : List Rc × Bool := ((woK l l.length n []).1, (woK l l.length n []).2 == 0)
theorem without_is (l : List Rc) (n : Nat) : withoutS l n = ((dropN l.reverse n).1.reverse, (dropN l.reverse n).2 == 0) := by
  unfold withoutS
  rw [woK_is l l.length n [] (Nat.le_refl _), List.take_length, List.append_nil]
theorem without_zero (l : List Rc) : withoutS l 0 = (l, true) := by rw [without_is, dropN_zero]; simp
theorem without_succ {l o : List Rc} {n : Nat} (h : withoutS l n = (o, true)) : (∀ k, lastK o o.length = some k → withoutS l (n + 1) = (o.eraseIdx k, true)) ∧ (lastK o o.length = none → (withoutS l (n + 1)).2 = false) := by
  rw [without_is] at h
  have h1 := congrArg Prod.fst h
  have h2 := congrArg Prod.snd h
  simp only at h1 h2
  have h0 : (dropN l.reverse n).2 = 0 := by simpa using h2
  have ho : (dropN l.reverse n).1 = o.reverse := by rw [← h1, List.reverse_reverse]
  have hs := dropN_succ l.reverse n h0
  rw [ho, dropN_one, del1_last o.length o rfl] at hs
  constructor
  · intro k hk
    rw [hk] at hs
    rw [without_is, hs]
    simp
  · intro hk
    rw [hk] at hs
    rw [without_is, hs]
    rfl
theorem filter_none : ∀ {L : List Rc}, lastK L L.length = none → L.filter (fun x => decide (x.t = 41)) = L := by
  intro L h
  have hall : ∀ (k : Nat), k ≤ L.length → lastK L k = none → ∀ j x, j < k → L[j]? = some x → x.t = 41 := by
    intro k
    induction k with
    | zero => intro _ _ j x hj; omega
    | succ k ih =>
      intro hk hn j x hj hx
      obtain ⟨y, hy⟩ : ∃ y, L[k]? = some y := ⟨_, List.getElem?_eq_getElem (by omega)⟩
      unfold lastK at hn
      rw [hy] at hn
      simp only at hn
      split at hn
      · rename_i ht
        by_cases e : j = k
        · subst e; rw [hy] at hx; cases hx; exact ht
        · exact ih (by omega) hn j x (by omega) hx
      · cases hn
  rw [List.filter_eq_self]
  intro x hx
  obtain ⟨j, hj⟩ := List.getElem?_of_mem hx
  exact decide_eq_true (hall L.length (Nat.le_refl _) h j x (List.getElem?_eq_some_iff.1 hj).1 hj)
theorem filter_erase : ∀ {L : List Rc} {n k : Nat}, lastK L n = some k → (L.eraseIdx k).filter (fun x => decide (x.t = 41)) = L.filter (fun x => decide (x.t = 41)) := by
  intro L n k h
  have hne : ∃ x, L[k]? = some x ∧ x.t ≠ 41 := by
    induction n with
    | zero => cases h
    | succ n ih =>
      unfold lastK at h
      split at h
      · rename_i x hx
        split at h
        · exact ih h
        · rename_i ht; cases h; exact ⟨x, hx, ht⟩
      · cases h
  obtain ⟨x, hx, ht⟩ := hne
  obtain ⟨hk, he⟩ := List.getElem?_eq_some_iff.1 hx
  conv => rhs; rw [← List.take_append_drop k L, List.drop_eq_getElem_cons hk, he]
  rw [List.eraseIdx_eq_take_drop_succ, List.filter_append, List.filter_append, List.filter_cons_of_neg (by simpa using ht)]
/-- the reference: its loop over n, its last try -/
def lastR (m : Mg) (limit : Int) : Mg × Int :=
  if fitsB { m with an := [], au := [], tc := true, ar := m.ar.filter (fun x => decide (x.t = 41)) } limit = true then ({ m with an := [], au := [], tc := true, ar := m.ar.filter (fun x => decide (x.t = 41)) }, 0) else (noM, 12)
def refU (m : Mg) (limit : Int) : Nat → Nat → Mg × Int
  | 0, _ => (noM, 12)
  | f + 1, n => if (withoutS m.ar n).2 = true then (if fitsB { m with ar := (withoutS m.ar n).1 } limit = true then ({ m with ar := (withoutS m.ar n).1 }, 0) else refU m limit f (n + 1)) else lastR m limit
theorem refU_is (m : Mg) (limit : Int) : ∀ (f : Nat) (n : Nat) (o : List Rc), withoutS m.ar n = (o, true) → o.length + 1 ≤ f → o.filter (fun x => decide (x.t = 41)) = m.ar.filter (fun x => decide (x.t = 41)) → refU m limit (f + 1) n = fitU limit f { m with ar := o }
  | 0, n, o, _, hl, _ => by omega
  | f + 1, n, o, h, hl, hF => by
    unfold refU
    rw [h]
    simp only [if_true]
    conv => rhs; unfold fitU
    by_cases hf : fitsB { m with ar := o } limit = true
    · rw [if_pos hf, if_pos hf]
    · rw [if_neg hf, if_neg hf]
      obtain ⟨h1, h2⟩ := without_succ h
      cases hk : lastK o o.length with
      | some k =>
        simp only
        have hlt := lastK_lt hk
        have hl2 : (o.eraseIdx k).length + 1 ≤ f := by rw [List.length_eraseIdx_of_lt hlt]; omega
        exact refU_is m limit f (n + 1) _ (h1 k hk) hl2 ((filter_erase hk).trans hF)
      | none =>
        simp only
        have hfn := filter_none hk
        rw [hfn] at hF
        unfold refU
        rw [h2 hk]
        simp only [Bool.false_eq_true, if_false]
        unfold lastR
        rw [← hF]
        rfl
/-- FitMessage's answer -/
def refS (m : Mg) (limit : Int) : Mg × Int := if checkB m = false then (noM, 8) else refU m limit (m.ar.length + 2) 0
theorem refS_is (m : Mg) (limit : Int) : refS m limit = fitS m limit := by
  unfold refS fitS
  by_cases hc : checkB m = false
  · rw [if_pos hc, if_pos hc]
  · rw [if_neg hc, if_neg hc]
    exact refU_is m limit (m.ar.length + 1) 0 m.ar (without_zero m.ar) (Nat.le_refl _) rfl
end Go.Proofs.YtnamkladeaohoaaGreat.fitR
namespace Go.Proofs.YtnamkladeaohoaaGreat.rwithout
open Go.RowKit Go.Proofs.YtnamkladeaohoaaGreat.kit Go.Proofs.YtnamkladeaohoaaGreat.timed Go.Proofs.YtnamkladeaohoaaGreat.nspec Go.Proofs.YtnamkladeaohoaaGreat.wireP Go.Proofs.YtnamkladeaohoaaGreat.wireM Go.Proofs.YtnamkladeaohoaaGreat.rows Go.Proofs.YtnamkladeaohoaaGreat.ust Go.Proofs.YtnamkladeaohoaaGreat.fitP Go.Proofs.YtnamkladeaohoaaGreat.fitR
set_option linter.unusedVariables false

theorem src_own {w : World} {b0 : Nat} {t : TypeId} {z n c : Nat} {a : Option Addr} {xs : List Value} (h : w.ownsRow b0 t z (.slice a n c) n xs) : (a = none ∧ n = 0 ∧ c = 0) ∨ ∃ ad, a = some ad ∧ ∀ (j : Nat) (u : Value), xs[j]? = some u → w.cell? (ad.add j) = some u := by
  rcases h.2 with ⟨h1, h2⟩ | ⟨g, cap, cur, h1, h2, h3, h4, h5, h6, h7⟩
  · injection h1 with e1 e2 e3
    exact .inl ⟨e1, e2, e3⟩
  · injection h1 with e1 e2 e3
    subst e1
    subst e3
    exact .inr ⟨_, rfl, fun j u hu => h.cells (g := g) rfl j u hu⟩
theorem own_len {w : World} {b0 : Nat} {t : TypeId} {z n c : Nat} {a : Option Addr} {xs : List Value} (h : w.ownsRow b0 t z (.slice a n c) n xs) : n ≤ maxLen := by
  rcases h.2 with ⟨_, h2⟩ | ⟨g, cap, cur, h1, h2, h3, h4, h5, h6, h7⟩
  · omega
  · omega
theorem own_sl {w : World} {b0 : Nat} {t : TypeId} {z n : Nat} {v : Value} {xs : List Value} (h : w.ownsRow b0 t z v n xs) : ∃ a c, v = .slice a n c := by
  rcases h.2 with ⟨h1, h2⟩ | ⟨g, cap, cur, h1, h2, h3, h4, h5, h6, h7⟩
  · exact ⟨none, 0, by rw [h1, h2]⟩
  · exact ⟨_, _, h1⟩
theorem wo_skip {L : List Rc} {i k : Nat} {acc : List Rc} {x : Rc} (h : L[i]? = some x) (hk : 0 < k) (ht : x.t ≠ 41) : woK L (i + 1) k acc = woK L i (k - 1) acc := by
  conv => lhs; unfold woK
  rw [h]; simp only; rw [if_pos ⟨hk, ht⟩]
theorem wo_keep {L : List Rc} {i k : Nat} {acc : List Rc} {x : Rc} (h : L[i]? = some x) (hk : ¬ (0 < k ∧ x.t ≠ 41)) : woK L (i + 1) k acc = woK L i k (x :: acc) := by
  conv => lhs; unfold woK
  rw [h]; simp only; rw [if_neg hk]

set_option maxRecDepth 100000 in
set_option maxHeartbeats 8000000 in
theorem without_any (a : Option Addr) (n c k : Nat) (L : List Rc) (w : World) (hn : n = L.length) (hr : RdC w a 5 (L.map Rc.cells)) (hbig : n ≤ 1099511627776) (hk : k ≤ 4611686018427387904) :
    Calls Tryz.prog 38 #[.slice a n c, .int .i64 (k : Int)] w fun e w' => ∃ ao co, e = .returned (.tuple #[.slice ao (withoutS L k).1.length co, .bool (withoutS L k).2]) ∧ w'.ownsRow w.heap.size 43 5 (.slice ao (withoutS L k).1.length co) (withoutS L k).1.length ((withoutS L k).1.flatMap Rc.cells) ∧ Below w.heap.size w w' := by
  obtain ⟨R, hR⟩ : ∃ R, woK L L.length k [] = R := ⟨_, rfl⟩
  have hS : withoutS L k = (R.1, R.2 == 0) := by unfold withoutS; rw [hR]
  rw [hS]
  rw [← hn] at hR
  have HN := Lib.hid hn; have HRD := Lib.hid hr; have HR := Lib.hid hR
  obtain ⟨i0, hif, hz0, hz1, hz2⟩ := info_parts infoRec
  clear hn hr hR hS
  go_enter Tryz.func38, Tryz.ntmps38
  go_wp2_with fail
  go_loopg [1, 6, 7] (n + 1) (fun gas kv ov jv wr => ∃ (j q m : Nat) (acc : List Rc) (ao : Option Addr) (co : Nat), kv = .int .i64 (q : Int) ∧ ov = .slice ao m co ∧ jv = .int .i64 ((j : Int) - 1) ∧ j ≤ n ∧ j + 1 = gas ∧ q ≤ 4611686018427387904 ∧ m + j ≤ n ∧ Hid (acc.length = m) ∧ Hid (woK L j q acc = R) ∧ Hid (wr.ownsRow w.heap.size 43 5 (.slice ao m co) m (acc.flatMap Rc.cells)) ∧ Hid (Below w.heap.size w wr))
  case atStart => exact ⟨n, k, 0, [], none, 0, rfl, rfl, by go_num, Nat.le_refl _, rfl, hk, by omega, Lib.hid rfl, HR, Lib.hid (World.ownsRow_nil _ _ _ _), Lib.hid (Below.refl _ _)⟩
  case round =>
    clear HR hk
    obtain ⟨j, q, m, acc, ao, co, rfl, rfl, hkv, hj, hjg, hq, hm, HA, HW, HO, HB⟩ := hrel
    have HJG := Lib.hid hjg; clear hjg
    by_cases hj0 : j = 0
    · subst hj0
      have hkv' := hkv.trans (show Value.int .i64 (((0 : Nat) : Int) - 1) = Value.int .i64 (-1) from rfl)
      subst hkv'
      have HRN : Hid (R = (acc, q)) := Lib.hid (by rw [← HW.out]; rfl)
      clear HW HJG hkv
      by_cases hq0 : q = 0
      · subst hq0
        go_wp2_with fail
        go_ret2
        rw [HRN.out]
        dsimp only
        rw [HA.out]
        exact ⟨ao, co, rfl, HO.out, HB.out⟩
      · have e0 : ((q : Int) == 0) = false := by rw [beq_eq_false_iff_ne]; omega
        have e1 : (q == 0) = false := by rw [beq_eq_false_iff_ne]; omega
        go_wp2_with fail
        go_ret2
        rw [HRN.out]
        dsimp only
        rw [HA.out, e1]
        exact ⟨ao, co, rfl, HO.out, HB.out⟩
    · obtain ⟨i, rfl⟩ : ∃ i, j = i + 1 := ⟨j - 1, by omega⟩
      have hkv' := hkv.trans (show Value.int .i64 (((i + 1 : Nat) : Int) - 1) = Value.int .i64 (i : Int) by congr 1; omega)
      subst hkv'
      obtain ⟨x, hx⟩ : ∃ x, L[i]? = some x := ⟨_, List.getElem?_eq_getElem (by have := HN.out; omega)⟩
      obtain ⟨g1, o1, rfl, hg1, hcl1⟩ := at_r HRD.out hx
      obtain ⟨x0, x1, x2, x3, x4⟩ := hcl1.below HB.out hg1
      have zk : (0 : Int) ≤ (i : Int) := by omega
      have zl : (i : Int) < (n : Int) := by omega
      clear hkv hcl1
      by_cases hs : 0 < q ∧ x.t ≠ 41
      · have HW2 : Hid (woK L i (q - 1) acc = R) := Lib.hid ((wo_skip hx hs.1 hs.2).symm.trans HW.out)
        have hte : (x.t == 41) = false := by rw [beq_eq_false_iff_ne]; exact hs.2
        have hne : ¬ x.t = 41 := hs.2
        have hqe : decide ((0 : Int) < (q : Int)) = true := decide_eq_true (by omega)
        have hqp : (0 : Int) < (q : Int) := by omega
        obtain ⟨T, hT⟩ : ∃ T, x.t = T := ⟨_, rfl⟩
        rw [hT] at x1 hte hne
        clear hx HW hs hT
        go_wp2_with fail
        have hjg := HJG.out
        go_roundg (gk - 1)
        case rel => exact ⟨i, q - 1, m, acc, ao, co, by go_num, rfl, by go_num, by omega, by omega, by omega, by omega, HA, HW2, HO, HB⟩
        case measure => omega
      · have HW2 : Hid (woK L i q (x :: acc) = R) := Lib.hid ((wo_keep hx hs).symm.trans HW.out)
        have hw0 : w.heap.size ≤ wr.heap.size := HB.out.size
        have hle : (x :: acc).length = 1 + m := by rw [List.length_cons, HA.out]; omega
        have HLE := Lib.hid hle
        by_cases hq0 : q = 0
        · subst hq0
          clear hx HW hs hle
          trace "a"
          go_wp2_with (at_builtin; refine wpList_append_src rfl (.tmp 31) (.tmp 32) 23 rfl w.heap.size 43 i0 _ 5 56 Tryz.underlying23 hif hz0 hz1 hz2 rfl (by decide) (.slice (some ⟨wr.heap.size, 0, none⟩) 1 1) 1 x.cells rfl (World.ownsRow_lit (base := w.heap.size) (e := 43) (size := 5) wr #[.string x.o, .int .i64 x.t, .int .i64 x.c, .int .i64 x.l, .string x.d] 1 hw0 (by decide) rfl) ao m co (acc.flatMap Rc.cells) rfl ?c0 ?c1 ?c2 (by unfold maxLen; omega) (by omega) (by simp; omega) ?_)
          case c0 => rw [flat_len Rc.cells 5 (fun _ => rfl), HA.out]
          case c1 => exact src_own (HO.out.alloc _)
          case c2 =>
            intro u hu
            obtain ⟨y, _, hy⟩ := List.mem_flatMap.1 hu
            exact rec_one y u hy
          intro v1 w1 hown1 hgr1
          have hBa : Below w.heap.size w (wr.alloc (.cells #[.string x.o, .int .i64 x.t, .int .i64 x.c, .int .i64 x.l, .string x.d] 43)) := HB.out.alloc hw0 _
          have HB1 := Lib.hid (below_append' hBa (by simp; omega) (World.ownsRow_lit (base := w.heap.size) (e := 43) (size := 5) wr #[.string x.o, .int .i64 x.t, .int .i64 x.c, .int .i64 x.l, .string x.d] 1 hw0 (by decide) rfl) hgr1)
          have ho1 : w1.ownsRow w.heap.size 43 5 v1 (1 + m) ((x :: acc).flatMap Rc.cells) := by rw [List.flatMap_cons]; exact hown1
          obtain ⟨a1, c1, rfl⟩ := own_sl ho1
          have HO1 := Lib.hid ho1
          clear hown1 hgr1 ho1 hBa
          go_wp2_with fail
          have hjg := HJG.out
          go_roundg (gk - 1)
          case rel => exact ⟨i, 0, 1 + m, x :: acc, a1, c1, rfl, rfl, by go_num, by omega, by omega, by omega, by omega, HLE, HW2, HO1, HB1⟩
          case measure => omega
        · have ht : x.t = 41 := by
            by_cases h : x.t = 41
            · exact h
            · exact absurd ⟨by omega, h⟩ hs
          have hqe : decide ((0 : Int) < (q : Int)) = true := decide_eq_true (by omega)
          obtain ⟨xo, xt, xc, xl, xd⟩ := x
          dsimp only at ht x0 x1 x2 x3 x4
          subst ht
          clear hx HW hs hle
          trace "b"
          go_wp2_with (at_builtin; refine wpList_append_src rfl (.tmp 31) (.tmp 32) 23 rfl w.heap.size 43 i0 _ 5 56 Tryz.underlying23 hif hz0 hz1 hz2 rfl (by decide) (.slice (some ⟨wr.heap.size, 0, none⟩) 1 1) 1 (⟨xo, 41, xc, xl, xd⟩ : Rc).cells rfl (World.ownsRow_lit (base := w.heap.size) (e := 43) (size := 5) wr #[.string xo, .int .i64 41, .int .i64 xc, .int .i64 xl, .string xd] 1 hw0 (by decide) rfl) ao m co (acc.flatMap Rc.cells) rfl ?c0 ?c1 ?c2 (by unfold maxLen; omega) (by omega) (by simp; omega) ?_)
          case c0 => rw [flat_len Rc.cells 5 (fun _ => rfl), HA.out]
          case c1 => exact src_own (HO.out.alloc _)
          case c2 =>
            intro u hu
            obtain ⟨y, _, hy⟩ := List.mem_flatMap.1 hu
            exact rec_one y u hy
          intro v1 w1 hown1 hgr1
          have hBa : Below w.heap.size w (wr.alloc (.cells #[.string xo, .int .i64 41, .int .i64 xc, .int .i64 xl, .string xd] 43)) := HB.out.alloc hw0 _
          have HB1 := Lib.hid (below_append' hBa (by simp; omega) (World.ownsRow_lit (base := w.heap.size) (e := 43) (size := 5) wr #[.string xo, .int .i64 41, .int .i64 xc, .int .i64 xl, .string xd] 1 hw0 (by decide) rfl) hgr1)
          have ho1 : w1.ownsRow w.heap.size 43 5 v1 (1 + m) (((⟨xo, 41, xc, xl, xd⟩ : Rc) :: acc).flatMap Rc.cells) := by rw [List.flatMap_cons]; exact hown1
          obtain ⟨a1, c1, rfl⟩ := own_sl ho1
          have HO1 := Lib.hid ho1
          clear hown1 hgr1 ho1 hBa
          go_wp2_with fail
          have hjg := HJG.out
          go_roundg (gk - 1)
          case rel => exact ⟨i, q, 1 + m, (⟨xo, 41, xc, xl, xd⟩ : Rc) :: acc, a1, c1, rfl, rfl, by go_num, by omega, by omega, by omega, by omega, HLE, HW2, HO1, HB1⟩
          case measure => omega
end Go.Proofs.YtnamkladeaohoaaGreat.rwithout
