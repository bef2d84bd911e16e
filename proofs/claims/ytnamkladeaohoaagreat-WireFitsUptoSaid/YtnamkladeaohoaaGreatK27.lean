/- wire.Unpack: walk. wire.Fit's memory on the way. -/
import Derived.Test.YtnamkladeaohoaaGreatK24
import Derived.Test.YtnamkladeaohoaaGreatK26
import Derived.Deep.RegionHeld3
import Derived.Deep.RegionWith
import Derived.Deep.DeepCutAuto
import Derived.Laws.Tables
namespace Go.Proofs.YtnamkladeaohoaaGreat.unpack
open Go.RowKit Go.Proofs.YtnamkladeaohoaaGreat.kit Go.Proofs.YtnamkladeaohoaaGreat.nspec Go.Proofs.YtnamkladeaohoaaGreat.unpP Go.Proofs.YtnamkladeaohoaaGreat.wireP Go.Proofs.YtnamkladeaohoaaGreat.wireM Go.Proofs.YtnamkladeaohoaaGreat.wireC Go.Proofs.YtnamkladeaohoaaGreat.wpack Go.Proofs.YtnamkladeaohoaaGreat.rows Go.Proofs.YtnamkladeaohoaaGreat.cur Go.Proofs.YtnamkladeaohoaaGreat.cname Go.Proofs.YtnamkladeaohoaaGreat.crec Go.Proofs.YtnamkladeaohoaaGreat.putM Go.Proofs.YtnamkladeaohoaaGreat.udoor Go.Proofs.YtnamkladeaohoaaGreat.ust Go.Proofs.YtnamkladeaohoaaGreat.uend
set_option linter.unusedVariables false

theorem and64 : ∀ n : Fin 256, (bits .and .u8 (n.val : Int) 64 != 0) = decide (n.val / 64 % 2 = 1) := by decide +kernel
theorem and64' {n : Nat} (h : n < 256) : (bits .and .u8 (n : Int) 64 != 0) = decide (n / 64 % 2 = 1) := and64 ⟨n, h⟩
theorem cells_all (p : Pl) (m : Mg) : (cellsM p m).all (·.oneCell') = true := by simp [cellsM, Value.oneCell']
/-- the three boxes -/
def boxes (w : World) (k : Nat) (e : Int) : World := ((w.alloc (.cells (cellsM ⟨none, 0, none, 0, none, 0, none, 0⟩ noM) 25)).alloc (.cells #[.int .i64 (k : Int)] 3)).alloc (.cells #[.int .i64 e] 27)
theorem boxes_at (w : World) (k : Nat) (e : Int) : MsgAt (boxes w k e) w.heap.size ⟨none, 0, none, 0, none, 0, none, 0⟩ noM ∧ (boxes w k e).heap[w.heap.size + 1]? = some (.cells #[.int .i64 (k : Int)] 3 (0, 0)) ∧ (boxes w k e).heap[w.heap.size + 2]? = some (.cells #[.int .i64 e] 27 (0, 0)) ∧ Below w.heap.size w (boxes w k e) ∧ (boxes w k e).heap.size = w.heap.size + 3 := by
  have s1 : ∀ (w : World) o, (w.alloc o).heap.size = w.heap.size + 1 := fun w o => by simp
  have hB : Below w.heap.size w (boxes w k e) := (((Below.refl w.heap.size w).alloc (Nat.le_refl _) _).alloc (by rw [s1]; omega) _).alloc (by rw [s1, s1]; omega) _
  refine ⟨?_, ?_, ?_, hB, by unfold boxes; rw [s1, s1, s1]⟩
  · exact (heap_alloc_old _ _ (by rw [s1, s1]; omega)).trans ((heap_alloc_old _ _ (by rw [s1]; omega)).trans (heap_alloc_new _ _))
  · have h := heap_alloc_new (w.alloc (.cells (cellsM ⟨none, 0, none, 0, none, 0, none, 0⟩ noM) 25)) (.cells #[.int .i64 (k : Int)] 3)
    rw [s1] at h
    exact (heap_alloc_old _ _ (by rw [s1, s1]; omega)).trans h
  · have h := heap_alloc_new ((w.alloc (.cells (cellsM ⟨none, 0, none, 0, none, 0, none, 0⟩ noM) 25)).alloc (.cells #[.int .i64 (k : Int)] 3)) (.cells #[.int .i64 e] 27)
    rw [s1, s1] at h
    exact h
theorem two_set {W w0 : World} {b0 : Nat} {pl : Pl} {m : Mg} {va ve : Value} (hM : MsgAt W b0 pl m) (ha : W.heap[b0 + 1]? = some (.cells #[va] 3 (0, 0))) (he : W.heap[b0 + 2]? = some (.cells #[ve] 27 (0, 0))) (ho : Own4 b0 W pl m) (hB : Below b0 w0 W) (k e : Int) :
    MsgAt ((W.setCell ⟨b0 + 1, 0, none⟩ (.int .i64 k)).setCell ⟨b0 + 2, 0, none⟩ (.int .i64 e)) b0 pl m ∧ ((W.setCell ⟨b0 + 1, 0, none⟩ (.int .i64 k)).setCell ⟨b0 + 2, 0, none⟩ (.int .i64 e)).cell? ⟨b0 + 1, 0, none⟩ = some (.int .i64 k) ∧
    ((W.setCell ⟨b0 + 1, 0, none⟩ (.int .i64 k)).setCell ⟨b0 + 2, 0, none⟩ (.int .i64 e)).cell? ⟨b0 + 2, 0, none⟩ = some (.int .i64 e) ∧ Own4 b0 ((W.setCell ⟨b0 + 1, 0, none⟩ (.int .i64 k)).setCell ⟨b0 + 2, 0, none⟩ (.int .i64 e)) pl m ∧ Below b0 w0 ((W.setCell ⟨b0 + 1, 0, none⟩ (.int .i64 k)).setCell ⟨b0 + 2, 0, none⟩ (.int .i64 e)) := by
  have a1 := heap_setCell_same W (b0 + 1) 0 _ _ (.int .i64 k) ha
  have e1 := (far_one (b := b0 + 1) (j := 0) (v := .int .i64 k) (show b0 + 2 ≠ b0 + 1 by omega)).trans he
  have e2 := heap_setCell_same _ (b0 + 2) 0 _ _ (.int .i64 e) e1
  have a2 := (far_one (b := b0 + 2) (j := 0) (v := .int .i64 e) (show b0 + 1 ≠ b0 + 2 by omega)).trans a1
  refine ⟨(far_one (by omega)).trans ((far_one (by omega)).trans hM), ?_, ?_, own_set (own_set ho ha (by decide) (by decide)) e1 (by decide) (by decide), below_one (below_one hB (by omega)) (by omega)⟩
  · simp only [World.cell?, a2]; rfl
  · simp only [World.cell?, e2]; rfl
theorem wpList_store_self {ops : Array Oper} {rest : List Oper} {o : Oper} {a : Act} {w : World} {Q : Exit → Act → World → Prop} (hgd : o.guard = none) (ty : TypeId) (x y : Operand) (ho : o.op = .store ty x y)
    (g : Nat) (cells : Array Value) (hx : a.eval x = .pointer (some ⟨g, 0, none⟩)) (hy : a.eval y = .agg cells)
    (t : TypeId) (hg : w.heap[g]? = some (.cells cells t (0, 0))) (hi : (Tryz.prog.info? ty).map (·.size) = some cells.size) (h1 : cells.all (·.oneCell') = true)
    (h : wpList Tryz.prog ops Q rest (a.put o.dst undef) w) : wpList Tryz.prog ops Q (o :: rest) a w :=
  wpList_store_row hgd ty x y ho g cells hx hy t cells hg hi rfl h1 (by rw [setRow_self _ _ _ _ _ hg]; exact h)
end Go.Proofs.YtnamkladeaohoaaGreat.unpack
namespace Go.Proofs.YtnamkladeaohoaaGreat.fitM
open Go.RowKit Go.Proofs.YtnamkladeaohoaaGreat.kit Go.Proofs.YtnamkladeaohoaaGreat.timed Go.Proofs.YtnamkladeaohoaaGreat.nspec Go.Proofs.YtnamkladeaohoaaGreat.wireP Go.Proofs.YtnamkladeaohoaaGreat.wireM Go.Proofs.YtnamkladeaohoaaGreat.wireC Go.Proofs.YtnamkladeaohoaaGreat.packP Go.Proofs.YtnamkladeaohoaaGreat.unpP Go.Proofs.YtnamkladeaohoaaGreat.wpack Go.Proofs.YtnamkladeaohoaaGreat.rows Go.Proofs.YtnamkladeaohoaaGreat.putM Go.Proofs.YtnamkladeaohoaaGreat.ust Go.Proofs.YtnamkladeaohoaaGreat.uend Go.Proofs.YtnamkladeaohoaaGreat.markP Go.Proofs.YtnamkladeaohoaaGreat.fitP Go.Proofs.YtnamkladeaohoaaGreat.sameM
set_option linter.unusedVariables false

def noP : Pl := ⟨none, 0, none, 0, none, 0, none, 0⟩
structure FSt (b0 : Nat) (w0 wr : World) (limit : Int) (pl : Pl) (m : Mg) : Prop where
  msg : MsgAt wr b0 pl m
  lim : wr.heap[b0 + 1]? = some (.cells #[.int .i64 limit] 3 (0, 0))
  res : MsgAt wr (b0 + 2) noP noM
  own : Own4 b0 wr pl m
  bel : Below b0 w0 wr
section
variable {b0 : Nat} {w0 wr w1 : World} {limit : Int} {pl : Pl} {m : Mg}
theorem FSt.below (h : FSt b0 w0 wr limit pl m) (hB : Below wr.heap.size wr w1) : FSt b0 w0 w1 limit pl m :=
  ⟨(hB.block _ (blk_lt h.msg)).trans h.msg, (hB.block _ (blk_lt h.lim)).trans h.lim, (hB.block _ (blk_lt h.res)).trans h.res, h.own.keep fun k c t hj _ => (hB.block k (blk_lt hj)).trans hj, h.bel.trans (hB.mono (by have := blk_lt h.msg; omega))⟩
theorem FSt.limC (h : FSt b0 w0 wr limit pl m) : wr.cell? ⟨b0 + 1, 0, none⟩ = some (.int .i64 limit) := by simp only [World.cell?, h.lim]; rfl
/-- the answers gone -/
theorem FSt.bare (h : FSt b0 w0 wr limit pl m) : FSt b0 w0 (((wr.setCell ⟨b0, 11, none⟩ (.slice none 0 0)).setCell ⟨b0, 12, none⟩ (.slice none 0 0)).setCell ⟨b0, 4, none⟩ (.bool true)) limit { pl with na := none, nc := 0, ua := none, uc := 0 } (fitP.bare m) := by
  have s1 := heap_setCell_same _ _ 11 _ _ (.slice none 0 0) h.msg
  have s2 := heap_setCell_same _ _ 12 _ _ (.slice none 0 0) s1
  have s3 := heap_setCell_same _ _ 4 _ _ (.bool true) s2
  have o := own_set (own_set (own_set h.own (i := 11) (v := .slice none 0 0) h.msg (by decide) (by decide)) (i := 12) (v := .slice none 0 0) s1 (by decide) (by decide)) (i := 4) (v := .bool true) s2 (by decide) (by decide)
  refine ⟨?_, (far_one (by omega)).trans ((far_one (by omega)).trans ((far_one (by omega)).trans h.lim)), (far_one (by omega)).trans ((far_one (by omega)).trans ((far_one (by omega)).trans h.res)), ⟨o.q, World.ownsRow_nil _ _ _ _, World.ownsRow_nil _ _ _ _, o.r, .none_l _, .none_l _, .none_l _⟩, below_one (below_one (below_one h.bel (Nat.le_refl _)) (Nat.le_refl _)) (Nat.le_refl _)⟩
  refine s3.trans ?_
  simp [cellsM, fitP.bare]
/-- a record gone -/
theorem FSt.less {g cap k n : Nat} (h : FSt b0 w0 wr limit pl m) (hra : pl.ra = some ⟨g, 0, none⟩) (hrc : pl.rc = cap) (hk : (m.ar.eraseIdx k).length = n)
    (ho : w1.ownsRow b0 43 5 (.slice (some ⟨g, 0, none⟩) n cap) n ((m.ar.eraseIdx k).flatMap Rc.cells)) (hgr : wr.grownBy w1 (some g)) :
    FSt b0 w0 (w1.setCell ⟨b0, 13, none⟩ (.slice (some ⟨g, 0, none⟩) n cap)) limit pl (fitP.less m k) := by
  subst hk
  have hgr' : wr.grownBy w1 (Value.slice (secA pl 2) m.ar.length (secC pl 2)).ownBlock := by
    show wr.grownBy w1 (Value.slice pl.ra _ _).ownBlock
    rw [hra]; exact hgr
  have ho4 := grown_own (s := 2) (n := m.ar.length) (L' := m.ar.eraseIdx k) (a' := some ⟨g, 0, none⟩) (c' := cap) (by decide) h.own hgr' rfl ho (fun g3 o q e => by
    cases e; left
    show (Value.slice pl.ra _ _).ownBlock = _
    rw [hra]; rfl)
  have epl : updP pl 2 (some ⟨g, 0, none⟩) cap = pl := by rw [← hra, ← hrc]; exact updP_self pl 2
  rw [epl] at ho4
  have hsec := h.own.r
  have ne : ∀ (j : Nat) (o : Obj), wr.heap[j]? = some o → (∀ c f, o ≠ .cells c 43 f) → w1.heap[j]? = some o := fun j o hj hn => (hgr'.block j (blk_lt hj) (row_neG hsec hj hn)).trans hj
  have m1 := ne _ _ h.msg (fun c' f e => by injection e with _ e2 _; exact absurd e2 (by decide))
  have l1 := ne _ _ h.lim (fun c' f e => by injection e with _ e2 _; exact absurd e2 (by decide))
  have r1 := ne _ _ h.res (fun c' f e => by injection e with _ e2 _; exact absurd e2 (by decide))
  have s1 := heap_setCell_same _ _ 13 _ _ (.slice (some ⟨g, 0, none⟩) (m.ar.eraseIdx k).length cap) m1
  refine ⟨?_, (far_one (by omega)).trans l1, (far_one (by omega)).trans r1, own_set ho4 (i := 13) m1 (by decide) (by decide), below_one (below_append' h.bel (by have := blk_lt h.msg; omega) hsec (by show wr.grownBy w1 (Value.slice pl.ra _ _).ownBlock; rw [hra]; exact hgr)) (Nat.le_refl _)⟩
  refine s1.trans ?_
  simp [cellsM, fitP.less, hra, hrc]
end
theorem FSt.delM {b0 g : Nat} {w0 wr w1 : World} {limit : Int} {pl : Pl} {m : Mg} (h : FSt b0 w0 wr limit pl m) (hra : pl.ra = some ⟨g, 0, none⟩) (hgr : wr.grownBy w1 (some g)) : MsgAt w1 b0 pl m := by
  have hgr' : wr.grownBy w1 (Value.slice pl.ra m.ar.length pl.rc).ownBlock := by rw [hra]; exact hgr
  exact (hgr'.block _ (blk_lt h.msg) (row_neG h.own.r h.msg (fun c' f e => by injection e with _ e2 _; exact absurd e2 (by decide)))).trans h.msg
theorem apart_new {w1 w2 : World} {t t' : TypeId} {z z' n n' c c' b : Nat} {a a' : Option Addr} {xs xs' : List Value} (hnew : w2.ownsRow w1.heap.size t z (.slice a n c) n xs) (hold : w1.ownsRow b t' z' (.slice a' n' c') n' xs') : Apart a a' := by
  intro x y hx hy e
  subst hx; subst hy
  rcases hnew.2 with ⟨e1, _⟩ | ⟨g, _, _, e1, hb, _⟩
  · cases e1
  · injection e1 with e1 _ _; injection e1 with e1; subst e1
    rcases hold.2 with ⟨e2, _⟩ | ⟨g', _, _, e2, _, hg', _⟩
    · cases e2
    · injection e2 with e2 _ _; injection e2 with e2; subst e2
      have := blk_lt hg'
      simp only at e; omega
theorem own_mono {w : World} {base base' : Nat} {e : TypeId} {size : Nat} {v : Value} {n : Nat} {xs : List Value} (h : w.ownsRow base e size v n xs) (hb : base' ≤ base) : w.ownsRow base' e size v n xs := by
  refine ⟨h.1, ?_⟩
  rcases h.2 with h1 | ⟨g, cap, cur, h1, h2, h3⟩
  · exact .inl h1
  · exact .inr ⟨g, cap, cur, h1, Nat.le_trans hb h2, h3⟩
theorem own_below {w1 w2 : World} {b z n : Nat} {t : TypeId} {v : Value} {xs : List Value} (h : w1.ownsRow b t z v n xs) (hB : Below w1.heap.size w1 w2) : w2.ownsRow b t z v n xs :=
  own_keptG h fun k c hc => (hB.block k (blk_lt hc)).trans hc
/-- the four lists copied -/
theorem fst_make {b0 : Nat} {w0 W : World} {limit : Int} {p : Pl} {m : Mg} {aq aN aU aR : Option Addr} {cq cN cU cR : Nat} (hm : MsgAt W b0 p m) (hl : W.heap[b0 + 1]? = some (.cells #[.int .i64 limit] 3 (0, 0))) (hr : MsgAt W (b0 + 2) noP noM) (hB : Below b0 w0 W)
    (hQ : W.ownsRow b0 35 3 (.slice aq m.qs.length cq) m.qs.length (m.qs.flatMap Qn.cells)) (hN : W.ownsRow b0 43 5 (.slice aN m.an.length cN) m.an.length (m.an.flatMap Rc.cells))
    (hU : W.ownsRow b0 43 5 (.slice aU m.au.length cU) m.au.length (m.au.flatMap Rc.cells)) (hR : W.ownsRow b0 43 5 (.slice aR m.ar.length cR) m.ar.length (m.ar.flatMap Rc.cells))
    (nu : Apart aN aU) (nr : Apart aN aR) (ur : Apart aU aR) :
    FSt b0 w0 ((((W.setCell ⟨b0, 10, none⟩ (.slice aq m.qs.length cq)).setCell ⟨b0, 11, none⟩ (.slice aN m.an.length cN)).setCell ⟨b0, 12, none⟩ (.slice aU m.au.length cU)).setCell ⟨b0, 13, none⟩ (.slice aR m.ar.length cR)) limit ⟨aq, cq, aN, cN, aU, cU, aR, cR⟩ m := by
  have s1 := heap_setCell_same _ _ 10 _ _ (.slice aq m.qs.length cq) hm
  have s2 := heap_setCell_same _ _ 11 _ _ (.slice aN m.an.length cN) s1
  have s3 := heap_setCell_same _ _ 12 _ _ (.slice aU m.au.length cU) s2
  have s4 := heap_setCell_same _ _ 13 _ _ (.slice aR m.ar.length cR) s3
  have o0 : Own4 b0 W ⟨aq, cq, aN, cN, aU, cU, aR, cR⟩ m := ⟨hQ, hN, hU, hR, nu, nr, ur⟩
  have o := own_set (own_set (own_set (own_set o0 (i := 10) (v := .slice aq m.qs.length cq) hm (by decide) (by decide)) (i := 11) (v := .slice aN m.an.length cN) s1 (by decide) (by decide)) (i := 12) (v := .slice aU m.au.length cU) s2 (by decide) (by decide)) (i := 13) (v := .slice aR m.ar.length cR) s3 (by decide) (by decide)
  refine ⟨?_, (far_one (by omega)).trans ((far_one (by omega)).trans ((far_one (by omega)).trans ((far_one (by omega)).trans hl))), (far_one (by omega)).trans ((far_one (by omega)).trans ((far_one (by omega)).trans ((far_one (by omega)).trans hr))), o, below_one (below_one (below_one (below_one hB (Nat.le_refl _)) (Nat.le_refl _)) (Nat.le_refl _)) (Nat.le_refl _)⟩
  refine s4.trans ?_
  simp [cellsM]
def boxesF (w : World) (p : Pl) (m : Mg) (limit : Int) : World := ((w.alloc (.cells (cellsM p m) 25)).alloc (.cells #[.int .i64 limit] 3)).alloc (.cells (cellsM noP noM) 25)
theorem boxesF_at (w : World) (p : Pl) (m : Mg) (limit : Int) : MsgAt (boxesF w p m limit) w.heap.size p m ∧ (boxesF w p m limit).heap[w.heap.size + 1]? = some (.cells #[.int .i64 limit] 3 (0, 0)) ∧ MsgAt (boxesF w p m limit) (w.heap.size + 2) noP noM ∧ Below w.heap.size w (boxesF w p m limit) := by
  have s1 : ∀ (w : World) o, (w.alloc o).heap.size = w.heap.size + 1 := fun w o => by simp
  refine ⟨?_, ?_, ?_, (((Below.refl w.heap.size w).alloc (Nat.le_refl _) _).alloc (by rw [s1]; omega) _).alloc (by rw [s1, s1]; omega) _⟩
  · exact (heap_alloc_old _ _ (by rw [s1, s1]; omega)).trans ((heap_alloc_old _ _ (by rw [s1]; omega)).trans (heap_alloc_new _ _))
  · have h := heap_alloc_new (w.alloc (.cells (cellsM p m) 25)) (.cells #[.int .i64 limit] 3)
    rw [s1] at h
    exact (heap_alloc_old _ _ (by rw [s1, s1]; omega)).trans h
  · have h := heap_alloc_new ((w.alloc (.cells (cellsM p m) 25)).alloc (.cells #[.int .i64 limit] 3)) (.cells (cellsM noP noM) 25)
    rw [s1, s1] at h
    exact h
def FitE (b0 : Nat) (w0 : World) (r : Mg × Int) (e : Ending) (w' : World) : Prop :=
  ∃ pl : Pl, e = .returned (.tuple #[.agg (cellsM pl r.1), .int .i64 r.2]) ∧ Own4 b0 w' pl r.1 ∧ Below b0 w0 w'
theorem res_read {w : World} {B : Nat} {p : Pl} {m : Mg} {y : Value} (tmps : Array Value) (h4 : tmps[4]?.getD undef = .pointer (some ⟨B, 0, none⟩)) (h5 : tmps[5]?.getD undef = y) (hM : MsgAt w B p m) :
    (results Tryz.f10 tmps).run Tryz.prog w = .ok (.tuple #[.agg (cellsM p m), y]) w := by
  have b := hM.box
  simp [results, Tryz.results10, h4, h5, asAddr, go_sem, b.c0, b.c1, b.c2, b.c3, b.c4, b.c5, b.c6, b.c7, b.c8, b.c9, b.c10, b.c11, b.c12, b.c13, cellsM]
theorem fin {b0 B : Nat} {w0 w1 : World} {p : Pl} {m : Mg} {r : Mg × Int} {y : Value} (tmps : Array Value) (h4 : tmps[4]?.getD undef = .pointer (some ⟨B, 0, none⟩)) (h5 : tmps[5]?.getD undef = y) (hM : MsgAt w1 B p m) (hr : r.1 = m) (hy : y = .int .i64 r.2) (ho : Own4 b0 w1 p m) (hB : Below b0 w0 w1) :
    bodyPost Tryz.prog Tryz.f10 (FitE b0 w0 r) .ret { tmps := tmps, defers := [] } w1 := by
  subst hr; subst hy
  exact bodyPost_ret (v := .tuple #[.agg (cellsM p r.1), .int .i64 r.2]) (res_read tmps h4 h5 hM) rfl ⟨p, rfl, ho, hB⟩
theorem ok_bare {m : Mg} (h : OkW m) : OkW (fitP.bare m) := ⟨fun x hx => (by cases hx), fun x hx => (by cases hx), h.r, h.ql, Nat.zero_le _, Nat.zero_le _, h.rl⟩
theorem ok_less {m : Mg} (h : OkW m) (k : Nat) : OkW (fitP.less m k) := ⟨h.n, h.u, fun x hx => h.r x (List.mem_of_mem_eraseIdx hx), h.ql, h.nl, h.ul, Nat.le_trans (List.length_eraseIdx_le _ _) h.rl⟩
theorem less_len (m : Mg) (k : Nat) : (fitP.less m k).ar.length ≤ m.ar.length := List.length_eraseIdx_le _ _
end Go.Proofs.YtnamkladeaohoaaGreat.fitM
