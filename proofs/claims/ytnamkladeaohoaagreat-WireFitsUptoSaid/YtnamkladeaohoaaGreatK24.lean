/- wire.Unpack's deferred closure: walk. wire.Unpack's memory on the way. How wire.Unpack ends: at its door. gazetteersame: Messages on two that read the same: walk. How long a message is: plain. wire.Fit in plain words. wire.Fit's closure: walk. slices.Clone of records and of questions: walks. -/
import Derived.Test.YtnamkladeaohoaaGreatK23
import Derived.Test.YtnamkladeaohoaaGreatK22
import Derived.Test.YtnamkladeaohoaaGreatK20
import Derived.Test.YtnamkladeaohoaaGreatK10
import Derived.Recover
import Derived.BigRegion
import Derived.Deep.RegionHeld3
namespace Go.Proofs.YtnamkladeaohoaaGreat.udoor
open Go.RowKit Go.Proofs.YtnamkladeaohoaaGreat.kit Go.Proofs.YtnamkladeaohoaaGreat.unpP Go.Proofs.YtnamkladeaohoaaGreat.wireP Go.Proofs.YtnamkladeaohoaaGreat.wireM Go.Proofs.YtnamkladeaohoaaGreat.wpack Go.Proofs.YtnamkladeaohoaaGreat.putM
set_option linter.unusedVariables false

theorem msg_frozen {w : World} {b : Nat} {p : Pl} {m : Mg} (h : MsgAt w b p m) (j : Nat) : w.frozen? ⟨b, j, none⟩ = false := by
  unfold MsgAt at h; simp only [World.frozen?, h]; simp
theorem lt_cell {w : World} {a : Addr} {v : Value} (h : w.cell? a = some v) : a.block < w.heap.size := World.block_lt_of_cell? w a h
end Go.Proofs.YtnamkladeaohoaaGreat.udoor
namespace Go.Proofs.YtnamkladeaohoaaGreat.ust
open Go.RowKit Go.Proofs.YtnamkladeaohoaaGreat.kit Go.Proofs.YtnamkladeaohoaaGreat.nspec Go.Proofs.YtnamkladeaohoaaGreat.unpP Go.Proofs.YtnamkladeaohoaaGreat.wireP Go.Proofs.YtnamkladeaohoaaGreat.wireM Go.Proofs.YtnamkladeaohoaaGreat.wireC Go.Proofs.YtnamkladeaohoaaGreat.wpack Go.Proofs.YtnamkladeaohoaaGreat.rows Go.Proofs.YtnamkladeaohoaaGreat.cur Go.Proofs.YtnamkladeaohoaaGreat.putM Go.Proofs.YtnamkladeaohoaaGreat.udoor
set_option linter.unusedVariables false

/-- two places in blocks of their own -/
def Apart (a b : Option Addr) : Prop := ∀ x y, a = some x → b = some y → x.block ≠ y.block
theorem Apart.none_l (b : Option Addr) : Apart none b := fun _ _ h => by cases h
theorem Apart.none_r (a : Option Addr) : Apart a none := fun _ _ _ h => by cases h
theorem Apart.symm {a b : Option Addr} (h : Apart a b) : Apart b a := fun x y hx hy e => h y x hy hx e.symm
/-- a message's four lists are one's own, and lie apart -/
structure Own4 (b0 : Nat) (w : World) (pl : Pl) (m : Mg) : Prop where
  q : w.ownsRow b0 35 3 (.slice pl.qa m.qs.length pl.qc) m.qs.length (m.qs.flatMap Qn.cells)
  n : w.ownsRow b0 43 5 (.slice pl.na m.an.length pl.nc) m.an.length (m.an.flatMap Rc.cells)
  u : w.ownsRow b0 43 5 (.slice pl.ua m.au.length pl.uc) m.au.length (m.au.flatMap Rc.cells)
  r : w.ownsRow b0 43 5 (.slice pl.ra m.ar.length pl.rc) m.ar.length (m.ar.flatMap Rc.cells)
  nu : Apart pl.na pl.ua
  nr : Apart pl.na pl.ra
  ur : Apart pl.ua pl.ra
theorem Own4.keep {b0 : Nat} {w w1 : World} {pl : Pl} {m : Mg} (h : Own4 b0 w pl m) (hk : ∀ (k : Nat) (c : Array Value) (t : TypeId), w.heap[k]? = some (.cells c t (0, 0)) → t = 35 ∨ t = 43 → w1.heap[k]? = some (.cells c t (0, 0))) : Own4 b0 w1 pl m :=
  ⟨own_keptG h.q (fun k c hc => hk k c _ hc (.inl rfl)), own_keptG h.n (fun k c hc => hk k c _ hc (.inr rfl)), own_keptG h.u (fun k c hc => hk k c _ hc (.inr rfl)), own_keptG h.r (fun k c hc => hk k c _ hc (.inr rfl)), h.nu, h.nr, h.ur⟩
theorem Own4.rd {b0 : Nat} {w : World} {pl : Pl} {m : Mg} (h : Own4 b0 w pl m) : RdM w pl m := by
  obtain ⟨_, _, e1, _, _, _, h1⟩ := rdc_own Qn.cells 3 (fun _ => rfl) rfl h.q
  obtain ⟨_, _, e2, _, _, _, h2⟩ := rdc_own Rc.cells 5 (fun _ => rfl) rfl h.n
  obtain ⟨_, _, e3, _, _, _, h3⟩ := rdc_own Rc.cells 5 (fun _ => rfl) rfl h.u
  obtain ⟨_, _, e4, _, _, _, h4⟩ := rdc_own Rc.cells 5 (fun _ => rfl) rfl h.r
  cases e1; cases e2; cases e3; cases e4
  exact ⟨h1, h2, h3, h4⟩
theorem Own4.none (b0 : Nat) (w : World) : Own4 b0 w ⟨none, 0, none, 0, none, 0, none, 0⟩ noM :=
  ⟨World.ownsRow_nil _ _ _ _, World.ownsRow_nil _ _ _ _, World.ownsRow_nil _ _ _ _, World.ownsRow_nil _ _ _ _, .none_l _, .none_l _, .none_l _⟩
/-- what came in -/
structure In0 (b0 : Nat) (w0 : World) (a : Option Addr) (b : Bs) (cap : Nat) : Prop where
  hb : w0.heap.size = b0
  rd : RdB w0 a b
  le : b.length ≤ cap
  cm : cap ≤ maxLen
theorem rdB_below {w w1 : World} {a : Option Addr} {b : Bs} (h : RdB w a b) (hB : Below w.heap.size w w1) : RdB w1 a b := by
  intro j c hc
  obtain ⟨g, o, h1, h2, h3⟩ := h j c hc
  exact ⟨g, o, h1, Nat.lt_of_lt_of_le h2 hB.size, (hB.cell (p := ⟨g, o + j, none⟩) h2).trans h3⟩
section
variable {b0 : Nat} {w0 wr w1 : World} {a : Option Addr} {b : Bs} {cap : Nat} {pl : Pl} {m : Mg} {k g : Nat}
theorem blk_lt {w : World} {k : Nat} {o : Obj} (h : w.heap[k]? = some o) : k < w.heap.size := (Array.getElem?_eq_some_iff.1 h).1
theorem other_t {w : World} {k X : Nat} {c c' : Array Value} {t t' : TypeId} (h : w.heap[k]? = some (.cells c t (0, 0))) (hX : w.heap[X]? = some (.cells c' t' (0, 0))) (hne : t ≠ t') : k ≠ X := by
  intro e; subst e; rw [h] at hX; injection hX with hX; injection hX with _ h2 _; exact hne h2
/-- a cell set, neither a list's nor one of the five's -/
theorem own_set (h : Own4 b0 wr pl m) {X i : Nat} {v : Value} {c : Array Value} {t : TypeId} (hX : wr.heap[X]? = some (.cells c t (0, 0))) (h1 : t ≠ 35) (h2 : t ≠ 43) : Own4 b0 (wr.setCell ⟨X, i, none⟩ v) pl m :=
  h.keep fun j c' t' hj ht => (far_one (other_t hj hX (by rcases ht with rfl | rfl; exact fun e => h1 e.symm; exact fun e => h2 e.symm))).trans hj
theorem own_far {W : World} {v v' : Value} {n n' : Nat} {xs xs' : List Value} {sz sz' : Nat} {t t' : TypeId} (h : W.ownsRow b0 t' sz' v' n' xs') (hv : W.ownsRow b0 t sz v n xs) (hgr : W.grownBy w1 v.ownBlock) (ht : t ≠ t') : w1.ownsRow b0 t' sz' v' n' xs' :=
  own_keptG h (fun j c hj => (hgr.block j (blk_lt hj) (row_neG hv hj (fun c' f e => by injection e with _ e2 _; exact ht e2.symm))).trans hj)
theorem ownB (x : Option Addr) (n c : Nat) : (Value.slice x n c).ownBlock = x.map Addr.block := by cases x <;> rfl
theorem own_apart {W : World} {x y : Option Addr} {n c : Nat} {xs' : List Value} {n' c' : Nat} {sz' : Nat} {t' : TypeId} (h : W.ownsRow b0 t' sz' (.slice y n' c') n' xs') (hgr : W.grownBy w1 (Value.slice x n c).ownBlock) (ha : Apart x y) : w1.ownsRow b0 t' sz' (.slice y n' c') n' xs' := by
  refine h.kept hgr ?_
  rw [ownB, ownB]
  cases y with
  | none => exact .inl rfl
  | some y =>
    right
    cases x with
    | none => simp
    | some x => simp only [Option.map_some]; intro e; injection e with e; exact ha x y rfl rfl e.symm
theorem new_apart {W : World} {x y : Option Addr} {n c n' c' g3 : Nat} {xs' : List Value} {sz' : Nat} {t' : TypeId} (h : W.ownsRow b0 t' sz' (.slice y n' c') n' xs') (ha : Apart x y) (hat : (Value.slice x n c).ownBlock = some g3 ∨ g3 = W.heap.size) : Apart (some ⟨g3, 0, none⟩) y := by
  intro p q hp hq e
  cases hp; subst hq
  rcases hat with hat | hat
  · rw [ownB] at hat
    cases x with
    | none => cases hat
    | some x => simp only [Option.map_some, Option.some.injEq] at hat; exact ha x q rfl rfl (hat.trans e)
  · rcases h.2 with ⟨e1, _⟩ | ⟨g', _, _, e1, _, hg', _⟩
    · cases e1
    · cases e1
      have := blk_lt hg'
      have e : g3 = g' := e
      omega
theorem own_ne {w : World} {X i : Nat} {v0 : Value} {x : Option Addr} {e : TypeId} {sz n c : Nat} {xs : List Value} (h : w.ownsRow b0 e sz (.slice x n c) n xs) (hne : ∀ y, x = some y → y.block ≠ X) : (w.setCell ⟨X, i, none⟩ v0).ownsRow b0 e sz (.slice x n c) n xs := by
  refine ⟨h.1, ?_⟩
  rcases h.2 with h1 | ⟨g, cap, cur, h1, h2, h3, h4⟩
  · exact .inl h1
  · refine .inr ⟨g, cap, cur, h1, h2, ?_, h4⟩
    cases h1
    rw [far_one (hne _ rfl)]; exact h3
/-- a section's list: where it lies -/
def secA (p : Pl) : Nat → Option Addr | 0 => p.na | 1 => p.ua | _ => p.ra
def secC (p : Pl) : Nat → Nat | 0 => p.nc | 1 => p.uc | _ => p.rc
def updP (p : Pl) (s : Nat) (x : Option Addr) (c : Nat) : Pl := match s with | 0 => { p with na := x, nc := c } | 1 => { p with ua := x, uc := c } | _ => { p with ra := x, rc := c }
def updM (m : Mg) (s : Nat) (L : List Rc) : Mg := match s with | 0 => { m with an := L } | 1 => { m with au := L } | _ => { m with ar := L }
theorem secL_upd (m : Mg) (s : Nat) (L : List Rc) : secL (updM m s L) s = L := by match s with | 0 => rfl | 1 => rfl | _ + 2 => rfl
theorem updM_upd (m : Mg) (s : Nat) (L M : List Rc) : updM (updM m s L) s M = updM m s M := by match s with | 0 => rfl | 1 => rfl | _ + 2 => rfl
end
end Go.Proofs.YtnamkladeaohoaaGreat.ust
namespace Go.Proofs.YtnamkladeaohoaaGreat.uend
open Go.RowKit Go.Proofs.YtnamkladeaohoaaGreat.kit Go.Proofs.YtnamkladeaohoaaGreat.nspec Go.Proofs.YtnamkladeaohoaaGreat.unpP Go.Proofs.YtnamkladeaohoaaGreat.wireP Go.Proofs.YtnamkladeaohoaaGreat.wireM Go.Proofs.YtnamkladeaohoaaGreat.wireC Go.Proofs.YtnamkladeaohoaaGreat.wpack Go.Proofs.YtnamkladeaohoaaGreat.rows Go.Proofs.YtnamkladeaohoaaGreat.cur Go.Proofs.YtnamkladeaohoaaGreat.putM Go.Proofs.YtnamkladeaohoaaGreat.udoor Go.Proofs.YtnamkladeaohoaaGreat.ust
set_option linter.unusedVariables false

/-- what Unpack leaves -/
def UnpE (b0 : Nat) (w0 : World) (r : Mg × Nat × Int) (e : Ending) (w' : World) : Prop :=
  ∃ pl : Pl, e = .returned (.tuple #[.agg (cellsM pl r.1), .int .i64 (r.2.1 : Int), .int .i64 r.2.2]) ∧ Own4 b0 w' pl r.1 ∧ Below b0 w0 w'
theorem infoMsg : (Tryz.prog.info? 25).map (·.size) = some 14 := by kernel_rfl
end Go.Proofs.YtnamkladeaohoaaGreat.uend
namespace Go.Proofs.YtnamkladeaohoaaGreat.sameM
open Go.RowKit Go.Proofs.YtnamkladeaohoaaGreat.kit Go.Proofs.YtnamkladeaohoaaGreat.timed Go.Proofs.YtnamkladeaohoaaGreat.nspec Go.Proofs.YtnamkladeaohoaaGreat.coded Go.Proofs.YtnamkladeaohoaaGreat.wireP Go.Proofs.YtnamkladeaohoaaGreat.wireM Go.Proofs.YtnamkladeaohoaaGreat.wpack Go.Proofs.YtnamkladeaohoaaGreat.rows Go.Proofs.YtnamkladeaohoaaGreat.same Go.Proofs.YtnamkladeaohoaaGreat.rpack Go.Proofs.YtnamkladeaohoaaGreat.twinM Go.Proofs.YtnamkladeaohoaaGreat.wholeM
set_option linter.unusedVariables false

/-- not too many of anything -/
structure Few (m : Mg) : Prop where
  ql : m.qs.length ≤ 1099511627776
  nl : m.an.length ≤ 1099511627776
  ul : m.au.length ≤ 1099511627776
  rl : m.ar.length ≤ 1099511627776
theorem few_checked {m : Mg} (h : checkB m = true) : Few m := by
  simp only [checkB, Bool.and_eq_true] at h
  have := of_decide_eq_true h.2.2.2.1
  exact ⟨by omega, by omega, by omega, by omega⟩
set_option maxRecDepth 100000 in
set_option maxHeartbeats 4000000 in
theorem messages_same (P p : Pl) (m : Mg) (w : World) (h : RdM w P m) (hr : RdM w p m) (ho : Few m) :
    Calls Tryz.prog 12 #[.agg #[.int .i64 m.id, .bool m.rs, .int .i64 m.op, .bool m.aa, .bool m.tc, .bool m.rd, .bool m.ra, .bool m.ad, .bool m.cd, .int .i64 m.rc, .slice P.qa m.qs.length P.qc, .slice P.na m.an.length P.nc, .slice P.ua m.au.length P.uc, .slice P.ra m.ar.length P.rc], .agg #[.int .i64 m.id, .bool m.rs, .int .i64 m.op, .bool m.aa, .bool m.tc, .bool m.rd, .bool m.ra, .bool m.ad, .bool m.cd, .int .i64 m.rc, .slice p.qa m.qs.length p.qc, .slice p.na m.an.length p.nc, .slice p.ua m.au.length p.uc, .slice p.ra m.ar.length p.rc]] w fun e w' => e = .returned (.bool true) ∧ Below w.heap.size w w' := by
  have CH := Lib.hid (fun w => head_same P p m m.qs.length m.an.length m.au.length m.ar.length m.qs.length m.an.length m.au.length m.ar.length w)
  have CQ := Lib.hid (fun (wx : World) (hB : Below w.heap.size w wx) => questions_same P.qa p.qa m.qs.length P.qc p.qc m.qs wx rfl (h.q.below hB rfl) (hr.q.below hB rfl) ho.ql)
  have W1 := Lib.hid (fun (wx : World) (hB : Below w.heap.size w wx) => records_same P.na p.na m.an.length P.nc p.nc m.an wx rfl (h.n.below hB rfl) (hr.n.below hB rfl) ho.nl)
  have W2 := Lib.hid (fun (wx : World) (hB : Below w.heap.size w wx) => records_same P.ua p.ua m.au.length P.uc p.uc m.au wx rfl (h.u.below hB rfl) (hr.u.below hB rfl) ho.ul)
  have W3 := Lib.hid (fun (wx : World) (hB : Below w.heap.size w wx) => records_same P.ra p.ra m.ar.length P.rc p.rc m.ar wx rfl (h.r.below hB rfl) (hr.r.below hB rfl) ho.rl)
  have hm1 : MsgAt ((w.alloc (.cells #[.int .i64 m.id, .bool m.rs, .int .i64 m.op, .bool m.aa, .bool m.tc, .bool m.rd, .bool m.ra, .bool m.ad, .bool m.cd, .int .i64 m.rc, .slice P.qa m.qs.length P.qc, .slice P.na m.an.length P.nc, .slice P.ua m.au.length P.uc, .slice P.ra m.ar.length P.rc] 25)).alloc (.cells #[.int .i64 m.id, .bool m.rs, .int .i64 m.op, .bool m.aa, .bool m.tc, .bool m.rd, .bool m.ra, .bool m.ad, .bool m.cd, .int .i64 m.rc, .slice p.qa m.qs.length p.qc, .slice p.na m.an.length p.nc, .slice p.ua m.au.length p.uc, .slice p.ra m.ar.length p.rc] 25)) w.heap.size P m :=
    msg_cells (w := w.alloc (.cells #[.int .i64 m.id, .bool m.rs, .int .i64 m.op, .bool m.aa, .bool m.tc, .bool m.rd, .bool m.ra, .bool m.ad, .bool m.cd, .int .i64 m.rc, .slice P.qa m.qs.length P.qc, .slice P.na m.an.length P.nc, .slice P.ua m.au.length P.uc, .slice P.ra m.ar.length P.rc] 25)) (heap_alloc_new _ _) ((Below.refl _ _).alloc (Nat.le_refl _) _)
  have hm2 : MsgAt ((w.alloc (.cells #[.int .i64 m.id, .bool m.rs, .int .i64 m.op, .bool m.aa, .bool m.tc, .bool m.rd, .bool m.ra, .bool m.ad, .bool m.cd, .int .i64 m.rc, .slice P.qa m.qs.length P.qc, .slice P.na m.an.length P.nc, .slice P.ua m.au.length P.uc, .slice P.ra m.ar.length P.rc] 25)).alloc (.cells #[.int .i64 m.id, .bool m.rs, .int .i64 m.op, .bool m.aa, .bool m.tc, .bool m.rd, .bool m.ra, .bool m.ad, .bool m.cd, .int .i64 m.rc, .slice p.qa m.qs.length p.qc, .slice p.na m.an.length p.nc, .slice p.ua m.au.length p.uc, .slice p.ra m.ar.length p.rc] 25)) (w.heap.size + 1) p m := by
    have h := heap_alloc_new (w.alloc (.cells #[.int .i64 m.id, .bool m.rs, .int .i64 m.op, .bool m.aa, .bool m.tc, .bool m.rd, .bool m.ra, .bool m.ad, .bool m.cd, .int .i64 m.rc, .slice P.qa m.qs.length P.qc, .slice P.na m.an.length P.nc, .slice P.ua m.au.length P.uc, .slice P.ra m.ar.length P.rc] 25)) (.cells #[.int .i64 m.id, .bool m.rs, .int .i64 m.op, .bool m.aa, .bool m.tc, .bool m.rd, .bool m.ra, .bool m.ad, .bool m.cd, .int .i64 m.rc, .slice p.qa m.qs.length p.qc, .slice p.na m.an.length p.nc, .slice p.ua m.au.length p.uc, .slice p.ra m.ar.length p.rc] 25)
    rw [show (w.alloc (.cells #[.int .i64 m.id, .bool m.rs, .int .i64 m.op, .bool m.aa, .bool m.tc, .bool m.rd, .bool m.ra, .bool m.ad, .bool m.cd, .int .i64 m.rc, .slice P.qa m.qs.length P.qc, .slice P.na m.an.length P.nc, .slice P.ua m.au.length P.uc, .slice P.ra m.ar.length P.rc] 25)).heap.size = w.heap.size + 1 from by simp] at h
    exact h
  have hbel := ((Below.refl w.heap.size w).alloc (Nat.le_refl _) (.cells #[.int .i64 m.id, .bool m.rs, .int .i64 m.op, .bool m.aa, .bool m.tc, .bool m.rd, .bool m.ra, .bool m.ad, .bool m.cd, .int .i64 m.rc, .slice P.qa m.qs.length P.qc, .slice P.na m.an.length P.nc, .slice P.ua m.au.length P.uc, .slice P.ra m.ar.length P.rc] 25)).alloc (by simp) (.cells #[.int .i64 m.id, .bool m.rs, .int .i64 m.op, .bool m.aa, .bool m.tc, .bool m.rd, .bool m.ra, .bool m.ad, .bool m.cd, .int .i64 m.rc, .slice p.qa m.qs.length p.qc, .slice p.na m.an.length p.nc, .slice p.ua m.au.length p.uc, .slice p.ra m.ar.length p.rc] 25)
  have HM1 := Lib.hid hm1; have HM2 := Lib.hid hm2; have HB0 := Lib.hid hbel
  clear h hr ho hm1 hm2 hbel
  go_enter Tryz.func12, Tryz.ntmps12
  go_wp2_with fail
  refine (CH.out _).mono ?_
  rintro e w1 ⟨rfl, hB1⟩
  have M1 := Lib.hid (msg_cells HM1.out hB1); have M2 := Lib.hid (msg_cells HM2.out hB1)
  have B1 := Lib.hid (HB0.out.trans (hB1.mono HB0.out.size))
  have b10 := M1.out.box.c10; have c10 := M2.out.box.c10
  clear hB1
  go_wp2_with fail
  refine (CQ.out _ B1.out).mono ?_
  rintro e w2 ⟨rfl, hB2⟩
  have M3 := Lib.hid (msg_cells M1.out hB2); have M4 := Lib.hid (msg_cells M2.out hB2)
  have B2 := Lib.hid (B1.out.trans (hB2.mono B1.out.size))
  have b11 := M3.out.box.c11; have c11 := M4.out.box.c11
  clear hB2 b10 c10
  go_wp2_with fail
  refine (W1.out _ B2.out).mono ?_
  rintro e w3 ⟨rfl, hB3⟩
  have M5 := Lib.hid (msg_cells M3.out hB3); have M6 := Lib.hid (msg_cells M4.out hB3)
  have B3 := Lib.hid (B2.out.trans (hB3.mono B2.out.size))
  have b12 := M5.out.box.c12; have c12 := M6.out.box.c12
  clear hB3 b11 c11
  go_wp2_with fail
  refine (W2.out _ B3.out).mono ?_
  rintro e w4 ⟨rfl, hB4⟩
  have M7 := Lib.hid (msg_cells M5.out hB4); have M8 := Lib.hid (msg_cells M6.out hB4)
  have B4 := Lib.hid (B3.out.trans (hB4.mono B3.out.size))
  have b13 := M7.out.box.c13; have c13 := M8.out.box.c13
  clear hB4 b12 c12
  go_wp2_with fail
  refine (W3.out _ B4.out).mono ?_
  rintro e w5 ⟨rfl, hB5⟩
  have B5 := Lib.hid (B4.out.trans (hB5.mono B4.out.size))
  clear hB5 b13 c13
  go_wp2_with fail
  go_ret
  exact ⟨rfl, B5.out⟩
end Go.Proofs.YtnamkladeaohoaaGreat.sameM
namespace Go.Proofs.YtnamkladeaohoaaGreat.shortP
open Go.RowKit Go.Proofs.YtnamkladeaohoaaGreat.kit Go.Proofs.YtnamkladeaohoaaGreat.nspec Go.Proofs.YtnamkladeaohoaaGreat.rsplit Go.Proofs.YtnamkladeaohoaaGreat.check Go.Proofs.YtnamkladeaohoaaGreat.fld Go.Proofs.YtnamkladeaohoaaGreat.wireP Go.Proofs.YtnamkladeaohoaaGreat.wireM Go.Proofs.YtnamkladeaohoaaGreat.packP Go.Proofs.YtnamkladeaohoaaGreat.psmall Go.Proofs.YtnamkladeaohoaaGreat.fits Go.Proofs.YtnamkladeaohoaaGreat.pdata Go.Proofs.YtnamkladeaohoaaGreat.wpack
set_option linter.unusedVariables false

def plainQ (x : Qn) : Nat := x.n.size + 4
def plainR (x : Rc) : Nat := x.o.size + 10 + x.d.size
def plainM (m : Mg) : Nat := 12 + (m.qs.map plainQ).sum + (m.an.map plainR).sum + (m.au.map plainR).sum + (m.ar.map plainR).sum
theorem put_len_pos (ls : List Bs) : 1 ≤ (put ls).length := by cases ls <;> simp [put]
theorem put_cons_len (x : Bs) (r : List Bs) : (put (x :: r)).length = 1 + x.length + (put r).length := by simp only [put, List.length_cons, List.length_append]; omega
theorem put_cons_head {x : Bs} {r : List Bs} (h : okL (x :: r)) : ∃ c, put (x :: r) = c :: (x ++ put r) ∧ c ≠ 0 ∧ c.toNat = x.length := by
  have hx := (okL_cons.1 h).1
  have hc : (UInt8.ofNat x.length).toNat = x.length := UInt8.toNat_ofNat_of_lt' (by show x.length < 256; omega)
  refine ⟨UInt8.ofNat x.length, rfl, ?_, hc⟩
  intro e; rw [e] at hc; simp at hc; omega
/-- one label further -/
theorem nameP_next {x : Bs} {r : List Bs} {p : Pp} (h : okL (x :: r)) (hf : findN p.N (put (x :: r)) = none) :
    nameP (put (x :: r)) p = nameP (put r) ⟨p.out ++ (put (x :: r)).take (1 + x.length), if p.out.length ≤ 16383 then p.N ++ [(put (x :: r), p.out.length)] else p.N⟩ := by
  obtain ⟨c, hc, h0, hcn⟩ := put_cons_head h
  have hn := nameP_go (p := p) h0 (by rw [← hc]; exact hf)
  rw [← hc, hcn] at hn
  rw [hn]
  have hd := pname.drop_put x r (okL_cons.1 h).1.2
  rw [UInt8.toNat_ofNat_of_lt' (by have := (okL_cons.1 h).1.2; show x.length < 256; omega)] at hd
  rw [hd]
theorem nameP_found {x : Bs} {r : List Bs} {p : Pp} {k : Nat} (h : okL (x :: r)) (hf : findN p.N (put (x :: r)) = some k) : nameP (put (x :: r)) p = ⟨p.out ++ be2 (49152 + k), p.N⟩ := by
  obtain ⟨c, hc, h0, hcn⟩ := put_cons_head h
  rw [hc] at hf ⊢
  exact nameP_hit h0 hf
theorem nameP_up : ∀ (ls : List Bs) (p : Pp), okL ls → (nameP (put ls) p).out.length ≤ p.out.length + (put ls).length
  | [], p, _ => by
    have e : nameP (put []) p = ⟨p.out ++ [0], p.N⟩ := nameP_end
    rw [e]; simp [put]
  | x :: r, p, h => by
    have hl := put_cons_len x r
    have h1 := (okL_cons.1 h).1
    have h2 := put_len_pos r
    cases hf : findN p.N (put (x :: r)) with
    | some k => rw [nameP_found h hf]; simp only [List.length_append, be2, List.length_cons, List.length_nil]; omega
    | none =>
      rw [nameP_next h hf]
      refine Nat.le_trans (nameP_up r _ (okL_cons.1 h).2) ?_
      simp only [List.length_append, List.length_take]; omega
/-- what is noted stays noted -/
def Keeps (N M : Noted) : Prop := ∀ n k, findN N n = some k → findN M n = some k
theorem Keeps.refl (N : Noted) : Keeps N N := fun _ _ h => h
theorem Keeps.trans {N M K : Noted} (h : Keeps N M) (g : Keeps M K) : Keeps N K := fun n k hn => g n k (h n k hn)
theorem Keeps.snoc (N : Noted) (x : Bs × Nat) : Keeps N (N ++ [x]) := by
  intro n k h
  obtain ⟨r, j⟩ := x
  rw [findN_snoc, h]
theorem nameF_keeps : ∀ (f : Nat) (n : Bs) (p : Pp), Keeps p.N (nameF f n p).N
  | 0, n, p => Keeps.refl _
  | f + 1, [], p => Keeps.refl _
  | f + 1, c :: r, p => by
    simp only [nameF]
    by_cases hc : c = 0
    · rw [if_pos hc]; exact Keeps.refl _
    · rw [if_neg hc]
      cases findN p.N (c :: r) with
      | some k => exact Keeps.refl _
      | none =>
        refine Keeps.trans ?_ (nameF_keeps f _ _)
        dsimp only
        split
        · exact Keeps.snoc _ _
        · exact Keeps.refl _
theorem nameP_keeps (n : Bs) (p : Pp) : Keeps p.N (nameP n p).N := nameF_keeps _ n p
theorem dataP_keeps : ∀ (fs : List (Option Nat)) (d : Bs) (p : Pp), Keeps p.N (dataP fs d p).N
  | [], d, p => Keeps.refl _
  | none :: fs, d, p => (nameP_keeps _ _).trans (dataP_keeps fs _ _)
  | some k :: fs, d, p => by
    have h := dataP_keeps fs (d.drop k) ⟨p.out ++ d.take k, p.N⟩
    exact h
theorem recP_keeps (x : Rc) (p : Pp) : Keeps p.N (recP x p).N := by
  have h := (nameP_keeps x.o.data.toList p).trans (dataP_keeps (if x.d.size = 0 then [] else shortL x.t) x.d.data.toList ⟨(nameP x.o.data.toList p).out ++ (be2 x.t ++ be2 x.c ++ be4 x.l) ++ [0, 0], (nameP x.o.data.toList p).N⟩)
  exact h
theorem quesP_keeps (x : Qn) (p : Pp) : Keeps p.N (quesP x p).N := by
  unfold quesP
  exact nameP_keeps _ _
theorem quesL_keeps : ∀ (L : List Qn) (p : Pp), Keeps p.N (L.foldl (fun p x => quesP x p) p).N
  | [], p => Keeps.refl _
  | x :: L, p => (quesP_keeps x p).trans (quesL_keeps L _)
theorem recsP_keeps : ∀ (L : List Rc) (p q : Pp), recsP L p = some q → Keeps p.N q.N
  | [], p, q, h => by
    simp only [recsP] at h
    split at h
    · cases h
    · cases h; exact Keeps.refl _
  | x :: L, p, q, h => by
    simp only [recsP] at h
    split at h
    · cases h
    · exact (recP_keeps x p).trans (recsP_keeps L _ q h)
theorem dataP_upL : ∀ (fs : List (Option Nat)) (d : Bs) (p : Pp), Fits fs d → (dataP fs d p).out.length ≤ p.out.length + d.length
  | [], d, p, _ => by simp [dataP]
  | none :: fs, d, p, hf => by
    obtain ⟨ls, d', h1, h2, h3, h4⟩ := hf
    simp only [dataP]
    have e1 : d.take (nameSz d) = put ls := by rw [h3, nameSz_put ls d' h1, List.take_left]
    have e2 : d.drop (nameSz d) = d' := by rw [h3, nameSz_put ls d' h1, List.drop_left]
    rw [e1, e2]
    refine Nat.le_trans (dataP_upL fs d' _ h4) ?_
    have := nameP_up ls p h1
    rw [h3, List.length_append]; omega
  | some k :: fs, d, p, hf => by
    simp only [dataP]
    refine Nat.le_trans (dataP_upL fs _ _ hf.2) ?_
    simp only [List.length_append, List.length_take, List.length_drop]
    have := hf.1
    omega
theorem quesP_up (x : Qn) (p : Pp) (h : rightQ x = true) : (quesP x p).out.length ≤ p.out.length + plainQ x := by
  obtain ⟨ls, hls⟩ := q_use h
  have h1 := nameP_up ls p hls.2.1
  rw [← hls.1, size_len] at h1
  unfold quesP plainQ
  simp only [List.length_append, be2, List.length_cons, List.length_nil]
  omega
theorem recP_upL (x : Rc) (p : Pp) (h : rightB x = true) : (recP x p).out.length ≤ p.out.length + plainR x := by
  obtain ⟨⟨ls, hls⟩, _, _, _, hf⟩ := right_use h
  have h1 := nameP_up ls p hls.2.1
  rw [← hls.1, size_len] at h1
  rw [← recP_eq x p _ rfl]
  simp only [patch_len]
  refine Nat.le_trans (dataP_upL _ _ _ ?_) ?_
  · split
    · trivial
    · exact hf (by assumption)
  · unfold plainR
    simp only [List.length_append, be2, be4, List.length_cons, List.length_nil, size_len]
    omega
theorem quesL_up : ∀ (L : List Qn) (p : Pp), L.all rightQ = true → (L.foldl (fun p x => quesP x p) p).out.length ≤ p.out.length + (L.map plainQ).sum
  | [], p, _ => by simp
  | x :: L, p, h => by
    simp only [List.all_cons, Bool.and_eq_true] at h
    simp only [List.foldl_cons, List.map_cons, List.sum_cons]
    have h1 := quesP_up x p h.1
    have h2 := quesL_up L (quesP x p) h.2
    omega
theorem recsP_upL : ∀ (L : List Rc) (p : Pp), L.all rightB = true → (∀ q, recsP L p = some q → q.out.length ≤ p.out.length + (L.map plainR).sum) ∧ (recsP L p = none → 65535 < p.out.length + (L.map plainR).sum)
  | [], p, _ => by
    simp only [recsP]
    by_cases hb : 65535 < p.out.length
    · rw [if_pos hb]; exact ⟨(fun q h => by cases h), fun _ => by simp; omega⟩
    · rw [if_neg hb]; exact ⟨(fun q h => by cases h; simp), (fun h => by cases h)⟩
  | x :: L, p, h => by
    simp only [List.all_cons, Bool.and_eq_true] at h
    simp only [recsP, List.map_cons, List.sum_cons]
    by_cases hb : 65535 < p.out.length
    · rw [if_pos hb]; exact ⟨(fun q h => by cases h), fun _ => by omega⟩
    · rw [if_neg hb]
      have h1 := recP_upL x p h.1
      have h2 := recsP_upL L (recP x p) h.2
      refine ⟨fun q hq => ?_, fun hq => ?_⟩
      · have := h2.1 q hq; omega
      · have := h2.2 hq; omega
theorem head_len (m : Mg) : (headP m).length = 12 := by simp [headP, be2]
theorem check_all4 {m : Mg} (h : checkB m = true) : m.qs.all rightQ = true ∧ (m.an ++ m.au ++ m.ar).all rightB = true := by
  have h1 := check_len h
  refine ⟨h1.2.1, ?_⟩
  rw [List.all_append, List.all_append, h1.2.2.1, h1.2.2.2.1, h1.2.2.2.2]; rfl
theorem plain_sum (m : Mg) : plainM m = 12 + (m.qs.map plainQ).sum + ((m.an ++ m.au ++ m.ar).map plainR).sum := by
  unfold plainM; rw [List.map_append, List.map_append, List.sum_append, List.sum_append]; omega
/-- never longer than plain; what is too large is so plainly -/
theorem pack_short (m : Mg) : ((packS m).2 = 0 → (packS m).1.length ≤ plainM m) ∧ ((packS m).2 = 12 → 65535 < plainM m) := by
  unfold packS
  by_cases hc : checkB m = false
  · rw [if_pos hc]; exact ⟨fun h => by simp at h, fun h => by simp at h⟩
  · rw [if_neg hc]
    have hc' : checkB m = true := by simpa using hc
    obtain ⟨h1, h2⟩ := check_all4 hc'
    have h3 := quesL_up m.qs ⟨headP m, []⟩ h1
    rw [show (⟨headP m, []⟩ : Pp).out.length = 12 from head_len m] at h3
    have h4 := recsP_upL (m.an ++ m.au ++ m.ar) (m.qs.foldl (fun p x => quesP x p) ⟨headP m, []⟩) h2
    rw [plain_sum]
    unfold packP
    cases hr : recsP (m.an ++ m.au ++ m.ar) (m.qs.foldl (fun p x => quesP x p) ⟨headP m, []⟩) with
    | none =>
      have := h4.2 hr
      simp only [Option.map_none]
      exact ⟨fun h => by simp at h, fun _ => by omega⟩
    | some q =>
      have := h4.1 q hr
      simp only [Option.map_some]
      exact ⟨fun _ => by omega, fun h => by simp at h⟩
theorem pack_kinds (m : Mg) : (packS m).2 = 0 ∨ ((packS m).1 = [] ∧ ((packS m).2 = 8 ∨ (packS m).2 = 12)) := by
  unfold packS
  by_cases hc : checkB m = false
  · rw [if_pos hc]; exact .inr ⟨rfl, .inl rfl⟩
  · rw [if_neg hc]
    cases packP m with
    | none => exact .inr ⟨rfl, .inr rfl⟩
    | some b => exact .inl rfl
/-- the first question's name is noted -/
theorem first_noted {x : Qn} {L : List Qn} {h : Bs} {b' : Bs} {r : List Bs} (hx : x.n.data.toList = put (b' :: r)) (ho : okL (b' :: r)) (hh : h.length ≤ 16383) : ∃ k, findN ((x :: L).foldl (fun p x => quesP x p) ⟨h, []⟩).N x.n.data.toList = some k := by
  refine ⟨h.length, ?_⟩
  rw [List.foldl_cons]
  refine quesL_keeps L _ _ _ ?_
  show findN (nameP x.n.data.toList ⟨h, []⟩).N x.n.data.toList = _
  rw [hx]
  have e : findN (⟨h, []⟩ : Pp).N (put (b' :: r)) = none := rfl
  rw [nameP_next ho e]
  refine nameP_keeps _ _ _ _ ?_
  dsimp only
  rw [if_pos hh]
  simp [findN]
theorem recs_snoc : ∀ (L : List Rc) (r : Rc) (p q : Pp), recsP L p = some q → recsP (L ++ [r]) p = if 65535 < (recP r q).out.length then none else some (recP r q)
  | [], r, p, q, h => by
    simp only [recsP] at h
    by_cases hb : 65535 < p.out.length
    · rw [if_pos hb] at h; cases h
    · rw [if_neg hb] at h; cases h
      simp only [List.nil_append, recsP, if_neg hb]
  | x :: L, r, p, q, h => by
    simp only [recsP] at h
    by_cases hb : 65535 < p.out.length
    · rw [if_pos hb] at h; cases h
    · rw [if_neg hb] at h
      simp only [List.cons_append, recsP, if_neg hb]
      exact recs_snoc L r _ q h
/-- papers of one length with the same notes -/
def Sim (p q : Pp) : Prop := p.N = q.N ∧ p.out.length = q.out.length
theorem nameF_sim : ∀ (f : Nat) (n : Bs) (p q : Pp), Sim p q → Sim (nameF f n p) (nameF f n q)
  | 0, n, p, q, h => h
  | f + 1, [], p, q, h => h
  | f + 1, c :: r, p, q, h => by
    simp only [nameF]
    by_cases hc : c = 0
    · rw [if_pos hc, if_pos hc]; exact ⟨h.1, by simp [h.2]⟩
    · rw [if_neg hc, if_neg hc, ← h.1]
      cases findN p.N (c :: r) with
      | some k => exact ⟨rfl, by simp [h.2]⟩
      | none => exact nameF_sim f _ _ _ ⟨by dsimp only; rw [h.2], by simp [h.2]⟩
theorem nameP_sim (n : Bs) {p q : Pp} (h : Sim p q) : Sim (nameP n p) (nameP n q) := nameF_sim _ n p q h
theorem dataP_sim : ∀ (fs : List (Option Nat)) (d : Bs) (p q : Pp), Sim p q → Sim (dataP fs d p) (dataP fs d q)
  | [], d, p, q, h => ⟨h.1, by simp [dataP, h.2]⟩
  | none :: fs, d, p, q, h => dataP_sim fs _ _ _ (nameP_sim _ h)
  | some k :: fs, d, p, q, h => dataP_sim fs _ _ _ ⟨h.1, by simp [h.2]⟩
theorem recP_sim (x : Rc) {p q : Pp} (h : Sim p q) : Sim (recP x p) (recP x q) := by
  have h1 := nameP_sim x.o.data.toList h
  have h2 := dataP_sim (if x.d.size = 0 then [] else shortL x.t) x.d.data.toList ⟨(nameP x.o.data.toList p).out ++ (be2 x.t ++ be2 x.c ++ be4 x.l) ++ [0, 0], (nameP x.o.data.toList p).N⟩ ⟨(nameP x.o.data.toList q).out ++ (be2 x.t ++ be2 x.c ++ be4 x.l) ++ [0, 0], (nameP x.o.data.toList q).N⟩ ⟨h1.1, by simp [h1.2]⟩
  unfold recP
  exact ⟨h2.1, by simp only [patch_len]; exact h2.2⟩
theorem quesP_sim (x : Qn) {p q : Pp} (h : Sim p q) : Sim (quesP x p) (quesP x q) := by
  have h1 := nameP_sim x.n.data.toList h
  unfold quesP
  exact ⟨h1.1, by simp [h1.2]⟩
theorem quesL_sim : ∀ (L : List Qn) {p q : Pp}, Sim p q → Sim (L.foldl (fun p x => quesP x p) p) (L.foldl (fun p x => quesP x p) q)
  | [], p, q, h => h
  | x :: L, p, q, h => quesL_sim L (quesP_sim x h)
theorem recsP_sim : ∀ (L : List Rc) {p q : Pp}, Sim p q → ∀ p', recsP L p = some p' → ∃ q', recsP L q = some q' ∧ Sim p' q'
  | [], p, q, h, p', hp => by
    simp only [recsP] at hp ⊢
    rw [← h.2]
    by_cases hb : 65535 < p.out.length
    · rw [if_pos hb] at hp; cases hp
    · rw [if_neg hb] at hp ⊢; cases hp; exact ⟨q, rfl, h⟩
  | x :: L, p, q, h, p', hp => by
    simp only [recsP] at hp ⊢
    rw [← h.2]
    by_cases hb : 65535 < p.out.length
    · rw [if_pos hb] at hp; cases hp
    · rw [if_neg hb] at hp ⊢; exact recsP_sim L (recP_sim x h) p' hp
/-- the record that is added -/
def moreR (n d : ByteArray) : Rc := ⟨n, 731, 1, 0, d⟩
def moreM (m : Mg) (n d : ByteArray) : Mg := { m with ar := m.ar ++ [moreR n d] }
theorem more_len {n d : ByteArray} {q : Pp} {k : Nat} {b : Bs} {r : List Bs} (hx : n.data.toList = put (b :: r)) (ho : okL (b :: r)) (hf : findN q.N n.data.toList = some k) : (recP (moreR n d) q).out.length = q.out.length + 12 + d.size := by
  have hn : nameP n.data.toList q = ⟨q.out ++ be2 (49152 + k), q.N⟩ := by
    rw [hx] at hf ⊢; exact nameP_found ho hf
  have e : (if (moreR n d).d.size = 0 then [] else shortL (moreR n d).t) = [] := by split <;> rfl
  unfold recP
  rw [e]
  show (patch (dataP [] _ _).out _ _).length = _
  rw [patch_len]
  have hm : (moreR n d).o = n := rfl
  have hm2 : (moreR n d).d = d := rfl
  rw [hm, hm2, hn]
  simp only [dataP, List.length_append, be2, be4, List.length_cons, List.length_nil, size_len]
theorem more_right {n d : ByteArray} (hn : isB n = true) (hd : d.size ≤ 65535) : rightB (moreR n d) = true := by
  have h1 : checkS 731 d.data.toList = 0 := by
    unfold checkS
    have e : holdsB 731 = true := by decide
    rw [e, if_neg (by simp), if_neg (by rw [size_len]; omega)]
    have e2 : partsS 731 d.data.toList = some [] := by unfold partsS; rfl
    rw [e2, if_neg (by simp)]
  have e : rightB (moreR n d) = (isB n && (inB 731 65535 && (inB 1 65535 && (inB 0 4294967295 && (if (731 : Int) = 41 then decide (d.size ≤ 65535) else (emptyB (moreR n d) || decide (checkS 731 d.data.toList = 0))))))) := rfl
  rw [e, hn, h1]
  simp [inB]
theorem more_check {m : Mg} {n d : ByteArray} (hc : checkB m = true) (hr : rightB (moreR n d) = true) : checkB (moreM m n d) = decide (m.ar.length + 1 ≤ 65535) := by
  have hc' := hc
  simp only [checkB, Bool.and_eq_true] at hc'
  obtain ⟨h1, h2, h3, h4, h5, h6, h7, h8⟩ := hc'
  have h4' := of_decide_eq_true h4
  simp only [checkB, moreM, h1, h2, h3, h5, h6, h7, List.all_append, h8, List.all_cons, List.all_nil, hr, Bool.true_and, Bool.and_true, List.length_append, List.length_cons, List.length_nil]
  by_cases hl : m.ar.length + 1 ≤ 65535
  · rw [decide_eq_true hl, decide_eq_true ⟨h4'.1, h4'.2.1, h4'.2.2.1, by omega⟩]
  · rw [decide_eq_false hl, decide_eq_false (by omega)]
/-- a record with the question's name more: twelve bytes and the data -/
theorem pack_more {m : Mg} {d : ByteArray} {x : Qn} {L : List Qn} (h0 : (packS m).2 = 0) (hq : m.qs = x :: L) (hx : x.n.data.toList ≠ [0]) (hd : d.size ≤ 60000) :
    ((packS (moreM m x.n d)).2 = 0 ∧ (packS (moreM m x.n d)).1.length = (packS m).1.length + 12 + d.size) ∨
    ((packS (moreM m x.n d)).2 = 12 ∧ 65535 < (packS m).1.length + 12 + d.size) ∨
    ((packS (moreM m x.n d)).2 = 8 ∧ 65535 < m.ar.length + 1) := by
  unfold packS at h0
  by_cases hc : checkB m = false
  · rw [if_pos hc] at h0; simp at h0
  have hc' : checkB m = true := by simpa using hc
  obtain ⟨h1, h2⟩ := check_all4 hc'
  rw [hq, List.all_cons, Bool.and_eq_true] at h1
  obtain ⟨ls, hls⟩ := q_use h1.1
  obtain ⟨b, r, rfl⟩ : ∃ b r, ls = b :: r := by
    cases ls with
    | nil => exact absurd hls.1 (by simpa [put] using hx)
    | cons b r => exact ⟨b, r, rfl⟩
  have hB : isB x.n = true := by
    have := h1.1; simp only [rightQ, Bool.and_eq_true] at this; exact this.1
  have hmc := more_check (d := d) hc' (more_right hB (by omega))
  rw [if_neg hc] at h0
  have hp : packS m = match packP m with | none => ([], 12) | some b => (b, 0) := by unfold packS; rw [if_neg hc]; cases packP m <;> rfl
  by_cases hl : m.ar.length + 1 ≤ 65535
  · have hcm : checkB (moreM m x.n d) = true := by rw [hmc]; simpa using hl
    have hp2 : packS (moreM m x.n d) = match packP (moreM m x.n d) with | none => ([], 12) | some b => (b, 0) := by unfold packS; rw [if_neg (by rw [hcm]; simp)]; cases packP (moreM m x.n d) <;> rfl
    obtain ⟨P, hP⟩ : ∃ P, recsP (m.an ++ m.au ++ m.ar) (m.qs.foldl (fun p x => quesP x p) ⟨headP m, []⟩) = some P := by
      cases hr : recsP (m.an ++ m.au ++ m.ar) (m.qs.foldl (fun p x => quesP x p) ⟨headP m, []⟩) with
      | some P => exact ⟨P, rfl⟩
      | none => unfold packP at h0; rw [hr] at h0; simp at h0
    have hp3 : packS m = (P.out, 0) := by rw [hp]; unfold packP; rw [hP]; rfl
    have hsim : Sim (m.qs.foldl (fun p x => quesP x p) ⟨headP m, []⟩) (m.qs.foldl (fun p x => quesP x p) ⟨headP (moreM m x.n d), []⟩) := quesL_sim _ ⟨rfl, by simp [head_len]⟩
    obtain ⟨Q, hQ, hPQ⟩ := recsP_sim _ hsim P hP
    obtain ⟨k, hk⟩ := first_noted (L := L) hls.1 hls.2.1 (h := headP (moreM m x.n d)) (by rw [head_len]; omega)
    have hk2 : findN Q.N x.n.data.toList = some k := by
      rw [← hq] at hk
      exact recsP_keeps _ _ _ hQ _ _ hk
    have hlen := more_len (d := d) hls.1 hls.2.1 hk2
    have hsn := recs_snoc _ (moreR x.n d) _ _ hQ
    have hpm : packP (moreM m x.n d) = (if 65535 < (recP (moreR x.n d) Q).out.length then none else some (recP (moreR x.n d) Q)).map Pp.out := by
      unfold packP
      rw [← hsn]
      congr 2
      simp [moreM]
    rw [hp2, hpm, hp3]
    have hPQl := hPQ.2
    by_cases hb : 65535 < (recP (moreR x.n d) Q).out.length
    · rw [if_pos hb]
      right; left
      exact ⟨rfl, by show 65535 < P.out.length + 12 + d.size; omega⟩
    · rw [if_neg hb]
      left
      exact ⟨rfl, by show (recP (moreR x.n d) Q).out.length = P.out.length + 12 + d.size; omega⟩
  · right; right
    have hcm : checkB (moreM m x.n d) = false := by rw [hmc]; simpa using hl
    refine ⟨?_, by omega⟩
    unfold packS; rw [if_pos hcm]
end Go.Proofs.YtnamkladeaohoaaGreat.shortP
namespace Go.Proofs.YtnamkladeaohoaaGreat.fitP
open Go.RowKit Go.Proofs.YtnamkladeaohoaaGreat.kit Go.Proofs.YtnamkladeaohoaaGreat.nspec Go.Proofs.YtnamkladeaohoaaGreat.wireP Go.Proofs.YtnamkladeaohoaaGreat.wireM Go.Proofs.YtnamkladeaohoaaGreat.wireC Go.Proofs.YtnamkladeaohoaaGreat.packP Go.Proofs.YtnamkladeaohoaaGreat.shortP Go.Proofs.YtnamkladeaohoaaGreat.unpP
set_option linter.unusedVariables false

def fitsB (m : Mg) (limit : Int) : Bool := decide ((packS m).2 = 0) && decide (((packS m).1.length : Int) ≤ limit)
/-- the last of the first k that isn't OPT -/
def lastK (L : List Rc) : Nat → Option Nat
  | 0 => none
  | k + 1 => match L[k]? with
    | some x => if x.t = 41 then lastK L k else some k
    | none => none
def bare (m : Mg) : Mg := { m with an := [], au := [], tc := true }
def less (m : Mg) (k : Nat) : Mg := { m with ar := m.ar.eraseIdx k }
def fitU (limit : Int) : Nat → Mg → Mg × Int
  | 0, m => (noM, 12)
  | f + 1, m => if fitsB m limit = true then (m, 0) else match lastK m.ar m.ar.length with
    | none => if fitsB (bare m) limit = true then (bare m, 0) else (noM, 12)
    | some k => fitU limit f (less m k)
def fitS (m : Mg) (limit : Int) : Mg × Int := if checkB m = false then (noM, 8) else fitU limit (m.ar.length + 1) m
theorem lastK_lt {L : List Rc} : ∀ {k j : Nat}, lastK L k = some j → j < k
  | 0, _, h => by cases h
  | k + 1, j, h => by
    unfold lastK at h
    split at h
    · split at h
      · have := lastK_lt h; omega
      · cases h; omega
    · cases h
theorem lastK_in {L : List Rc} : ∀ {k j : Nat}, lastK L k = some j → j < L.length
  | 0, _, h => by cases h
  | k + 1, j, h => by
    unfold lastK at h
    split at h
    · rename_i x hx
      split at h
      · exact lastK_in h
      · cases h; exact (List.getElem?_eq_some_iff.1 hx).1
    · cases h
/-- what is made to fit does -/
structure Kept (m x : Mg) : Prop where
  qs : x.qs = m.qs
  or : (x.an = m.an ∧ x.au = m.au ∧ x.tc = m.tc) ∨ (x.an = [] ∧ x.au = [] ∧ x.tc = true)
theorem fitU_ok (limit : Int) : ∀ (f : Nat) (m x : Mg), fitU limit f m = (x, 0) → fitsB x limit = true ∧ Kept m x
  | 0, m, x, h => by cases h
  | f + 1, m, x, h => by
    unfold fitU at h
    split at h
    · rename_i hf
      cases h
      exact ⟨hf, rfl, .inl ⟨rfl, rfl, rfl⟩⟩
    · split at h
      · split at h
        · rename_i hf
          cases h
          exact ⟨hf, rfl, .inr ⟨rfl, rfl, rfl⟩⟩
        · cases h
      · obtain ⟨h1, h2⟩ := fitU_ok limit f _ x h
        exact ⟨h1, h2.qs, h2.or⟩
theorem fitU_no (limit : Int) : ∀ (f : Nat) (m x : Mg) (e : Int), fitU limit f m = (x, e) → e ≠ 0 → x = noM
  | 0, m, x, e, h, _ => by cases h; rfl
  | f + 1, m, x, e, h, he => by
    unfold fitU at h
    split at h
    · cases h; exact absurd rfl he
    · split at h
      · split at h
        · cases h; exact absurd rfl he
        · cases h; rfl
      · exact fitU_no limit f _ x e h he
theorem fitS_ok {m x : Mg} {limit : Int} (h : fitS m limit = (x, 0)) : fitsB x limit = true ∧ Kept m x := by
  unfold fitS at h
  split at h
  · cases h
  · exact fitU_ok limit _ m x h
theorem fitS_no {m x : Mg} {limit e : Int} (h : fitS m limit = (x, e)) (he : e ≠ 0) : x = noM := by
  unfold fitS at h
  split at h
  · cases h; rfl
  · exact fitU_no limit _ m x e h he
theorem fitS_same {m : Mg} {limit : Int} (h : fitsB m limit = true) (hc : checkB m = true) : fitS m limit = (m, 0) := by
  unfold fitS
  rw [if_neg (by rw [hc]; decide)]
  unfold fitU
  rw [if_pos h]
end Go.Proofs.YtnamkladeaohoaaGreat.fitP
namespace Go.Proofs.YtnamkladeaohoaaGreat.fitA
open Go.RowKit Go.Proofs.YtnamkladeaohoaaGreat.kit Go.Proofs.YtnamkladeaohoaaGreat.timed Go.Proofs.YtnamkladeaohoaaGreat.nspec Go.Proofs.YtnamkladeaohoaaGreat.wireP Go.Proofs.YtnamkladeaohoaaGreat.wireM Go.Proofs.YtnamkladeaohoaaGreat.wireC Go.Proofs.YtnamkladeaohoaaGreat.packP Go.Proofs.YtnamkladeaohoaaGreat.wpack Go.Proofs.YtnamkladeaohoaaGreat.rows Go.Proofs.YtnamkladeaohoaaGreat.fitP
set_option linter.unusedVariables false

theorem pack_code (m : Mg) : (packS m).2 = 0 ∨ (packS m).2 = 8 ∨ (packS m).2 = 12 := by
  unfold packS
  split
  · exact .inr (.inl rfl)
  · split
    · exact .inr (.inr rfl)
    · exact .inl rfl
theorem recs_len : ∀ (L : List Rc) (q p : Pp), recsP L q = some p → p.out.length ≤ 65535
  | [], q, p, h => by
    simp only [recsP] at h
    split at h
    · cases h
    · cases h; omega
  | x :: L, q, p, h => by
    simp only [recsP] at h
    split at h
    · cases h
    · exact recs_len L _ p h
theorem pack_len (m : Mg) : (packS m).1.length ≤ 65535 := by
  unfold packS
  split
  · simp
  · cases h : packP m with
    | none => simp
    | some b =>
      unfold packP at h
      obtain ⟨q, hq, rfl⟩ := Option.map_eq_some_iff.1 h
      exact recs_len _ _ _ hq
set_option maxRecDepth 100000 in
set_option maxHeartbeats 4000000 in
theorem fits_any (p : Pl) (m : Mg) (L : Nat) (limit : Int) (w : World) (hr : RdM w p m) (ho : OkW m) (hL : w.cell? ⟨L, 0, none⟩ = some (.int .i64 limit)) :
    Calls Tryz.prog 32 #[.agg #[.int .i64 m.id, .bool m.rs, .int .i64 m.op, .bool m.aa, .bool m.tc, .bool m.rd, .bool m.ra, .bool m.ad, .bool m.cd, .int .i64 m.rc, .slice p.qa m.qs.length p.qc, .slice p.na m.an.length p.nc, .slice p.ua m.au.length p.uc, .slice p.ra m.ar.length p.rc], .pointer (some ⟨L, 0, none⟩)] w fun e w' => e = .returned (.bool (fitsB m limit)) ∧ Below w.heap.size w w' := by
  have hB0 := (Below.refl w.heap.size w).alloc (Nat.le_refl _) (.cells #[.int .i64 m.id, .bool m.rs, .int .i64 m.op, .bool m.aa, .bool m.tc, .bool m.rd, .bool m.ra, .bool m.ad, .bool m.cd, .int .i64 m.rc, .slice p.qa m.qs.length p.qc, .slice p.na m.an.length p.nc, .slice p.ua m.au.length p.uc, .slice p.ra m.ar.length p.rc] 25)
  have hM0 : MsgAt (w.alloc (.cells #[.int .i64 m.id, .bool m.rs, .int .i64 m.op, .bool m.aa, .bool m.tc, .bool m.rd, .bool m.ra, .bool m.ad, .bool m.cd, .int .i64 m.rc, .slice p.qa m.qs.length p.qc, .slice p.na m.an.length p.nc, .slice p.ua m.au.length p.uc, .slice p.ra m.ar.length p.rc] 25)) w.heap.size p m := heap_alloc_new _ _
  have hl0 : (w.alloc (.cells #[.int .i64 m.id, .bool m.rs, .int .i64 m.op, .bool m.aa, .bool m.tc, .bool m.rd, .bool m.ra, .bool m.ad, .bool m.cd, .int .i64 m.rc, .slice p.qa m.qs.length p.qc, .slice p.na m.an.length p.nc, .slice p.ua m.au.length p.uc, .slice p.ra m.ar.length p.rc] 25)).cell? ⟨L, 0, none⟩ = some (.int .i64 limit) := Lib.cell?_alloc_some _ hL
  have hLw : L < w.heap.size := World.block_lt_of_cell? w _ hL
  obtain ⟨W, hW⟩ : ∃ W, w.alloc (.cells #[.int .i64 m.id, .bool m.rs, .int .i64 m.op, .bool m.aa, .bool m.tc, .bool m.rd, .bool m.ra, .bool m.ad, .bool m.cd, .int .i64 m.rc, .slice p.qa m.qs.length p.qc, .slice p.na m.an.length p.nc, .slice p.ua m.au.length p.uc, .slice p.ra m.ar.length p.rc] 25) = W := ⟨_, rfl⟩
  rw [hW] at hB0 hM0 hl0
  have CP := Lib.hid (wpack_any p m W (hr.below hB0 rfl) ho)
  obtain ⟨⟨out, code⟩, hpk⟩ : ∃ r, packS m = r := ⟨_, rfl⟩
  have hcode := pack_code m; have hshort := pack_len m
  have hf : fitsB m limit = (decide (code = 0) && decide ((out.length : Int) ≤ limit)) := by unfold fitsB; rw [hpk]
  rw [hf]
  simp only [hpk] at CP hcode hshort
  have HW := Lib.hid hW; have HB0 := Lib.hid hB0
  have bx := hM0.box
  have c0 := bx.c0; have c1 := bx.c1; have c2 := bx.c2; have c3 := bx.c3; have c4 := bx.c4; have c5 := bx.c5; have c6 := bx.c6; have c7 := bx.c7; have c8 := bx.c8; have c9 := bx.c9; have c10 := bx.c10; have c11 := bx.c11; have c12 := bx.c12; have c13 := bx.c13
  have HL1 := Lib.hid hl0
  clear hr ho hL hM0 bx hW hpk hf hB0
  go_enter Tryz.func32, Tryz.ntmps32
  go_upto_region 1 with fail
  rw [HW.out]
  go_wp2_with fail
  refine CP.out.mono ?_
  rintro e w1 ⟨v, rfl, ho1, hB1⟩
  obtain ⟨a, c, rfl⟩ := buf.own_slice1 ho1
  have hl1 : w1.cell? ⟨L, 0, none⟩ = some (.int .i64 limit) := (hB1.cell (p := ⟨L, 0, none⟩) (World.block_lt_of_cell? W _ HL1.out)).trans HL1.out
  have HB1 := Lib.hid (HB0.out.trans (hB1.mono HB0.out.size))
  clear hB1 ho1 CP c0 c1 c2 c3 c4 c5 c6 c7 c8 c9 c10 c11 c12 c13
  obtain ⟨n, hn⟩ : ∃ n, out.length = n := ⟨_, rfl⟩
  have HN := Lib.hid hn
  rw [hn] at hshort ⊢
  clear hn
  rcases hcode with rfl | rfl | rfl
  · by_cases hle : (n : Int) ≤ limit
    · go_wp2_with fail
      go_ret
      exact ⟨by simp [HN.out, hle], HB1.out⟩
    · go_wp2_with fail
      go_ret
      exact ⟨by simp [HN.out], HB1.out⟩
  · go_wp2_with fail
    go_ret
    exact ⟨by simp, HB1.out⟩
  · go_wp2_with fail
    go_ret
    exact ⟨by simp, HB1.out⟩
end Go.Proofs.YtnamkladeaohoaaGreat.fitA
namespace Go.Proofs.YtnamkladeaohoaaGreat.cloneR
open Go.RowKit Go.Proofs.YtnamkladeaohoaaGreat.kit Go.Proofs.YtnamkladeaohoaaGreat.timed Go.Proofs.YtnamkladeaohoaaGreat.nspec Go.Proofs.YtnamkladeaohoaaGreat.wireP Go.Proofs.YtnamkladeaohoaaGreat.wireM Go.Proofs.YtnamkladeaohoaaGreat.rows
set_option linter.unusedVariables false

set_option maxRecDepth 100000 in
set_option maxHeartbeats 4000000 in
theorem clone_rec (a : Option Addr) (n c : Nat) (L : List Rc) (w : World) (hn : n = L.length) (hr : RdC w a 5 (L.map Rc.cells)) (ha : a = none → L.length = 0 ∧ c = 0) (hl : n ≤ 1099511627776) :
    Calls Tryz.prog 35 #[.slice a n c] w fun e w' => ∃ a' c', e = .returned (.slice a' n c') ∧ w'.ownsRow w.heap.size 43 5 (.slice a' n c') n (L.flatMap Rc.cells) ∧ Below w.heap.size w w' := by
  obtain ⟨i0, hif, hz0, hz1, hz2⟩ := info_parts infoRec
  have q22 : ∀ (w : World) (a : Option Addr) (n c n' c' : Nat), (binOp .eql 23 (.slice a n c) (.slice none n' c')).run Tryz.prog w = .ok (.bool a.isNone) w := fun w a n c n' c' => Lib.run_eql_slice_nil w _ _ a n c n' c' Tryz.underlying23
  cases a with
  | none =>
    obtain ⟨h0, h1⟩ := ha rfl
    subst hn
    have hL : L = [] := List.eq_nil_of_length_eq_zero h0
    subst hL; subst h1
    clear hr ha
    go_enter Tryz.func35, Tryz.ntmps35
    go_wp2_with fail
    go_ret
    exact ⟨none, 0, rfl, World.ownsRow_nil _ _ _ _, Below.refl _ _⟩
  | some ad =>
    have S1 : Hid (∀ (j : Nat) (u : Value), (L.flatMap Rc.cells)[j]? = some u → w.cell? (ad.add j) = some u) := Lib.hid (by
      rcases cells_rd Rc.cells 5 (by decide) (fun _ => rfl) hr c (fun h => by cases h) with ⟨h, _⟩ | ⟨ad', h1, h2⟩
      · cases h
      · cases h1; exact h2)
    have HN := Lib.hid hn
    clear hr ha hn
    go_enter Tryz.func35, Tryz.ntmps35
    go_wp2_with (at_builtin; refine wpList_append_src rfl _ _ 23 rfl w.heap.size 43 i0 _ 5 56 Tryz.underlying23 hif hz0 hz1 hz2 rfl (by decide) _ 0 [] rfl (World.ownsRow_made w #[] 0 (Nat.le_refl _) (Nat.zero_le _) rfl) (some ad) n c (L.flatMap Rc.cells) rfl (by rw [flat_len Rc.cells 5 (fun _ => rfl), HN.out]) (.inr ⟨ad, rfl, fun j u hj => Lib.cell?_alloc_some _ (S1.out j u hj)⟩) (one_cells rec_one) (by unfold maxLen; omega) (by omega) (by simp) ?_)
    intro v' w1 hown hgr
    have hB : Below w.heap.size w w1 := ((Below.refl _ w).alloc (Nat.le_refl _) _).grown hgr (by simp) (by intro k hk; simp [Value.ownBlock] at hk; omega)
    have ho : w1.ownsRow w.heap.size 43 5 v' n (L.flatMap Rc.cells) := by first | exact hown | simpa using hown
    obtain ⟨a', c', rfl⟩ : ∃ a' c', v' = .slice a' n c' := by
      rcases ho.2 with ⟨h1, h2⟩ | ⟨g, cap, cur, h1, _⟩
      · exact ⟨none, 0, by rw [h1, h2]⟩
      · exact ⟨_, _, h1⟩
    have HO := Lib.hid ho; have HB := Lib.hid hB
    clear hown hgr ho hB hif hz0 hz1 hz2
    go_wp2_with fail
    go_ret
    exact ⟨a', c', rfl, HO.out, HB.out⟩
set_option maxRecDepth 100000 in
set_option maxHeartbeats 4000000 in
theorem clone_qn (a : Option Addr) (n c : Nat) (L : List Qn) (w : World) (hn : n = L.length) (hr : RdC w a 3 (L.map Qn.cells)) (ha : a = none → L.length = 0 ∧ c = 0) (hl : n ≤ 1099511627776) :
    Calls Tryz.prog 34 #[.slice a n c] w fun e w' => ∃ a' c', e = .returned (.slice a' n c') ∧ w'.ownsRow w.heap.size 35 3 (.slice a' n c') n (L.flatMap Qn.cells) ∧ Below w.heap.size w w' := by
  obtain ⟨i0, hif, hz0, hz1, hz2⟩ := info_parts infoQn
  have q22 : ∀ (w : World) (a : Option Addr) (n c n' c' : Nat), (binOp .eql 22 (.slice a n c) (.slice none n' c')).run Tryz.prog w = .ok (.bool a.isNone) w := fun w a n c n' c' => Lib.run_eql_slice_nil w _ _ a n c n' c' Tryz.underlying22
  cases a with
  | none =>
    obtain ⟨h0, h1⟩ := ha rfl
    subst hn
    have hL : L = [] := List.eq_nil_of_length_eq_zero h0
    subst hL; subst h1
    clear hr ha
    go_enter Tryz.func34, Tryz.ntmps34
    go_wp2_with fail
    go_ret
    exact ⟨none, 0, rfl, World.ownsRow_nil _ _ _ _, Below.refl _ _⟩
  | some ad =>
    have S1 : Hid (∀ (j : Nat) (u : Value), (L.flatMap Qn.cells)[j]? = some u → w.cell? (ad.add j) = some u) := Lib.hid (by
      rcases cells_rd Qn.cells 3 (by decide) (fun _ => rfl) hr c (fun h => by cases h) with ⟨h, _⟩ | ⟨ad', h1, h2⟩
      · cases h
      · cases h1; exact h2)
    have HN := Lib.hid hn
    clear hr ha hn
    go_enter Tryz.func34, Tryz.ntmps34
    go_wp2_with (at_builtin; refine wpList_append_src rfl _ _ 22 rfl w.heap.size 35 i0 _ 3 32 Tryz.underlying22 hif hz0 hz1 hz2 rfl (by decide) _ 0 [] rfl (World.ownsRow_made w #[] 0 (Nat.le_refl _) (Nat.zero_le _) rfl) (some ad) n c (L.flatMap Qn.cells) rfl (by rw [flat_len Qn.cells 3 (fun _ => rfl), HN.out]) (.inr ⟨ad, rfl, fun j u hj => Lib.cell?_alloc_some _ (S1.out j u hj)⟩) (one_cells qn_one) (by unfold maxLen; omega) (by omega) (by simp) ?_)
    intro v' w1 hown hgr
    have hB : Below w.heap.size w w1 := ((Below.refl _ w).alloc (Nat.le_refl _) _).grown hgr (by simp) (by intro k hk; simp [Value.ownBlock] at hk; omega)
    have ho : w1.ownsRow w.heap.size 35 3 v' n (L.flatMap Qn.cells) := by first | exact hown | simpa using hown
    obtain ⟨a', c', rfl⟩ : ∃ a' c', v' = .slice a' n c' := by
      rcases ho.2 with ⟨h1, h2⟩ | ⟨g, cap, cur, h1, _⟩
      · exact ⟨none, 0, by rw [h1, h2]⟩
      · exact ⟨_, _, h1⟩
    have HO := Lib.hid ho; have HB := Lib.hid hB
    clear hown hgr ho hB hif hz0 hz1 hz2
    go_wp2_with fail
    go_ret
    exact ⟨a', c', rfl, HO.out, HB.out⟩
end Go.Proofs.YtnamkladeaohoaaGreat.cloneR
