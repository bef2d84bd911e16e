/- wire.Unpack's deferred closure: walk. wire.Unpack's memory on the way. How wire.Unpack ends: at its door. -/
import Derived.Test.YtabhiangjomaeaaU18
import Derived.Test.YtabhiangjomaeaaU25
import Derived.Recover
import Derived.BigRegion
import Derived.Deep.RegionHeld3
namespace Go.Proofs.Ytabhiangjomaeaa.udoor
open Go.RowKit Go.Proofs.Ytabhiangjomaeaa.kit Go.Proofs.Ytabhiangjomaeaa.unpP Go.Proofs.Ytabhiangjomaeaa.wireP Go.Proofs.Ytabhiangjomaeaa.wireM Go.Proofs.Ytabhiangjomaeaa.wpack Go.Proofs.Ytabhiangjomaeaa.putM
set_option linter.unusedVariables false

set_option maxRecDepth 100000 in
set_option maxHeartbeats 4000000 in
/-- no panic: nothing is done -/
theorem udoor_ret (a b c d : Value) (w : World) :
    CallsD Try.prog 61 #[a, b, c, d] .returning w fun e u' w' => u' = .returning ∧ e = .returned (.tuple #[]) ∧ w' = w := by
  refine callsD_of_wpS Try.func61 rfl fun c₀ cs hu => ?_
  apply wpS_seq
  apply wpS_region
  simp [wpOpsS, go_sem, recoverD, hu, Try.ntmps61, Exit.thenS]
  apply wpS_seq
  apply wpS_region
  simp [wpOpsS, go_sem, Exit.thenS]
  refine wpS_cond (t := false) (by simp [Act.eval, Array.replicate]) ?_
  simp only [Bool.false_eq_true, if_false]
  refine wpS_of_wp (wp_skip ?_)
  cases c₀
  simp_all [bodyPostS, results, Try.results61]
theorem ask_stop (x : Int) (w : World) : (Instr.typeAssert (.iface 109 (.agg #[.int .i64 x])) 20 109 true).run Try.prog w = .ok (.tuple #[.agg #[.int .i64 x], .bool true]) w := by
  kernel_rfl
theorem msg_frozen {w : World} {b : Nat} {p : Pl} {m : Mg} (h : MsgAt w b p m) (j : Nat) : w.frozen? ⟨b, j, none⟩ = false := by
  unfold MsgAt at h; simp only [World.frozen?, h]; simp
theorem lt_cell {w : World} {a : Addr} {v : Value} (h : w.cell? a = some v) : a.block < w.heap.size := World.block_lt_of_cell? w a h
/-- what a stop leaves: the three boxes laid anew -/
def afterStop (w : World) (S M A E : Nat) (k x : Int) : World := ((putM (w.alloc (.cells #[.int .i64 x] 109)) M ⟨none, 0, none, 0, none, 0, none, 0⟩ noM).setCell ⟨A, 0, none⟩ (.int .i64 k)).setCell ⟨E, 0, none⟩ (.int .i64 x)
set_option maxRecDepth 100000 in
set_option maxHeartbeats 4000000 in
/-- a stop: what is returned is laid anew -/
theorem udoor_stop (G M A E : Nat) (p : Pl) (m : Mg) (x k : Int) (av ev : Value) (older : List PanicEntry) (w : World) (hg : w.cell? ⟨G, 0, none⟩ = some (.int .i64 k)) (hM : MsgAt w M p m)
    (ha : w.cell? ⟨A, 0, none⟩ = some av) (haz : w.frozen? ⟨A, 0, none⟩ = false) (he : w.cell? ⟨E, 0, none⟩ = some ev) (hez : w.frozen? ⟨E, 0, none⟩ = false) (d1 : G ≠ M) (d2 : G ≠ A) (d3 : G ≠ E) (d4 : M ≠ A) (d5 : M ≠ E) (d6 : A ≠ E) :
    CallsD Try.prog 61 #[.pointer (some ⟨G, 0, none⟩), .pointer (some ⟨M, 0, none⟩), .pointer (some ⟨A, 0, none⟩), .pointer (some ⟨E, 0, none⟩)] (.panicking ({ v := .iface 109 (.agg #[.int .i64 x]), recovered := false } :: older)) w fun e u' w' =>
      u' = .panicking ({ v := .iface 109 (.agg #[.int .i64 x]), recovered := true } :: older) ∧ e = .returned (.tuple #[]) ∧ ∃ n, w' = (afterStop w w.heap.size M A E k x).drewN n := by
  have hta := fun w => ask_stop x w
  have lG := lt_cell hg; have lA := lt_cell ha; have lE := lt_cell he
  have hlM := hM.box.lt
  have HM := Lib.hid hM; have HG := Lib.hid hg; have HA := Lib.hid ha; have HAZ := Lib.hid haz; have HE := Lib.hid he; have HEZ := Lib.hid hez
  clear hM hg ha haz he hez
  refine callsD_of_wpS Try.func61 rfl fun c₀ cs hu => ?_
  apply wpS_seq
  apply wpS_region
  simp [wpOpsS, go_sem, recoverD, hu, Try.ntmps61, Exit.thenS]
  refine wpS_of_wp ?_
  have ht : (#[Value.pointer (some { block := G, off := 0 }), Value.pointer (some { block := M, off := 0 }), Value.pointer (some { block := A, off := 0 }), Value.pointer (some { block := E, off := 0 })] ++
          ((Array.replicate 18 undef).setIfInBounds 3 (Value.iface 109 (Value.agg #[Value.int IntKind.i64 x]))).setIfInBounds 0 (Value.iface 109 (Value.agg #[Value.int IntKind.i64 x]))) =
      #[Value.pointer (some { block := G, off := 0 }), Value.pointer (some { block := M, off := 0 }), Value.pointer (some { block := A, off := 0 }), Value.pointer (some { block := E, off := 0 }), Value.iface 109 (Value.agg #[Value.int IntKind.i64 x]), undef, undef, Value.iface 109 (Value.agg #[Value.int IntKind.i64 x]), undef, undef, undef, undef, undef, undef, undef, undef, undef, undef, undef, undef, undef, undef] := rfl
  rw [ht]
  clear ht
  go_upto_region 5 with fail
  have hB := (Below.refl w.heap.size w).alloc (Nat.le_refl _) (Obj.cells #[.int .i64 x] 109)
  have hS : (w.alloc (Obj.cells #[.int .i64 x] 109)).cell? ⟨w.heap.size, 0, none⟩ = some (.int .i64 x) := by simp [go_sem]
  have hM := HM.out.below hB hlM
  have hg := (hB.cell (p := ⟨G, 0, none⟩) lG).trans HG.out
  have ha := (hB.cell (p := ⟨A, 0, none⟩) lA).trans HA.out
  have he := (hB.cell (p := ⟨E, 0, none⟩) lE).trans HE.out
  have haz := (hB.frozen (p := ⟨A, 0, none⟩) lA).trans HAZ.out
  have hez := (hB.frozen (p := ⟨E, 0, none⟩) lE).trans HEZ.out
  obtain ⟨W, hW⟩ : ∃ W, w.alloc (Obj.cells #[.int .i64 x] 109) = W := ⟨_, rfl⟩
  obtain ⟨S, hSS⟩ : ∃ S, w.heap.size = S := ⟨_, rfl⟩
  rw [hW] at hM hg ha he haz hez hS ⊢
  rw [hSS] at hS lG lA lE hlM ⊢
  have HWE := Lib.hid hW; have HSE := Lib.hid hSS
  have lS : S < W.heap.size := lt_cell hS
  have e1 : S ≠ M := by omega
  have e2 : S ≠ A := by show S ≠ A; have : A < S := lA; omega
  have e3 : S ≠ E := by show S ≠ E; have : E < S := lE; omega
  have hb := hM.box
  have hf := fun j => msg_frozen hM j
  have f0 := hf 0; have f1 := hf 1; have f2 := hf 2; have f3 := hf 3; have f4 := hf 4; have f5 := hf 5; have f6 := hf 6; have f7 := hf 7; have f8 := hf 8; have f9 := hf 9; have f10 := hf 10; have f11 := hf 11; have f12 := hf 12; have f13 := hf 13
  have b0 := hb.c0; have b1 := hb.c1; have b2 := hb.c2; have b3 := hb.c3; have b4 := hb.c4; have b5 := hb.c5; have b6 := hb.c6; have b7 := hb.c7; have b8 := hb.c8; have b9 := hb.c9; have b10 := hb.c10; have b11 := hb.c11; have b12 := hb.c12; have b13 := hb.c13
  clear hb hf hM HM HG HA HAZ HE HEZ hB hW hSS
  go_region
  go_wp2_with fail
  refine ⟨rfl, _, rfl, .tuple #[], ?_, rfl, rfl, 1, ?_⟩
  · simp [results, Try.results61]
  · unfold afterStop
    rw [HWE.out]; rfl
end Go.Proofs.Ytabhiangjomaeaa.udoor
namespace Go.Proofs.Ytabhiangjomaeaa.ust
open Go.RowKit Go.Proofs.Ytabhiangjomaeaa.kit Go.Proofs.Ytabhiangjomaeaa.nspec Go.Proofs.Ytabhiangjomaeaa.unpP Go.Proofs.Ytabhiangjomaeaa.wireP Go.Proofs.Ytabhiangjomaeaa.wireM Go.Proofs.Ytabhiangjomaeaa.wireC Go.Proofs.Ytabhiangjomaeaa.wpack Go.Proofs.Ytabhiangjomaeaa.rows Go.Proofs.Ytabhiangjomaeaa.cur Go.Proofs.Ytabhiangjomaeaa.putM Go.Proofs.Ytabhiangjomaeaa.udoor
set_option linter.unusedVariables false

/-- two places in blocks of their own -/
def Apart (a b : Option Addr) : Prop := ∀ x y, a = some x → b = some y → x.block ≠ y.block
theorem Apart.none_l (b : Option Addr) : Apart none b := fun _ _ h => by cases h
theorem Apart.none_r (a : Option Addr) : Apart a none := fun _ _ _ h => by cases h
theorem Apart.symm {a b : Option Addr} (h : Apart a b) : Apart b a := fun x y hx hy e => h y x hy hx e.symm
/-- a message's four lists are one's own, and lie apart -/
structure Own4 (b0 : Nat) (w : World) (pl : Pl) (m : Mg) : Prop where
  q : w.ownsRow b0 50 3 (.slice pl.qa m.qs.length pl.qc) m.qs.length (m.qs.flatMap Qn.cells)
  n : w.ownsRow b0 52 5 (.slice pl.na m.an.length pl.nc) m.an.length (m.an.flatMap Rc.cells)
  u : w.ownsRow b0 52 5 (.slice pl.ua m.au.length pl.uc) m.au.length (m.au.flatMap Rc.cells)
  r : w.ownsRow b0 52 5 (.slice pl.ra m.ar.length pl.rc) m.ar.length (m.ar.flatMap Rc.cells)
  nu : Apart pl.na pl.ua
  nr : Apart pl.na pl.ra
  ur : Apart pl.ua pl.ra
theorem Own4.keep {b0 : Nat} {w w1 : World} {pl : Pl} {m : Mg} (h : Own4 b0 w pl m) (hk : ∀ (k : Nat) (c : Array Value) (t : TypeId), w.heap[k]? = some (.cells c t (0, 0)) → t = 50 ∨ t = 52 → w1.heap[k]? = some (.cells c t (0, 0))) : Own4 b0 w1 pl m :=
  ⟨own_keptG h.q (fun k c hc => hk k c _ hc (.inl rfl)), own_keptG h.n (fun k c hc => hk k c _ hc (.inr rfl)), own_keptG h.u (fun k c hc => hk k c _ hc (.inr rfl)), own_keptG h.r (fun k c hc => hk k c _ hc (.inr rfl)), h.nu, h.nr, h.ur⟩
theorem Own4.rd {b0 : Nat} {w : World} {pl : Pl} {m : Mg} (h : Own4 b0 w pl m) : RdM w pl m := by
  obtain ⟨_, _, e1, _, _, _, h1⟩ := rdc_own Qn.cells 3 (fun _ => rfl) rfl h.q
  obtain ⟨_, _, e2, _, _, _, h2⟩ := rdc_own Rc.cells 5 (fun _ => rfl) rfl h.n
  obtain ⟨_, _, e3, _, _, _, h3⟩ := rdc_own Rc.cells 5 (fun _ => rfl) rfl h.u
  obtain ⟨_, _, e4, _, _, _, h4⟩ := rdc_own Rc.cells 5 (fun _ => rfl) rfl h.r
  cases e1; cases e2; cases e3; cases e4
  exact ⟨h1, h2, h3, h4⟩
theorem Own4.none (b0 : Nat) (w : World) : Own4 b0 w ⟨none, 0, none, 0, none, 0, none, 0⟩ noM :=
  ⟨World.ownsRow_nil _ _ _ _, World.ownsRow_nil _ _ _ _, World.ownsRow_nil _ _ _ _, World.ownsRow_nil _ _ _ _, .none_l _, .none_l _, .none_l _⟩
/-- what came in -/
structure In0 (b0 : Nat) (w0 : World) (a : Option Addr) (b : Bs) (cap : Nat) : Prop where
  hb : w0.heap.size = b0
  rd : RdB w0 a b
  le : b.length ≤ cap
  cm : cap ≤ maxLen
/-- Unpack's memory: the message, the place, the fault, the cursor, what was begun -/
structure St (b0 : Nat) (w0 wr : World) (a : Option Addr) (b : Bs) (cap : Nat) (pl : Pl) (m : Mg) (k g : Nat) : Prop where
  msg : MsgAt wr b0 pl m
  ha : wr.heap[b0 + 1]? = some (.cells #[.int .i64 0] 3 (0, 0))
  he : wr.heap[b0 + 2]? = some (.cells #[.int .i64 0] 40 (0, 0))
  hc : wr.heap[b0 + 3]? = some (.cells #[.slice a b.length cap, .int .i64 (k : Int)] 107 (0, 0))
  hg : wr.heap[b0 + 4]? = some (.cells #[.int .i64 (g : Int)] 3 (0, 0))
  own : Own4 b0 wr pl m
  bel : Below b0 w0 wr
theorem rdB_below {w w1 : World} {a : Option Addr} {b : Bs} (h : RdB w a b) (hB : Below w.heap.size w w1) : RdB w1 a b := by
  intro j c hc
  obtain ⟨g, o, h1, h2, h3⟩ := h j c hc
  exact ⟨g, o, h1, Nat.lt_of_lt_of_le h2 hB.size, (hB.cell (p := ⟨g, o + j, none⟩) h2).trans h3⟩
section
variable {b0 : Nat} {w0 wr w1 : World} {a : Option Addr} {b : Bs} {cap : Nat} {pl : Pl} {m : Mg} {k g : Nat}
theorem St.cur (h : St b0 w0 wr a b cap pl m k g) (i : In0 b0 w0 a b cap) : Cur wr (b0 + 3) a b cap k :=
  ⟨h.hc, rdB_below i.rd (by rw [i.hb]; exact h.bel), i.le, i.cm⟩
theorem blk_lt {w : World} {k : Nat} {o : Obj} (h : w.heap[k]? = some o) : k < w.heap.size := (Array.getElem?_eq_some_iff.1 h).1
theorem other_t {w : World} {k X : Nat} {c c' : Array Value} {t t' : TypeId} (h : w.heap[k]? = some (.cells c t (0, 0))) (hX : w.heap[X]? = some (.cells c' t' (0, 0))) (hne : t ≠ t') : k ≠ X := by
  intro e; subst e; rw [h] at hX; injection hX with hX; injection hX with _ h2 _; exact hne h2
theorem St.eff (h : St b0 w0 wr a b cap pl m k g) {k' : Nat} (he : EffC (b0 + 3) wr w1) (hc : Cur w1 (b0 + 3) a b cap k') : St b0 w0 w1 a b cap pl m k' g := by
  have hs : b0 ≤ wr.heap.size := by have := blk_lt h.hc; omega
  refine ⟨(he.kept b0 (blk_lt h.msg) (by omega)).trans h.msg, (he.kept _ (blk_lt h.ha) (by omega)).trans h.ha, (he.kept _ (blk_lt h.he) (by omega)).trans h.he, hc.blk, (he.kept _ (blk_lt h.hg) (by omega)).trans h.hg, ?_, h.bel.trans (he.to_below (by omega) hs)⟩
  refine h.own.keep fun j c t hj ht => (he.kept j (blk_lt hj) (other_t hj h.hc ?_)).trans hj
  rcases ht with rfl | rfl <;> decide
theorem St.below (h : St b0 w0 wr a b cap pl m k g) (hB : Below wr.heap.size wr w1) : St b0 w0 w1 a b cap pl m k g := by
  have hs : b0 ≤ wr.heap.size := by have := blk_lt h.hc; omega
  exact ⟨(hB.block b0 (blk_lt h.msg)).trans h.msg, (hB.block _ (blk_lt h.ha)).trans h.ha, (hB.block _ (blk_lt h.he)).trans h.he, (hB.block _ (blk_lt h.hc)).trans h.hc, (hB.block _ (blk_lt h.hg)).trans h.hg,
    h.own.keep fun j c t hj ht => (hB.block j (blk_lt hj)).trans hj, h.bel.trans (hB.mono hs)⟩
theorem St.drewN (h : St b0 w0 wr a b cap pl m k g) (n : Nat) : St b0 w0 (wr.drewN n) a b cap pl m k g := h.below ⟨rfl, rfl, rfl, Nat.le_refl _, fun _ _ => rfl⟩
/-- a cell set, neither a list's nor one of the five's -/
theorem own_set (h : Own4 b0 wr pl m) {X i : Nat} {v : Value} {c : Array Value} {t : TypeId} (hX : wr.heap[X]? = some (.cells c t (0, 0))) (h1 : t ≠ 50) (h2 : t ≠ 52) : Own4 b0 (wr.setCell ⟨X, i, none⟩ v) pl m :=
  h.keep fun j c' t' hj ht => (far_one (other_t hj hX (by rcases ht with rfl | rfl; exact fun e => h1 e.symm; exact fun e => h2 e.symm))).trans hj
theorem St.far (h : St b0 w0 wr a b cap pl m k g) {X i : Nat} {v : Value} {c : Array Value} {t : TypeId} (hX : wr.heap[X]? = some (.cells c t (0, 0))) (h1 : t ≠ 50) (h2 : t ≠ 52) (hl : b0 + 5 ≤ X) : St b0 w0 (wr.setCell ⟨X, i, none⟩ v) a b cap pl m k g :=
  ⟨(far_one (by omega)).trans h.msg, (far_one (by omega)).trans h.ha, (far_one (by omega)).trans h.he, (far_one (by omega)).trans h.hc, (far_one (by omega)).trans h.hg, own_set h.own hX h1 h2, below_one h.bel (by omega)⟩
theorem St.begun (h : St b0 w0 wr a b cap pl m k g) (g' : Nat) : St b0 w0 (wr.setCell ⟨b0 + 4, 0, none⟩ (.int .i64 (g' : Int))) a b cap pl m k g' :=
  ⟨(far_one (by omega)).trans h.msg, (far_one (by omega)).trans h.ha, (far_one (by omega)).trans h.he, (far_one (by omega)).trans h.hc, (heap_setCell_same _ _ 0 _ _ _ h.hg), own_set h.own h.hg (by decide) (by decide), below_one h.bel (by omega)⟩
/-- a cell of the message set -/
theorem St.put (h : St b0 w0 wr a b cap pl m k g) {i : Nat} {v : Value} {pl' : Pl} {m' : Mg} (hm : MsgAt (wr.setCell ⟨b0, i, none⟩ v) b0 pl' m') (ho : Own4 b0 (wr.setCell ⟨b0, i, none⟩ v) pl' m') : St b0 w0 (wr.setCell ⟨b0, i, none⟩ v) a b cap pl' m' k g :=
  ⟨hm, (far_one (by omega)).trans h.ha, (far_one (by omega)).trans h.he, (far_one (by omega)).trans h.hc, (far_one (by omega)).trans h.hg, ho, below_one h.bel (Nat.le_refl _)⟩
theorem St.ownM (h : St b0 w0 wr a b cap pl m k g) (i : Nat) (v : Value) (m' : Mg) (e : m'.qs = m.qs ∧ m'.an = m.an ∧ m'.au = m.au ∧ m'.ar = m.ar) : Own4 b0 (wr.setCell ⟨b0, i, none⟩ v) pl m' := by
  have o := own_set h.own (i := i) (v := v) h.msg (by decide) (by decide)
  exact ⟨by rw [e.1]; exact o.q, by rw [e.2.1]; exact o.n, by rw [e.2.2.1]; exact o.u, by rw [e.2.2.2]; exact o.r, o.nu, o.nr, o.ur⟩
theorem St.setM (h : St b0 w0 wr a b cap pl m k g) (i : Nat) (v : Value) : (wr.setCell ⟨b0, i, none⟩ v).heap[b0]? = some (.cells ((cellsM pl m).setIfInBounds i v) 37 (0, 0)) := heap_setCell_same _ _ _ _ _ _ h.msg
theorem St.m0 (h : St b0 w0 wr a b cap pl m k g) (v : Int) : St b0 w0 (wr.setCell ⟨b0, 0, none⟩ (.int .i64 v)) a b cap pl { m with id := v } k g := h.put (h.setM 0 _) (h.ownM 0 _ _ ⟨rfl, rfl, rfl, rfl⟩)
theorem St.m1 (h : St b0 w0 wr a b cap pl m k g) (v : Bool) : St b0 w0 (wr.setCell ⟨b0, 1, none⟩ (.bool v)) a b cap pl { m with rs := v } k g := h.put (h.setM 1 _) (h.ownM 1 _ _ ⟨rfl, rfl, rfl, rfl⟩)
theorem St.m2 (h : St b0 w0 wr a b cap pl m k g) (v : Int) : St b0 w0 (wr.setCell ⟨b0, 2, none⟩ (.int .i64 v)) a b cap pl { m with op := v } k g := h.put (h.setM 2 _) (h.ownM 2 _ _ ⟨rfl, rfl, rfl, rfl⟩)
theorem St.m3 (h : St b0 w0 wr a b cap pl m k g) (v : Bool) : St b0 w0 (wr.setCell ⟨b0, 3, none⟩ (.bool v)) a b cap pl { m with aa := v } k g := h.put (h.setM 3 _) (h.ownM 3 _ _ ⟨rfl, rfl, rfl, rfl⟩)
theorem St.m4 (h : St b0 w0 wr a b cap pl m k g) (v : Bool) : St b0 w0 (wr.setCell ⟨b0, 4, none⟩ (.bool v)) a b cap pl { m with tc := v } k g := h.put (h.setM 4 _) (h.ownM 4 _ _ ⟨rfl, rfl, rfl, rfl⟩)
theorem St.m5 (h : St b0 w0 wr a b cap pl m k g) (v : Bool) : St b0 w0 (wr.setCell ⟨b0, 5, none⟩ (.bool v)) a b cap pl { m with rd := v } k g := h.put (h.setM 5 _) (h.ownM 5 _ _ ⟨rfl, rfl, rfl, rfl⟩)
theorem St.m6 (h : St b0 w0 wr a b cap pl m k g) (v : Bool) : St b0 w0 (wr.setCell ⟨b0, 6, none⟩ (.bool v)) a b cap pl { m with ra := v } k g := h.put (h.setM 6 _) (h.ownM 6 _ _ ⟨rfl, rfl, rfl, rfl⟩)
theorem St.m7 (h : St b0 w0 wr a b cap pl m k g) (v : Bool) : St b0 w0 (wr.setCell ⟨b0, 7, none⟩ (.bool v)) a b cap pl { m with ad := v } k g := h.put (h.setM 7 _) (h.ownM 7 _ _ ⟨rfl, rfl, rfl, rfl⟩)
theorem St.m8 (h : St b0 w0 wr a b cap pl m k g) (v : Bool) : St b0 w0 (wr.setCell ⟨b0, 8, none⟩ (.bool v)) a b cap pl { m with cd := v } k g := h.put (h.setM 8 _) (h.ownM 8 _ _ ⟨rfl, rfl, rfl, rfl⟩)
theorem St.m9 (h : St b0 w0 wr a b cap pl m k g) (v : Int) : St b0 w0 (wr.setCell ⟨b0, 9, none⟩ (.int .i64 v)) a b cap pl { m with rc := v } k g := h.put (h.setM 9 _) (h.ownM 9 _ _ ⟨rfl, rfl, rfl, rfl⟩)
/-- a list with one more at its end -/
theorem grown_msg {W : World} {v : Value} {n : Nat} {xs : List Value} {sz : Nat} {t : TypeId} (h : St b0 w0 W a b cap pl m k g) (hv : W.ownsRow b0 t sz v n xs) (ht : t = 50 ∨ t = 52) (hgr : W.grownBy w1 v.ownBlock) :
    MsgAt w1 b0 pl m ∧ w1.heap[b0 + 1]? = some (.cells #[.int .i64 0] 3 (0, 0)) ∧ w1.heap[b0 + 2]? = some (.cells #[.int .i64 0] 40 (0, 0)) ∧ w1.heap[b0 + 3]? = some (.cells #[.slice a b.length cap, .int .i64 (k : Int)] 107 (0, 0)) ∧ w1.heap[b0 + 4]? = some (.cells #[.int .i64 (g : Int)] 3 (0, 0)) ∧ Below b0 w0 w1 := by
  have ne : ∀ (j : Nat) (o : Obj), W.heap[j]? = some o → (∀ c f, o ≠ .cells c t f) → w1.heap[j]? = some o := fun j o hj hn => (hgr.block j (blk_lt hj) (row_neG hv hj hn)).trans hj
  refine ⟨ne b0 _ h.msg ?_, ne _ _ h.ha ?_, ne _ _ h.he ?_, ne _ _ h.hc ?_, ne _ _ h.hg ?_, below_append' h.bel (by have := blk_lt h.hc; omega) hv hgr⟩
  all_goals
    intro c f e
    injection e with _ e2 _
    rcases ht with rfl | rfl <;> exact absurd e2 (by decide)
theorem own_far {W : World} {v v' : Value} {n n' : Nat} {xs xs' : List Value} {sz sz' : Nat} {t t' : TypeId} (h : W.ownsRow b0 t' sz' v' n' xs') (hv : W.ownsRow b0 t sz v n xs) (hgr : W.grownBy w1 v.ownBlock) (ht : t ≠ t') : w1.ownsRow b0 t' sz' v' n' xs' :=
  own_keptG h (fun j c hj => (hgr.block j (blk_lt hj) (row_neG hv hj (fun c' f e => by injection e with _ e2 _; exact ht e2.symm))).trans hj)
theorem ownB (x : Option Addr) (n c : Nat) : (Value.slice x n c).ownBlock = x.map Addr.block := by cases x <;> rfl
theorem own_apart {W : World} {x y : Option Addr} {n c : Nat} {xs' : List Value} {n' c' : Nat} {sz' : Nat} {t' : TypeId} (h : W.ownsRow b0 t' sz' (.slice y n' c') n' xs') (hgr : W.grownBy w1 (Value.slice x n c).ownBlock) (ha : Apart x y) : w1.ownsRow b0 t' sz' (.slice y n' c') n' xs' := by
  refine h.kept hgr ?_
  rw [ownB, ownB]
  cases y with
  | none => exact .inl rfl
  | some y =>
    right
    cases x with
    | none => simp
    | some x => simp only [Option.map_some]; intro e; injection e with e; exact ha x y rfl rfl e.symm
theorem new_apart {W : World} {x y : Option Addr} {n c n' c' g3 : Nat} {xs' : List Value} {sz' : Nat} {t' : TypeId} (h : W.ownsRow b0 t' sz' (.slice y n' c') n' xs') (ha : Apart x y) (hat : (Value.slice x n c).ownBlock = some g3 ∨ g3 = W.heap.size) : Apart (some ⟨g3, 0, none⟩) y := by
  intro p q hp hq e
  cases hp; subst hq
  rcases hat with hat | hat
  · rw [ownB] at hat
    cases x with
    | none => cases hat
    | some x => simp only [Option.map_some, Option.some.injEq] at hat; exact ha x q rfl rfl (hat.trans e)
  · rcases h.2 with ⟨e1, _⟩ | ⟨g', _, _, e1, _, hg', _⟩
    · cases e1
    · cases e1
      have := blk_lt hg'
      have e : g3 = g' := e
      omega
theorem St.pushQ {W : World} {x : Qn} {n g3 cp : Nat} (h : St b0 w0 W a b cap pl m k g) (hn : m.qs.length = n)
    (ho : w1.ownsRow b0 50 3 (.slice (some ⟨g3, 0, none⟩) (n + 1) cp) (n + 1) (m.qs.flatMap Qn.cells ++ x.cells)) (hgr : W.grownBy w1 (Value.slice pl.qa n pl.qc).ownBlock) :
    St b0 w0 (w1.setCell ⟨b0, 10, none⟩ (.slice (some ⟨g3, 0, none⟩) (n + 1) cp)) a b cap ⟨some ⟨g3, 0, none⟩, cp, pl.na, pl.nc, pl.ua, pl.uc, pl.ra, pl.rc⟩ { m with qs := m.qs ++ [x] } k g := by
  subst hn
  have hq := h.own.q
  obtain ⟨g1, g2, g3', g4, g5, g6⟩ := grown_msg h hq (.inl rfl) hgr
  have hl : (m.qs ++ [x]).length = m.qs.length + 1 := by simp
  have hf : (m.qs ++ [x]).flatMap Qn.cells = m.qs.flatMap Qn.cells ++ x.cells := by simp
  have hS : Own4 b0 w1 ⟨some ⟨g3, 0, none⟩, cp, pl.na, pl.nc, pl.ua, pl.uc, pl.ra, pl.rc⟩ { m with qs := m.qs ++ [x] } :=
    ⟨by dsimp only; rw [hl, hf]; exact ho, own_far h.own.n hq hgr (by decide), own_far h.own.u hq hgr (by decide), own_far h.own.r hq hgr (by decide), h.own.nu, h.own.nr, h.own.ur⟩
  refine ⟨?_, (far_one (by omega)).trans g2, (far_one (by omega)).trans g3', (far_one (by omega)).trans g4, (far_one (by omega)).trans g5, own_set hS g1 (by decide) (by decide), below_one g6 (Nat.le_refl _)⟩
  unfold MsgAt
  rw [heap_setCell_same _ _ 10 _ _ _ g1]
  simp [cellsM]
theorem own_ne {w : World} {X i : Nat} {v0 : Value} {x : Option Addr} {e : TypeId} {sz n c : Nat} {xs : List Value} (h : w.ownsRow b0 e sz (.slice x n c) n xs) (hne : ∀ y, x = some y → y.block ≠ X) : (w.setCell ⟨X, i, none⟩ v0).ownsRow b0 e sz (.slice x n c) n xs := by
  refine ⟨h.1, ?_⟩
  rcases h.2 with h1 | ⟨g, cap, cur, h1, h2, h3, h4⟩
  · exact .inl h1
  · refine .inr ⟨g, cap, cur, h1, h2, ?_, h4⟩
    cases h1
    rw [far_one (hne _ rfl)]; exact h3
/-- a cell of a question that is being made -/
theorem St.qset (h : St b0 w0 wr a b cap pl m k g) {X i : Nat} {v : Value} {c : Array Value} (hX : wr.heap[X]? = some (.cells c 50 (0, 0))) (hne : ∀ y, pl.qa = some y → y.block ≠ X) (hl : b0 + 5 ≤ X) : St b0 w0 (wr.setCell ⟨X, i, none⟩ v) a b cap pl m k g :=
  ⟨(far_one (by omega)).trans h.msg, (far_one (by omega)).trans h.ha, (far_one (by omega)).trans h.he, (far_one (by omega)).trans h.hc, (far_one (by omega)).trans h.hg,
    ⟨own_ne h.own.q hne, own_keptG h.own.n (fun j c' hj => (far_one (other_t hj hX (by decide))).trans hj), own_keptG h.own.u (fun j c' hj => (far_one (other_t hj hX (by decide))).trans hj), own_keptG h.own.r (fun j c' hj => (far_one (other_t hj hX (by decide))).trans hj), h.own.nu, h.own.nr, h.own.ur⟩, below_one h.bel (by omega)⟩
theorem St.qfresh (h : St b0 w0 wr a b cap pl m k g) : ∀ y, pl.qa = some y → y.block ≠ wr.heap.size := by
  intro y hy e
  rcases h.own.q.2 with ⟨e1, _⟩ | ⟨g', _, _, e1, _, hg', _⟩
  · rw [hy] at e1; cases e1
  · rw [hy] at e1; cases e1
    have := blk_lt hg'
    have e : g' = wr.heap.size := e
    omega
/-- a section's list: where it lies -/
def secA (p : Pl) : Nat → Option Addr | 0 => p.na | 1 => p.ua | _ => p.ra
def secC (p : Pl) : Nat → Nat | 0 => p.nc | 1 => p.uc | _ => p.rc
def updP (p : Pl) (s : Nat) (x : Option Addr) (c : Nat) : Pl := match s with | 0 => { p with na := x, nc := c } | 1 => { p with ua := x, uc := c } | _ => { p with ra := x, rc := c }
def updM (m : Mg) (s : Nat) (L : List Rc) : Mg := match s with | 0 => { m with an := L } | 1 => { m with au := L } | _ => { m with ar := L }
theorem secL_upd (m : Mg) (s : Nat) (L : List Rc) : secL (updM m s L) s = L := by match s with | 0 => rfl | 1 => rfl | _ + 2 => rfl
theorem updM_upd (m : Mg) (s : Nat) (L M : List Rc) : updM (updM m s L) s M = updM m s M := by match s with | 0 => rfl | 1 => rfl | _ + 2 => rfl
theorem St.sec (h : St b0 w0 wr a b cap pl m k g) {s : Nat} (hs : s < 3) : wr.ownsRow b0 52 5 (.slice (secA pl s) (secL m s).length (secC pl s)) (secL m s).length ((secL m s).flatMap Rc.cells) := by
  match s, hs with
  | 0, _ => exact h.own.n
  | 1, _ => exact h.own.u
  | 2, _ => exact h.own.r
theorem St.secCell (h : St b0 w0 wr a b cap pl m k g) {s : Nat} (hs : s < 3) : wr.cell? ⟨b0, 11 + s, none⟩ = some (.slice (secA pl s) (secL m s).length (secC pl s)) := by
  have hb := h.msg.box
  match s, hs with
  | 0, _ => exact hb.c11
  | 1, _ => exact hb.c12
  | 2, _ => exact hb.c13
theorem St.push {W : World} {x : Rc} {s n g3 cp : Nat} (hs : s < 3) (h : St b0 w0 W a b cap pl m k g) (hn : (secL m s).length = n)
    (ho : w1.ownsRow b0 52 5 (.slice (some ⟨g3, 0, none⟩) (n + 1) cp) (n + 1) ((secL m s).flatMap Rc.cells ++ x.cells)) (hgr : W.grownBy w1 (Value.slice (secA pl s) n (secC pl s)).ownBlock) (hat : (Value.slice (secA pl s) n (secC pl s)).ownBlock = some g3 ∨ g3 = W.heap.size) :
    St b0 w0 (w1.setCell ⟨b0, 11 + s, none⟩ (.slice (some ⟨g3, 0, none⟩) (n + 1) cp)) a b cap (updP pl s (some ⟨g3, 0, none⟩) cp) (updM m s (secL m s ++ [x])) k g := by
  subst hn
  obtain ⟨g1, g2, g3', g4, g5, g6⟩ := grown_msg h (h.sec hs) (.inr rfl) hgr
  have hl : (secL m s ++ [x]).length = (secL m s).length + 1 := by simp
  have hf : (secL m s ++ [x]).flatMap Rc.cells = (secL m s).flatMap Rc.cells ++ x.cells := by simp
  have hS : Own4 b0 w1 (updP pl s (some ⟨g3, 0, none⟩) cp) (updM m s (secL m s ++ [x])) := by
    rw [← hl, ← hf] at ho
    have hsec := h.sec hs
    match s, hs with
    | 0, _ => exact ⟨own_far h.own.q hsec hgr (by decide), ho, own_apart h.own.u hgr h.own.nu, own_apart h.own.r hgr h.own.nr, new_apart h.own.u h.own.nu hat, new_apart h.own.r h.own.nr hat, h.own.ur⟩
    | 1, _ => exact ⟨own_far h.own.q hsec hgr (by decide), own_apart h.own.n hgr h.own.nu.symm, ho, own_apart h.own.r hgr h.own.ur, (new_apart h.own.n h.own.nu.symm hat).symm, h.own.nr, new_apart h.own.r h.own.ur hat⟩
    | 2, _ => exact ⟨own_far h.own.q hsec hgr (by decide), own_apart h.own.n hgr h.own.nr.symm, own_apart h.own.u hgr h.own.ur.symm, ho, h.own.nu, (new_apart h.own.n h.own.nr.symm hat).symm, (new_apart h.own.u h.own.ur.symm hat).symm⟩
  refine ⟨?_, (far_one (by omega)).trans g2, (far_one (by omega)).trans g3', (far_one (by omega)).trans g4, (far_one (by omega)).trans g5, own_set hS g1 (by decide) (by decide), below_one g6 (Nat.le_refl _)⟩
  unfold MsgAt
  rw [heap_setCell_same _ _ (11 + s) _ _ _ g1, ← hl]
  match s, hs with
  | 0, _ => rfl
  | 1, _ => rfl
  | 2, _ => rfl
end
end Go.Proofs.Ytabhiangjomaeaa.ust
namespace Go.Proofs.Ytabhiangjomaeaa.uend
open Go.RowKit Go.Proofs.Ytabhiangjomaeaa.kit Go.Proofs.Ytabhiangjomaeaa.nspec Go.Proofs.Ytabhiangjomaeaa.unpP Go.Proofs.Ytabhiangjomaeaa.wireP Go.Proofs.Ytabhiangjomaeaa.wireM Go.Proofs.Ytabhiangjomaeaa.wireC Go.Proofs.Ytabhiangjomaeaa.wpack Go.Proofs.Ytabhiangjomaeaa.rows Go.Proofs.Ytabhiangjomaeaa.cur Go.Proofs.Ytabhiangjomaeaa.putM Go.Proofs.Ytabhiangjomaeaa.udoor Go.Proofs.Ytabhiangjomaeaa.ust
set_option linter.unusedVariables false

/-- what Unpack leaves -/
def UnpE (b0 : Nat) (w0 : World) (r : Mg × Nat × Int) (e : Ending) (w' : World) : Prop :=
  ∃ pl : Pl, e = .returned (.tuple #[.agg (cellsM pl r.1), .int .i64 (r.2.1 : Int), .int .i64 r.2.2]) ∧ Own4 b0 w' pl r.1 ∧ Below b0 w0 w'
theorem infoMsg : (Try.prog.info? 37).map (·.size) = some 14 := by kernel_rfl
theorem res_read {b0 : Nat} {w : World} {pl : Pl} {m : Mg} {x y : Int} (tmps : Array Value) (h2 : tmps[2]?.getD undef = .pointer (some ⟨b0, 0, none⟩)) (h3 : tmps[3]?.getD undef = .pointer (some ⟨b0 + 1, 0, none⟩)) (h4 : tmps[4]?.getD undef = .pointer (some ⟨b0 + 2, 0, none⟩))
    (hM : MsgAt w b0 pl m) (ha : w.cell? ⟨b0 + 1, 0, none⟩ = some (.int .i64 x)) (he : w.cell? ⟨b0 + 2, 0, none⟩ = some (.int .i64 y)) :
    (results Try.f26 tmps).run Try.prog w = .ok (.tuple #[.agg (cellsM pl m), .int .i64 x, .int .i64 y]) w := by
  have b := hM.box
  simp [results, Try.results26, h2, h3, h4, asAddr, go_sem, ha, he, b.c0, b.c1, b.c2, b.c3, b.c4, b.c5, b.c6, b.c7, b.c8, b.c9, b.c10, b.c11, b.c12, b.c13, cellsM]
/-- the closure, laid to be called at the end -/
def theDoor (b0 : Nat) : List Deferred := [{ target := .fn (.func 61) #[.pointer (some ⟨b0 + 4, 0, none⟩), .pointer (some ⟨b0, 0, none⟩), .pointer (some ⟨b0 + 1, 0, none⟩), .pointer (some ⟨b0 + 2, 0, none⟩)], args := #[] }]
theorem afterStop_at {w : World} {S M A E : Nat} {p : Pl} {m : Mg} {k x : Int} {av ev : Value} {tA tE : TypeId} (hM : MsgAt w M p m) (hA : w.heap[A]? = some (.cells #[av] tA (0, 0))) (hE : w.heap[E]? = some (.cells #[ev] tE (0, 0))) (d1 : M ≠ A) (d2 : M ≠ E) (d3 : A ≠ E) :
    MsgAt (afterStop w S M A E k x) M ⟨none, 0, none, 0, none, 0, none, 0⟩ noM ∧ (afterStop w S M A E k x).cell? ⟨A, 0, none⟩ = some (.int .i64 k) ∧ (afterStop w S M A E k x).cell? ⟨E, 0, none⟩ = some (.int .i64 x) := by
  have hB := (Below.refl w.heap.size w).alloc (Nat.le_refl _) (Obj.cells #[.int .i64 x] 109)
  have h0 := putM_blk ⟨none, 0, none, 0, none, 0, none, 0⟩ noM (hM.below hB hM.box.lt) (by rfl)
  have hA1 := (putM_far ⟨none, 0, none, 0, none, 0, none, 0⟩ noM (show A ≠ M from d1.symm)).trans ((hB.block A (blk_lt hA)).trans hA)
  have hE1 := (putM_far ⟨none, 0, none, 0, none, 0, none, 0⟩ noM (show E ≠ M from d2.symm)).trans ((hB.block E (blk_lt hE)).trans hE)
  have a1 := heap_setCell_same _ A 0 _ _ (.int .i64 k) hA1
  have e1 := (far_one (j := 0) (v := .int .i64 k) (show E ≠ A from d3.symm)).trans hE1
  have e2 := heap_setCell_same _ E 0 _ _ (.int .i64 x) e1
  unfold afterStop
  refine ⟨(far_one d2).trans ((far_one d1).trans h0), ?_, ?_⟩
  · have a2 := (far_one (j := 0) (v := .int .i64 x) d3).trans a1
    simp only [World.cell?, a2]; rfl
  · simp only [World.cell?, e2]; rfl
theorem afterStop_below {w : World} {S M A E b0 : Nat} {w0 : World} {k x : Int} (h : Below b0 w0 w) (hb : b0 ≤ w.heap.size) (h1 : b0 ≤ M) (h2 : b0 ≤ A) (h3 : b0 ≤ E) : Below b0 w0 (afterStop w S M A E k x) :=
  below_one (below_one (putM_below _ _ (h.alloc hb _) h1) h2) h3
/-- a stop on the way -/
theorem door_no {b0 : Nat} {w0 W w1 : World} {a : Option Addr} {b : Bs} {cap : Nat} {pl : Pl} {m : Mg} {k g : Nat} {x : Int} {r : Mg × Nat × Int} (h : St b0 w0 W a b cap pl m k g) (he : EffC (b0 + 3) W w1) (hr : r = (noM, g, x)) (tmps : Array Value)
    (h2 : tmps[2]?.getD undef = .pointer (some ⟨b0, 0, none⟩)) (h3 : tmps[3]?.getD undef = .pointer (some ⟨b0 + 1, 0, none⟩)) (h4 : tmps[4]?.getD undef = .pointer (some ⟨b0 + 2, 0, none⟩)) :
    bodyPostD Try.prog Try.f26 (UnpE b0 w0 r) (.panic [{ v := .iface 109 (.agg #[.int .i64 x]), recovered := false }]) { tmps := tmps, defers := theDoor b0 } w1 := by
  have hs : b0 ≤ W.heap.size := by have := blk_lt h.hc; omega
  have hM : MsgAt w1 b0 pl m := (he.kept b0 (blk_lt h.msg) (by omega)).trans h.msg
  have hA := (he.kept _ (blk_lt h.ha) (by omega)).trans h.ha
  have hE := (he.kept _ (blk_lt h.he) (by omega)).trans h.he
  have hG := (he.kept _ (blk_lt h.hg) (by omega)).trans h.hg
  have hB := h.bel.trans (he.to_below (by omega) hs)
  have ca : w1.cell? ⟨b0 + 1, 0, none⟩ = some (.int .i64 0) := by simp only [World.cell?, hA]; rfl
  have ce : w1.cell? ⟨b0 + 2, 0, none⟩ = some (.int .i64 0) := by simp only [World.cell?, hE]; rfl
  have cg : w1.cell? ⟨b0 + 4, 0, none⟩ = some (.int .i64 (g : Int)) := by simp only [World.cell?, hG]; rfl
  have za : w1.frozen? ⟨b0 + 1, 0, none⟩ = false := by simp only [World.frozen?, hA]; simp
  have ze : w1.frozen? ⟨b0 + 2, 0, none⟩ = false := by simp only [World.frozen?, hE]; simp
  unfold bodyPostD theDoor
  refine leaves_cons (f := 61) (args := #[.pointer (some ⟨b0 + 4, 0, none⟩), .pointer (some ⟨b0, 0, none⟩), .pointer (some ⟨b0 + 1, 0, none⟩), .pointer (some ⟨b0 + 2, 0, none⟩)]) (by simp) (by simp [go_sem]) ?_
  refine (udoor_stop (b0 + 4) b0 (b0 + 1) (b0 + 2) pl m x g _ _ [] w1 cg hM ca za ce ze (by omega) (by omega) (by omega) (by omega) (by omega) (by omega)).mono ?_
  rintro e u' w'' ⟨rfl, rfl, n, rfl⟩
  obtain ⟨k1, k2, k3⟩ := afterStop_at (S := w1.heap.size) (k := (g : Int)) (x := x) hM hA hE (by omega) (by omega) (by omega)
  have hs1 : b0 ≤ w1.heap.size := Nat.le_trans hs he.size
  have kb := afterStop_below (S := w1.heap.size) (M := b0) (A := b0 + 1) (E := b0 + 2) (k := (g : Int)) (x := x) hB hs1 (Nat.le_refl _) (by omega) (by omega)
  subst hr
  obtain ⟨Z, hZ⟩ : ∃ Z, afterStop w1 w1.heap.size b0 (b0 + 1) (b0 + 2) (g : Int) x = Z := ⟨_, rfl⟩
  rw [hZ] at k1 k2 k3 kb
  rw [hZ]
  have m1 : MsgAt (Z.drewN n) b0 ⟨none, 0, none, 0, none, 0, none, 0⟩ noM := k1
  have m2 : (Z.drewN n).cell? ⟨b0 + 1, 0, none⟩ = some (.int .i64 (g : Int)) := k2
  have m3 : (Z.drewN n).cell? ⟨b0 + 2, 0, none⟩ = some (.int .i64 x) := k3
  have hB2 : Below b0 w0 (Z.drewN n) := ⟨kb.os, kb.tape, kb.output, kb.size, kb.block⟩
  obtain ⟨Y, hY⟩ : ∃ Y, Z.drewN n = Y := ⟨_, rfl⟩
  rw [hY] at m1 m2 m3 hB2 ⊢
  exact ⟨_, res_read tmps h2 h3 h4 m1 m2 m3, _, rfl, Own4.none _ _, hB2⟩
/-- a return -/
theorem door_yes {b0 : Nat} {w0 w1 : World} {pl : Pl} {m : Mg} {k : Nat} {x : Int} {r : Mg × Nat × Int} (hM : MsgAt w1 b0 pl m) (ha : w1.cell? ⟨b0 + 1, 0, none⟩ = some (.int .i64 (k : Int))) (he : w1.cell? ⟨b0 + 2, 0, none⟩ = some (.int .i64 x)) (ho : Own4 b0 w1 pl m) (hB : Below b0 w0 w1) (hr : r = (m, k, x)) (tmps : Array Value)
    (h2 : tmps[2]?.getD undef = .pointer (some ⟨b0, 0, none⟩)) (h3 : tmps[3]?.getD undef = .pointer (some ⟨b0 + 1, 0, none⟩)) (h4 : tmps[4]?.getD undef = .pointer (some ⟨b0 + 2, 0, none⟩)) :
    bodyPostD Try.prog Try.f26 (UnpE b0 w0 r) .ret { tmps := tmps, defers := theDoor b0 } w1 := by
  unfold bodyPostD theDoor
  refine leaves_cons (f := 61) (args := #[.pointer (some ⟨b0 + 4, 0, none⟩), .pointer (some ⟨b0, 0, none⟩), .pointer (some ⟨b0 + 1, 0, none⟩), .pointer (some ⟨b0 + 2, 0, none⟩)]) (by simp) (by simp [go_sem]) ?_
  refine (udoor_ret _ _ _ _ w1).mono ?_
  rintro e u' w'' ⟨rfl, rfl, rfl⟩
  subst hr
  exact ⟨_, res_read tmps h2 h3 h4 hM ha he, _, rfl, ho, hB⟩
/-- a return ahead of the door's laying -/
theorem door_none {b0 : Nat} {w0 w1 : World} {pl : Pl} {m : Mg} {k : Nat} {x : Int} {r : Mg × Nat × Int} (hM : MsgAt w1 b0 pl m) (ha : w1.cell? ⟨b0 + 1, 0, none⟩ = some (.int .i64 (k : Int))) (he : w1.cell? ⟨b0 + 2, 0, none⟩ = some (.int .i64 x)) (ho : Own4 b0 w1 pl m) (hB : Below b0 w0 w1) (hr : r = (m, k, x)) (tmps : Array Value)
    (h2 : tmps[2]?.getD undef = .pointer (some ⟨b0, 0, none⟩)) (h3 : tmps[3]?.getD undef = .pointer (some ⟨b0 + 1, 0, none⟩)) (h4 : tmps[4]?.getD undef = .pointer (some ⟨b0 + 2, 0, none⟩)) :
    bodyPostD Try.prog Try.f26 (UnpE b0 w0 r) .ret { tmps := tmps, defers := [] } w1 := by
  subst hr
  exact ⟨_, res_read tmps h2 h3 h4 hM ha he, _, rfl, ho, hB⟩
end Go.Proofs.Ytabhiangjomaeaa.uend
