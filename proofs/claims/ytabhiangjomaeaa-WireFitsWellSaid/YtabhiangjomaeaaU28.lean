/- wire.Unpack: the long way: walk. -/
import Derived.Test.YtabhiangjomaeaaU27
namespace Go.Proofs.Ytabhiangjomaeaa.unpackM
open Go.RowKit Go.Proofs.Ytabhiangjomaeaa.kit Go.Proofs.Ytabhiangjomaeaa.nspec Go.Proofs.Ytabhiangjomaeaa.unpP Go.Proofs.Ytabhiangjomaeaa.wireP Go.Proofs.Ytabhiangjomaeaa.wireM Go.Proofs.Ytabhiangjomaeaa.wireC Go.Proofs.Ytabhiangjomaeaa.wpack Go.Proofs.Ytabhiangjomaeaa.rows Go.Proofs.Ytabhiangjomaeaa.cur Go.Proofs.Ytabhiangjomaeaa.cname Go.Proofs.Ytabhiangjomaeaa.crec Go.Proofs.Ytabhiangjomaeaa.putM Go.Proofs.Ytabhiangjomaeaa.usign Go.Proofs.Ytabhiangjomaeaa.udoor Go.Proofs.Ytabhiangjomaeaa.ust Go.Proofs.Ytabhiangjomaeaa.uend Go.Proofs.Ytabhiangjomaeaa.unpack Go.Proofs.Ytabhiangjomaeaa.unpackP
set_option linter.unusedVariables false

/-- no section yet -/
def NoS (m : Mg) : Prop := m.an = [] ∧ m.au = [] ∧ m.ar = []
/-- the sections from one on are empty -/
def NoF (m : Mg) (s : Nat) : Prop := ∀ j, s ≤ j → j < 3 → secL m j = []
theorem idxP (b0 s : Nat) (hs : s < 3) (w : World) : Sem.run Try.prog (Instr.index 117 (Value.agg #[.pointer (some ⟨b0, 11, none⟩), .pointer (some ⟨b0, 12, none⟩), .pointer (some ⟨b0, 13, none⟩)]) (Value.int IntKind.i64 (s : Int))) w = .ok (.pointer (some ⟨b0, 11 + s, none⟩)) w := by
  have hu := Try.underlying117
  match s, hs with
  | 0, _ => simp [Instr.index, asIntOf, run_underlying hu, go_sem]
  | 1, _ => simp [Instr.index, asIntOf, run_underlying hu, go_sem]
  | 2, _ => simp [Instr.index, asIntOf, run_underlying hu, go_sem]
/-- seven signs laid -/
def put7 (w : World) (M : Nat) (v : Nat) : World := ((((((w.setCell ⟨M, 1, none⟩ (.bool (signB v 15))).setCell ⟨M, 3, none⟩ (.bool (signB v 10))).setCell ⟨M, 4, none⟩ (.bool (signB v 9))).setCell ⟨M, 5, none⟩ (.bool (signB v 8))).setCell ⟨M, 6, none⟩ (.bool (signB v 7))).setCell ⟨M, 7, none⟩ (.bool (signB v 5))).setCell ⟨M, 8, none⟩ (.bool (signB v 4))
theorem put7_far {w : World} {M X v : Nat} (h : X ≠ M) : (put7 w M v).heap[X]? = w.heap[X]? := by
  unfold put7; rw [far_one h, far_one h, far_one h, far_one h, far_one h, far_one h, far_one h]
/-- the three counts, so many of them read -/
def cnts (b : Bs) : Nat → Array Value
  | 0 => #[.int .i64 0, .int .i64 0, .int .i64 0]
  | 1 => #[.int .i64 (num2 b 6 : Int), .int .i64 0, .int .i64 0]
  | 2 => #[.int .i64 (num2 b 6 : Int), .int .i64 (num2 b 8 : Int), .int .i64 0]
  | _ => #[.int .i64 (num2 b 6 : Int), .int .i64 (num2 b 8 : Int), .int .i64 (num2 b 10 : Int)]
theorem cnts_set {w : World} {K i : Nat} {b : Bs} (h : w.heap[K]? = some (.cells (cnts b i) 114 (0, 0))) (hi : i < 3) : (w.setCell ⟨K, i, none⟩ (.int .i64 (num2 b (6 + 2 * i) : Int))).heap[K]? = some (.cells (cnts b (i + 1)) 114 (0, 0)) := by
  rw [heap_setCell_same _ _ _ _ _ _ h]
  match i, hi with
  | 0, _ => rfl
  | 1, _ => rfl
  | 2, _ => rfl
theorem cnts_at {w : World} {K i j : Nat} {b : Bs} (h : w.heap[K]? = some (.cells (cnts b i) 114 (0, 0))) (hj : j < 3) : ∃ x : Int, w.cell? ⟨K, j, none⟩ = some (.int .i64 x) := by
  simp only [World.cell?, h]
  match i with
  | 0 => match j, hj with | 0, _ => exact ⟨_, rfl⟩ | 1, _ => exact ⟨_, rfl⟩ | 2, _ => exact ⟨_, rfl⟩
  | 1 => match j, hj with | 0, _ => exact ⟨_, rfl⟩ | 1, _ => exact ⟨_, rfl⟩ | 2, _ => exact ⟨_, rfl⟩
  | 2 => match j, hj with | 0, _ => exact ⟨_, rfl⟩ | 1, _ => exact ⟨_, rfl⟩ | 2, _ => exact ⟨_, rfl⟩
  | _ + 3 => match j, hj with | 0, _ => exact ⟨_, rfl⟩ | 1, _ => exact ⟨_, rfl⟩ | 2, _ => exact ⟨_, rfl⟩
theorem cnts_end {w : World} {K j : Nat} {b : Bs} (h : w.heap[K]? = some (.cells (cnts b 3) 114 (0, 0))) (hj : j < 3) : w.cell? ⟨K, j, none⟩ = some (.int .i64 (num2 b (6 + 2 * j) : Int)) := by
  simp only [World.cell?, h]
  match j, hj with
  | 0, _ => rfl
  | 1, _ => rfl
  | 2, _ => rfl
theorem cnts_z {w : World} {K i j : Nat} {b : Bs} (h : w.heap[K]? = some (.cells (cnts b i) 114 (0, 0))) : w.frozen? ⟨K, j, none⟩ = false := by
  simp only [World.frozen?, h]; simp
theorem recU_len {b : Bs} {k : Nat} {x : Rc} {j : Nat} (h : recU b k = .ok x j) : j ≤ b.length := by
  unfold recU at h
  cases hn : nameAt b k b.length 10 with
  | bad x => rw [hn] at h; cases h
  | ok o i =>
    rw [hn] at h
    simp only at h
    by_cases c1 : b.length < i + 10
    · rw [if_pos c1] at h; cases h
    rw [if_neg c1] at h
    by_cases c2 : b.length < i + 10 + num2 b (i + 8)
    · rw [if_pos c2] at h; cases h
    rw [if_neg c2] at h
    split at h
    · cases h
    · split at h
      · cases h; omega
      · cases h
theorem nof_upd {m : Mg} {s : Nat} (L : List Rc) (h : NoF m (s + 1)) : NoF (updM m s L) (s + 1) := by
  intro j h1 h2
  have := h j h1 h2
  match s, j, h1, h2 with
  | 0, 1, _, _ => exact this
  | 0, 2, _, _ => exact this
  | 1, 2, _, _ => exact this
  | s + 2, j, h1, h2 => omega
theorem msg_sec {w : World} {b0 : Nat} {pl : Pl} {m : Mg} (h : MsgAt w b0 pl m) {s : Nat} (hs : s < 3) : w.cell? ⟨b0, 11 + s, none⟩ = some (.slice (secA pl s) (secL m s).length (secC pl s)) := by
  have hb := h.box
  match s, hs with
  | 0, _ => exact hb.c11
  | 1, _ => exact hb.c12
  | 2, _ => exact hb.c13
theorem heap_cell {w : World} {o : Obj} {a : Addr} {v : Value} (h : w.cell? a = some v) : (w.alloc o).cell? a = some v :=
  (World.cell?_alloc_lt _ _ _ (lt_cell h)).trans h
theorem leaves_tmps {fn : Func} {t1 t2 : Array Value} {R : Ending → World → Prop} (hr : ∀ v w, (results fn t1).run Try.prog w = .ok v w → (results fn t2).run Try.prog w = .ok v w) : ∀ (ds : List Deferred) (u : FrameMode) (w : World), Leaves Try.prog fn t1 R ds u w → Leaves Try.prog fn t2 R ds u w
  | [], .returning, w, h => by
    obtain ⟨v, h1, h2⟩ := h
    exact ⟨v, hr _ _ h1, h2⟩
  | [], .panicking chain, w, h => h
  | [], .run, w, h => h
  | d :: ds, u, w, h => by
    obtain ⟨h0, fv, cap, f, args, h1, h2, h3⟩ := h
    refine ⟨h0, fv, cap, f, args, h1, h2, fun c cs hc => ?_⟩
    obtain ⟨e, u', w', fr, hR, hs, hk, hg⟩ := h3 c cs hc
    refine ⟨e, u', w', fr, ?_, hs, hk, hg⟩
    cases e with
    | returned _ => exact leaves_tmps hr ds _ _ hR
    | panicked _ => exact leaves_tmps hr ds _ _ hR
    | outgrown => exact hR
theorem res_put (t : Array Value) (d : Nat) (hd : 5 ≤ d) (x : Value) : results Try.f26 (t.setIfInBounds d x) = results Try.f26 t := by
  simp [results, Try.results26, Array.getElem?_setIfInBounds_ne (show d ≠ 2 by omega), Array.getElem?_setIfInBounds_ne (show d ≠ 3 by omega), Array.getElem?_setIfInBounds_ne (show d ≠ 4 by omega)]
/-- what is thrown does not hang on the slots behind the results' -/
theorem hang (d : Nat) (hd : 5 ≤ d) {R : Ending → World → Prop} (x : Value) {c : List PanicEntry} {a : Act} {w : World} (h : bodyPostD Try.prog Try.f26 R (.panic c) (a.put (some d) x) w) : bodyPostD Try.prog Try.f26 R (.panic c) a w :=
  leaves_tmps (t1 := a.tmps.setIfInBounds d x) (fun v w hh => by rw [res_put _ d hd] at hh; exact hh) _ _ _ h
set_option maxRecDepth 100000 in
set_option maxHeartbeats 40000000 in
theorem unpack_main (a : Option Addr) (b : Bs) (cap : Nat) (w : World) (hi : In0 w.heap.size w a b cap) (h : ¬ 65535 < b.length) (h12 : ¬ b.length < 12) (h3 : ¬ atB b 3 / 64 % 2 = 1) :
    Calls Try.prog 26 #[.slice a b.length cap] w (UnpE w.heap.size w (unpackS b)) := by
  have hmf : ∀ (fn : Fn) (first cap : Array Value) (w : World), (Instr.makeFunc fn first cap).run Try.prog w = .ok (.func fn first cap) w := fun _ _ _ _ => rfl
  obtain ⟨R, hR⟩ : ∃ R, unpackS b = R := ⟨_, rfl⟩
  have HR := Lib.hid ((unpack_is h h12 h3).symm.trans hR)
  rw [hR]
  have hle := hi.le; have hcm := hi.cm
  unfold maxLen at hcm
  have HB := Lib.hid (show b.length ≤ 65535 by omega)
  have HB12 := Lib.hid (show 12 ≤ b.length by omega)
  obtain ⟨c3, hc3, hn3⟩ := atB_some (b := b) (k := 3) (by omega)
  obtain ⟨g, o, rfl, hg, hcell⟩ := hi.rd 3 c3 hc3
  rw [← hn3] at hcell
  have hb3 := and64' (atB_lt b 3)
  rw [decide_eq_false h3] at hb3
  obtain ⟨z, hz⟩ : ∃ z, atB b 3 = z := ⟨_, rfl⟩
  rw [hz] at hb3 hcell
  have hbx := boxes_at w 0 0
  have hst := st_start (w := w) (a := some ⟨g, o, none⟩) (b := b) (cap := cap)
  obtain ⟨L, hL⟩ : ∃ L, b.length = L := ⟨_, rfl⟩
  rw [hL] at h h12 hle ⊢
  have hLi : (12 : Int) ≤ (L : Int) := by omega
  have hLj : (L : Int) ≤ 65535 := by omega
  have HL := Lib.hid hL
  obtain ⟨b0, hb0⟩ : ∃ b0, w.heap.size = b0 := ⟨_, rfl⟩
  have hcw := (hbx.2.2.2.1.cell (p := ⟨g, o + 3, none⟩) hg).trans hcell
  rw [hL] at hst
  obtain ⟨W, hW⟩ : ∃ W, boxes w 0 0 = W := ⟨_, rfl⟩
  rw [hW, hb0] at hbx
  rw [hW, hb0] at hst
  rw [hW] at hcw
  rw [hb0] at hi ⊢
  have HI := Lib.hid hi
  have HBX := Lib.hid hbx; have HW := Lib.hid hW; have HST := Lib.hid hst
  clear hbx hW hst hi hL hR hz h3 hcell h h12 hc3 hn3
  go_enter_defers Try.func26, Try.ntmps26
  go_upto_region 5 with fail
  change Code.wp _ _ _ _ (boxes w 0 0)
  rw [HW.out]
  have hWs := HBX.out.2.2.2.2
  go_upto_region 7 with fail
  trace "7"
  go_upto_region 10 with fail
  obtain ⟨W1, hW1⟩ : ∃ W1, (W.alloc (.cells #[.slice (some ⟨g, o, none⟩) L cap, .int .i64 0] 107)).alloc (.cells #[.int .i64 0] 3) = W1 := ⟨_, rfl⟩
  rw [hW1] at HST
  rw [hW1]
  have hl12 := HB12.out
  have CN := Lib.hid (num_st HI.out HB.out HST.out (by omega))
  obtain ⟨n0, hn0⟩ : ∃ n0, num2 b 0 = n0 := ⟨_, rfl⟩
  rw [hn0] at CN
  have HN0 := Lib.hid hn0
  clear hn0 hW1 HBX hcw hWs hb3
  go_wp2_with fail
  refine CN.out.mono ?_
  rintro e w1 ⟨rfl, hs, _⟩
  have HS1 := Lib.hid hs
  have c0 := hs.msg.box.c0; have f0 := msg_frozen hs.msg 0
  clear hs CN HST
  go_upto_region 11 with fail
  have HS2 := Lib.hid (HS1.out.m0 (n0 : Int))
  obtain ⟨W2, hW2⟩ : ∃ W2, w1.setCell ⟨b0, 0, none⟩ (.int .i64 (n0 : Int)) = W2 := ⟨_, rfl⟩
  rw [hW2] at HS2
  rw [hW2]
  have CN := Lib.hid (num_st HI.out HB.out HS2.out (by omega))
  obtain ⟨v, hv⟩ : ∃ v, num2 b 2 = v := ⟨_, rfl⟩
  rw [show 0 + 2 = 2 from rfl, hv] at CN
  have HV := Lib.hid hv
  have hvb : v ≤ 65535 := by rw [← hv]; exact crec.num2_le b 2
  clear hv hW2 c0 f0 HS1
  go_wp2_with fail
  refine CN.out.mono ?_
  rintro e w3 ⟨rfl, hs, _⟩
  have HS3 := Lib.hid hs
  clear hs CN HS2
  trace "13"
  go_upto_region 13 with fail
  have hBV := (Below.refl w3.heap.size w3).alloc (Nat.le_refl _) (.cells #[.int .i64 (v : Int)] 3)
  have HS4 := Lib.hid (HS3.out.below hBV)
  have hVV := heap_alloc_new w3 (.cells #[.int .i64 (v : Int)] 3)
  obtain ⟨V, hV⟩ : ∃ V, w3.heap.size = V := ⟨_, rfl⟩
  obtain ⟨W4, hW4⟩ : ∃ W4, w3.alloc (.cells #[.int .i64 (v : Int)] 3) = W4 := ⟨_, rfl⟩
  have hVb : b0 + 5 ≤ V := by have := blk_lt HS3.out.hg; omega
  rw [hW4] at HS4 hVV
  rw [hV] at hVV
  rw [hW4, hV]
  have HVV := Lib.hid hVV
  have hcv : W4.cell? ⟨V, 0, none⟩ = some (.int .i64 (v : Int)) := by simp only [World.cell?, hVV]; rfl
  have C15 := Lib.hid (usign_any V v 15 W4 hcv hvb (by decide))
  have C10 := Lib.hid (usign_any V v 10 W4 hcv hvb (by decide))
  have C9 := Lib.hid (usign_any V v 9 W4 hcv hvb (by decide))
  have C8 := Lib.hid (usign_any V v 8 W4 hcv hvb (by decide))
  have C7 := Lib.hid (usign_any V v 7 W4 hcv hvb (by decide))
  have C5 := Lib.hid (usign_any V v 5 W4 hcv hvb (by decide))
  have C4 := Lib.hid (usign_any V v 4 W4 hcv hvb (by decide))
  clear hBV hVV hV hW4 HS3 hcv
  trace "13b"
  go_wp2_with fail
  refine C15.out.mono ?_
  rintro e wx ⟨rfl, hwx⟩
  obtain rfl : W4 = wx := hwx.symm
  go_wp2_with fail
  refine C10.out.mono ?_
  rintro e wx ⟨rfl, hwx⟩
  obtain rfl : W4 = wx := hwx.symm
  go_wp2_with fail
  refine C9.out.mono ?_
  rintro e wx ⟨rfl, hwx⟩
  obtain rfl : W4 = wx := hwx.symm
  go_wp2_with fail
  refine C8.out.mono ?_
  rintro e wx ⟨rfl, hwx⟩
  obtain rfl : W4 = wx := hwx.symm
  go_wp2_with fail
  refine C7.out.mono ?_
  rintro e wx ⟨rfl, hwx⟩
  obtain rfl : W4 = wx := hwx.symm
  go_wp2_with fail
  refine C5.out.mono ?_
  rintro e wx ⟨rfl, hwx⟩
  obtain rfl : W4 = wx := hwx.symm
  go_wp2_with fail
  refine C4.out.mono ?_
  rintro e wx ⟨rfl, hwx⟩
  obtain rfl : W4 = wx := hwx.symm
  have bx := HS4.out.msg.box
  have c1 := bx.c1; have c3 := bx.c3; have c4 := bx.c4; have c5 := bx.c5; have c6 := bx.c6; have c7 := bx.c7; have c8 := bx.c8
  have mf := fun j => msg_frozen HS4.out.msg j
  have f1 := mf 1; have f3 := mf 3; have f4 := mf 4; have f5 := mf 5; have f6 := mf 6; have f7 := mf 7; have f8 := mf 8
  clear bx mf
  trace "14"
  go_upto_region 14 with fail
  have hs5 : St b0 w (put7 W4 b0 v) (some ⟨g, o, none⟩) b cap ⟨none, 0, none, 0, none, 0, none, 0⟩ ⟨n0, signB v 15, 0, signB v 10, signB v 9, signB v 8, signB v 7, signB v 5, signB v 4, 0, [], [], [], []⟩ 4 0 := ((((((HS4.out.m1 (signB v 15)).m3 (signB v 10)).m4 (signB v 9)).m5 (signB v 8)).m6 (signB v 7)).m7 (signB v 5)).m8 (signB v 4)
  have hv5 : (put7 W4 b0 v).heap[V]? = _ := (put7_far (show V ≠ b0 by omega)).trans HVV.out
  change Code.wp _ _ _ _ (put7 W4 b0 v)
  obtain ⟨W5, hW5⟩ : ∃ W5, put7 W4 b0 v = W5 := ⟨_, rfl⟩
  rw [hW5] at hs5 hv5
  rw [hW5]
  have hcv : W5.cell? ⟨V, 0, none⟩ = some (.int .i64 (v : Int)) := by simp only [World.cell?, hv5]; rfl
  have HS5 := Lib.hid hs5
  have lV := lt_cell hcv
  clear hW5 hv5 hs5 c1 c3 c4 c5 c6 c7 c8 f1 f3 f4 f5 f6 f7 f8 HVV HS4 C15 C10 C9 C8 C7 C5 C4
  have c2 := HS5.out.msg.box.c2; have c9 := HS5.out.msg.box.c9
  have f2 := msg_frozen HS5.out.msg 2; have f9 := msg_frozen HS5.out.msg 9
  have hVne : V ≠ b0 := by omega
  have hv0 : (0 : Int) ≤ (v : Int) := by omega
  trace "14b"
  go_region
  have e1 : bits .and .i64 ((v : Int) / 2048) 15 = (v : Int) / 2048 % 16 := and_mask (n := 4) (by decide) (by omega) (by omega)
  have e2 : bits .and .i64 (v : Int) 15 = (v : Int) % 16 := and_mask (n := 4) (by decide) (by omega) (by omega)
  rw [e1, e2]
  have hs6 : St b0 w ((W5.setCell ⟨b0, 2, none⟩ (.int .i64 ((v : Int) / 2048 % 16))).setCell ⟨b0, 9, none⟩ (.int .i64 ((v : Int) % 16))).drew (some ⟨g, o, none⟩) b cap ⟨none, 0, none, 0, none, 0, none, 0⟩ ⟨n0, signB v 15, (v : Int) / 2048 % 16, signB v 10, signB v 9, signB v 8, signB v 7, signB v 5, signB v 4, (v : Int) % 16, [], [], [], []⟩ 4 0 := ((HS5.out.m2 ((v : Int) / 2048 % 16)).m9 ((v : Int) % 16)).drewN 1
  have hm6 : (⟨n0, signB v 15, (v : Int) / 2048 % 16, signB v 10, signB v 9, signB v 8, signB v 7, signB v 5, signB v 4, (v : Int) % 16, [], [], [], []⟩ : Mg) = headM b := by unfold headM; rw [HN0.out, HV.out]
  rw [hm6] at hs6
  obtain ⟨W6, hW6⟩ : ∃ W6, ((W5.setCell ⟨b0, 2, none⟩ (.int .i64 ((v : Int) / 2048 % 16))).setCell ⟨b0, 9, none⟩ (.int .i64 ((v : Int) % 16))).drew = W6 := ⟨_, rfl⟩
  rw [hW6] at hs6 ⊢
  have CN := Lib.hid (num_st HI.out HB.out hs6 (by omega))
  obtain ⟨nq, hnq⟩ : ∃ nq, num2 b 4 = nq := ⟨_, rfl⟩
  rw [hnq] at CN
  have HNQ := Lib.hid hnq
  have hnqb : nq ≤ 65535 := by rw [← hnq]; exact crec.num2_le b 4
  clear hnq hs6 hW6 hm6 e1 e2 c2 c9 f2 f9 hcv HS5 HN0 HV hVne hv0 lV
  go_wp2_with fail
  refine CN.out.mono ?_
  rintro e w7 ⟨rfl, hs, _⟩
  have HS7 := Lib.hid hs
  clear hs CN
  trace "16"
  go_upto_region 17 with fail
  have hBK := (Below.refl w7.heap.size w7).alloc (Nat.le_refl _) (.cells #[.int .i64 0, .int .i64 0, .int .i64 0] 114)
  have HS8 := Lib.hid (HS7.out.below hBK)
  have hKK := heap_alloc_new w7 (.cells #[.int .i64 0, .int .i64 0, .int .i64 0] 114)
  obtain ⟨K, hK⟩ : ∃ K, w7.heap.size = K := ⟨_, rfl⟩
  obtain ⟨W8, hW8⟩ : ∃ W8, w7.alloc (.cells #[.int .i64 0, .int .i64 0, .int .i64 0] 114) = W8 := ⟨_, rfl⟩
  have hKb : b0 + 5 ≤ K := by have := blk_lt HS7.out.hg; omega
  rw [hW8] at HS8 hKK
  rw [hK] at hKK
  rw [hW8, hK]
  have HKK := Lib.hid hKK
  clear hBK hKK hK hW8 HS7
  trace "17"
  go_wp2_with fail
  go_loopg [70] 4 (fun gas iv wr => ∃ i : Nat, iv = .int .i64 (i : Int) ∧ i ≤ 3 ∧ i + gas = 4 ∧ Hid (St b0 w wr (some ⟨g, o, none⟩) b cap ⟨none, 0, none, 0, none, 0, none, 0⟩ (headM b) (6 + 2 * i) 0) ∧ Hid (wr.heap[K]? = some (.cells (cnts b i) 114 (0, 0))))
  case atStart => exact ⟨0, rfl, by omega, by omega, HS8, HKK⟩
  case round =>
    clear HS8 HKK
    obtain ⟨i, rfl, hi3, hig, HS, HK⟩ := hrel
    by_cases hlt : i < 3
    · have hiI : (i : Int) < 3 := by omega
      have hi0 : (0 : Int) ≤ (i : Int) := by omega
      have CN := Lib.hid (num_st HI.out HB.out HS.out (by omega))
      obtain ⟨x, hx⟩ : ∃ x, num2 b (6 + 2 * i) = x := ⟨_, rfl⟩
      rw [hx] at CN
      have HX := Lib.hid hx
      have HG := Lib.hid hig
      clear hx hig
      go_wp2_with fail
      refine CN.out.mono ?_
      rintro e w9 ⟨rfl, hs, he⟩
      have hk9 := (he.kept K (blk_lt HK.out) (by omega)).trans HK.out
      obtain ⟨y, hy⟩ := cnts_at hk9 hlt
      have hz := cnts_z (j := i) hk9
      have HS9 := Lib.hid hs
      have HK9 := Lib.hid hk9
      clear hs he hk9 CN HS HK
      trace "20"
      go_upto_region 21 with fail
      have hk10 := cnts_set HK9.out hlt
      rw [HX.out] at hk10
      have HS10 := Lib.hid (HS9.out.far (i := i) (v := .int .i64 (x : Int)) HK9.out (by decide) (by decide) hKb)
      obtain ⟨W10, hW10⟩ : ∃ W10, w9.setCell ⟨K, i, none⟩ (.int .i64 (x : Int)) = W10 := ⟨_, rfl⟩
      rw [hW10] at hk10 HS10 ⊢
      have HK10 := Lib.hid hk10
      clear hk10 hW10 hy hz HS9 HK9
      go_wp2_with fail
      have hig := HG.out
      go_roundg (gk - 1)
      case rel => exact ⟨i + 1, by go_num, by omega, by omega, by have h := HS10.out; rw [show 6 + 2 * i + 2 = 6 + 2 * (i + 1) by omega] at h; exact Lib.hid h, HK10⟩
      case measure => omega
    · have hin : i = 3 := by omega
      subst hin
      clear hi3 hig hlt
      have HS3 : Hid (St b0 w wr (some ⟨g, o, none⟩) b cap ⟨none, 0, none, 0, none, 0, none, 0⟩ (headM b) 12 0) := HS
      clear HS
      trace "22"
      go_upto_region 22 with fail
      have HQ0 : Hid (quU b (headM b) (nq - 0) 12 = R) := Lib.hid (by rw [Nat.sub_zero, ← HNQ.out]; exact HR.out)
      have HNS : Hid (NoS (headM b)) := Lib.hid ⟨rfl, rfl, rfl⟩
      have HQL0 : Hid ((headM b).qs.length = 0) := Lib.hid rfl
      clear HNQ
      go_wp2_with fail
      go_loopg [78] (nq + 1) (fun gas iv wr => ∃ (i k g' : Nat) (pl : Pl) (m : Mg), iv = .int .i64 (i : Int) ∧ i ≤ nq ∧ i + gas = nq + 1 ∧ Hid (m.qs.length = i) ∧ Hid (St b0 w wr (some ⟨g, o, none⟩) b cap pl m k g') ∧ Hid (wr.heap[K]? = some (.cells (cnts b 3) 114 (0, 0))) ∧ Hid (quU b m (nq - i) k = R) ∧ Hid (k ≤ b.length) ∧ Hid (NoS m))
      case atStart => exact ⟨0, 12, 0, _, headM b, rfl, by omega, by omega, HQL0, HS3, HK, HQ0, HB12, HNS⟩
      case round =>
        clear HS3 HK HQ0 HNS HQL0
        obtain ⟨i, k, g', pl, m, rfl, hin, hig, HQL, HS, HK, HQ, HKL, HNS⟩ := hrel
        by_cases hlt : i < nq
        · have hiI : (i : Int) < (nq : Int) := by omega
          have hgi := HS.out.hg
          have cC : wr.cell? ⟨b0 + 3, 1, none⟩ = some (.int .i64 (k : Int)) := by simp only [World.cell?, HS.out.hc]; rfl
          have cG : wr.cell? ⟨b0 + 4, 0, none⟩ = some (.int .i64 (g' : Int)) := by simp only [World.cell?, HS.out.hg]; rfl
          have zG : wr.frozen? ⟨b0 + 4, 0, none⟩ = false := by simp only [World.frozen?, HS.out.hg]; simp
          have hs1 := HS.out.begun k
          have hk1 := (far_one (b := b0 + 4) (j := 0) (v := .int .i64 (k : Int)) (show K ≠ b0 + 4 by omega)).trans HK.out
          have HGG := Lib.hid hig
          clear hgi hig
          trace "24"
          go_upto_region 25 with fail
          obtain ⟨w1, hw1⟩ : ∃ w1, wr.setCell ⟨b0 + 4, 0, none⟩ (.int .i64 (k : Int)) = w1 := ⟨_, rfl⟩
          have hw1' : wr.setCell ⟨b0 + 3 + 1, 0, none⟩ (.int .i64 (k : Int)) = w1 := hw1
          rw [hw1] at hs1 hk1
          rw [hw1']
          have HS1 := Lib.hid hs1
          have HK1 := Lib.hid hk1
          clear hs1 hk1 hw1 hw1' cC cG zG HS HK
          have hstep : nq - i = (nq - (i + 1)) + 1 := by omega
          have HQ1 := HQ.out
          rw [hstep] at HQ1
          have HQ2 := Lib.hid HQ1
          clear HQ HQ1 hstep
          cases hn : nameAt b k b.length 10 with
          | bad x =>
            have hqb : quesU b k = .bad x := by unfold quesU; rw [hn]
            have HRR := Lib.hid ((quU_bad (m := m) (n := nq - (i + 1)) hqb).symm.trans HQ2.out)
            have CN := Lib.hid (name_bad HI.out HB.out HS1.out HKL.out hn)
            rw [HL.out] at CN
            clear hn hqb HQ2
            go_wp2_with fail
            refine CN.out.mono ?_
            rintro e w2 ⟨rfl, he⟩
            unfold stopE
            go_wp2_with fail
            exact door_no HS1.out he HRR.out.symm _ rfl rfl rfl
          | ok s j =>
            have hjb := (cdata.nameAt_len (Nat.le_refl _) hn).2
            have CN := Lib.hid (name_ok HI.out HB.out HS1.out HKL.out hn)
            rw [HL.out] at CN
            have HN := Lib.hid hn
            have HJB := Lib.hid hjb
            obtain ⟨SS, hSS⟩ : ∃ SS, mkB s = SS := ⟨_, rfl⟩
            rw [hSS] at CN
            have HSS := Lib.hid hSS
            clear hn hjb hSS
            trace "25"
            go_wp2_with fail
            refine CN.out.mono ?_
            rintro e w2 ⟨rfl, hs, he⟩
            have HS2 := Lib.hid hs
            have HK2 := Lib.hid ((he.kept K (blk_lt HK1.out) (by omega)).trans HK1.out)
            clear hs he CN HS1 HK1
            go_upto_region 26 with fail
            have hBq := (Below.refl w2.heap.size w2).alloc (Nat.le_refl _) (.cells #[.string SS, .int .i64 0, .int .i64 0] 50)
            have hq3 := HS2.out.qfresh
            have hs3 := HS2.out.below hBq
            have hk3 := (hBq.block K (blk_lt HK2.out)).trans HK2.out
            have hbq3 := heap_alloc_new w2 (.cells #[.string SS, .int .i64 0, .int .i64 0] 50)
            obtain ⟨B, hB⟩ : ∃ B, w2.heap.size = B := ⟨_, rfl⟩
            obtain ⟨w3, hw3⟩ : ∃ w3, w2.alloc (.cells #[.string SS, .int .i64 0, .int .i64 0] 50) = w3 := ⟨_, rfl⟩
            have hKB : K ≠ B := by have := blk_lt HK2.out; omega
            have hBb : b0 + 5 ≤ B := by have := blk_lt HS2.out.hg; omega
            rw [hw3] at hs3 hk3 hbq3
            rw [hB] at hbq3 hq3
            rw [hw3, hB]
            have HS3 := Lib.hid hs3; have HK3 := Lib.hid hk3; have HQF := Lib.hid hq3; have HBQ := Lib.hid hbq3
            clear hBq hq3 hs3 hk3 hbq3 hB hw3 HS2 HK2
            have hjl := HJB.out
            by_cases hj4 : b.length < j + 4
            · have hqb : quesU b k = .bad 10 := by unfold quesU; rw [HN.out]; simp only; rw [if_pos hj4]
              have HRR := Lib.hid ((quU_bad (m := m) (n := nq - (i + 1)) hqb).symm.trans HQ2.out)
              clear hqb HQ2
              by_cases hj2 : b.length < j + 2
              · have CN := Lib.hid (num_bad HI.out HB.out HS3.out hjl hj2)
                clear hj2 hj4
                go_wp2_with fail
                refine CN.out.mono ?_
                rintro e w4 ⟨rfl, he⟩
                unfold stopE
                go_wp2_with fail
                exact door_no HS3.out he HRR.out.symm _ rfl rfl rfl
              · have CN := Lib.hid (num_st HI.out HB.out HS3.out (by omega))
                obtain ⟨t, ht⟩ : ∃ t, num2 b j = t := ⟨_, rfl⟩
                rw [ht] at CN
                clear ht
                go_wp2_with fail
                refine CN.out.mono ?_
                rintro e w4 ⟨rfl, hs, he⟩
                have HS4 := Lib.hid hs
                have CN2 := Lib.hid (num_bad HI.out HB.out hs (by omega) (by omega))
                clear hs he CN hj2 hj4
                go_wp2_with fail
                refine CN2.out.mono ?_
                rintro e w5 ⟨rfl, he⟩
                unfold stopE
                go_wp2_with fail
                exact door_no HS4.out he HRR.out.symm _ rfl rfl rfl
            · have hqo : quesU b k = .ok ⟨SS, num2 b j, num2 b (j + 2)⟩ (j + 4) := by unfold quesU; rw [HN.out]; simp only; rw [if_neg hj4, HSS.out]
              have HRR := Lib.hid ((quU_ok (m := m) (n := nq - (i + 1)) hqo).symm.trans HQ2.out)
              have CN := Lib.hid (num_st HI.out HB.out HS3.out (by omega))
              obtain ⟨t, ht⟩ : ∃ t, num2 b j = t := ⟨_, rfl⟩
              obtain ⟨c, hc⟩ : ∃ c, num2 b (j + 2) = c := ⟨_, rfl⟩
              have HC := Lib.hid hc
              rw [ht] at CN
              rw [ht, hc] at HRR
              clear ht hc hqo HQ2 HSS HN
              trace "26"
              go_wp2_with fail
              refine CN.out.mono ?_
              rintro e w4 ⟨rfl, hs, he⟩
              have HS4 := Lib.hid hs
              have hk4 := (he.kept K (blk_lt HK3.out) (by omega)).trans HK3.out
              have hb4 := (he.kept B (blk_lt HBQ.out) (by omega)).trans HBQ.out
              have CN2 := Lib.hid (num_st HI.out HB.out hs (by omega))
              rw [HC.out] at CN2
              have HK4 := Lib.hid hk4; have HB4 := Lib.hid hb4
              clear hs he CN hk4 hb4 HS3 HK3 HBQ
              go_wp2_with fail
              refine CN2.out.mono ?_
              rintro e w5 ⟨rfl, hs, he⟩
              have HS5 := Lib.hid hs
              have hk5 := (he.kept K (blk_lt HK4.out) (by omega)).trans HK4.out
              have hb5 := (he.kept B (blk_lt HB4.out) (by omega)).trans HB4.out
              have HK5 := Lib.hid hk5; have HB5 := Lib.hid hb5
              clear hs he CN2 hk5 hb5 HS4 HK4 HB4
              have q1 : w5.cell? ⟨B, 1, none⟩ = some (.int .i64 0) := by simp only [World.cell?, HB5.out]; rfl
              have q2 : w5.cell? ⟨B, 2, none⟩ = some (.int .i64 0) := by simp only [World.cell?, HB5.out]; rfl
              have zq : ∀ j, w5.frozen? ⟨B, j, none⟩ = false := fun j => by simp only [World.frozen?, HB5.out]; simp
              have z1 := zq 1; have z2 := zq 2
              clear zq
              trace "26b"
              go_upto_region 27 with fail
              have hb6 := heap_setCell_same _ B 2 _ _ (.int .i64 (c : Int)) (heap_setCell_same _ B 1 _ _ (.int .i64 (t : Int)) HB5.out)
              have hs6 := (HS5.out.qset (i := 1) (v := .int .i64 (t : Int)) HB5.out HQF.out hBb).qset (i := 2) (v := .int .i64 (c : Int)) (heap_setCell_same _ B 1 _ _ (.int .i64 (t : Int)) HB5.out) HQF.out hBb
              have hk6 := (far_one (b := B) (j := 2) (v := .int .i64 (c : Int)) hKB).trans ((far_one (b := B) (j := 1) (v := .int .i64 (t : Int)) hKB).trans HK5.out)
              obtain ⟨w6, hw6⟩ : ∃ w6, (w5.setCell ⟨B, 1, none⟩ (.int .i64 (t : Int))).setCell ⟨B, 2, none⟩ (.int .i64 (c : Int)) = w6 := ⟨_, rfl⟩
              rw [hw6] at hb6 hs6 hk6 ⊢
              have HS6 := Lib.hid hs6; have HK6 := Lib.hid hk6
              have r0 : w6.cell? ⟨B, 0, none⟩ = some (.string SS) := by simp only [World.cell?, hb6]; rfl
              have r1 : w6.cell? ⟨B, 1, none⟩ = some (.int .i64 (t : Int)) := by simp only [World.cell?, hb6]; rfl
              have r2 : w6.cell? ⟨B, 2, none⟩ = some (.int .i64 (c : Int)) := by simp only [World.cell?, hb6]; rfl
              have c10 := hs6.msg.box.c10
              have hown := hs6.own.q
              have hql := HQL.out
              simp only [hql] at c10 hown
              have hs6b := hs6.below ((Below.refl w6.heap.size w6).alloc (Nat.le_refl _) (.cells #[.string SS, .int .i64 (t : Int), .int .i64 (c : Int)] 50))
              have HS6B := Lib.hid hs6b
              have hb0l : b0 ≤ w6.heap.size := by have := blk_lt hs6.hg; omega
              have hk6b := (heap_alloc_old w6 (.cells #[.string SS, .int .i64 (t : Int), .int .i64 (c : Int)] 50) (blk_lt hk6)).trans hk6
              have HK6B := Lib.hid hk6b
              have HOW := Lib.hid hown
              obtain ⟨i0, hif, hz0, hz1, hz2⟩ := info_parts infoQn
              clear hb6 hs6 hk6 hw6 hql hs6b hk6b HS5 HK5 HB5 HQF q1 q2 z1 z2 hown
              trace "27"
              go_wp2_with (at_builtin; refine wpList_append_lies _ rfl _ _ 34 rfl b0 50 i0 _ 3 32 Try.underlying34 hif hz0 hz1 hz2 rfl (by decide) (.slice pl.qa i pl.qc) i (m.qs.flatMap Qn.cells) rfl (HOW.out.alloc _) ⟨w6.heap.size, 0, none⟩ 1 1 (Qn.cells ⟨SS, t, c⟩) rfl rfl ?d1 ?d2 (by decide) ?d3 ?d4 ?d5 _ rfl ?_)
              case d1 => exact World.news_of_block (heap_alloc_new _ _)
              case d2 => exact qn_one _
              case d3 => unfold maxLen; omega
              case d4 => omega
              case d5 => simp; omega
              intro g3 cp w7 hown7 hgr hat hlt7
              have hg7 := grown_msg HS6B.out (HOW.out.alloc _) (.inl rfl) hgr
              have hb7 := hg7.1.box.c10
              simp only [HQL.out] at hb7
              have z10 := msg_frozen hg7.1 10
              have hk7 := (hgr.block K (blk_lt HK6B.out) (row_neG (HOW.out.alloc _) HK6B.out (fun c' f e => by injection e with _ e2 _; exact absurd e2 (by decide)))).trans HK6B.out
              have hs7 := St.pushQ (x := ⟨SS, t, c⟩) HS6B.out HQL.out hown7 hgr
              have hk8 := (far_one (b := b0) (j := 10) (v := .slice (some ⟨g3, 0, none⟩) (i + 1) cp) (show K ≠ b0 by omega)).trans hk7
              have HS8 := Lib.hid hs7; have HK8 := Lib.hid hk8
              clear hown7 hgr hat hg7 hk7 hs7 hk8 HS6 HK6 HS6B HK6B HOW c10 r0 r1 r2 hif hz0 hz1 hz2 hb0l
              trace "28"
              go_upto_region 28 with fail
              obtain ⟨w8, hw8⟩ : ∃ w8, w7.setCell ⟨b0, 10, none⟩ (.slice (some ⟨g3, 0, none⟩) (i + 1) cp) = w8 := ⟨_, rfl⟩
              rw [hw8] at HS8 HK8 ⊢
              have HJ4 := Lib.hid (show j + 4 ≤ b.length by omega)
              clear hw8 hb7 z10 hlt7 hj4 hjl
              go_wp2_with fail
              have hig := HGG.out
              have hql := HQL.out
              go_roundg (gk - 1)
              case rel => exact ⟨i + 1, j + 2 + 2, k, _, _, by go_num, by omega, by omega, Lib.hid (by show (m.qs ++ [_]).length = i + 1; rw [List.length_append, hql]; rfl), HS8, HK8, HRR, HJ4, HNS⟩
              case measure => omega
        · have hin2 : i = nq := by omega
          subst hin2
          have hQ := HQ.out
          rw [Nat.sub_self, quU_end] at hQ
          have HQ2 := Lib.hid hQ
          clear hQ HQ hig hin hlt HQL
          trace "29"
          go_upto_region 29 with fail
          have HNF : Hid (NoF m 0) := Lib.hid (by
            intro j _ hj3
            match j, hj3 with
            | 0, _ => exact HNS.out.1
            | 1, _ => exact HNS.out.2.1
            | 2, _ => exact HNS.out.2.2)
          have HO0 : Hid (outU b (3 - 0) 0 m k = R) := HQ2
          clear HNS HQ2
          go_wp2_with fail
          trace "30"
          go_loopg [101] 4 (fun gas iv wr => ∃ (s k g' : Nat) (pl : Pl) (m : Mg), iv = .int .i64 (s : Int) ∧ s ≤ 3 ∧ s + gas = 4 ∧ Hid (St b0 w wr (some ⟨g, o, none⟩) b cap pl m k g') ∧ Hid (wr.heap[K]? = some (.cells (cnts b 3) 114 (0, 0))) ∧ Hid (outU b (3 - s) s m k = R) ∧ Hid (k ≤ b.length) ∧ Hid (NoF m s))
          case atStart => exact ⟨0, k, g', pl, m, rfl, by omega, by omega, HS, HK, HO0, HKL, HNF⟩
          case round =>
            clear HS HK HO0 HKL HNF
            obtain ⟨s, k, g', pl, m, rfl, hs3, hsg, HS, HK, HO, HKL, HNF⟩ := hrel
            by_cases hslt : s < 3
            · have hsI : (s : Int) < 3 := by omega
              have hs0 : (0 : Int) ≤ (s : Int) := by omega
              have hix := idxP b0 s hslt
              have hcn := cnts_end HK.out hslt
              obtain ⟨n, hn⟩ : ∃ n, num2 b (6 + 2 * s) = n := ⟨_, rfl⟩
              rw [hn] at hcn
              have hnb : n ≤ 65535 := by rw [← hn]; exact crec.num2_le b _
              have HO2 : Hid (inU b (2 - s) s m (n - 0) k = R) := Lib.hid (by
                have h := HO.out
                rw [show 3 - s = (2 - s) + 1 by omega, ← inU_start b (2 - s) s m k (HNF.out s (Nat.le_refl _) hslt), hn] at h
                exact h)
              have HL0 : Hid ((secL m s).length = 0) := Lib.hid (by rw [HNF.out s (Nat.le_refl _) hslt]; rfl)
              have HNF1 : Hid (NoF m (s + 1)) := Lib.hid (fun j h1 h2 => HNF.out j (by omega) h2)
              have HSG := Lib.hid hsg
              clear hn HO HNF hsg
              have HHS := Lib.hid hslt
              go_upto_region 33 with fail
              go_wp2_with fail
              obtain ⟨gk', hgk'⟩ : ∃ g, g = gk := ⟨_, rfl⟩
              rw [← hgk'] at HSG
              go_loopg [108] (n + 1) (fun gas iv wr => ∃ (i k g' : Nat) (pl : Pl) (m : Mg), iv = .int .i64 (i : Int) ∧ i ≤ n ∧ i + gas = n + 1 ∧ Hid ((secL m s).length = i) ∧ Hid (St b0 w wr (some ⟨g, o, none⟩) b cap pl m k g') ∧ Hid (wr.heap[K]? = some (.cells (cnts b 3) 114 (0, 0))) ∧ Hid (inU b (2 - s) s m (n - i) k = R) ∧ Hid (k ≤ b.length) ∧ Hid (NoF m (s + 1)))
              case atStart => exact ⟨0, k, g', pl, m, rfl, by omega, by omega, HL0, HS, HK, HO2, HKL, HNF1⟩
              case round =>
                clear HS HK HO2 HKL HNF1 HL0 hcn hix
                obtain ⟨i, k, g', pl, m, rfl, hin4, hig4, HML, HS, HK, HO, HKL, HNF⟩ := hrel
                by_cases hlt4 : i < n
                · have hiI : (i : Int) < (n : Int) := by omega
                  have cC : wr.cell? ⟨b0 + 3, 1, none⟩ = some (.int .i64 (k : Int)) := by simp only [World.cell?, HS.out.hc]; rfl
                  have cG : wr.cell? ⟨b0 + 4, 0, none⟩ = some (.int .i64 (g' : Int)) := by simp only [World.cell?, HS.out.hg]; rfl
                  have zG : wr.frozen? ⟨b0 + 4, 0, none⟩ = false := by simp only [World.frozen?, HS.out.hg]; simp
                  have hs1 := HS.out.begun k
                  have hk1 := (far_one (b := b0 + 4) (j := 0) (v := .int .i64 (k : Int)) (show K ≠ b0 + 4 by omega)).trans HK.out
                  have HGG := Lib.hid hig4
                  clear hig4
                  trace "34"
                  go_upto_region 35 with fail
                  obtain ⟨w1, hw1⟩ : ∃ w1, wr.setCell ⟨b0 + 4, 0, none⟩ (.int .i64 (k : Int)) = w1 := ⟨_, rfl⟩
                  have hw1' : wr.setCell ⟨b0 + 3 + 1, 0, none⟩ (.int .i64 (k : Int)) = w1 := hw1
                  rw [hw1] at hs1 hk1
                  rw [hw1']
                  have HS1 := Lib.hid hs1
                  have HK1 := Lib.hid hk1
                  clear hs1 hk1 hw1 hw1' cC cG zG HS HK
                  have hstep : n - i = (n - (i + 1)) + 1 := by omega
                  have HO1 := HO.out
                  rw [hstep] at HO1
                  have HO2 := Lib.hid HO1
                  clear HO HO1 hstep
                  have hSd : w1.drew.cell? ⟨b0, 11 + s, none⟩ = some (.slice (secA pl s) i (secC pl s)) := by
                    have h := HS1.out.secCell HHS.out
                    rw [HML.out] at h; exact h
                  cases hn : recU b k with
                  | bad x =>
                    have HRR := Lib.hid ((inU_bad (f := 2 - s) (s := s) (m := m) (n := n - (i + 1)) hn).symm.trans HO2.out)
                    have CN := Lib.hid (rec_bad HI.out HB.out (Nat.lt_of_lt_of_le (by decide) HB12.out) (HS1.out.drewN 1) HKL.out hn)
                    clear hn HO2
                    trace "35"
                    refine wp_region_held_drew (S := fun w' => w'.cell? ⟨b0, 11 + s, none⟩ = some (.slice (secA pl s) i (secC pl s))) (by kernel_rfl) hSd (fun hHeld => ?_)
                    refine wpAnyH_take (i := 0) (v := .pointer (some ⟨b0, 11 + s, none⟩)) rfl (by kernel_rfl) (by kernel_rfl) (by kernel_rfl) (fun c a w h => hang 112 (by decide) _ h) (Or.inl ⟨by rfl, ?_⟩) (by assumption) ?_
                    · intro w hSw; (try dsimp only at hSw); go_simp
                    try simp only [Act.put, List.setIfInBounds_toArray]
                    refine wpAnyH_take (i := 1) (v := .pointer (some ⟨b0, 11 + s, none⟩)) rfl (by kernel_rfl) (by kernel_rfl) (by kernel_rfl) (fun c a w h => hang 113 (by decide) _ h) (Or.inl ⟨by rfl, ?_⟩) (by assumption) ?_
                    · intro w hSw; (try dsimp only at hSw); go_simp
                    try simp only [Act.put]
                    refine wpAnyH_take (i := 2) (v := .pointer (some ⟨b0, 11 + s, none⟩)) rfl (by kernel_rfl) (by kernel_rfl) (by kernel_rfl) (fun c a w h => hang 114 (by decide) _ h) (Or.inl ⟨by rfl, ?_⟩) (by assumption) ?_
                    · intro w hSw; (try dsimp only at hSw); go_simp
                    try simp only [Act.put]
                    refine wpAnyH_take (i := 3) (v := .slice (secA pl s) i (secC pl s)) rfl (by kernel_rfl) (by kernel_rfl) (by kernel_rfl) (fun c a w h => hang 115 (by decide) _ h) (Or.inl ⟨by rfl, ?_⟩) (by assumption) ?_
                    · intro w hSw; (try dsimp only at hSw); go_simp
                    try simp only [Act.put]
                    refine wpAnyH_ready (rs := [4]) (by kernel_rfl) (by simp) ?_
                    refine AllReadyH.cons rfl (fun K hK => ?_) AllReadyH.nil
                    trace "call"
                    go_simp
                    refine CN.out.mono ?_
                    rintro e w2 ⟨rfl, he⟩
                    unfold stopE
                    exact door_no (HS1.out.drewN 1) he HRR.out.symm _ rfl rfl rfl
                  | ok x j =>
                    have HJL := Lib.hid (recU_len hn)
                    have HRR := Lib.hid ((inU_ok (f := 2 - s) (s := s) (m := m) (n := n - (i + 1)) hn).symm.trans HO2.out)
                    have HNF2 := Lib.hid (nof_upd (secL m s ++ [x]) HNF.out)
                    have CN : Hid (Calls Try.prog 65 #[.pointer (some ⟨b0 + 3, 0, none⟩)] w1.drew fun e w' => e = .returned (.agg #[.string x.o, .int .i64 x.t, .int .i64 x.c, .int .i64 x.l, .string x.d]) ∧ St b0 w w' (some ⟨g, o, none⟩) b cap pl m j k ∧ EffC (b0 + 3) w1.drew w') := Lib.hid (rec_ok HI.out HB.out (Nat.lt_of_lt_of_le (by decide) HB12.out) (HS1.out.drewN 1) HKL.out hn)
                    obtain ⟨i0, hif, hz0, hz1, hz2⟩ := info_parts infoRec
                    clear HO2
                    refine wp_region_noPanic ?_
                    refine wp_region_any (by kernel_rfl) ?_
                    change wpAny _ _ _ _ _ _ _ (World.drew _)
                    refine wpAny_take (i := 0) (v := .pointer (some ⟨b0, 11 + s, none⟩)) rfl (by kernel_rfl) (by kernel_rfl) (by kernel_rfl) (fun _ _ _ h => h) (Or.inl ⟨by rfl, ?_⟩) ?_
                    · intro w; go_simp
                    try simp only [Act.put, List.setIfInBounds_toArray]
                    refine wpAny_take (i := 1) (v := .pointer (some ⟨b0, 11 + s, none⟩)) rfl (by kernel_rfl) (by kernel_rfl) (by kernel_rfl) (fun _ _ _ h => h) (Or.inl ⟨by rfl, ?_⟩) ?_
                    · intro w; go_simp
                    try simp only [Act.put]
                    refine wpAny_take (i := 2) (v := .pointer (some ⟨b0, 11 + s, none⟩)) rfl (by kernel_rfl) (by kernel_rfl) (by kernel_rfl) (fun _ _ _ h => h) (Or.inl ⟨by rfl, ?_⟩) ?_
                    · intro w; go_simp
                    try simp only [Act.put]
                    refine wpAny_ready (rs := [3, 4]) (by kernel_rfl) (by simp) ?_
                    refine AllReady.cons rfl (fun KK hKK => ?_) (AllReady.cons rfl (fun KK hKK => ?_) AllReady.nil)
                    · go_simp
                      refine hKK _ _ ?_; clear hKK KK
                      try simp only [Act.put, List.setIfInBounds_toArray, List.set_cons_zero, List.set_cons_succ]
                      refine wpAny_ready (rs := [4]) (by kernel_rfl) (by simp) ?_
                      refine AllReady.cons rfl (fun KK hKK => ?_) AllReady.nil
                      go_simp
                      refine CN.out.mono ?_
                      rintro e w2 ⟨rfl, hs2, he2⟩
                      dsimp only
                      refine hKK _ _ ?_; clear hKK KK
                      try simp only [Act.put, List.setIfInBounds_toArray, List.set_cons_zero, List.set_cons_succ]
                      have hS2 : w2.cell? ⟨b0, 11 + s, none⟩ = some (.slice (secA pl s) i (secC pl s)) := by
                        have h := hs2.secCell HHS.out
                        rw [HML.out] at h; exact h
                      have hk2 := (he2.kept K (blk_lt HK1.out) (by omega)).trans HK1.out
                      have hown2 := hs2.sec HHS.out
                      rw [HML.out] at hown2
                      refine wpAny_ready (rs := [5]) (by kernel_rfl) (by simp) ?_
                      refine AllReady.cons rfl (fun KK hKK => ?_) AllReady.nil
                      go_simp
                      refine hKK _ _ ?_; clear hKK KK
                      try simp only [Act.put, List.setIfInBounds_toArray, List.set_cons_zero, List.set_cons_succ]
                      have hs2b := hs2.below ((Below.refl w2.heap.size w2).alloc (Nat.le_refl _) (.cells #[.string x.o, .int .i64 x.t, .int .i64 x.c, .int .i64 x.l, .string x.d] 52))
                      have hk2b := (heap_alloc_old w2 (.cells #[.string x.o, .int .i64 x.t, .int .i64 x.c, .int .i64 x.l, .string x.d] 52) (blk_lt hk2)).trans hk2
                      have hS2b := (heap_cell (w := w2) (o := .cells #[.string x.o, .int .i64 x.t, .int .i64 x.c, .int .i64 x.l, .string x.d] 52) hS2)
                      have hnw := heap_alloc_new w2 (.cells #[.string x.o, .int .i64 x.t, .int .i64 x.c, .int .i64 x.l, .string x.d] 52)
                      have hown2b := hown2.alloc (.cells #[.string x.o, .int .i64 x.t, .int .i64 x.c, .int .i64 x.l, .string x.d] 52)
                      obtain ⟨B, hB⟩ : ∃ B, w2.heap.size = B := ⟨_, rfl⟩
                      obtain ⟨W2, hW2⟩ : ∃ W2, w2.alloc (.cells #[.string x.o, .int .i64 x.t, .int .i64 x.c, .int .i64 x.l, .string x.d] 52) = W2 := ⟨_, rfl⟩
                      rw [hW2] at hs2b hk2b hS2b hnw hown2b
                      rw [hW2, hB]
                      rw [hB] at hnw
                      have hb0W : b0 ≤ W2.heap.size := by have := blk_lt hs2b.hg; omega
                      refine wpAny_ready (rs := [6]) (by kernel_rfl) (by simp) ?_
                      refine AllReady.cons rfl (fun KK hKK => ?_) AllReady.nil
                      refine (step_append_lies _ (by rfl) (.tmp 115) (.tmp 117) 35 (by rfl) b0 52 i0 _ 5 56 Try.underlying35 hif hz0 hz1 hz2 (by rfl) (by decide) (.slice (secA pl s) i (secC pl s)) i ((secL m s).flatMap Rc.cells) (by simp [Act.eval]) hown2b ⟨B, 0, none⟩ 1 1 x.cells (by simp [Act.eval]) (by rfl) (World.news_of_block hnw) (rec_one _) (by decide) (by unfold maxLen; omega) (by omega) hb0W W2.heap.size rfl ?_)
                      intro g3 cp w3 hown3 hgr hat hlt3
                      refine hKK _ _ ?_; clear hKK KK
                      try simp only [Act.put, List.setIfInBounds_toArray]
                      have hg3 := grown_msg hs2b hown2b (.inr rfl) hgr
                      have hS3 := msg_sec hg3.1 HHS.out
                      rw [HML.out] at hS3
                      have z3 := msg_frozen hg3.1 (11 + s)
                      have hk3 := (hgr.block K (blk_lt hk2b) (row_neG hown2b hk2b (fun c' f e => by injection e with _ e2 _; exact absurd e2 (by decide)))).trans hk2b
                      have hs3 := St.push (x := x) HHS.out hs2b HML.out hown3 hgr hat
                      have hk4 := (far_one (b := b0) (j := 11 + s) (v := .slice (some ⟨g3, 0, none⟩) (i + 1) cp) (show K ≠ b0 by omega)).trans hk3
                      refine wpAny_ready (rs := [7]) (by kernel_rfl) (by simp) ?_
                      refine AllReady.cons rfl (fun KK hKK => ?_) AllReady.nil
                      go_simp
                      refine hKK _ _ ?_; clear hKK KK
                      try simp only [Act.put, List.setIfInBounds_toArray, List.set_cons_zero, List.set_cons_succ]
                      refine wpAny_ready (rs := [8]) (by kernel_rfl) (by simp) ?_
                      refine AllReady.cons rfl (fun KK hKK => ?_) AllReady.nil
                      go_simp
                      refine hKK _ _ ?_; clear hKK KK
                      try simp only [Act.put, List.setIfInBounds_toArray, List.set_cons_zero, List.set_cons_succ]
                      refine wpAny_done (by kernel_rfl) ?_ _
                      refine NoPanic.normal ?_
                      have HS3 := Lib.hid hs3; have HK4 := Lib.hid hk4
                      obtain ⟨w4, hw4⟩ : ∃ w4, w3.setCell ⟨b0, 11 + s, none⟩ (.slice (some ⟨g3, 0, none⟩) (i + 1) cp) = w4 := ⟨_, rfl⟩
                      rw [hw4] at HS3 HK4 ⊢
                      clear hs2 he2 hS2 hk2 hown2 hs2b hk2b hS2b hnw hown2b hB hW2 hb0W hown3 hgr hat hlt3 hg3 hS3 z3 hk3 hs3 hk4 hw4 CN hSd hif hz0 hz1 hz2 HS1 HK1
                      go_wp2_with fail
                      have hig := HGG.out
                      go_roundg (gk - 1)
                      case rel => exact ⟨i + 1, j, k, _, _, by go_num, by omega, by omega, Lib.hid (by rw [secL_upd, List.length_append, HML.out]; rfl), HS3, HK4, HRR, HJL, HNF2⟩
                      case measure => omega
                    · go_simp
                      refine CN.out.mono ?_
                      rintro e w2 ⟨rfl, hs2, he2⟩
                      dsimp only
                      refine hKK _ _ ?_; clear hKK KK
                      try simp only [Act.put, List.setIfInBounds_toArray, List.set_cons_zero, List.set_cons_succ]
                      have hS2 : w2.cell? ⟨b0, 11 + s, none⟩ = some (.slice (secA pl s) i (secC pl s)) := by
                        have h := hs2.secCell HHS.out
                        rw [HML.out] at h; exact h
                      have hk2 := (he2.kept K (blk_lt HK1.out) (by omega)).trans HK1.out
                      have hown2 := hs2.sec HHS.out
                      rw [HML.out] at hown2
                      refine wpAny_ready (rs := [3, 5]) (by kernel_rfl) (by simp) ?_
                      refine AllReady.cons rfl (fun KK hKK => ?_) (AllReady.cons rfl (fun KK hKK => ?_) AllReady.nil)
                      · go_simp
                        refine hKK _ _ ?_; clear hKK KK
                        try simp only [Act.put, List.setIfInBounds_toArray, List.set_cons_zero, List.set_cons_succ]
                        refine wpAny_ready (rs := [5]) (by kernel_rfl) (by simp) ?_
                        refine AllReady.cons rfl (fun KK hKK => ?_) AllReady.nil
                        go_simp
                        refine hKK _ _ ?_; clear hKK KK
                        try simp only [Act.put, List.setIfInBounds_toArray, List.set_cons_zero, List.set_cons_succ]
                        have hs2b := hs2.below ((Below.refl w2.heap.size w2).alloc (Nat.le_refl _) (.cells #[.string x.o, .int .i64 x.t, .int .i64 x.c, .int .i64 x.l, .string x.d] 52))
                        have hk2b := (heap_alloc_old w2 (.cells #[.string x.o, .int .i64 x.t, .int .i64 x.c, .int .i64 x.l, .string x.d] 52) (blk_lt hk2)).trans hk2
                        have hS2b := (heap_cell (w := w2) (o := .cells #[.string x.o, .int .i64 x.t, .int .i64 x.c, .int .i64 x.l, .string x.d] 52) hS2)
                        have hnw := heap_alloc_new w2 (.cells #[.string x.o, .int .i64 x.t, .int .i64 x.c, .int .i64 x.l, .string x.d] 52)
                        have hown2b := hown2.alloc (.cells #[.string x.o, .int .i64 x.t, .int .i64 x.c, .int .i64 x.l, .string x.d] 52)
                        obtain ⟨B, hB⟩ : ∃ B, w2.heap.size = B := ⟨_, rfl⟩
                        obtain ⟨W2, hW2⟩ : ∃ W2, w2.alloc (.cells #[.string x.o, .int .i64 x.t, .int .i64 x.c, .int .i64 x.l, .string x.d] 52) = W2 := ⟨_, rfl⟩
                        rw [hW2] at hs2b hk2b hS2b hnw hown2b
                        rw [hW2, hB]
                        rw [hB] at hnw
                        have hb0W : b0 ≤ W2.heap.size := by have := blk_lt hs2b.hg; omega
                        refine wpAny_ready (rs := [6]) (by kernel_rfl) (by simp) ?_
                        refine AllReady.cons rfl (fun KK hKK => ?_) AllReady.nil
                        refine (step_append_lies _ (by rfl) (.tmp 115) (.tmp 117) 35 (by rfl) b0 52 i0 _ 5 56 Try.underlying35 hif hz0 hz1 hz2 (by rfl) (by decide) (.slice (secA pl s) i (secC pl s)) i ((secL m s).flatMap Rc.cells) (by simp [Act.eval]) hown2b ⟨B, 0, none⟩ 1 1 x.cells (by simp [Act.eval]) (by rfl) (World.news_of_block hnw) (rec_one _) (by decide) (by unfold maxLen; omega) (by omega) hb0W W2.heap.size rfl ?_)
                        intro g3 cp w3 hown3 hgr hat hlt3
                        refine hKK _ _ ?_; clear hKK KK
                        try simp only [Act.put, List.setIfInBounds_toArray]
                        have hg3 := grown_msg hs2b hown2b (.inr rfl) hgr
                        have hS3 := msg_sec hg3.1 HHS.out
                        rw [HML.out] at hS3
                        have z3 := msg_frozen hg3.1 (11 + s)
                        have hk3 := (hgr.block K (blk_lt hk2b) (row_neG hown2b hk2b (fun c' f e => by injection e with _ e2 _; exact absurd e2 (by decide)))).trans hk2b
                        have hs3 := St.push (x := x) HHS.out hs2b HML.out hown3 hgr hat
                        have hk4 := (far_one (b := b0) (j := 11 + s) (v := .slice (some ⟨g3, 0, none⟩) (i + 1) cp) (show K ≠ b0 by omega)).trans hk3
                        refine wpAny_ready (rs := [7]) (by kernel_rfl) (by simp) ?_
                        refine AllReady.cons rfl (fun KK hKK => ?_) AllReady.nil
                        go_simp
                        refine hKK _ _ ?_; clear hKK KK
                        try simp only [Act.put, List.setIfInBounds_toArray, List.set_cons_zero, List.set_cons_succ]
                        refine wpAny_ready (rs := [8]) (by kernel_rfl) (by simp) ?_
                        refine AllReady.cons rfl (fun KK hKK => ?_) AllReady.nil
                        go_simp
                        refine hKK _ _ ?_; clear hKK KK
                        try simp only [Act.put, List.setIfInBounds_toArray, List.set_cons_zero, List.set_cons_succ]
                        refine wpAny_done (by kernel_rfl) ?_ _
                        refine NoPanic.normal ?_
                        have HS3 := Lib.hid hs3; have HK4 := Lib.hid hk4
                        obtain ⟨w4, hw4⟩ : ∃ w4, w3.setCell ⟨b0, 11 + s, none⟩ (.slice (some ⟨g3, 0, none⟩) (i + 1) cp) = w4 := ⟨_, rfl⟩
                        rw [hw4] at HS3 HK4 ⊢
                        clear hs2 he2 hS2 hk2 hown2 hs2b hk2b hS2b hnw hown2b hB hW2 hb0W hown3 hgr hat hlt3 hg3 hS3 z3 hk3 hs3 hk4 hw4 CN hSd hif hz0 hz1 hz2 HS1 HK1
                        go_wp2_with fail
                        have hig := HGG.out
                        go_roundg (gk - 1)
                        case rel => exact ⟨i + 1, j, k, _, _, by go_num, by omega, by omega, Lib.hid (by rw [secL_upd, List.length_append, HML.out]; rfl), HS3, HK4, HRR, HJL, HNF2⟩
                        case measure => omega
                      · go_simp
                        refine hKK _ _ ?_; clear hKK KK
                        try simp only [Act.put, List.setIfInBounds_toArray, List.set_cons_zero, List.set_cons_succ]
                        have hs2b := hs2.below ((Below.refl w2.heap.size w2).alloc (Nat.le_refl _) (.cells #[.string x.o, .int .i64 x.t, .int .i64 x.c, .int .i64 x.l, .string x.d] 52))
                        have hk2b := (heap_alloc_old w2 (.cells #[.string x.o, .int .i64 x.t, .int .i64 x.c, .int .i64 x.l, .string x.d] 52) (blk_lt hk2)).trans hk2
                        have hS2b := (heap_cell (w := w2) (o := .cells #[.string x.o, .int .i64 x.t, .int .i64 x.c, .int .i64 x.l, .string x.d] 52) hS2)
                        have hnw := heap_alloc_new w2 (.cells #[.string x.o, .int .i64 x.t, .int .i64 x.c, .int .i64 x.l, .string x.d] 52)
                        have hown2b := hown2.alloc (.cells #[.string x.o, .int .i64 x.t, .int .i64 x.c, .int .i64 x.l, .string x.d] 52)
                        obtain ⟨B, hB⟩ : ∃ B, w2.heap.size = B := ⟨_, rfl⟩
                        obtain ⟨W2, hW2⟩ : ∃ W2, w2.alloc (.cells #[.string x.o, .int .i64 x.t, .int .i64 x.c, .int .i64 x.l, .string x.d] 52) = W2 := ⟨_, rfl⟩
                        rw [hW2] at hs2b hk2b hS2b hnw hown2b
                        rw [hW2, hB]
                        rw [hB] at hnw
                        have hb0W : b0 ≤ W2.heap.size := by have := blk_lt hs2b.hg; omega
                        refine wpAny_ready (rs := [3]) (by kernel_rfl) (by simp) ?_
                        refine AllReady.cons rfl (fun KK hKK => ?_) AllReady.nil
                        go_simp
                        refine hKK _ _ ?_; clear hKK KK
                        try simp only [Act.put, List.setIfInBounds_toArray, List.set_cons_zero, List.set_cons_succ]
                        refine wpAny_ready (rs := [6]) (by kernel_rfl) (by simp) ?_
                        refine AllReady.cons rfl (fun KK hKK => ?_) AllReady.nil
                        refine (step_append_lies _ (by rfl) (.tmp 115) (.tmp 117) 35 (by rfl) b0 52 i0 _ 5 56 Try.underlying35 hif hz0 hz1 hz2 (by rfl) (by decide) (.slice (secA pl s) i (secC pl s)) i ((secL m s).flatMap Rc.cells) (by simp [Act.eval]) hown2b ⟨B, 0, none⟩ 1 1 x.cells (by simp [Act.eval]) (by rfl) (World.news_of_block hnw) (rec_one _) (by decide) (by unfold maxLen; omega) (by omega) hb0W W2.heap.size rfl ?_)
                        intro g3 cp w3 hown3 hgr hat hlt3
                        refine hKK _ _ ?_; clear hKK KK
                        try simp only [Act.put, List.setIfInBounds_toArray]
                        have hg3 := grown_msg hs2b hown2b (.inr rfl) hgr
                        have hS3 := msg_sec hg3.1 HHS.out
                        rw [HML.out] at hS3
                        have z3 := msg_frozen hg3.1 (11 + s)
                        have hk3 := (hgr.block K (blk_lt hk2b) (row_neG hown2b hk2b (fun c' f e => by injection e with _ e2 _; exact absurd e2 (by decide)))).trans hk2b
                        have hs3 := St.push (x := x) HHS.out hs2b HML.out hown3 hgr hat
                        have hk4 := (far_one (b := b0) (j := 11 + s) (v := .slice (some ⟨g3, 0, none⟩) (i + 1) cp) (show K ≠ b0 by omega)).trans hk3
                        refine wpAny_ready (rs := [7]) (by kernel_rfl) (by simp) ?_
                        refine AllReady.cons rfl (fun KK hKK => ?_) AllReady.nil
                        go_simp
                        refine hKK _ _ ?_; clear hKK KK
                        try simp only [Act.put, List.setIfInBounds_toArray, List.set_cons_zero, List.set_cons_succ]
                        refine wpAny_ready (rs := [8]) (by kernel_rfl) (by simp) ?_
                        refine AllReady.cons rfl (fun KK hKK => ?_) AllReady.nil
                        go_simp
                        refine hKK _ _ ?_; clear hKK KK
                        try simp only [Act.put, List.setIfInBounds_toArray, List.set_cons_zero, List.set_cons_succ]
                        refine wpAny_done (by kernel_rfl) ?_ _
                        refine NoPanic.normal ?_
                        have HS3 := Lib.hid hs3; have HK4 := Lib.hid hk4
                        obtain ⟨w4, hw4⟩ : ∃ w4, w3.setCell ⟨b0, 11 + s, none⟩ (.slice (some ⟨g3, 0, none⟩) (i + 1) cp) = w4 := ⟨_, rfl⟩
                        rw [hw4] at HS3 HK4 ⊢
                        clear hs2 he2 hS2 hk2 hown2 hs2b hk2b hS2b hnw hown2b hB hW2 hb0W hown3 hgr hat hlt3 hg3 hS3 z3 hk3 hs3 hk4 hw4 CN hSd hif hz0 hz1 hz2 HS1 HK1
                        go_wp2_with fail
                        have hig := HGG.out
                        go_roundg (gk - 1)
                        case rel => exact ⟨i + 1, j, k, _, _, by go_num, by omega, by omega, Lib.hid (by rw [secL_upd, List.length_append, HML.out]; rfl), HS3, HK4, HRR, HJL, HNF2⟩
                        case measure => omega
                · have hin5 : i = n := by omega
                  subst hin5
                  have hO := HO.out
                  rw [Nat.sub_self, inU_end, updM_self] at hO
                  have HOe : Hid (outU b (3 - (s + 1)) (s + 1) m k = R) := Lib.hid (by rw [show 3 - (s + 1) = 2 - s by omega]; exact hO)
                  clear hO HO HML hig4 hin4 hlt4
                  go_wp2_with fail
                  have hsg := HSG.out
                  trace "37"
                  go_roundg (gk' - 1)
                  case rel => exact ⟨s + 1, k, g', pl, m, by go_num, by omega, by omega, HS, HK, HOe, HKL, HNF⟩
                  case measure => omega
            · have hs3e : s = 3 := by omega
              subst hs3e
              have HO3 : Hid ((if k < b.length then (noM, k, 11) else (m, 0, 0)) = R) := HO
              have cC : wr.cell? ⟨b0 + 3, 1, none⟩ = some (.int .i64 (k : Int)) := by simp only [World.cell?, HS.out.hc]; rfl
              clear HO hslt hs3 hsg HNF
              by_cases hkl : k < L
              · have hklI : (k : Int) < (L : Int) := by omega
                have HR9 : Hid (R = (noM, k, 11)) := Lib.hid (by rw [← HO3.out, if_pos (by rw [HL.out]; exact hkl)])
                clear HO3
                trace "38"
                go_upto_region 39 with fail
                have bx := HS.out.msg.box
                have c0 := bx.c0; have c1 := bx.c1; have c2 := bx.c2; have c3 := bx.c3; have c4 := bx.c4; have c5 := bx.c5; have c6 := bx.c6; have c7 := bx.c7; have c8 := bx.c8; have c9 := bx.c9; have c10 := bx.c10; have c11 := bx.c11; have c12 := bx.c12; have c13 := bx.c13
                have hf := fun j => msg_frozen HS.out.msg j
                have f0 := hf 0; have f1 := hf 1; have f2 := hf 2; have f3 := hf 3; have f4 := hf 4; have f5 := hf 5; have f6 := hf 6; have f7 := hf 7; have f8 := hf 8; have f9 := hf 9; have f10 := hf 10; have f11 := hf 11; have f12 := hf 12; have f13 := hf 13
                have ca : wr.cell? ⟨b0 + 1, 0, none⟩ = some (.int .i64 0) := by simp only [World.cell?, HS.out.ha]; rfl
                have ce : wr.cell? ⟨b0 + 2, 0, none⟩ = some (.int .i64 0) := by simp only [World.cell?, HS.out.he]; rfl
                have za : wr.frozen? ⟨b0 + 1, 0, none⟩ = false := by simp only [World.frozen?, HS.out.ha]; simp
                have ze : wr.frozen? ⟨b0 + 2, 0, none⟩ = false := by simp only [World.frozen?, HS.out.he]; simp
                clear bx hf
                trace "39"
                go_wp2_with fail
                have hz := putM_blk ⟨none, 0, none, 0, none, 0, none, 0⟩ noM HS.out.msg (by rfl)
                have hza := (putM_far ⟨none, 0, none, 0, none, 0, none, 0⟩ noM (show b0 + 1 ≠ b0 by omega)).trans HS.out.ha
                have hze := (putM_far ⟨none, 0, none, 0, none, 0, none, 0⟩ noM (show b0 + 2 ≠ b0 by omega)).trans HS.out.he
                obtain ⟨k1, k2, k3, k4, k5⟩ := two_set (k := (k : Int)) (e := 11) hz hza hze (Own4.none _ _) (putM_below _ _ HS.out.bel (Nat.le_refl _))
                exact door_yes (k := k) k1 k2 k3 k4 k5 HR9.out _ rfl rfl rfl
              · have hklI : ¬ (k : Int) < (L : Int) := by omega
                have HR9 : Hid (R = (m, 0, 0)) := Lib.hid (by rw [← HO3.out, if_neg (by rw [HL.out]; exact hkl)])
                clear HO3
                trace "38b"
                go_upto_region 40 with fail
                have hM := HS.out.msg
                have ca : wr.cell? ⟨b0 + 1, 0, none⟩ = some (.int .i64 0) := by simp only [World.cell?, HS.out.ha]; rfl
                have ce : wr.cell? ⟨b0 + 2, 0, none⟩ = some (.int .i64 0) := by simp only [World.cell?, HS.out.he]; rfl
                have za : wr.frozen? ⟨b0 + 1, 0, none⟩ = false := by simp only [World.frozen?, HS.out.ha]; simp
                have ze : wr.frozen? ⟨b0 + 2, 0, none⟩ = false := by simp only [World.frozen?, HS.out.he]; simp
                trace "40"
                go_wp2_with (first | (refine wpList_load_row rfl 37 _ rfl b0 rfl 37 _ _ _ hM Try.underlying37 rfl (by rw [infoMsg]; rfl) ?_) | (refine wpList_store_self rfl 37 _ _ rfl b0 _ rfl rfl 37 hM (by rw [infoMsg]; rfl) (cells_all _ _) ?_))
                obtain ⟨k1, k2, k3, k4, k5⟩ := two_set (k := 0) (e := 0) HS.out.msg HS.out.ha HS.out.he HS.out.own HS.out.bel
                exact door_yes (k := 0) k1 k2 k3 k4 k5 HR9.out _ rfl rfl rfl
theorem unpack_any (a : Option Addr) (b : Bs) (cap : Nat) (w : World) (hi : In0 w.heap.size w a b cap) :
    Calls Try.prog 26 #[.slice a b.length cap] w (UnpE w.heap.size w (unpackS b)) := by
  by_cases h : 65535 < b.length
  · exact unpack_big a b cap w hi h
  by_cases h12 : b.length < 12
  · exact unpack_few a b cap w hi h12
  by_cases h3 : atB b 3 / 64 % 2 = 1
  · exact unpack_form a b cap w hi h h12 h3
  · exact unpack_main a b cap w hi h h12 h3
end Go.Proofs.Ytabhiangjomaeaa.unpackM
