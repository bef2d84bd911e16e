/- gazetteerref2.readRecord: walk. gazetteerref2.UnpackMessage's memory on the way. gazetteerref2.UnpackMessage: the early ends: walk. -/
import Derived.Test.YtabhiangjomaeaaU31
import Derived.Test.YtabhiangjomaeaaU17
import Derived.Test.YtabhiangjomaeaaU24
import Derived.Test.YtabhiangjomaeaaU26
import Derived.Test.YtabhiangjomaeaaU27
import Derived.Test.YtabhiangjomaeaaU6
import Derived.BigRegion
import Derived.Deep.RegionHeld3
import Derived.Deep.DeepCutAuto
import Derived.Laws.Tables
import Derived.Laws.CopyOwn
import Derived.Laws.CopyRow
namespace Go.Proofs.Ytabhiangjomaeaa.rrecd
open Go.RowKit Go.Proofs.Ytabhiangjomaeaa.kit Go.Proofs.Ytabhiangjomaeaa.nspec Go.Proofs.Ytabhiangjomaeaa.rsplit Go.Proofs.Ytabhiangjomaeaa.check Go.Proofs.Ytabhiangjomaeaa.fld Go.Proofs.Ytabhiangjomaeaa.wireP Go.Proofs.Ytabhiangjomaeaa.wireM Go.Proofs.Ytabhiangjomaeaa.packP Go.Proofs.Ytabhiangjomaeaa.unpP Go.Proofs.Ytabhiangjomaeaa.rows Go.Proofs.Ytabhiangjomaeaa.cur Go.Proofs.Ytabhiangjomaeaa.ust Go.Proofs.Ytabhiangjomaeaa.cname Go.Proofs.Ytabhiangjomaeaa.rread Go.Proofs.Ytabhiangjomaeaa.crec Go.Proofs.Ytabhiangjomaeaa.putM
set_option linter.unusedVariables false

def zR : Rc := ⟨⟨#[]⟩, 0, 0, 0, ⟨#[]⟩⟩
def put5 (w : World) (B : Nat) (x : Rc) : World := ((((w.setCell ⟨B, 0, none⟩ (.string x.o)).setCell ⟨B, 1, none⟩ (.int .i64 x.t)).setCell ⟨B, 2, none⟩ (.int .i64 x.c)).setCell ⟨B, 3, none⟩ (.int .i64 x.l)).setCell ⟨B, 4, none⟩ (.string x.d)
theorem put5_at {w : World} {B : Nat} {y : Rc} (x : Rc) (h : RcAt w B y) : RcAt (put5 w B x) B x := ((((h.s0 x.o).s1 x.t).s2 x.c).s3 x.l).s4 x.d
theorem put5_below {w w0 : World} {B b0 : Nat} (x : Rc) (h : Below b0 w0 w) (hb : b0 ≤ B) : Below b0 w0 (put5 w B x) := below_one (below_one (below_one (below_one (below_one h hb) hb) hb) hb) hb
def RecRE (r : Got Rc) (w : World) (e : Ending) (w' : World) : Prop := (match r with
  | .bad x => e = .returned (.tuple #[.agg zR.cells.toArray, .int .i64 0, .int .i64 x])
  | .ok x j => e = .returned (.tuple #[.agg x.cells.toArray, .int .i64 (j : Int), .int .i64 0])) ∧ Below w.heap.size w w'
theorem res_read {w : World} {B : Nat} {x : Rc} {j c : Value} (tmps : Array Value) (h4 : tmps[4]?.getD undef = .pointer (some ⟨B, 0, none⟩)) (h5 : tmps[5]?.getD undef = j) (h6 : tmps[6]?.getD undef = c) (hx : RcAt w B x) :
    (results Try.f68 tmps).run Try.prog w = .ok (.tuple #[.agg x.cells.toArray, j, c]) w := by
  have c0 := hx.c0; have c1 := hx.c1; have c2 := hx.c2; have c3 := hx.c3; have c4 := hx.c4
  simp [results, Try.results68, h4, h5, h6, asAddr, go_sem, c0, c1, c2, c3, c4, Rc.cells]
theorem fin {w w1 : World} {B : Nat} {x : Rc} {j c : Value} {R : Got Rc} (tmps : Array Value) (h4 : tmps[4]?.getD undef = .pointer (some ⟨B, 0, none⟩)) (h5 : tmps[5]?.getD undef = j) (h6 : tmps[6]?.getD undef = c) (hx : RcAt w1 B x) (hR : RecRE R w (.returned (.tuple #[.agg x.cells.toArray, j, c])) w1) :
    bodyPost Try.prog Try.f68 (RecRE R w) .ret { tmps := tmps, defers := [] } w1 :=
  bodyPost_ret (v := .tuple #[.agg x.cells.toArray, j, c]) (res_read tmps h4 h5 h6 hx) rfl hR
theorem via {P G : Prop} (h : (Unit → P) → G) (k : P) : G := h fun _ => k
theorem rc_below {w w1 : World} {B : Nat} {x : Rc} (h : RcAt w B x) (hB : Below w.heap.size w w1) : RcAt w1 B x := (hB.block B h.lt).trans h
theorem brief_small (t : Int) : ∀ (i p : Nat), (rrec.briefL t)[i]? = some p → p ≤ 20 := by
  intro i p h
  have hm := List.mem_of_getElem? h
  unfold rrec.briefL at hm
  split at hm
  · simp at hm; omega
  split at hm
  · simp at hm; omega
  split at hm
  · simp at hm; omega
  · simp at hm
theorem infoR : (Try.prog.info? 52).map (·.size) = some 5 := by kernel_rfl
theorem store_five {w : World} {B : Nat} {x y : Rc} (h : RcAt w B y) : Sem.run Try.prog (storeCells ⟨B, 0, none⟩ x.cells) w = .ok () (w.setRow B x.cells.toArray) := by
  have e := run_storeCells_at (P := Try.prog) B 0 52 x.cells 0 y.cells.toArray w h (by simp [Rc.cells]) (by intro v hv; simp [Rc.cells] at hv; rcases hv with rfl | rfl | rfl | rfl | rfl <;> rfl)
  simpa [Rc.cells] using e
theorem store_z {w : World} {B : Nat} (h : RcAt w B zR) : Sem.run Try.prog (storeCells ⟨B, 0, none⟩ zR.cells) w = .ok () w := by
  rw [store_five (x := zR) h, setRow_self _ _ _ _ _ h]
theorem brief_len (t : Int) : (rrec.briefL t).length ≤ 3 := by
  unfold rrec.briefL
  split
  · decide
  split
  · decide
  split <;> decide
/-- the three records' boxes, and the list of parts, on the way -/
structure Lp (B0 X gl : Nat) (w wr : World) (x : Rc) (fl : List Nat) : Prop where
  x : RcAt wr X x
  a : RcAt wr B0 zR
  b : RcAt wr (B0 + 1) zR
  bel : Below B0 w wr
  ls : ∀ (i p : Nat), fl[i]? = some p → wr.cell? ⟨gl, i, none⟩ = some (.int .i64 (p : Int))
  lt : B0 + 1 < X
  ne : gl ≠ X
theorem Lp.set {B0 X gl : Nat} {w wr : World} {x : Rc} {fl : List Nat} (h : Lp B0 X gl w wr x fl) (D : ByteArray) : Lp B0 X gl w (wr.setCell ⟨X, 4, none⟩ (.string D)) { x with d := D } fl :=
  ⟨h.x.s4 D, (far_one (by have := h.lt; omega)).trans h.a, (far_one (by have := h.lt; omega)).trans h.b, below_one h.bel (by have := h.lt; omega), fun i p hp => by
    have e := far_one (w := wr) (b := X) (j := 4) (v := .string D) (k := gl) h.ne
    have h2 := h.ls i p hp
    simp only [World.cell?] at h2 ⊢
    rw [e]; exact h2, h.lt, h.ne⟩
theorem Lp.below {B0 X gl : Nat} {w wr w1 : World} {x : Rc} {fl : List Nat} (h : Lp B0 X gl w wr x fl) (hB : Below wr.heap.size wr w1) : Lp B0 X gl w w1 x fl :=
  ⟨rc_below h.x hB, rc_below h.a hB, rc_below h.b hB, h.bel.trans (hB.mono (by have := h.a.lt; omega)), fun i p hp => by
    have h2 := h.ls i p hp
    exact (hB.cell (p := ⟨gl, i, none⟩) (udoor.lt_cell h2)).trans h2, h.lt, h.ne⟩
theorem own_sliceI {w : World} {base : Nat} {v : Value} {n : Nat} {xs : List Value} (h : w.ownsRow base 3 1 v n xs) : ∃ a c, v = .slice a n c := by
  rcases h.2 with ⟨rfl, rfl⟩ | ⟨g, cap, cur, rfl, _⟩
  · exact ⟨none, 0, rfl⟩
  · exact ⟨_, cap, rfl⟩
theorem ints_at {w3 w4 : World} {X m cb : Nat} {ab : Option Addr} {fl : List Nat} (h : w4.ownsRow w3.heap.size 3 1 (.slice ab m cb) m (fl.map rrec.natC)) (hX : X < w3.heap.size) :
    ∃ gl : Nat, gl ≠ X ∧ ((0 < m → ab = some ⟨gl, 0, none⟩) ∧ ∀ (i p : Nat), fl[i]? = some p → w4.cell? ⟨gl, i, none⟩ = some (.int .i64 (p : Int))) := by
  rcases h.2 with ⟨h1, h2⟩ | ⟨g, cap, cur, h1, h2, _⟩
  · have hl := h.1
    rw [h2, Nat.zero_mul, List.length_map] at hl
    have : fl = [] := List.eq_nil_of_length_eq_zero hl
    subst this
    exact ⟨w3.heap.size, by omega, fun hm => by omega, fun i p hp => by simp at hp⟩
  · injection h1 with e1 e2 e3
    refine ⟨g, by omega, fun _ => e1, fun i p hp => ?_⟩
    subst e1
    have h3 := h.cells (g := g) rfl i (rrec.natC p) (by rw [List.getElem?_map, hp]; rfl)
    have hadd : (⟨g, 0, none⟩ : Addr).add i = ⟨g, 0 + i, none⟩ := by unfold Addr.add; split <;> simp_all
    rw [hadd, Nat.zero_add] at h3; exact h3
theorem cut_two {b : Bs} {j : Nat} (h : j + 2 ≤ b.length) : cutB b j (j + 2) = [b.getD j 0, b.getD (j + 1) 0] := by
  rw [show j + 2 = j + 1 + 1 from rfl, cut_head b j 1 (by omega), show j + 1 + 1 = (j + 1) + 1 + 0 from rfl, cut_head b (j + 1) 0 (by omega)]
  unfold cutB; simp
theorem cut_four {b : Bs} {j : Nat} (h : j + 4 ≤ b.length) : cutB b j (j + 4) = [b.getD j 0, b.getD (j + 1) 0, b.getD (j + 2) 0, b.getD (j + 3) 0] := by
  rw [show j + 4 = j + 1 + 3 from rfl, cut_head b j 3 (by omega), show j + 1 + 3 = (j + 1) + 1 + 2 from rfl, cut_head b (j + 1) 2 (by omega), show j + 1 + 1 + 2 = (j + 1 + 1) + 2 from rfl, cut_two (by omega)]
theorem val_two {b : Bs} {j : Nat} (h : j + 2 ≤ b.length) (w : World) : Calls Try.prog 66 #[.string (mkB (cutB b j (j + 2)))] w fun e w' => e = .returned (.int .i64 (num2 b j : Int)) ∧ w' = w :=
  (val.rvalue_any _ w (by rw [cut_two h]; unfold mkB; rw [mk_size]; simp)).mono fun e w' ⟨h1, h2⟩ => ⟨by rw [h1, cut_two h]; simp [mkB, val.valL, num2, atB], h2.symm⟩
theorem val_four {b : Bs} {j : Nat} (h : j + 4 ≤ b.length) (w : World) : Calls Try.prog 66 #[.string (mkB (cutB b j (j + 4)))] w fun e w' => e = .returned (.int .i64 (num4 b j : Int)) ∧ w' = w :=
  (val.rvalue_any _ w (by rw [cut_four h]; unfold mkB; rw [mk_size]; simp)).mono fun e w' ⟨h1, h2⟩ => ⟨by
    rw [h1, cut_four h]
    have e : (val.valL (mkB [b.getD j 0, b.getD (j + 1) 0, b.getD (j + 2) 0, b.getD (j + 3) 0]).data.toList 0 : Nat) = num4 b j := by
      simp only [mkB, val.valL, num4, num2, atB]
      rw [show j + 2 + 1 = j + 3 from rfl]; omega
    rw [e], h2.symm⟩
theorem name_at (a : Option Addr) (b : Bs) (cap k lim : Nat) (over : Int) (w : World) (hrd : RdB w a b) (h1 : b.length ≤ cap) (h2 : cap ≤ maxLen) (h3 : b.length ≤ 65535) (h4 : k ≤ 65535) (h5 : lim ≤ b.length) (h6 : over ≠ 0) :
    Calls Try.prog 67 #[.slice a b.length cap, .int .i64 (k : Int), .int .i64 (k : Int), .int .i64 (lim : Int), .int .i64 over, .int .i64 0] w fun e w' => ReadE (nameAt b k lim over) e ∧ w' = w :=
  rname_any (leftU k 0 + 1) a b cap k k lim over 0 w hrd h1 h2 h3 h4 h4 h5 (by decide) h6 (by omega)
set_option maxRecDepth 100000 in
set_option maxHeartbeats 8000000 in
theorem rrecord_any (a : Option Addr) (b : Bs) (cap k : Nat) (w : World) (hrd : RdB w a b) (hle : b.length ≤ cap) (hcm : cap ≤ maxLen) (hl : b.length ≤ 65535) (hk : k ≤ b.length) :
    Calls Try.prog 68 #[.slice a b.length cap, .int .i64 (k : Int)] w (RecRE (recU b k) w) := by
  obtain ⟨R, hR⟩ : ∃ R, recU b k = R := ⟨_, rfl⟩
  rw [hR]
  have HR := Lib.hid hR; have HRD := Lib.hid hrd; have HLE := Lib.hid hle; have HCM := Lib.hid hcm; have HLB := Lib.hid hl
  unfold maxLen at hcm
  obtain ⟨B0, hB0⟩ : ∃ B0, w.heap.size = B0 := ⟨_, rfl⟩
  have s1 : ∀ (w : World) o, (w.alloc o).heap.size = w.heap.size + 1 := fun w o => by simp
  have hZ1 := heap_alloc_new w (.cells #[.string ⟨#[]⟩, .int .i64 0, .int .i64 0, .int .i64 0, .string ⟨#[]⟩] 52)
  have hZ2 := heap_alloc_new (w.alloc (.cells #[.string ⟨#[]⟩, .int .i64 0, .int .i64 0, .int .i64 0, .string ⟨#[]⟩] 52)) (.cells #[.string ⟨#[]⟩, .int .i64 0, .int .i64 0, .int .i64 0, .string ⟨#[]⟩] 52)
  have hZ1' := (heap_alloc_old _ (.cells #[.string ⟨#[]⟩, .int .i64 0, .int .i64 0, .int .i64 0, .string ⟨#[]⟩] 52) (by rw [s1]; omega)).trans hZ1
  have hbel := ((Below.refl w.heap.size w).alloc (Nat.le_refl _) (.cells #[.string ⟨#[]⟩, .int .i64 0, .int .i64 0, .int .i64 0, .string ⟨#[]⟩] 52)).alloc (by rw [s1]; omega) (.cells #[.string ⟨#[]⟩, .int .i64 0, .int .i64 0, .int .i64 0, .string ⟨#[]⟩] 52)
  obtain ⟨W, hW⟩ : ∃ W, (w.alloc (.cells #[.string ⟨#[]⟩, .int .i64 0, .int .i64 0, .int .i64 0, .string ⟨#[]⟩] 52)).alloc (.cells #[.string ⟨#[]⟩, .int .i64 0, .int .i64 0, .int .i64 0, .string ⟨#[]⟩] 52) = W := ⟨_, rfl⟩
  rw [hW] at hZ1' hZ2 hbel
  rw [s1] at hZ2
  have ha : RcAt W w.heap.size zR := hZ1'
  have hb : RcAt W (w.heap.size + 1) zR := hZ2
  rw [hB0] at ha hb hbel
  have HA := Lib.hid ha; have HBB := Lib.hid hb; have HBEL := Lib.hid hbel; have HW := Lib.hid hW; have HB0 := Lib.hid hB0
  have HRDW := Lib.hid (rdB_below hrd (by rw [hB0]; exact hbel))
  have CN := Lib.hid (name_at a b cap k b.length 10 W HRDW.out hle HCM.out hl (by omega) (Nat.le_refl _) (by decide))
  obtain ⟨L, hL⟩ : ∃ L, b.length = L := ⟨_, rfl⟩
  have HL := Lib.hid hL
  rw [hL] at CN hl hle hk ⊢
  clear hrd hL hR hZ1 hZ2 hZ1' hbel ha hb hW s1
  go_enter Try.func68, Try.ntmps68
  go_upto_region 2 with fail
  rw [HW.out]
  cases hn : nameAt b k L 10 with
  | bad x =>
    have hx0 := roundM.nameAt_bad (by decide) hn
    have ex : (x == 0) = false := by simpa using hx0
    rw [hn] at CN
    have HRR : Hid (R = .bad x) := Lib.hid (by rw [← HR.out]; unfold recU; rw [HL.out, hn])
    have hx := HBB.out
    have c0 := hx.c0; have c1 := hx.c1; have c2 := hx.c2; have c3 := hx.c3; have c4 := hx.c4
    have hy := HA.out
    have d0 := hy.c0; have d1 := hy.c1; have d2 := hy.c2; have d3 := hy.c3; have d4 := hy.c4
    have z0 := hy.z 0; have z1 := hy.z 1; have z2 := hy.z 2; have z3 := hy.z 3; have z4 := hy.z 4
    clear hn hx0 hx hy
    trace "2"
    go_wp2_with fail
    refine CN.out.mono ?_
    rintro e w1 ⟨⟨j, rfl⟩, rfl⟩
    go_wp2_with fail
    exact fin _ rfl rfl rfl (put5_at zR HA.out) ⟨by rw [HRR.out]; rfl, put5_below zR (by rw [HB0.out]; exact HBEL.out) (by omega)⟩
  | ok s j =>
    have hjb := (cdata.nameAt_len (b := b) (by rw [HL.out]; exact Nat.le_refl _) hn).2
    have HN := Lib.hid hn
    obtain ⟨S0, hS0⟩ : ∃ S, mkB s = S := ⟨_, rfl⟩
    have CN2 : Hid (Calls Try.prog 67 #[.slice a L cap, .int .i64 (k : Int), .int .i64 (k : Int), .int .i64 (L : Int), .int .i64 10, .int .i64 0] W fun e w' => e = .returned (.tuple #[.string S0, .int .i64 (j : Int), .int .i64 0]) ∧ w' = W) := Lib.hid (by have h := CN.out; rw [hn] at h; rw [← hS0]; exact h)
    have HS0 := Lib.hid hS0
    have HSZ : Hid (S0.size ≤ 1099511627776) := Lib.hid (by obtain ⟨_, _, _, h⟩ := nameU_is _ b k k L 10 0 s j (by decide) (by rw [HL.out]; exact Nat.le_refl _) hn; rw [← hS0]; unfold mkB; rw [mk_size]; omega)
    clear CN hn hS0
    go_wp2_with fail
    refine CN2.out.mono ?_
    rintro e w1 ⟨rfl, rfl⟩
    trace "3"
    by_cases hj10 : L < j + 10
    · have hji : (L : Int) < (j : Int) + 10 := by omega
      have HRR : Hid (R = .bad 10) := Lib.hid (by rw [← HR.out]; unfold recU; rw [HL.out, HN.out]; simp only; rw [if_pos hj10])
      have hx := HBB.out
      have c0 := hx.c0; have c1 := hx.c1; have c2 := hx.c2; have c3 := hx.c3; have c4 := hx.c4
      have hy := HA.out
      have d0 := hy.c0; have d1 := hy.c1; have d2 := hy.c2; have d3 := hy.c3; have d4 := hy.c4
      have z0 := hy.z 0; have z1 := hy.z 1; have z2 := hy.z 2; have z3 := hy.z 3; have z4 := hy.z 4
      clear hx hy
      go_wp2_with fail
      exact fin _ rfl rfl rfl (put5_at zR HA.out) ⟨by rw [HRR.out]; rfl, put5_below zR (by rw [HB0.out]; exact HBEL.out) (by omega)⟩
    have hji : ¬ (L : Int) < (j : Int) + 10 := by omega
    obtain ⟨cc, hcc, _⟩ := atB_some (b := b) (k := 0) (by rw [HL.out]; omega)
    obtain ⟨g, o, rfl, _⟩ := HRD.out 0 cc hcc
    have CT := Lib.hid (fun w => val_two (b := b) (j := j) (by rw [HL.out]; omega) w)
    have CC := Lib.hid (fun w => val_two (b := b) (j := j + 2) (by rw [HL.out]; omega) w)
    have CL := Lib.hid (fun w => val_four (b := b) (j := j + 4) (by rw [HL.out]; omega) w)
    have HCN := Lib.hid (fun w => val_two (b := b) (j := j + 8) (by rw [HL.out]; omega) w)
    have q1 : ∀ w', Below w1.heap.size w1 w' → (convert 39 9 (.slice (some ⟨g, o + j, none⟩) 2 (cap - j))).run Try.prog w' = .ok (.string (mkB (cutB b j (j + 2)))) w' := fun w' hB => by
      exact cut_string (rdB_below HRDW.out hB) j 2 (cap - j) (by rw [HL.out]; omega)
    have q2 : ∀ w', Below w1.heap.size w1 w' → (convert 39 9 (.slice (some ⟨g, o + (j + 2), none⟩) 2 (cap - (j + 2)))).run Try.prog w' = .ok (.string (mkB (cutB b (j + 2) (j + 4)))) w' := fun w' hB => by
      exact cut_string (rdB_below HRDW.out hB) (j + 2) 2 (cap - (j + 2)) (by rw [HL.out]; omega)
    have q3 : ∀ w', Below w1.heap.size w1 w' → (convert 39 9 (.slice (some ⟨g, o + (j + 4), none⟩) 4 (cap - (j + 4)))).run Try.prog w' = .ok (.string (mkB (cutB b (j + 4) (j + 8)))) w' := fun w' hB => by
      exact cut_string (rdB_below HRDW.out hB) (j + 4) 4 (cap - (j + 4)) (by rw [HL.out]; omega)
    have q4 : ∀ w', Below w1.heap.size w1 w' → (convert 39 9 (.slice (some ⟨g, o + (j + 8), none⟩) 2 (cap - (j + 8)))).run Try.prog w' = .ok (.string (mkB (cutB b (j + 8) (j + 10)))) w' := fun w' hB => by
      exact cut_string (rdB_below HRDW.out hB) (j + 8) 2 (cap - (j + 8)) (by rw [HL.out]; omega)
    obtain ⟨S1, hS1⟩ : ∃ S, mkB (cutB b j (j + 2)) = S := ⟨_, rfl⟩
    obtain ⟨S2, hS2⟩ : ∃ S, mkB (cutB b (j + 2) (j + 4)) = S := ⟨_, rfl⟩
    obtain ⟨S3, hS3⟩ : ∃ S, mkB (cutB b (j + 4) (j + 8)) = S := ⟨_, rfl⟩
    obtain ⟨S4, hS4⟩ : ∃ S, mkB (cutB b (j + 8) (j + 10)) = S := ⟨_, rfl⟩
    rw [hS1] at q1 CT; rw [hS2] at q2; rw [hS3] at q3; rw [hS4] at q4
    rw [show j + 2 + 2 = j + 4 from rfl, hS2] at CC
    rw [show j + 4 + 4 = j + 8 from rfl, hS3] at CL
    rw [show j + 8 + 2 = j + 10 from rfl, hS4] at HCN
    obtain ⟨t, ht⟩ : ∃ t, num2 b j = t := ⟨_, rfl⟩
    obtain ⟨c, hc⟩ : ∃ c, num2 b (j + 2) = c := ⟨_, rfl⟩
    obtain ⟨l, hl4⟩ : ∃ l, num4 b (j + 4) = l := ⟨_, rfl⟩
    obtain ⟨n, hnn⟩ : ∃ n, num2 b (j + 8) = n := ⟨_, rfl⟩
    rw [ht] at CT; rw [hc] at CC; rw [hl4] at CL; rw [hnn] at HCN
    have HT := Lib.hid ht; have HC := Lib.hid hc; have HL4 := Lib.hid hl4; have HNN := Lib.hid hnn
    have hnb : n ≤ 65535 := by rw [← hnn]; exact num2_le b (j + 8)
    have m1 : (j : Int) + 2 ≤ (cap : Int) := by omega
    have m2 : (j : Int) + 4 ≤ (cap : Int) := by omega
    have m3 : (j : Int) + 8 ≤ (cap : Int) := by omega
    have m4 : (j : Int) + 10 ≤ (cap : Int) := by omega
    have n1 : ¬ cap = j := by omega
    have n2 : ¬ cap = j + 2 := by omega
    have n3 : ¬ cap = j + 4 := by omega
    have n4 : ¬ cap = j + 8 := by omega
    have l1 := fun w' => rsl.run_slice2 g o L cap j (j + 2) 2 (j : Int) ((j : Int) + 2) rfl (by omega) (by omega) (by omega) (by omega) w'
    have l2 := fun w' => rsl.run_slice2 g o L cap (j + 2) (j + 4) 2 ((j : Int) + 2) ((j : Int) + 4) (by omega) (by omega) (by omega) (by omega) (by omega) w'
    have l3 := fun w' => rsl.run_slice2 g o L cap (j + 4) (j + 8) 4 ((j : Int) + 4) ((j : Int) + 8) (by omega) (by omega) (by omega) (by omega) (by omega) w'
    have l4 := fun w' => rsl.run_slice2 g o L cap (j + 8) (j + 10) 2 ((j : Int) + 8) ((j : Int) + 10) (by omega) (by omega) (by omega) (by omega) (by omega) w'
    have v2 : IntKind.i64.wrap ((j : Int) + 2) = (j : Int) + 2 := IntWalk.i64_in _ (by omega)
    have v4 : IntKind.i64.wrap ((j : Int) + 4) = (j : Int) + 4 := IntWalk.i64_in _ (by omega)
    have v8 : IntKind.i64.wrap ((j : Int) + 8) = (j : Int) + 8 := IntWalk.i64_in _ (by omega)
    have v10 : IntKind.i64.wrap ((j : Int) + 10) = (j : Int) + 10 := IntWalk.i64_in _ (by omega)
    have hBd : Below w1.heap.size w1 w1.drew := (Below.refl _ _).drew
    clear hS1 hS2 hS3 hS4 ht hc hl4 hnn hcc CN2
    trace "7"
    go_upto_region 7 with fail
    refine' via (P := _) (fun key => ?reg) ?key
    case reg =>
      go_region_held3 (fun w' => Below w1.heap.size w1 w') ((repeat (first | with_reducible assumption | with_reducible exact Below.refl _ _ | with_reducible refine Below.drew ?_ | with_reducible refine Below.setCell ?_ (by first | exact Nat.le_refl _ | simp) _ | with_reducible refine Below.alloc ?_ (by first | exact Nat.le_refl _ | simp) _))) (first
        | (go_at_call_of 66 (Value.string S1); refine (CT.out _).mono ?_; rintro e w' ⟨rfl, rfl⟩)
        | (go_at_call_of 66 (Value.string S2); refine (CC.out _).mono ?_; rintro e w' ⟨rfl, rfl⟩)
        | (go_at_call_of 66 (Value.string S3); refine (CL.out _).mono ?_; rintro e w' ⟨rfl, rfl⟩))
      all_goals exact key ()
    case key =>
      have hB2 := ((Below.refl w1.heap.size w1).alloc (Nat.le_refl _) (.cells #[.string S0, .int .i64 (t : Int), .int .i64 (c : Int), .int .i64 (l : Int), .string ⟨#[]⟩] 52)).drew
      have hX2 : RcAt (w1.alloc (.cells #[.string S0, .int .i64 (t : Int), .int .i64 (c : Int), .int .i64 (l : Int), .string ⟨#[]⟩] 52)).drew w1.heap.size ⟨S0, t, c, l, ⟨#[]⟩⟩ := heap_alloc_new w1 _
      have hlx : B0 + 1 < w1.heap.size := HBB.out.lt
      obtain ⟨X, hX⟩ : ∃ X, w1.heap.size = X := ⟨_, rfl⟩
      obtain ⟨w2, hw2⟩ : ∃ w2, (w1.alloc (.cells #[.string S0, .int .i64 (t : Int), .int .i64 (c : Int), .int .i64 (l : Int), .string ⟨#[]⟩] 52)).drew = w2 := ⟨_, rfl⟩
      rw [hw2] at hB2 hX2 ⊢
      have q4b := q4 w2 hB2
      have HRD2 := Lib.hid (rdB_below HRDW.out hB2)
      have HA2 := Lib.hid (rc_below HA.out hB2)
      have HB2 := Lib.hid (rc_below HBB.out hB2)
      have HBEL2 := Lib.hid (HBEL.out.trans (hB2.mono (by omega)))
      rw [hX] at hX2 hlx ⊢
      have HX2 := Lib.hid hX2
      clear hB2 hX2 hw2 hX q1 q2 q3 q4 l1 l2 l3 HRDW HA HBB HBEL CT CC CL
      trace "8"
      go_wp2_with fail
      refine (HCN.out _).mono ?_
      rintro e w3 ⟨rfl, rfl⟩
      clear q4b l4 HCN v2 v4 v8 v10
      trace "9"
      obtain ⟨K, hK⟩ : ∃ K, j + 10 = K := ⟨_, rfl⟩
      obtain ⟨T, hT⟩ : ∃ T, K + n = T := ⟨_, rfl⟩
      have hKI : Value.int .i64 ((j : Int) + 10) = Value.int .i64 (K : Int) := by congr 1; omega
      have hTI : Value.int .i64 ((j : Int) + 10 + (n : Int)) = Value.int .i64 (T : Int) := by congr 1; omega
      have HKI := Lib.hid hKI; have HTI := Lib.hid hTI
      clear hKI hTI
      by_cases hTL : L < T
      · have hti : (L : Int) < (j : Int) + 10 + (n : Int) := by omega
        have HRR : Hid (R = .bad 10) := Lib.hid (by rw [← HR.out]; unfold recU; rw [HL.out, HN.out]; simp only; rw [if_neg (by omega), HNN.out, if_pos (by omega)])
        have hx := HB2.out
        have c0 := hx.c0; have c1 := hx.c1; have c2 := hx.c2; have c3 := hx.c3; have c4 := hx.c4
        have hy := HA2.out
        have d0 := hy.c0; have d1 := hy.c1; have d2 := hy.c2; have d3 := hy.c3; have d4 := hy.c4
        have z0 := hy.z 0; have z1 := hy.z 1; have z2 := hy.z 2; have z3 := hy.z 3; have z4 := hy.z 4
        clear hx hy
        go_wp2_with fail
        exact fin _ rfl rfl rfl (put5_at zR HA2.out) ⟨by rw [HRR.out]; rfl, put5_below zR (by rw [HB0.out]; exact HBEL2.out) (by omega)⟩
      have hti : ¬ (L : Int) < (j : Int) + 10 + (n : Int) := by omega
      have x1 := HX2.out.c1
      simp only at x1
      trace "13"
      have HRX : Hid (R = (match (if n = 0 ∨ shortL (t : Int) = [] then Got.ok (cutB b K T) 0 else dataU (shortL (t : Int)) b K T []) with | .bad e => Got.bad e | .ok d _ => if rightB ⟨S0, t, c, l, mkB d⟩ = true then .ok ⟨S0, t, c, l, mkB d⟩ T else .bad 7)) := Lib.hid (by
        rw [← HR.out]; unfold recU; rw [HL.out, HN.out]; simp only; rw [if_neg (by omega), HNN.out, if_neg (by omega), HT.out, HC.out, HL4.out, HS0.out, hK, hT]; cases (if n = 0 ∨ shortL (t : Int) = [] then Got.ok (cutB b K T) 0 else dataU (shortL (t : Int)) b K T []) <;> rfl)
      go_upto_region 13 with fail
      rw [HTI.out, HKI.out]
      go_wp2_with fail
      refine (rrec.brief_any (t : Int) w3).mono ?_
      rintro e w4 ⟨v4, rfl, hob, hB4⟩
      have hsf := rrec.brief_short (t : Int)
      have hfl3 := brief_len (t : Int)
      have hfs := brief_small (t : Int)
      obtain ⟨fl, hfl⟩ : ∃ fl, rrec.briefL (t : Int) = fl := ⟨_, rfl⟩
      rw [hfl] at hob hsf hfl3 hfs
      have HFS := Lib.hid hfs
      obtain ⟨ab, cb, rfl⟩ := own_sliceI hob
      obtain ⟨m, hm⟩ : ∃ m, fl.length = m := ⟨_, rfl⟩
      rw [hm] at hob hfl3 ⊢
      have hTK : T ≤ L := by omega
      have hKT := (show K ≤ T by omega)
      have HTN := Lib.hid hT
      clear hK hT m1 m2 m3 m4 n1 n2 n3 n4 hji hjb hj10 hk hti hTL HKI HTI hBd
      obtain ⟨gl, hgl⟩ : ∃ gl : Nat, gl ≠ X ∧ ((0 < m → ab = some ⟨gl, 0, none⟩) ∧ ∀ (i p : Nat), fl[i]? = some p → w4.cell? ⟨gl, i, none⟩ = some (.int .i64 (p : Int))) := ints_at hob HX2.out.lt
      have LP4 : Hid (Lp B0 X gl w w4 ⟨S0, t, c, l, ⟨#[]⟩⟩ fl) := Lib.hid ⟨rc_below HX2.out hB4, rc_below HA2.out hB4, rc_below HB2.out hB4, HBEL2.out.trans (hB4.mono (by rw [← HB0.out]; exact HBEL2.out.size)), hgl.2.2, hlx, hgl.1⟩
      have hab := hgl.2.1
      have HM := Lib.hid hm
      clear hfs hob hB4 hgl HX2 HA2 HB2 HBEL2 HRD2 x1 hm hfl
      by_cases hn0 : n = 0
      · have HDIR : Hid (n = 0 ∨ shortL (t : Int) = []) := Lib.hid (.inl hn0)
        have e1 : ¬ (0 : Int) < (n : Int) := by omega
        subst hn0
        have hKT2 : K = T := by have := HTN.out; omega
        clear hKT
        subst hKT2
        clear HTN
        obtain ⟨D, hD⟩ : ∃ D : ByteArray, (⟨#[]⟩ : ByteArray) = D := ⟨_, rfl⟩
        have hcz : cutB b K K = [] := by unfold cutB; simp
        have HRF : Hid (R = if rightB ⟨S0, t, c, l, D⟩ = true then .ok ⟨S0, t, c, l, D⟩ K else .bad 7) := Lib.hid (by rw [HRX.out, if_pos HDIR.out]; simp only; rw [hcz, ← hD]; rfl)
        have HDS : Hid (D.size ≤ maxLen) := Lib.hid (by rw [← hD]; decide)
        have HLP4' : Hid (Lp B0 X gl w w4 ⟨S0, t, c, l, D⟩ fl) := Lib.hid (by rw [← hD]; exact LP4.out)
        have c4 := LP4.out.x.c4; have z4 := LP4.out.x.z 4
        have f1 : (0 : Int) ≤ (K : Int) := by omega
        have f3 : (K : Int) ≤ (cap : Int) := by omega
        have f5 : K ≤ cap := by omega
        have q6 : ∀ (p : Nat) (c : Nat), (convert 39 9 (.slice (some ⟨g, p, none⟩) 0 c)).run Try.prog w4 = .ok (.string D) w4 := fun p c => by
          have h := run_convert_bytes_back (P := Try.prog) w4 39 9 5 ⟨g, p, none⟩ c [] Try.underlying39 Try.underlying5 Try.underlying9 (fun j hj => absurd hj (by simp))
          rw [← hD]; exact h

        clear hD
        trace "31z"
        by_cases f6 : cap = K
        · have l5 := fun w' => rsl.run_slice_end g o L cap K (K : Int) (K : Int) rfl rfl f6 w'
          go_upto_region 32 with fail
          have LP5 := Lib.hid (LP4.out.set D)
          obtain ⟨w5, hw5⟩ : ∃ w5, w4.setCell ⟨X, 4, none⟩ (.string D) = w5 := ⟨_, rfl⟩
          rw [hw5] at LP5 ⊢
          clear hw5 c4 z4 q6 l5 f1 f3 f5 f6 LP4
          have CR := Lib.hid (wireR.rright_any ⟨S0, t, c, l, D⟩ w5 HSZ.out HDS.out)
          obtain ⟨rb, hrb⟩ : ∃ rb, rightB ⟨S0, t, c, l, D⟩ = rb := ⟨_, rfl⟩
          rw [hrb] at CR HRF
          have hx := LP5.out.x
          have c0 := hx.c0; have c1 := hx.c1; have c2 := hx.c2; have c3 := hx.c3; have c4 := hx.c4
          simp only at c0 c1 c2 c3 c4
          clear hx hrb
          trace "32"
          go_wp2_with fail
          refine CR.out.mono ?_
          rintro e w6 ⟨rfl, hB6⟩
          have LP6 := Lib.hid (LP5.out.below hB6)
          clear hB6 c0 c1 c2 c3 c4 CR LP5
          cases rb with
          | false =>
            have HRR : Hid (R = .bad 7) := Lib.hid (by rw [HRF.out]; rfl)
            have hb5 := LP6.out.b; have hst := store_z LP6.out.a
            go_wp2_with (refine wpList_load_row rfl 52 _ rfl (B0 + 1) rfl 52 _ _ _ hb5 Try.underlying52 rfl (by rw [infoR]; rfl) ?_)
            exact fin _ rfl rfl rfl LP6.out.a ⟨by rw [HRR.out]; rfl, by rw [HB0.out]; exact LP6.out.bel⟩
          | true =>
            have HRR : Hid (R = .ok ⟨S0, t, c, l, D⟩ K) := Lib.hid (by rw [HRF.out]; rfl)
            obtain ⟨xr, hxr⟩ : ∃ xr, (⟨S0, t, c, l, D⟩ : Rc) = xr := ⟨_, rfl⟩
            rw [hxr] at LP6 HRR
            have hb5 := LP6.out.x; have hst := store_five (x := xr) LP6.out.a
            go_wp2_with (refine wpList_load_row rfl 52 _ rfl (X) rfl 52 _ _ _ hb5 Try.underlying52 rfl (by rw [infoR]; rfl) ?_)
            exact fin _ rfl rfl rfl (setRow_heap _ _ _ _ _ _ LP6.out.a) ⟨by rw [HRR.out]; rfl, by rw [HB0.out]; exact below_setRow LP6.out.bel (Nat.le_refl _) _⟩
        have l5 := fun w' => rsl.run_slice2 g o L cap K K 0 (K : Int) (K : Int) rfl rfl (by omega) (by omega) f6 w'
        go_upto_region 32 with fail
        have LP5 := Lib.hid (LP4.out.set D)
        obtain ⟨w5, hw5⟩ : ∃ w5, w4.setCell ⟨X, 4, none⟩ (.string D) = w5 := ⟨_, rfl⟩
        rw [hw5] at LP5 ⊢
        clear hw5 c4 z4 q6 l5 f1 f3 f5 f6 LP4
        have CR := Lib.hid (wireR.rright_any ⟨S0, t, c, l, D⟩ w5 HSZ.out HDS.out)
        obtain ⟨rb, hrb⟩ : ∃ rb, rightB ⟨S0, t, c, l, D⟩ = rb := ⟨_, rfl⟩
        rw [hrb] at CR HRF
        have hx := LP5.out.x
        have c0 := hx.c0; have c1 := hx.c1; have c2 := hx.c2; have c3 := hx.c3; have c4 := hx.c4
        simp only at c0 c1 c2 c3 c4
        clear hx hrb
        trace "32"
        go_wp2_with fail
        refine CR.out.mono ?_
        rintro e w6 ⟨rfl, hB6⟩
        have LP6 := Lib.hid (LP5.out.below hB6)
        clear hB6 c0 c1 c2 c3 c4 CR LP5
        cases rb with
        | false =>
          have HRR : Hid (R = .bad 7) := Lib.hid (by rw [HRF.out]; rfl)
          have hb5 := LP6.out.b; have hst := store_z LP6.out.a
          go_wp2_with (refine wpList_load_row rfl 52 _ rfl (B0 + 1) rfl 52 _ _ _ hb5 Try.underlying52 rfl (by rw [infoR]; rfl) ?_)
          exact fin _ rfl rfl rfl LP6.out.a ⟨by rw [HRR.out]; rfl, by rw [HB0.out]; exact LP6.out.bel⟩
        | true =>
          have HRR : Hid (R = .ok ⟨S0, t, c, l, D⟩ K) := Lib.hid (by rw [HRF.out]; rfl)
          obtain ⟨xr, hxr⟩ : ∃ xr, (⟨S0, t, c, l, D⟩ : Rc) = xr := ⟨_, rfl⟩
          rw [hxr] at LP6 HRR
          have hb5 := LP6.out.x; have hst := store_five (x := xr) LP6.out.a
          go_wp2_with (refine wpList_load_row rfl 52 _ rfl (X) rfl 52 _ _ _ hb5 Try.underlying52 rfl (by rw [infoR]; rfl) ?_)
          exact fin _ rfl rfl rfl (setRow_heap _ _ _ _ _ _ LP6.out.a) ⟨by rw [HRR.out]; rfl, by rw [HB0.out]; exact below_setRow LP6.out.bel (Nat.le_refl _) _⟩
      by_cases hm0 : m = 0
      · have HDIR : Hid (n = 0 ∨ shortL (t : Int) = []) := Lib.hid (.inr (by rw [← hsf]; have := HM.out; rw [hm0] at this; rw [List.eq_nil_of_length_eq_zero this]; rfl))
        have e1 : (0 : Int) < (n : Int) := by omega
        have e2 : ¬ (0 : Int) < (m : Int) := by omega
        have hD : ∃ D, mkB (cutB b K T) = D := ⟨_, rfl⟩
        obtain ⟨D, hD⟩ := hD
        have HRF : Hid (R = if rightB ⟨S0, t, c, l, D⟩ = true then .ok ⟨S0, t, c, l, D⟩ T else .bad 7) := Lib.hid (by rw [HRX.out, if_pos HDIR.out]; simp only; rw [hD])
        have HDS : Hid (D.size ≤ maxLen) := Lib.hid (by have := HTN.out; rw [← hD]; unfold mkB; rw [mk_size, cut_len b _ _ (by omega) (by rw [HL.out]; omega)]; unfold maxLen; omega)
        have l5 := fun w' => rsl.run_slice2 g o L cap K T n (K : Int) (T : Int) rfl rfl HTN.out (by omega) (by have := HTN.out; omega) w'
        have q5 : (convert 39 9 (.slice (some ⟨g, o + K, none⟩) n (cap - K))).run Try.prog w4 = .ok (.string D) w4 := by
          have h := cut_string (rdB_below HRD.out (by rw [HB0.out]; exact LP4.out.bel)) K n (cap - K) (by have := HTN.out; rw [HL.out]; omega)
          rw [HTN.out, hD] at h; exact h
        have c4 := LP4.out.x.c4; have z4 := LP4.out.x.z 4
        have f1 : (0 : Int) ≤ (K : Int) := by omega
        have f2 : (K : Int) ≤ (T : Int) := by omega
        have f3 : (T : Int) ≤ (cap : Int) := by omega
        have f4 : K ≤ T := by omega
        have f5 : T ≤ cap := by omega
        have f6 : ¬ cap = K := by have := HTN.out; omega
        have f7 : T - K = n := by have := HTN.out; omega
        trace "31"
        go_upto_region 32 with fail
        have LP5 := Lib.hid (LP4.out.set D)
        obtain ⟨w5, hw5⟩ : ∃ w5, w4.setCell ⟨X, 4, none⟩ (.string D) = w5 := ⟨_, rfl⟩
        rw [hw5] at LP5 ⊢
        clear hw5 c4 z4 q5 l5 f1 f2 f3 f4 f5 f6 f7 hD LP4
        have CR := Lib.hid (wireR.rright_any ⟨S0, t, c, l, D⟩ w5 HSZ.out HDS.out)
        obtain ⟨rb, hrb⟩ : ∃ rb, rightB ⟨S0, t, c, l, D⟩ = rb := ⟨_, rfl⟩
        rw [hrb] at CR HRF
        have hx := LP5.out.x
        have c0 := hx.c0; have c1 := hx.c1; have c2 := hx.c2; have c3 := hx.c3; have c4 := hx.c4
        simp only at c0 c1 c2 c3 c4
        clear hx hrb
        trace "32"
        go_wp2_with fail
        refine CR.out.mono ?_
        rintro e w6 ⟨rfl, hB6⟩
        have LP6 := Lib.hid (LP5.out.below hB6)
        clear hB6 c0 c1 c2 c3 c4 CR LP5
        cases rb with
        | false =>
          have HRR : Hid (R = .bad 7) := Lib.hid (by rw [HRF.out]; rfl)
          have hb5 := LP6.out.b; have hst := store_z LP6.out.a
          go_wp2_with (refine wpList_load_row rfl 52 _ rfl (B0 + 1) rfl 52 _ _ _ hb5 Try.underlying52 rfl (by rw [infoR]; rfl) ?_)
          exact fin _ rfl rfl rfl LP6.out.a ⟨by rw [HRR.out]; rfl, by rw [HB0.out]; exact LP6.out.bel⟩
        | true =>
          have HRR : Hid (R = .ok ⟨S0, t, c, l, D⟩ T) := Lib.hid (by rw [HRF.out]; rfl)
          obtain ⟨xr, hxr⟩ : ∃ xr, (⟨S0, t, c, l, D⟩ : Rc) = xr := ⟨_, rfl⟩
          rw [hxr] at LP6 HRR
          have hb5 := LP6.out.x; have hst := store_five (x := xr) LP6.out.a
          go_wp2_with (refine wpList_load_row rfl 52 _ rfl (X) rfl 52 _ _ _ hb5 Try.underlying52 rfl (by rw [infoR]; rfl) ?_)
          exact fin _ rfl rfl rfl (setRow_heap _ _ _ _ _ _ LP6.out.a) ⟨by rw [HRR.out]; rfl, by rw [HB0.out]; exact below_setRow LP6.out.bel (Nat.le_refl _) _⟩
      have e1 : (0 : Int) < (n : Int) := by omega
      have e2 : (0 : Int) < (m : Int) := by omega
      have e2n : decide (0 < m) = true := decide_eq_true (by omega)
      obtain rfl := hab (by omega)
      have hsn : ¬ (n = 0 ∨ shortL (t : Int) = []) := by
        rintro (h | h)
        · exact hn0 h
        · rw [← hsf, List.map_eq_nil_iff] at h; subst h; exact hm0 HM.out.symm
      have HRY : Hid (R = (match dataU (shortL (t : Int)) b K T [] with | .bad e => Got.bad e | .ok d _ => if rightB ⟨S0, t, c, l, mkB d⟩ = true then .ok ⟨S0, t, c, l, mkB d⟩ T else .bad 7)) := Lib.hid (by rw [HRX.out, if_neg hsn])
      obtain ⟨Rd, hRd⟩ : ∃ Rd, dataU (shortL (t : Int)) b K T [] = Rd := ⟨_, rfl⟩
      have HD0 : Hid (dataU ((fl.drop 0).map rrec.partN) b K T (⟨#[]⟩ : ByteArray).data.toList = Rd) := Lib.hid (by rw [List.drop_zero, hsf]; exact hRd)
      rw [hRd] at HRY
      have hkt0 := hKT
      clear hRd hsn HRX hsf hab
      trace "15"
      go_wp2_with fail
      go_loopg [9, 95] (m + 1) (fun gas kv iv wr => ∃ (i kk : Nat) (D : ByteArray), iv = .int .i64 (i : Int) ∧ kv = .int .i64 (kk : Int) ∧ i ≤ m ∧ i + gas = m + 1 ∧ kk ≤ T ∧ Hid (D.size ≤ i * 65535) ∧ Hid (dataU ((fl.drop i).map rrec.partN) b kk T D.data.toList = Rd) ∧ Hid (Lp B0 X gl w wr ⟨S0, t, c, l, D⟩ fl))
      case atStart => exact ⟨0, K, ⟨#[]⟩, rfl, rfl, by omega, by omega, hkt0, Lib.hid (by decide), HD0, LP4⟩
      case round =>
        clear HD0 LP4 hkt0
        obtain ⟨i, kk, D, rfl, rfl, hi, hig, hkk, HDZ, HD, LP⟩ := hrel
        have HG := Lib.hid hig; clear hig
        have HRDr := Lib.hid (rdB_below HRD.out (by rw [HB0.out]; exact LP.out.bel))
        by_cases hlt : i < m
        · obtain ⟨p, hp⟩ : ∃ p, fl[i]? = some p := ⟨_, List.getElem?_eq_getElem (by rw [HM.out]; exact hlt)⟩
          have e4 := LP.out.ls i p hp
          have hp20 := HFS.out i p hp
          have zl : (i : Int) < (m : Int) := by omega
          have zi : (0 : Int) ≤ (i : Int) := by omega
          have hdr : fl.drop i = p :: fl.drop (i + 1) := by
            obtain ⟨h1, h2⟩ := List.getElem?_eq_some_iff.1 hp
            rw [List.drop_eq_getElem_cons h1, h2]
          have HD2 := HD.out
          rw [hdr, List.map_cons] at HD2
          have hdz := HDZ.out
          have hdz3 : D.size ≤ 196605 := by omega
          clear hdr hp HD
          by_cases hp0 : p = 0
          · subst hp0
            rw [show rrec.partN 0 = none from rfl] at HD2
            simp only [dataU] at HD2
            have CN := Lib.hid (name_at (some ⟨g, o, none⟩) b cap kk T 7 wr HRDr.out HLE.out HCM.out HLB.out (by omega) (by rw [HL.out]; omega) (by decide))
            rw [HL.out] at CN
            cases hq : nameAt b kk T 7 with
            | bad x =>
              rw [hq] at HD2 CN
              have hx0 := roundM.nameAt_bad (by decide) hq
              have ex : (x == 0) = false := by simpa using hx0
              have HRR : Hid (R = .bad x) := Lib.hid (by rw [HRY.out, ← HD2])
              have hb5 := LP.out.b; have hst := store_z LP.out.a
              clear hq hx0 HD2
              trace "23"
              go_wp2_with fail
              refine CN.out.mono ?_
              rintro e w1' ⟨⟨jj, rfl⟩, rfl⟩
              go_wp2_with (refine wpList_load_row rfl 52 _ rfl (B0 + 1) rfl 52 _ _ _ hb5 Try.underlying52 rfl (by rw [infoR]; rfl) ?_)
              exact fin _ rfl rfl rfl LP.out.a ⟨by rw [HRR.out]; rfl, by rw [HB0.out]; exact LP.out.bel⟩
            | ok s2 j2 =>
              rw [hq] at HD2
              have hj2 := (nameU_next _ b kk kk T 7 0 s2 j2 hq).2
              obtain ⟨_, _, _, hs2⟩ := nameU_is _ b kk kk T 7 0 s2 j2 (by decide) (by rw [HL.out]; omega) hq
              obtain ⟨S5, hS5⟩ : ∃ S, mkB s2 = S := ⟨_, rfl⟩
              have CN2 : Hid (Calls Try.prog 67 #[.slice (some ⟨g, o, none⟩) L cap, .int .i64 (kk : Int), .int .i64 (kk : Int), .int .i64 (T : Int), .int .i64 7, .int .i64 0] wr fun e w' => e = .returned (.tuple #[.string S5, .int .i64 (j2 : Int), .int .i64 0]) ∧ w' = wr) := Lib.hid (by have h := CN.out; rw [hq] at h; rw [← hS5]; exact h)
              have hs5 : S5.size ≤ 255 := by rw [← hS5]; unfold mkB; rw [mk_size]; omega
              have HD3 : Hid (dataU ((fl.drop (i + 1)).map rrec.partN) b j2 T (D ++ S5).data.toList = Rd) := Lib.hid (by rw [← HD2, ← hS5]; all_goals (congr 1; all_goals (unfold mkB; simp)))
              have HDZ3 : Hid ((D ++ S5).size ≤ (i + 1) * 65535) := Lib.hid (by rw [ByteArray.size_append]; omega)
              have hsm : ¬ 9223372036854775807 < D.size + S5.size := by omega
              have c4 := LP.out.x.c4; have z4 := LP.out.x.z 4
              simp only at c4
              clear CN hq hs2 hS5 HD2
              trace "26"
              go_wp2_with fail
              refine CN2.out.mono ?_
              rintro e w1' ⟨rfl, rfl⟩
              go_upto_region 27 with fail
              have LP5 := Lib.hid (LP.out.set (D ++ S5))
              obtain ⟨w5, hw5⟩ : ∃ w5, w1'.setCell ⟨X, 4, none⟩ (.string (D ++ S5)) = w5 := ⟨_, rfl⟩
              rw [hw5] at LP5 ⊢
              clear hw5 c4 z4 e4 CN2 LP HRDr hdz hdz3
              go_wp2_with fail
              have hig := HG.out
              go_roundg (gk - 1)
              case rel => exact ⟨i + 1, j2, D ++ S5, by go_num, rfl, by omega, by omega, hj2, HDZ3, HD3, LP5⟩
              case measure => omega
          · have hpn : rrec.partN p = some p := by unfold rrec.partN; rw [if_neg hp0]
            rw [hpn] at HD2
            simp only [dataU] at HD2
            have hpi : (0 : Int) < (p : Int) := by omega
            have hpb : decide (0 < p) = true := decide_eq_true (by omega)
            by_cases hq : T < kk + p
            · rw [if_pos hq] at HD2
              have HRR : Hid (R = .bad 7) := Lib.hid (by rw [HRY.out, ← HD2])
              have hqi : (T : Int) < (kk : Int) + (p : Int) := by omega
              have hqb : decide (T < kk + p) = true := decide_eq_true hq
              clear HD2 hpn
              have hb5 := LP.out.b; have hst := store_z LP.out.a
              trace "20"
              go_wp2_with (refine wpList_load_row rfl 52 _ rfl (B0 + 1) rfl 52 _ _ _ hb5 Try.underlying52 rfl (by rw [infoR]; rfl) ?_)
              exact fin _ rfl rfl rfl LP.out.a ⟨by rw [HRR.out]; rfl, by rw [HB0.out]; exact LP.out.bel⟩
            rw [if_neg hq] at HD2
            have hqi : ¬ (T : Int) < (kk : Int) + (p : Int) := by omega
            have hqb : decide (T < kk + p) = false := decide_eq_false hq
            obtain ⟨S5, hS5⟩ : ∃ S, mkB (cutB b kk (kk + p)) = S := ⟨_, rfl⟩
            have l5 := fun w' => rsl.run_slice2 g o L cap kk (kk + p) p (kk : Int) ((kk : Int) + (p : Int)) rfl (by omega) rfl (by omega) (by omega) w'
            have q5 : (convert 39 9 (.slice (some ⟨g, o + kk, none⟩) p (cap - kk))).run Try.prog wr.drew = .ok (.string S5) wr.drew := by
              have h := cut_string (w := wr.drew) (rdB_below HRDr.out (Below.refl _ _).drew) kk p (cap - kk) (by rw [HL.out]; omega)
              rw [hS5] at h; exact h
            have hs5 : S5.size ≤ 65535 := by rw [← hS5]; unfold mkB; rw [mk_size, cut_len b _ _ (by omega) (by rw [HL.out]; omega)]; omega
            have HD3 : Hid (dataU ((fl.drop (i + 1)).map rrec.partN) b (kk + p) T (D ++ S5).data.toList = Rd) := Lib.hid (by rw [← HD2, ← hS5]; all_goals (congr 1; all_goals (unfold mkB; simp)))
            have HDZ3 : Hid ((D ++ S5).size ≤ (i + 1) * 65535) := Lib.hid (by rw [ByteArray.size_append]; omega)
            have hsm : ¬ 9223372036854775807 < D.size + S5.size := by omega
            have vv : IntKind.i64.wrap ((kk : Int) + (p : Int)) = (kk : Int) + (p : Int) := IntWalk.i64_in _ (by omega)
            have c4 := LP.out.x.c4; have z4 := LP.out.x.z 4
            simp only at c4
            have c4d : wr.drew.cell? ⟨X, 4, none⟩ = some (.string D) := c4
            have z4d : wr.drew.frozen? ⟨X, 4, none⟩ = false := z4
            clear hS5 HD2 hpn
            trace "21"
            go_upto_region 21 with fail
            go_region
            all_goals
              have LP5 := Lib.hid ((LP.out.set (D ++ S5)).below (w1 := (wr.setCell ⟨X, 4, none⟩ (.string (D ++ S5))).drew) (Below.refl _ _).drew)
              obtain ⟨w5, hw5⟩ : ∃ w5, (wr.setCell ⟨X, 4, none⟩ (.string (D ++ S5))).drew = w5 := ⟨_, rfl⟩
              rw [hw5] at LP5 ⊢
              clear hw5 c4 z4 c4d z4d q5 l5 e4 LP HRDr hdz hdz3 vv
              trace "21b"
              go_wp2_with fail
              have hig := HG.out
              go_roundg (gk - 1)
              case rel => exact ⟨i + 1, kk + p, D ++ S5, by go_num, by go_num, by omega, by omega, by omega, HDZ3, HD3, LP5⟩
              case measure => omega
        · have hin : i = m := by omega
          subst hin
          have HD2 := HD.out
          rw [List.drop_eq_nil_of_le (by rw [HM.out]; exact Nat.le_refl _)] at HD2
          simp only [List.map_nil, dataU] at HD2
          have hdz := HDZ.out
          have hdz3 : D.size ≤ 196605 := by omega
          have HDS : Hid (D.size ≤ maxLen) := Lib.hid (by unfold maxLen; omega)
          by_cases hkT : kk = T
          · rw [if_pos hkT] at HD2
            have HRF : Hid (R = if rightB ⟨S0, t, c, l, D⟩ = true then .ok ⟨S0, t, c, l, D⟩ T else .bad 7) := Lib.hid (by
              rw [HRY.out, ← HD2]; simp only
              rw [show mkB D.data.toList = D from by unfold mkB; simp])
            subst hkT
            clear HD HD2 hdz
            obtain ⟨w5, hw5⟩ : ∃ w5, wr = w5 := ⟨_, rfl⟩
            have LP5 := LP
            rw [hw5] at LP5 ⊢
            clear LP HRDr hw5
            trace "29"
            have CR := Lib.hid (wireR.rright_any ⟨S0, t, c, l, D⟩ w5 HSZ.out HDS.out)
            obtain ⟨rb, hrb⟩ : ∃ rb, rightB ⟨S0, t, c, l, D⟩ = rb := ⟨_, rfl⟩
            rw [hrb] at CR HRF
            have hx := LP5.out.x
            have c0 := hx.c0; have c1 := hx.c1; have c2 := hx.c2; have c3 := hx.c3; have c4 := hx.c4
            simp only at c0 c1 c2 c3 c4
            clear hx hrb
            trace "32"
            go_wp2_with fail
            refine CR.out.mono ?_
            rintro e w6 ⟨rfl, hB6⟩
            have LP6 := Lib.hid (LP5.out.below hB6)
            clear hB6 c0 c1 c2 c3 c4 CR LP5
            cases rb with
            | false =>
              have HRR : Hid (R = .bad 7) := Lib.hid (by rw [HRF.out]; rfl)
              have hb5 := LP6.out.b; have hst := store_z LP6.out.a
              go_wp2_with (refine wpList_load_row rfl 52 _ rfl (B0 + 1) rfl 52 _ _ _ hb5 Try.underlying52 rfl (by rw [infoR]; rfl) ?_)
              exact fin _ rfl rfl rfl LP6.out.a ⟨by rw [HRR.out]; rfl, by rw [HB0.out]; exact LP6.out.bel⟩
            | true =>
              have HRR : Hid (R = .ok ⟨S0, t, c, l, D⟩ kk) := Lib.hid (by rw [HRF.out]; rfl)
              obtain ⟨xr, hxr⟩ : ∃ xr, (⟨S0, t, c, l, D⟩ : Rc) = xr := ⟨_, rfl⟩
              rw [hxr] at LP6 HRR
              have hb5 := LP6.out.x; have hst := store_five (x := xr) LP6.out.a
              go_wp2_with (refine wpList_load_row rfl 52 _ rfl (X) rfl 52 _ _ _ hb5 Try.underlying52 rfl (by rw [infoR]; rfl) ?_)
              exact fin _ rfl rfl rfl (setRow_heap _ _ _ _ _ _ LP6.out.a) ⟨by rw [HRR.out]; rfl, by rw [HB0.out]; exact below_setRow LP6.out.bel (Nat.le_refl _) _⟩
          rw [if_neg hkT] at HD2
          have HRR : Hid (R = .bad 7) := Lib.hid (by rw [HRY.out, ← HD2])
          have hki : ((kk : Int) == (T : Int)) = false := by rw [beq_eq_false_iff_ne]; omega
          have hkn : (kk == T) = false := by rw [beq_eq_false_iff_ne]; omega
          clear HD HD2 hdz
          have hb5 := LP.out.b; have hst := store_z LP.out.a
          trace "30"
          go_wp2_with (refine wpList_load_row rfl 52 _ rfl (B0 + 1) rfl 52 _ _ _ hb5 Try.underlying52 rfl (by rw [infoR]; rfl) ?_)
          exact fin _ rfl rfl rfl LP.out.a ⟨by rw [HRR.out]; rfl, by rw [HB0.out]; exact LP.out.bel⟩
end Go.Proofs.Ytabhiangjomaeaa.rrecd
namespace Go.Proofs.Ytabhiangjomaeaa.rust
open Go.RowKit Go.Proofs.Ytabhiangjomaeaa.kit Go.Proofs.Ytabhiangjomaeaa.nspec Go.Proofs.Ytabhiangjomaeaa.unpP Go.Proofs.Ytabhiangjomaeaa.wireP Go.Proofs.Ytabhiangjomaeaa.wireM Go.Proofs.Ytabhiangjomaeaa.wireC Go.Proofs.Ytabhiangjomaeaa.wpack Go.Proofs.Ytabhiangjomaeaa.rows Go.Proofs.Ytabhiangjomaeaa.cur Go.Proofs.Ytabhiangjomaeaa.putM Go.Proofs.Ytabhiangjomaeaa.ust Go.Proofs.Ytabhiangjomaeaa.uend
set_option linter.unusedVariables false

def noP : Pl := ⟨none, 0, none, 0, none, 0, none, 0⟩
/-- the result's box, the message's, the empty one's -/
structure RSt (b0 : Nat) (w0 wr : World) (pl : Pl) (m : Mg) : Prop where
  res : MsgAt wr b0 noP noM
  msg : MsgAt wr (b0 + 1) pl m
  non : MsgAt wr (b0 + 2) noP noM
  own : Own4 b0 wr pl m
  bel : Below b0 w0 wr
section
variable {b0 : Nat} {w0 wr w1 : World} {pl : Pl} {m : Mg}
theorem RSt.below (h : RSt b0 w0 wr pl m) (hB : Below wr.heap.size wr w1) : RSt b0 w0 w1 pl m := by
  have hs : b0 ≤ wr.heap.size := by have := blk_lt h.res; omega
  exact ⟨(hB.block b0 (blk_lt h.res)).trans h.res, (hB.block _ (blk_lt h.msg)).trans h.msg, (hB.block _ (blk_lt h.non)).trans h.non,
    h.own.keep fun j c t hj ht => (hB.block j (blk_lt hj)).trans hj, h.bel.trans (hB.mono hs)⟩
/-- a field of the head laid -/
theorem RSt.head (h : RSt b0 w0 wr pl m) {i : Nat} {v : Value} {m' : Mg} (hm : (cellsM pl m).setIfInBounds i v = cellsM pl m') (e : m'.qs = m.qs ∧ m'.an = m.an ∧ m'.au = m.au ∧ m'.ar = m.ar) : RSt b0 w0 (wr.setCell ⟨b0 + 1, i, none⟩ v) pl m' := by
  have o := own_set h.own (i := i) (v := v) h.msg (by decide) (by decide)
  refine ⟨(far_one (by omega)).trans h.res, ?_, (far_one (by omega)).trans h.non, ⟨by rw [e.1]; exact o.q, by rw [e.2.1]; exact o.n, by rw [e.2.2.1]; exact o.u, by rw [e.2.2.2]; exact o.r, o.nu, o.nr, o.ur⟩, below_one h.bel (by omega)⟩
  have s := heap_setCell_same _ _ i _ _ v h.msg
  rw [hm] at s; exact s
theorem grown_three {W : World} {v : Value} {n : Nat} {xs : List Value} {sz : Nat} {t : TypeId} (h : RSt b0 w0 W pl m) (hv : W.ownsRow b0 t sz v n xs) (ht : t = 50 ∨ t = 52) (hgr : W.grownBy w1 v.ownBlock) :
    MsgAt w1 b0 noP noM ∧ MsgAt w1 (b0 + 1) pl m ∧ MsgAt w1 (b0 + 2) noP noM ∧ Below b0 w0 w1 := by
  have ne : ∀ (j : Nat) (o : Obj), W.heap[j]? = some o → (∀ c f, o ≠ .cells c t f) → w1.heap[j]? = some o := fun j o hj hn => (hgr.block j (blk_lt hj) (row_neG hv hj hn)).trans hj
  refine ⟨ne b0 _ h.res ?_, ne _ _ h.msg ?_, ne _ _ h.non ?_, below_append' h.bel (by have := blk_lt h.res; omega) hv hgr⟩
  all_goals
    intro c f e
    injection e with _ e2 _
    rcases ht with rfl | rfl <;> exact absurd e2 (by decide)
theorem RSt.pushQ {W : World} {x : Qn} {n g3 cp : Nat} (h : RSt b0 w0 W pl m) (hn : m.qs.length = n)
    (ho : w1.ownsRow b0 50 3 (.slice (some ⟨g3, 0, none⟩) (n + 1) cp) (n + 1) (m.qs.flatMap Qn.cells ++ x.cells)) (hgr : W.grownBy w1 (Value.slice pl.qa n pl.qc).ownBlock) :
    RSt b0 w0 (w1.setCell ⟨b0 + 1, 10, none⟩ (.slice (some ⟨g3, 0, none⟩) (n + 1) cp)) ⟨some ⟨g3, 0, none⟩, cp, pl.na, pl.nc, pl.ua, pl.uc, pl.ra, pl.rc⟩ { m with qs := m.qs ++ [x] } := by
  subst hn
  have hq := h.own.q
  obtain ⟨g1, g2, g3', g6⟩ := grown_three h hq (.inl rfl) hgr
  have hl : (m.qs ++ [x]).length = m.qs.length + 1 := by simp
  have hf : (m.qs ++ [x]).flatMap Qn.cells = m.qs.flatMap Qn.cells ++ x.cells := by simp
  have hS : Own4 b0 w1 ⟨some ⟨g3, 0, none⟩, cp, pl.na, pl.nc, pl.ua, pl.uc, pl.ra, pl.rc⟩ { m with qs := m.qs ++ [x] } :=
    ⟨by dsimp only; rw [hl, hf]; exact ho, own_far h.own.n hq hgr (by decide), own_far h.own.u hq hgr (by decide), own_far h.own.r hq hgr (by decide), h.own.nu, h.own.nr, h.own.ur⟩
  refine ⟨(far_one (by omega)).trans g1, ?_, (far_one (by omega)).trans g3', own_set hS g2 (by decide) (by decide), below_one g6 (by omega)⟩
  unfold MsgAt
  rw [heap_setCell_same _ _ 10 _ _ _ g2]
  simp [cellsM]
theorem RSt.sec (h : RSt b0 w0 wr pl m) {s : Nat} (hs : s < 3) : wr.ownsRow b0 52 5 (.slice (secA pl s) (secL m s).length (secC pl s)) (secL m s).length ((secL m s).flatMap Rc.cells) := by
  match s, hs with
  | 0, _ => exact h.own.n
  | 1, _ => exact h.own.u
  | 2, _ => exact h.own.r
theorem RSt.push {W : World} {x : Rc} {s n g3 cp : Nat} (hs : s < 3) (h : RSt b0 w0 W pl m) (hn : (secL m s).length = n)
    (ho : w1.ownsRow b0 52 5 (.slice (some ⟨g3, 0, none⟩) (n + 1) cp) (n + 1) ((secL m s).flatMap Rc.cells ++ x.cells)) (hgr : W.grownBy w1 (Value.slice (secA pl s) n (secC pl s)).ownBlock) (hat : (Value.slice (secA pl s) n (secC pl s)).ownBlock = some g3 ∨ g3 = W.heap.size) :
    RSt b0 w0 (w1.setCell ⟨b0 + 1, 11 + s, none⟩ (.slice (some ⟨g3, 0, none⟩) (n + 1) cp)) (updP pl s (some ⟨g3, 0, none⟩) cp) (updM m s (secL m s ++ [x])) := by
  subst hn
  obtain ⟨g1, g2, g3', g6⟩ := grown_three h (h.sec hs) (.inr rfl) hgr
  have hl : (secL m s ++ [x]).length = (secL m s).length + 1 := by simp
  have hf : (secL m s ++ [x]).flatMap Rc.cells = (secL m s).flatMap Rc.cells ++ x.cells := by simp
  have hS : Own4 b0 w1 (updP pl s (some ⟨g3, 0, none⟩) cp) (updM m s (secL m s ++ [x])) := by
    rw [← hl, ← hf] at ho
    have hsec := h.sec hs
    match s, hs with
    | 0, _ => exact ⟨own_far h.own.q hsec hgr (by decide), ho, own_apart h.own.u hgr h.own.nu, own_apart h.own.r hgr h.own.nr, new_apart h.own.u h.own.nu hat, new_apart h.own.r h.own.nr hat, h.own.ur⟩
    | 1, _ => exact ⟨own_far h.own.q hsec hgr (by decide), own_apart h.own.n hgr h.own.nu.symm, ho, own_apart h.own.r hgr h.own.ur, (new_apart h.own.n h.own.nu.symm hat).symm, h.own.nr, new_apart h.own.r h.own.ur hat⟩
    | 2, _ => exact ⟨own_far h.own.q hsec hgr (by decide), own_apart h.own.n hgr h.own.nr.symm, own_apart h.own.u hgr h.own.ur.symm, ho, h.own.nu, (new_apart h.own.n h.own.nr.symm hat).symm, (new_apart h.own.u h.own.ur.symm hat).symm⟩
  refine ⟨(far_one (by omega)).trans g1, ?_, (far_one (by omega)).trans g3', own_set hS g2 (by decide) (by decide), below_one g6 (by omega)⟩
  unfold MsgAt
  rw [heap_setCell_same _ _ (11 + s) _ _ _ g2, ← hl]
  match s, hs with
  | 0, _ => rfl
  | 1, _ => rfl
  | 2, _ => rfl
/-- the three boxes made -/
theorem rst_start (w : World) : RSt w.heap.size w (((w.alloc (.cells (cellsM noP noM) 37)).alloc (.cells (cellsM noP noM) 37)).alloc (.cells (cellsM noP noM) 37)) noP noM := by
  have s1 : ∀ (w : World) o, (w.alloc o).heap.size = w.heap.size + 1 := fun w o => by simp
  refine ⟨?_, ?_, ?_, Own4.none _ _, (((Below.refl w.heap.size w).alloc (Nat.le_refl _) _).alloc (by rw [s1]; omega) _).alloc (by rw [s1, s1]; omega) _⟩
  · exact (heap_alloc_old _ _ (by rw [s1, s1]; omega)).trans ((heap_alloc_old _ _ (by rw [s1]; omega)).trans (heap_alloc_new _ _))
  · have h := heap_alloc_new (w.alloc (.cells (cellsM noP noM) 37)) (.cells (cellsM noP noM) 37)
    rw [s1] at h
    exact (heap_alloc_old _ _ (by rw [s1, s1]; omega)).trans h
  · have h := heap_alloc_new ((w.alloc (.cells (cellsM noP noM) 37)).alloc (.cells (cellsM noP noM) 37)) (.cells (cellsM noP noM) 37)
    rw [s1, s1] at h
    exact h
end
/-- a box read as the result -/
theorem res_read {w : World} {B : Nat} {p : Pl} {m : Mg} {x y : Value} (tmps : Array Value) (h2 : tmps[2]?.getD undef = .pointer (some ⟨B, 0, none⟩)) (h3 : tmps[3]?.getD undef = x) (h4 : tmps[4]?.getD undef = y) (hM : MsgAt w B p m) :
    (results Try.f27 tmps).run Try.prog w = .ok (.tuple #[.agg (cellsM p m), x, y]) w := by
  have b := hM.box
  simp [results, Try.results27, h2, h3, h4, asAddr, go_sem, b.c0, b.c1, b.c2, b.c3, b.c4, b.c5, b.c6, b.c7, b.c8, b.c9, b.c10, b.c11, b.c12, b.c13, cellsM]
theorem fin {b0 : Nat} {w0 w1 : World} {p : Pl} {m : Mg} {r : Mg × Nat × Int} {x y : Value} (tmps : Array Value) (h2 : tmps[2]?.getD undef = .pointer (some ⟨b0, 0, none⟩)) (h3 : tmps[3]?.getD undef = x) (h4 : tmps[4]?.getD undef = y) (hM : MsgAt w1 b0 p m) (hr : r.1 = m) (hx : x = .int .i64 (r.2.1 : Int)) (hy : y = .int .i64 r.2.2) (ho : Own4 b0 w1 p m) (hB : Below b0 w0 w1) :
    bodyPost Try.prog Try.f27 (UnpE b0 w0 r) .ret { tmps := tmps, defers := [] } w1 := by
  subst hr; subst hx; subst hy
  exact bodyPost_ret (v := .tuple #[.agg (cellsM p r.1), .int .i64 (r.2.1 : Int), .int .i64 r.2.2]) (res_read tmps h2 h3 h4 hM) rfl ⟨p, rfl, ho, hB⟩
end Go.Proofs.Ytabhiangjomaeaa.rust
namespace Go.Proofs.Ytabhiangjomaeaa.rum
open Go.RowKit Go.Proofs.Ytabhiangjomaeaa.kit Go.Proofs.Ytabhiangjomaeaa.nspec Go.Proofs.Ytabhiangjomaeaa.unpP Go.Proofs.Ytabhiangjomaeaa.wireP Go.Proofs.Ytabhiangjomaeaa.wireM Go.Proofs.Ytabhiangjomaeaa.wireC Go.Proofs.Ytabhiangjomaeaa.wpack Go.Proofs.Ytabhiangjomaeaa.rows Go.Proofs.Ytabhiangjomaeaa.cur Go.Proofs.Ytabhiangjomaeaa.putM Go.Proofs.Ytabhiangjomaeaa.ust Go.Proofs.Ytabhiangjomaeaa.uend Go.Proofs.Ytabhiangjomaeaa.rust Go.Proofs.Ytabhiangjomaeaa.rread Go.Proofs.Ytabhiangjomaeaa.unpack
set_option linter.unusedVariables false

theorem cut_two {b : Bs} {j : Nat} (h : j + 2 ≤ b.length) : cutB b j (j + 2) = [b.getD j 0, b.getD (j + 1) 0] := by
  rw [show j + 2 = j + 1 + 1 from rfl, cut_head b j 1 (by omega), show j + 1 + 1 = (j + 1) + 1 + 0 from rfl, cut_head b (j + 1) 0 (by omega)]
  unfold cutB; simp
theorem val_two {b : Bs} {j : Nat} (h : j + 2 ≤ b.length) (w : World) : Calls Try.prog 66 #[.string (mkB (cutB b j (j + 2)))] w fun e w' => e = .returned (.int .i64 (num2 b j : Int)) ∧ w' = w :=
  (val.rvalue_any _ w (by rw [cut_two h]; unfold mkB; rw [mk_size]; simp)).mono fun e w' ⟨h1, h2⟩ => ⟨by rw [h1, cut_two h]; simp [mkB, val.valL, num2, atB], h2.symm⟩
def boxes3 (w : World) : World := ((w.alloc (.cells (cellsM noP noM) 37)).alloc (.cells (cellsM noP noM) 37)).alloc (.cells (cellsM noP noM) 37)
set_option maxRecDepth 100000 in
set_option maxHeartbeats 4000000 in
theorem rum_big (a : Option Addr) (b : Bs) (cap : Nat) (w : World) (hi : In0 w.heap.size w a b cap) (h : 65535 < b.length) :
    Calls Try.prog 27 #[.slice a b.length cap] w (UnpE w.heap.size w (unpackS b)) := by
  have hr : unpackS b = (noM, 0, 12) := by unfold unpackS; rw [if_pos h]
  rw [hr]
  have hst := rst_start w
  have hle := hi.le; have hcm := hi.cm
  unfold maxLen at hcm
  obtain ⟨L, hL⟩ : ∃ L, b.length = L := ⟨_, rfl⟩
  rw [hL] at h hle ⊢
  have hLi : (65535 : Int) < (L : Int) := by omega
  clear hL
  obtain ⟨b0, hb0⟩ : ∃ b0, w.heap.size = b0 := ⟨_, rfl⟩
  obtain ⟨W, hW⟩ : ∃ W, boxes3 w = W := ⟨_, rfl⟩
  have hst' : RSt w.heap.size w (boxes3 w) noP noM := hst
  rw [hW, hb0] at hst'
  rw [hb0]
  have HST := Lib.hid hst'; have HW := Lib.hid hW
  have hN := hst'.non; have hZ := hst'.res
  clear hst hst' hW hr
  go_enter Try.func27, Try.ntmps27
  go_upto_region 2 with fail
  change Code.wp _ _ _ _ (boxes3 w)
  rw [HW.out]
  go_wp2_with (first | (refine wpList_load_row rfl 37 _ rfl (b0 + 2) rfl 37 _ _ _ hN Try.underlying37 rfl (by rw [infoMsg]; rfl) ?_) | (refine wpList_store_self rfl 37 _ _ rfl b0 _ rfl rfl 37 hZ (by rw [infoMsg]; rfl) (cells_all _ _) ?_))
  exact fin _ rfl rfl rfl HST.out.res rfl rfl rfl (Own4.none _ _) HST.out.bel
set_option maxRecDepth 100000 in
set_option maxHeartbeats 4000000 in
theorem rum_few (a : Option Addr) (b : Bs) (cap : Nat) (w : World) (hi : In0 w.heap.size w a b cap) (h : b.length < 12) :
    Calls Try.prog 27 #[.slice a b.length cap] w (UnpE w.heap.size w (unpackS b)) := by
  have hr : unpackS b = (noM, b.length, 10) := by unfold unpackS; rw [if_neg (by omega), if_pos h]
  rw [hr]
  have hst := rst_start w
  have hle := hi.le; have hcm := hi.cm
  unfold maxLen at hcm
  obtain ⟨L, hL⟩ : ∃ L, b.length = L := ⟨_, rfl⟩
  rw [hL] at h hle ⊢
  have hLi : (L : Int) < 12 := by omega
  clear hL
  obtain ⟨b0, hb0⟩ : ∃ b0, w.heap.size = b0 := ⟨_, rfl⟩
  obtain ⟨W, hW⟩ : ∃ W, boxes3 w = W := ⟨_, rfl⟩
  have hst' : RSt w.heap.size w (boxes3 w) noP noM := hst
  rw [hW, hb0] at hst'
  rw [hb0]
  have HST := Lib.hid hst'; have HW := Lib.hid hW
  have hN := hst'.non; have hZ := hst'.res
  clear hst hst' hW hr
  go_enter Try.func27, Try.ntmps27
  go_upto_region 2 with fail
  change Code.wp _ _ _ _ (boxes3 w)
  rw [HW.out]
  go_wp2_with (first | (refine wpList_load_row rfl 37 _ rfl (b0 + 2) rfl 37 _ _ _ hN Try.underlying37 rfl (by rw [infoMsg]; rfl) ?_) | (refine wpList_store_self rfl 37 _ _ rfl b0 _ rfl rfl 37 hZ (by rw [infoMsg]; rfl) (cells_all _ _) ?_))
  exact fin _ rfl rfl rfl HST.out.res rfl rfl rfl (Own4.none _ _) HST.out.bel
set_option maxRecDepth 100000 in
set_option maxHeartbeats 4000000 in
theorem rum_form (a : Option Addr) (b : Bs) (cap : Nat) (w : World) (hi : In0 w.heap.size w a b cap) (h : ¬ 65535 < b.length) (h12 : ¬ b.length < 12) (h3 : atB b 3 / 64 % 2 = 1) :
    Calls Try.prog 27 #[.slice a b.length cap] w (UnpE w.heap.size w (unpackS b)) := by
  have hr : unpackS b = (noM, 2, 8) := by unfold unpackS; rw [if_neg h, if_neg h12, if_pos h3]
  rw [hr]
  have hst := rst_start w
  have hle := hi.le; have hcm := hi.cm
  unfold maxLen at hcm
  obtain ⟨c0, hc0, _⟩ := atB_some (b := b) (k := 0) (by omega)
  obtain ⟨g, o, rfl, _⟩ := hi.rd 0 c0 hc0
  have hrdW := rdB_below hi.rd hst.bel
  have hv2 : num2 b 2 / 64 % 2 = 1 := by show (atB b 2 * 256 + atB b 3) / 64 % 2 = 1; have := atB_lt b 3; omega
  have hvl : num2 b 2 ≤ 65535 := crec.num2_le b 2
  have CV := Lib.hid (fun w => val_two (b := b) (j := 2) (by omega) w)
  have l2 := fun w' => rsl.run_slice2 g o b.length cap 2 4 2 2 4 rfl rfl rfl (by omega) (by omega) w'
  have q2 : ∀ w', Below w.heap.size w w' → (convert 39 9 (.slice (some ⟨g, o + 2, none⟩) 2 (cap - 2))).run Try.prog w' = .ok (.string (mkB (cutB b 2 4))) w' := fun w' hB => cut_string (rdB_below hi.rd hB) 2 2 (cap - 2) (by omega)
  obtain ⟨S2, hS2⟩ : ∃ S, mkB (cutB b 2 4) = S := ⟨_, rfl⟩
  rw [hS2] at q2
  rw [show 2 + 2 = 4 from rfl, hS2] at CV
  have q2b := q2 (boxes3 w) hst.bel
  obtain ⟨v, hv⟩ : ∃ v, num2 b 2 = v := ⟨_, rfl⟩
  rw [hv] at CV hv2 hvl
  have hd2 : (v : Int) / 64 % 2 = 1 := by omega
  have hdb : ((v : Int) / 64 % 2 == 1) = true := by rw [hd2]; rfl
  have hdt : (v : Int).tdiv 64 = (v : Int) / 64 := Int.tdiv_eq_ediv_of_nonneg (by omega)
  have hdm : ((v : Int) / 64).tmod 2 = (v : Int) / 64 % 2 := Int.tmod_eq_emod_of_nonneg (by omega)
  obtain ⟨L, hL⟩ : ∃ L, b.length = L := ⟨_, rfl⟩
  rw [hL] at h h12 hle l2 ⊢
  have hLi : (12 : Int) ≤ (L : Int) := by omega
  have hLj : (L : Int) ≤ 65535 := by omega
  have hcap : (12 : Int) ≤ (cap : Int) := by omega
  have hcap4 : 4 ≤ cap := by omega
  have hcap2 : ¬ cap = 2 := by omega
  clear hL q2 hc0 hrdW h3 hS2 hv
  obtain ⟨b0, hb0⟩ : ∃ b0, w.heap.size = b0 := ⟨_, rfl⟩
  obtain ⟨W, hW⟩ : ∃ W, boxes3 w = W := ⟨_, rfl⟩
  have hst' : RSt w.heap.size w (boxes3 w) noP noM := hst
  rw [hW, hb0] at hst'
  rw [hb0]
  have HST := Lib.hid hst'; have HW := Lib.hid hW
  have hN := hst'.non; have hZ := hst'.res
  clear hst hst' hW hr
  go_enter Try.func27, Try.ntmps27
  go_upto_region 2 with fail
  change Code.wp _ _ _ _ (boxes3 w)
  rw [HW.out]
  rw [HW.out] at q2b
  go_wp2_with fail
  refine (CV.out _).mono ?_
  rintro e w1 ⟨rfl, rfl⟩
  go_upto_region 7 with fail
  go_wp2_with (first | (refine wpList_load_row rfl 37 _ rfl (b0 + 2) rfl 37 _ _ _ hN Try.underlying37 rfl (by rw [infoMsg]; rfl) ?_) | (refine wpList_store_self rfl 37 _ _ rfl b0 _ rfl rfl 37 hZ (by rw [infoMsg]; rfl) (cells_all _ _) ?_))
  exact fin _ rfl rfl rfl HST.out.res rfl rfl rfl (Own4.none _ _) HST.out.bel
end Go.Proofs.Ytabhiangjomaeaa.rum
