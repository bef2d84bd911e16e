/- slices.Delete of one record: walk. wire.Fit's memory on the way. -/
import Derived.Test.YtabhiangjomaeaaW32
import Derived.Test.YtabhiangjomaeaaW31
import Derived.Test.YtabhiangjomaeaaU27
import Derived.Test.YtabhiangjomaeaaU30
import Derived.Deep.RegionLaw
import Derived.Sort.WalkB12
import Derived.Lib.SliceRun
namespace Go.Proofs.Ytabhiangjomaeaa.delete
open Go.RowKit Go.Proofs.Ytabhiangjomaeaa.kit Go.Proofs.Ytabhiangjomaeaa.timed Go.Proofs.Ytabhiangjomaeaa.nspec Go.Proofs.Ytabhiangjomaeaa.wireP Go.Proofs.Ytabhiangjomaeaa.wireM Go.Proofs.Ytabhiangjomaeaa.wpack Go.Proofs.Ytabhiangjomaeaa.rows Go.Proofs.Ytabhiangjomaeaa.putM Go.Proofs.Ytabhiangjomaeaa.ust Go.Proofs.Ytabhiangjomaeaa.markP
set_option linter.unusedVariables false

theorem rec_size : (Try.prog.info? 52).map (·.size) = some 5 := by kernel_rfl
theorem sl_to (g n cap k : Nat) (h : k ≤ cap) (w : World) : Sem.run Try.prog (Instr.slice 35 (.slice (some ⟨g, 0, none⟩) n cap) none (some (.int .i64 (k : Int))) none) w = .ok (.slice (some ⟨g, 0, none⟩) k cap) w := by
  have hu := Try.underlying35
  obtain ⟨i, hi1, hi2⟩ := Option.map_eq_some_iff.1 rec_size
  by_cases h0 : cap = 0
  · have : k = 0 := by omega
    subst this; subst h0
    simp [Instr.slice, Instr.sliceBounds, Instr.sliceBound, asIntOf, run_underlying hu, go_sem]
  · simp [Instr.slice, Instr.sliceBounds, Instr.sliceBound, asIntOf, run_underlying hu, go_sem, h, sizeOf, typeInfo, hi1]
def fromA (g cap j : Nat) : Addr := if cap = j then ⟨g, 0, none⟩ else ⟨g, j * 5, none⟩
theorem sl_from (g n cap j m : Nat) (h : j + m = n) (hn : n ≤ cap) (a : Int) (ha : a = (j : Int)) (w : World) : Sem.run Try.prog (Instr.slice 35 (.slice (some ⟨g, 0, none⟩) n cap) (some (.int .i64 a)) none none) w = .ok (.slice (some (fromA g cap j)) m (cap - j)) w := by
  subst ha
  have hu := Try.underlying35
  obtain ⟨i, hi1, hi2⟩ := Option.map_eq_some_iff.1 rec_size
  unfold fromA
  have hjn : j ≤ n := by omega
  have hm : n - j = m := by omega
  by_cases h0 : cap = j
  · have hnj : n = j := by omega
    have : m = 0 := by omega
    subst hnj; subst h0; subst this
    simp [Instr.slice, Instr.sliceBounds, Instr.sliceBound, asIntOf, run_underlying hu, go_sem, sizeOf, typeInfo, hi1]
  · simp [Instr.slice, Instr.sliceBounds, Instr.sliceBound, asIntOf, run_underlying hu, go_sem, hjn, hm, h0, sizeOf, typeInfo, hi1, hi2]
theorem sl_three (g n cap k : Nat) (h : k < n) (hn : n ≤ cap) (a : Int) (ha : a = (k : Int) + 1) (w : World) : Sem.run Try.prog (Instr.slice 35 (.slice (some ⟨g, 0, none⟩) n cap) (some (.int .i64 (k : Int))) (some (.int .i64 a)) (some (.int .i64 (n : Int)))) w = .ok (.slice (some ⟨g, k * 5, none⟩) 1 (n - k)) w := by
  subst ha
  have hu := Try.underlying35
  obtain ⟨i, hi1, hi2⟩ := Option.map_eq_some_iff.1 rec_size
  have h1 : ¬ n = k := by omega
  have h2 : (k : Int) + 1 ≤ (n : Int) := by omega
  have h3 : k + 1 ≤ n := by omega
  have h4 : k ≤ n := by omega
  have h5 : (0 : Int) ≤ (k : Int) + 1 := by omega
  simp [Instr.slice, Instr.sliceBounds, Instr.sliceBound, asIntOf, run_underlying hu, go_sem, h1, h2, h5, hn, sizeOf, typeInfo, hi1, hi2]
theorem sl_last (g n cap : Nat) (hn : n + 1 ≤ cap) (a : Int) (ha : a = (n : Int) + 1) (w : World) : Sem.run Try.prog (Instr.slice 35 (.slice (some ⟨g, 0, none⟩) n cap) (some (.int .i64 (n : Int))) (some (.int .i64 a)) none) w = .ok (.slice (some ⟨g, n * 5, none⟩) 1 (cap - n)) w := by
  subst ha
  have hu := Try.underlying35
  obtain ⟨i, hi1, hi2⟩ := Option.map_eq_some_iff.1 rec_size
  have h1 : ¬ cap = n := by omega
  have h5 : (0 : Int) ≤ (n : Int) + 1 := by omega
  have h6 : (n : Int) + 1 ≤ (cap : Int) := by omega
  have h4 : n ≤ cap := by omega
  simp [Instr.slice, Instr.sliceBounds, Instr.sliceBound, asIntOf, run_underlying hu, go_sem, h1, h5, h6, sizeOf, typeInfo, hi1, hi2]
def zeros : List Value := [.string ⟨#[]⟩, .int .i64 0, .int .i64 0, .int .i64 0, .string ⟨#[]⟩]
theorem zero_rec (w : World) : (zeroValue 52).run Try.prog w = .ok (.agg zeros.toArray) w := by
  obtain ⟨i0, hif, hz0, hz1, hz2⟩ := info_parts infoRec
  simp [zeroValue, typeInfo, hif, hz0, zeros]
  rfl
theorem run_clear (w : World) (ty : TypeId) (b o c : Nat) (ht : w.there b o 5) : (Builtin.clear_ #[35] ty #[.slice (some ⟨b, o, none⟩) 1 c]).run Try.prog w = .ok (.tuple #[]) (w.setCells b o zeros) := by
  have hu := Try.underlying35
  have hst := run_storeCells_cells (P := Try.prog) b o zeros 0 w (fun j hj => (ht j hj).1) (fun j hj => (ht j hj).2) (by intro v hv; simp [zeros] at hv; rcases hv with rfl | rfl | rfl | rfl | rfl <;> rfl)
  have hz : (Builtin.zeroCells (Value.agg #[.string ⟨#[]⟩, .int .i64 0, .int .i64 0, .int .i64 0, .string ⟨#[]⟩]).cells 1).toList = zeros := by simp [Builtin.zeroCells, Value.cells, zeros, List.range_succ]
  simp only [Nat.add_zero] at hst
  simp [Builtin.clear_, run_underlying hu, hz, hst]
theorem putL_mid (A B C vs : List Value) (h : B.length = vs.length) : putL (A ++ (B ++ C)) A.length vs = A ++ (vs ++ C) := by
  have h1 := putL_skip A vs (B ++ C) 0
  rw [Nat.add_zero, putL_head vs B C h] at h1
  exact h1
theorem own_shrink {w : World} {base size g n cap : Nat} {e : TypeId} {xs : List Value} (h : w.ownsRow base e size (.slice (some ⟨g, 0, none⟩) n cap) n xs) (n' : Nat) (hn : n' ≤ n) : w.ownsRow base e size (.slice (some ⟨g, 0, none⟩) n' cap) n' (xs.take (n' * size)) := by
  rcases h.2 with ⟨h', _⟩ | ⟨g', cap', cur, h', hb, hg, hnc, hcm, hcs, htake⟩
  · cases h'
  · cases h'
    have hle : n' * size ≤ n * size := Nat.mul_le_mul_right _ hn
    refine ⟨by rw [List.length_take, h.1]; omega, .inr ⟨g, cap, cur, rfl, hb, hg, by omega, hcm, hcs, ?_⟩⟩
    rw [← htake, List.take_take, Nat.min_eq_left hle]
theorem erase_flat (L : List Rc) (k : Nat) : (L.eraseIdx k).flatMap Rc.cells = (L.take k).flatMap Rc.cells ++ (L.drop (k + 1)).flatMap Rc.cells := by
  rw [List.eraseIdx_eq_take_drop_succ, List.flatMap_append]
theorem grown_trans {a b c : World} {r : Option Nat} (h : a.grownBy b r) (h' : b.grownBy c r) : a.grownBy c r :=
  ⟨h'.os.trans h.os, h'.tape.trans h.tape, h'.output.trans h.output, Nat.le_trans h.size h'.size, fun k hk hn => (h'.block k (Nat.lt_of_lt_of_le hk h.size) hn).trans (h.block k hk hn)⟩
set_option maxRecDepth 100000 in
set_option maxHeartbeats 8000000 in
theorem delete_rec (base g cap k q : Nat) (L : List Rc) (w : World) (hL : L.length = k + q + 1) (ho : w.ownsRow base 52 5 (.slice (some ⟨g, 0, none⟩) (k + q + 1) cap) (k + q + 1) (L.flatMap Rc.cells)) (hb : k + q ≤ 1099511627776) :
    Calls Try.prog 72 #[.slice (some ⟨g, 0, none⟩) (k + q + 1) cap, .int .i64 (k : Int), .int .i64 ((k : Int) + 1)] w fun e w' => e = .returned (.slice (some ⟨g, 0, none⟩) (k + q) cap) ∧ w'.ownsRow base 52 5 (.slice (some ⟨g, 0, none⟩) (k + q) cap) (k + q) ((L.eraseIdx k).flatMap Rc.cells) ∧ w.grownBy w' (some g) := by
  obtain ⟨i0, hif, hz0, hz1, hz2⟩ := info_parts infoRec
  obtain ⟨g', cap', e1, _, hgl, hcells, hfroz, _⟩ := own_at ho (by omega)
  cases e1
  have hncm : k + q + 1 ≤ cap ∧ cap ≤ maxLen := by
    rcases ho.2 with ⟨h', _⟩ | ⟨_, _, _, h', _, _, h1, h2, _⟩
    · cases h'
    · cases h'; exact ⟨h1, h2⟩
  obtain ⟨hnc, hcm⟩ := hncm
  unfold maxLen at hcm
  obtain ⟨news, hnews⟩ : ∃ news, news = (L.drop (k + 1)).flatMap Rc.cells := ⟨_, rfl⟩
  have hlen : news.length = q * 5 := by rw [hnews, flat_len Rc.cells 5 (fun _ => rfl), List.length_drop, hL]; congr 1; omega
  have hsrc : Hid (∀ t u, news[t]? = some u → w.drew.cell? ((fromA g cap (k + 1)).add t) = some u) := Lib.hid (by
    intro t u hu
    have ht : t < q * 5 := by rw [← hlen]; exact (List.getElem?_eq_some_iff.1 hu).1
    unfold fromA
    rw [if_neg (by omega), addr_at]
    show w.cell? _ = some u
    have h1 := ho.cells (g := g) rfl ((k + 1) * 5 + t) u (by
      rw [← List.take_append_drop (k + 1) L, List.flatMap_append, List.getElem?_append_right (by rw [flat_len Rc.cells 5 (fun _ => rfl), List.length_take, hL]; omega), flat_len Rc.cells 5 (fun _ => rfl), List.length_take, hL, Nat.min_eq_left (by omega), Nat.add_sub_cancel_left, ← hnews]
      exact hu)
    rw [addr_at, Nat.zero_add] at h1; exact h1)
  have s2 : Hid (∀ u ∈ news, u.oneCell' = true) := Lib.hid (by rw [hnews]; exact one_cells rec_one)
  have s3 : Hid (∀ t, t < news.length → (w.drew.cell? ⟨g, 0 + k * 5 + t, none⟩).isSome = true ∧ w.drew.frozen? ⟨g, 0 + k * 5 + t, none⟩ = false) := Lib.hid (by
    intro t ht
    rw [hlen] at ht
    rw [Nat.zero_add]
    obtain ⟨u, hu⟩ := hcells (k * 5 + t) (by omega)
    exact ⟨by show (w.cell? _).isSome = true; rw [hu]; rfl, hfroz _⟩)
  have hod : w.drew.ownsRow base 52 5 (.slice (some ⟨g, 0, none⟩) (k + q + 1) cap) (k + q + 1) (L.flatMap Rc.cells) := ho.drew
  obtain ⟨W1, hW1⟩ : ∃ W1, W1 = w.drew.setCells g (0 + k * 5) news := ⟨_, rfl⟩
  obtain ⟨C, hC⟩ : ∃ C, (L.drop k).flatMap Rc.cells = ((L.drop k).flatMap Rc.cells).take (q * 5) ++ C := ⟨_, (List.take_append_drop _ _).symm⟩
  have hBl : (((L.drop k).flatMap Rc.cells).take (q * 5)).length = news.length := by
    rw [List.length_take, flat_len Rc.cells 5 (fun _ => rfl), List.length_drop, hL, hlen]; omega
  have hAl : ((L.take k).flatMap Rc.cells).length = k * 5 := by rw [flat_len Rc.cells 5 (fun _ => rfl), List.length_take, hL, Nat.min_eq_left (by omega)]
  have hsplit : L.flatMap Rc.cells = (L.take k).flatMap Rc.cells ++ (((L.drop k).flatMap Rc.cells).take (q * 5) ++ C) := by
    rw [← hC, ← List.flatMap_append, List.take_append_drop]
  have h1 := own_putL news (k * 5) w.drew _ hod
  rw [show putL (L.flatMap Rc.cells) (k * 5) news = (L.take k).flatMap Rc.cells ++ (news ++ C) from by rw [hsplit, ← hAl]; exact putL_mid _ _ _ _ hBl] at h1
  rw [Nat.zero_add] at hW1
  rw [← hW1] at h1
  have hCl : C.length = 5 := by
    have e1 := congrArg List.length hsplit
    rw [flat_len Rc.cells 5 (fun _ => rfl), hL, List.length_append, List.length_append, hAl, hBl, hlen] at e1
    omega
  have hth : W1.there g ((k + q) * 5) 5 := own_there h1.1 (k + q) (by omega)
  have hcl := fun ty => run_clear W1 ty g ((k + q) * 5) (cap - (k + q)) hth
  have h2 := own_putL zeros ((k + q) * 5) W1 _ h1.1
  rw [show putL ((L.take k).flatMap Rc.cells ++ (news ++ C)) ((k + q) * 5) zeros = ((L.take k).flatMap Rc.cells ++ news) ++ (zeros ++ []) from by
    have hl2 : ((L.take k).flatMap Rc.cells ++ news).length = (k + q) * 5 := by rw [List.length_append, hAl, hlen]; omega
    rw [← hl2, ← List.append_assoc, ← List.append_nil C]
    exact putL_mid _ _ _ _ (by rw [hCl]; rfl)] at h2
  have h3 := own_shrink h2.1 (k + q) (by omega)
  rw [List.take_append_of_le_length (by rw [List.length_append, hAl, hlen]; omega), List.take_of_length_le (by rw [List.length_append, hAl, hlen]; omega), hnews, ← erase_flat] at h3
  have HO := Lib.hid h3
  have HG : Hid (w.grownBy (W1.setCells g ((k + q) * 5) zeros) (some g)) := Lib.hid (grown_trans (r := some g) ⟨h1.2.os, h1.2.tape, h1.2.output, h1.2.size, h1.2.block⟩ h2.2)
  have hW : Hid (W1 = w.drew.setCells g (0 + k * 5) news) := Lib.hid (by rw [Nat.zero_add]; exact hW1)
  have s1 : Hid (news.length = q * 5) := Lib.hid hlen
  have l3 := fun w' => sl_three g (k + q + 1) cap k (by omega) hnc ((k : Int) + 1) rfl w'
  have l5a := fun w' => sl_to g (k + q + 1) cap k (by omega) w'
  have l5b := fun w' => sl_from g (k + q + 1) cap (k + 1) q (by omega) hnc ((k : Int) + 1) (by omega) w'
  have l6 := fun w' => sl_last g (k + q) cap hnc ((k : Int) + (q : Int) + 1) (by omega) w'
  clear ho hod h1 h2 h3 hC hBl hAl hsplit hCl hth hW1 hnews hlen hcells hfroz
  have mixed : Try.prog.follows Departure.mixedOrders = true := by kernel_rfl
  go_enter Try.func72, Try.ntmps72
  trace "1"
  go_wp2_with fail
  trace "5"
  go_region_law_o (refine step_append_room rfl (.tmp 22) (.tmp 25) 35 rfl 52 i0 5 Try.underlying35 hif hz1 g 0 k cap (by simp [Act.eval, Act.put]) (fromA g cap (k + 1)) q (cap - (k + 1)) news (by simp [Act.eval, Act.put]) s1.out hsrc.out s2.out (by omega) s3.out ?_; rw [← hW.out])
  trace "6"
  go_wp2_with fail
  go_ret
  exact ⟨rfl, HO.out, HG.out⟩
end Go.Proofs.Ytabhiangjomaeaa.delete
namespace Go.Proofs.Ytabhiangjomaeaa.fitM
open Go.RowKit Go.Proofs.Ytabhiangjomaeaa.kit Go.Proofs.Ytabhiangjomaeaa.timed Go.Proofs.Ytabhiangjomaeaa.nspec Go.Proofs.Ytabhiangjomaeaa.wireP Go.Proofs.Ytabhiangjomaeaa.wireM Go.Proofs.Ytabhiangjomaeaa.wireC Go.Proofs.Ytabhiangjomaeaa.packP Go.Proofs.Ytabhiangjomaeaa.unpP Go.Proofs.Ytabhiangjomaeaa.wpack Go.Proofs.Ytabhiangjomaeaa.rows Go.Proofs.Ytabhiangjomaeaa.putM Go.Proofs.Ytabhiangjomaeaa.ust Go.Proofs.Ytabhiangjomaeaa.uend Go.Proofs.Ytabhiangjomaeaa.markP Go.Proofs.Ytabhiangjomaeaa.fitP Go.Proofs.Ytabhiangjomaeaa.sameM
set_option linter.unusedVariables false

def noP : Pl := ⟨none, 0, none, 0, none, 0, none, 0⟩
structure FSt (b0 : Nat) (w0 wr : World) (limit : Int) (pl : Pl) (m : Mg) : Prop where
  msg : MsgAt wr b0 pl m
  lim : wr.heap[b0 + 1]? = some (.cells #[.int .i64 limit] 3 (0, 0))
  res : MsgAt wr (b0 + 2) noP noM
  own : Own4 b0 wr pl m
  bel : Below b0 w0 wr
section
variable {b0 : Nat} {w0 wr w1 : World} {limit : Int} {pl : Pl} {m : Mg}
theorem FSt.below (h : FSt b0 w0 wr limit pl m) (hB : Below wr.heap.size wr w1) : FSt b0 w0 w1 limit pl m :=
  ⟨(hB.block _ (blk_lt h.msg)).trans h.msg, (hB.block _ (blk_lt h.lim)).trans h.lim, (hB.block _ (blk_lt h.res)).trans h.res, h.own.keep fun k c t hj _ => (hB.block k (blk_lt hj)).trans hj, h.bel.trans (hB.mono (by have := blk_lt h.msg; omega))⟩
theorem FSt.limC (h : FSt b0 w0 wr limit pl m) : wr.cell? ⟨b0 + 1, 0, none⟩ = some (.int .i64 limit) := by simp only [World.cell?, h.lim]; rfl
/-- the answers gone -/
theorem FSt.bare (h : FSt b0 w0 wr limit pl m) : FSt b0 w0 (((wr.setCell ⟨b0, 11, none⟩ (.slice none 0 0)).setCell ⟨b0, 12, none⟩ (.slice none 0 0)).setCell ⟨b0, 4, none⟩ (.bool true)) limit { pl with na := none, nc := 0, ua := none, uc := 0 } (fitP.bare m) := by
  have s1 := heap_setCell_same _ _ 11 _ _ (.slice none 0 0) h.msg
  have s2 := heap_setCell_same _ _ 12 _ _ (.slice none 0 0) s1
  have s3 := heap_setCell_same _ _ 4 _ _ (.bool true) s2
  have o := own_set (own_set (own_set h.own (i := 11) (v := .slice none 0 0) h.msg (by decide) (by decide)) (i := 12) (v := .slice none 0 0) s1 (by decide) (by decide)) (i := 4) (v := .bool true) s2 (by decide) (by decide)
  refine ⟨?_, (far_one (by omega)).trans ((far_one (by omega)).trans ((far_one (by omega)).trans h.lim)), (far_one (by omega)).trans ((far_one (by omega)).trans ((far_one (by omega)).trans h.res)), ⟨o.q, World.ownsRow_nil _ _ _ _, World.ownsRow_nil _ _ _ _, o.r, .none_l _, .none_l _, .none_l _⟩, below_one (below_one (below_one h.bel (Nat.le_refl _)) (Nat.le_refl _)) (Nat.le_refl _)⟩
  refine s3.trans ?_
  simp [cellsM, fitP.bare]
/-- a record gone -/
theorem FSt.less {g cap k n : Nat} (h : FSt b0 w0 wr limit pl m) (hra : pl.ra = some ⟨g, 0, none⟩) (hrc : pl.rc = cap) (hk : (m.ar.eraseIdx k).length = n)
    (ho : w1.ownsRow b0 52 5 (.slice (some ⟨g, 0, none⟩) n cap) n ((m.ar.eraseIdx k).flatMap Rc.cells)) (hgr : wr.grownBy w1 (some g)) :
    FSt b0 w0 (w1.setCell ⟨b0, 13, none⟩ (.slice (some ⟨g, 0, none⟩) n cap)) limit pl (fitP.less m k) := by
  subst hk
  have hgr' : wr.grownBy w1 (Value.slice (secA pl 2) m.ar.length (secC pl 2)).ownBlock := by
    show wr.grownBy w1 (Value.slice pl.ra _ _).ownBlock
    rw [hra]; exact hgr
  have ho4 := grown_own (s := 2) (n := m.ar.length) (L' := m.ar.eraseIdx k) (a' := some ⟨g, 0, none⟩) (c' := cap) (by decide) h.own hgr' rfl ho (fun g3 o q e => by
    cases e; left
    show (Value.slice pl.ra _ _).ownBlock = _
    rw [hra]; rfl)
  have epl : updP pl 2 (some ⟨g, 0, none⟩) cap = pl := by rw [← hra, ← hrc]; exact updP_self pl 2
  rw [epl] at ho4
  have hsec := h.own.r
  have ne : ∀ (j : Nat) (o : Obj), wr.heap[j]? = some o → (∀ c f, o ≠ .cells c 52 f) → w1.heap[j]? = some o := fun j o hj hn => (hgr'.block j (blk_lt hj) (row_neG hsec hj hn)).trans hj
  have m1 := ne _ _ h.msg (fun c' f e => by injection e with _ e2 _; exact absurd e2 (by decide))
  have l1 := ne _ _ h.lim (fun c' f e => by injection e with _ e2 _; exact absurd e2 (by decide))
  have r1 := ne _ _ h.res (fun c' f e => by injection e with _ e2 _; exact absurd e2 (by decide))
  have s1 := heap_setCell_same _ _ 13 _ _ (.slice (some ⟨g, 0, none⟩) (m.ar.eraseIdx k).length cap) m1
  refine ⟨?_, (far_one (by omega)).trans l1, (far_one (by omega)).trans r1, own_set ho4 (i := 13) m1 (by decide) (by decide), below_one (below_append' h.bel (by have := blk_lt h.msg; omega) hsec (by show wr.grownBy w1 (Value.slice pl.ra _ _).ownBlock; rw [hra]; exact hgr)) (Nat.le_refl _)⟩
  refine s1.trans ?_
  simp [cellsM, fitP.less, hra, hrc]
end
theorem FSt.delM {b0 g : Nat} {w0 wr w1 : World} {limit : Int} {pl : Pl} {m : Mg} (h : FSt b0 w0 wr limit pl m) (hra : pl.ra = some ⟨g, 0, none⟩) (hgr : wr.grownBy w1 (some g)) : MsgAt w1 b0 pl m := by
  have hgr' : wr.grownBy w1 (Value.slice pl.ra m.ar.length pl.rc).ownBlock := by rw [hra]; exact hgr
  exact (hgr'.block _ (blk_lt h.msg) (row_neG h.own.r h.msg (fun c' f e => by injection e with _ e2 _; exact absurd e2 (by decide)))).trans h.msg
theorem apart_new {w1 w2 : World} {t t' : TypeId} {z z' n n' c c' b : Nat} {a a' : Option Addr} {xs xs' : List Value} (hnew : w2.ownsRow w1.heap.size t z (.slice a n c) n xs) (hold : w1.ownsRow b t' z' (.slice a' n' c') n' xs') : Apart a a' := by
  intro x y hx hy e
  subst hx; subst hy
  rcases hnew.2 with ⟨e1, _⟩ | ⟨g, _, _, e1, hb, _⟩
  · cases e1
  · injection e1 with e1 _ _; injection e1 with e1; subst e1
    rcases hold.2 with ⟨e2, _⟩ | ⟨g', _, _, e2, _, hg', _⟩
    · cases e2
    · injection e2 with e2 _ _; injection e2 with e2; subst e2
      have := blk_lt hg'
      simp only at e; omega
theorem own_mono {w : World} {base base' : Nat} {e : TypeId} {size : Nat} {v : Value} {n : Nat} {xs : List Value} (h : w.ownsRow base e size v n xs) (hb : base' ≤ base) : w.ownsRow base' e size v n xs := by
  refine ⟨h.1, ?_⟩
  rcases h.2 with h1 | ⟨g, cap, cur, h1, h2, h3⟩
  · exact .inl h1
  · exact .inr ⟨g, cap, cur, h1, Nat.le_trans hb h2, h3⟩
theorem own_below {w1 w2 : World} {b z n : Nat} {t : TypeId} {v : Value} {xs : List Value} (h : w1.ownsRow b t z v n xs) (hB : Below w1.heap.size w1 w2) : w2.ownsRow b t z v n xs :=
  own_keptG h fun k c hc => (hB.block k (blk_lt hc)).trans hc
/-- the four lists copied -/
theorem fst_make {b0 : Nat} {w0 W : World} {limit : Int} {p : Pl} {m : Mg} {aq aN aU aR : Option Addr} {cq cN cU cR : Nat} (hm : MsgAt W b0 p m) (hl : W.heap[b0 + 1]? = some (.cells #[.int .i64 limit] 3 (0, 0))) (hr : MsgAt W (b0 + 2) noP noM) (hB : Below b0 w0 W)
    (hQ : W.ownsRow b0 50 3 (.slice aq m.qs.length cq) m.qs.length (m.qs.flatMap Qn.cells)) (hN : W.ownsRow b0 52 5 (.slice aN m.an.length cN) m.an.length (m.an.flatMap Rc.cells))
    (hU : W.ownsRow b0 52 5 (.slice aU m.au.length cU) m.au.length (m.au.flatMap Rc.cells)) (hR : W.ownsRow b0 52 5 (.slice aR m.ar.length cR) m.ar.length (m.ar.flatMap Rc.cells))
    (nu : Apart aN aU) (nr : Apart aN aR) (ur : Apart aU aR) :
    FSt b0 w0 ((((W.setCell ⟨b0, 10, none⟩ (.slice aq m.qs.length cq)).setCell ⟨b0, 11, none⟩ (.slice aN m.an.length cN)).setCell ⟨b0, 12, none⟩ (.slice aU m.au.length cU)).setCell ⟨b0, 13, none⟩ (.slice aR m.ar.length cR)) limit ⟨aq, cq, aN, cN, aU, cU, aR, cR⟩ m := by
  have s1 := heap_setCell_same _ _ 10 _ _ (.slice aq m.qs.length cq) hm
  have s2 := heap_setCell_same _ _ 11 _ _ (.slice aN m.an.length cN) s1
  have s3 := heap_setCell_same _ _ 12 _ _ (.slice aU m.au.length cU) s2
  have s4 := heap_setCell_same _ _ 13 _ _ (.slice aR m.ar.length cR) s3
  have o0 : Own4 b0 W ⟨aq, cq, aN, cN, aU, cU, aR, cR⟩ m := ⟨hQ, hN, hU, hR, nu, nr, ur⟩
  have o := own_set (own_set (own_set (own_set o0 (i := 10) (v := .slice aq m.qs.length cq) hm (by decide) (by decide)) (i := 11) (v := .slice aN m.an.length cN) s1 (by decide) (by decide)) (i := 12) (v := .slice aU m.au.length cU) s2 (by decide) (by decide)) (i := 13) (v := .slice aR m.ar.length cR) s3 (by decide) (by decide)
  refine ⟨?_, (far_one (by omega)).trans ((far_one (by omega)).trans ((far_one (by omega)).trans ((far_one (by omega)).trans hl))), (far_one (by omega)).trans ((far_one (by omega)).trans ((far_one (by omega)).trans ((far_one (by omega)).trans hr))), o, below_one (below_one (below_one (below_one hB (Nat.le_refl _)) (Nat.le_refl _)) (Nat.le_refl _)) (Nat.le_refl _)⟩
  refine s4.trans ?_
  simp [cellsM]
def boxesF (w : World) (p : Pl) (m : Mg) (limit : Int) : World := ((w.alloc (.cells (cellsM p m) 37)).alloc (.cells #[.int .i64 limit] 3)).alloc (.cells (cellsM noP noM) 37)
theorem boxesF_at (w : World) (p : Pl) (m : Mg) (limit : Int) : MsgAt (boxesF w p m limit) w.heap.size p m ∧ (boxesF w p m limit).heap[w.heap.size + 1]? = some (.cells #[.int .i64 limit] 3 (0, 0)) ∧ MsgAt (boxesF w p m limit) (w.heap.size + 2) noP noM ∧ Below w.heap.size w (boxesF w p m limit) := by
  have s1 : ∀ (w : World) o, (w.alloc o).heap.size = w.heap.size + 1 := fun w o => by simp
  refine ⟨?_, ?_, ?_, (((Below.refl w.heap.size w).alloc (Nat.le_refl _) _).alloc (by rw [s1]; omega) _).alloc (by rw [s1, s1]; omega) _⟩
  · exact (heap_alloc_old _ _ (by rw [s1, s1]; omega)).trans ((heap_alloc_old _ _ (by rw [s1]; omega)).trans (heap_alloc_new _ _))
  · have h := heap_alloc_new (w.alloc (.cells (cellsM p m) 37)) (.cells #[.int .i64 limit] 3)
    rw [s1] at h
    exact (heap_alloc_old _ _ (by rw [s1, s1]; omega)).trans h
  · have h := heap_alloc_new ((w.alloc (.cells (cellsM p m) 37)).alloc (.cells #[.int .i64 limit] 3)) (.cells (cellsM noP noM) 37)
    rw [s1, s1] at h
    exact h
def FitE (b0 : Nat) (w0 : World) (r : Mg × Int) (e : Ending) (w' : World) : Prop :=
  ∃ pl : Pl, e = .returned (.tuple #[.agg (cellsM pl r.1), .int .i64 r.2]) ∧ Own4 b0 w' pl r.1 ∧ Below b0 w0 w'
theorem res_read {w : World} {B : Nat} {p : Pl} {m : Mg} {y : Value} (tmps : Array Value) (h4 : tmps[4]?.getD undef = .pointer (some ⟨B, 0, none⟩)) (h5 : tmps[5]?.getD undef = y) (hM : MsgAt w B p m) :
    (results Try.f30 tmps).run Try.prog w = .ok (.tuple #[.agg (cellsM p m), y]) w := by
  have b := hM.box
  simp [results, Try.results30, h4, h5, asAddr, go_sem, b.c0, b.c1, b.c2, b.c3, b.c4, b.c5, b.c6, b.c7, b.c8, b.c9, b.c10, b.c11, b.c12, b.c13, cellsM]
theorem fin {b0 B : Nat} {w0 w1 : World} {p : Pl} {m : Mg} {r : Mg × Int} {y : Value} (tmps : Array Value) (h4 : tmps[4]?.getD undef = .pointer (some ⟨B, 0, none⟩)) (h5 : tmps[5]?.getD undef = y) (hM : MsgAt w1 B p m) (hr : r.1 = m) (hy : y = .int .i64 r.2) (ho : Own4 b0 w1 p m) (hB : Below b0 w0 w1) :
    bodyPost Try.prog Try.f30 (FitE b0 w0 r) .ret { tmps := tmps, defers := [] } w1 := by
  subst hr; subst hy
  exact bodyPost_ret (v := .tuple #[.agg (cellsM p r.1), .int .i64 r.2]) (res_read tmps h4 h5 hM) rfl ⟨p, rfl, ho, hB⟩
theorem ok_bare {m : Mg} (h : OkW m) : OkW (fitP.bare m) := ⟨fun x hx => (by cases hx), fun x hx => (by cases hx), h.r, h.ql, Nat.zero_le _, Nat.zero_le _, h.rl⟩
theorem ok_less {m : Mg} (h : OkW m) (k : Nat) : OkW (fitP.less m k) := ⟨h.n, h.u, fun x hx => h.r x (List.mem_of_mem_eraseIdx hx), h.ql, h.nl, h.ul, Nat.le_trans (List.length_eraseIdx_le _ _) h.rl⟩
theorem less_len (m : Mg) (k : Nat) : (fitP.less m k).ar.length ≤ m.ar.length := List.length_eraseIdx_le _ _
end Go.Proofs.Ytabhiangjomaeaa.fitM
