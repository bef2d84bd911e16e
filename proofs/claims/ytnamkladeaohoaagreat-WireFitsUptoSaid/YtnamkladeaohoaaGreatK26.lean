/- slices.Delete of one record: walk. -/
import Derived.Test.YtnamkladeaohoaaGreatK25
import Derived.Deep.RegionLaw
import Derived.Sort.WalkB12
import Derived.Lib.SliceRun
namespace Go.Proofs.YtnamkladeaohoaaGreat.delete
open Go.RowKit Go.Proofs.YtnamkladeaohoaaGreat.kit Go.Proofs.YtnamkladeaohoaaGreat.timed Go.Proofs.YtnamkladeaohoaaGreat.nspec Go.Proofs.YtnamkladeaohoaaGreat.wireP Go.Proofs.YtnamkladeaohoaaGreat.wireM Go.Proofs.YtnamkladeaohoaaGreat.wpack Go.Proofs.YtnamkladeaohoaaGreat.rows Go.Proofs.YtnamkladeaohoaaGreat.putM Go.Proofs.YtnamkladeaohoaaGreat.ust Go.Proofs.YtnamkladeaohoaaGreat.markP
set_option linter.unusedVariables false

theorem rec_size : (Tryz.prog.info? 43).map (·.size) = some 5 := by kernel_rfl
theorem sl_to (g n cap k : Nat) (h : k ≤ cap) (w : World) : Sem.run Tryz.prog (Instr.slice 23 (.slice (some ⟨g, 0, none⟩) n cap) none (some (.int .i64 (k : Int))) none) w = .ok (.slice (some ⟨g, 0, none⟩) k cap) w := by
  have hu := Tryz.underlying23
  obtain ⟨i, hi1, hi2⟩ := Option.map_eq_some_iff.1 rec_size
  by_cases h0 : cap = 0
  · have : k = 0 := by omega
    subst this; subst h0
    simp [Instr.slice, Instr.sliceBounds, Instr.sliceBound, asIntOf, run_underlying hu, go_sem]
  · simp [Instr.slice, Instr.sliceBounds, Instr.sliceBound, asIntOf, run_underlying hu, go_sem, h, sizeOf, typeInfo, hi1]
def fromA (g cap j : Nat) : Addr := if cap = j then ⟨g, 0, none⟩ else ⟨g, j * 5, none⟩
theorem sl_from (g n cap j m : Nat) (h : j + m = n) (hn : n ≤ cap) (a : Int) (ha : a = (j : Int)) (w : World) : Sem.run Tryz.prog (Instr.slice 23 (.slice (some ⟨g, 0, none⟩) n cap) (some (.int .i64 a)) none none) w = .ok (.slice (some (fromA g cap j)) m (cap - j)) w := by
  subst ha
  have hu := Tryz.underlying23
  obtain ⟨i, hi1, hi2⟩ := Option.map_eq_some_iff.1 rec_size
  unfold fromA
  have hjn : j ≤ n := by omega
  have hm : n - j = m := by omega
  by_cases h0 : cap = j
  · have hnj : n = j := by omega
    have : m = 0 := by omega
    subst hnj; subst h0; subst this
    simp [Instr.slice, Instr.sliceBounds, Instr.sliceBound, asIntOf, run_underlying hu, go_sem, sizeOf, typeInfo, hi1]
  · simp [Instr.slice, Instr.sliceBounds, Instr.sliceBound, asIntOf, run_underlying hu, go_sem, hjn, hm, h0, sizeOf, typeInfo, hi1, hi2]
theorem sl_three (g n cap k : Nat) (h : k < n) (hn : n ≤ cap) (a : Int) (ha : a = (k : Int) + 1) (w : World) : Sem.run Tryz.prog (Instr.slice 23 (.slice (some ⟨g, 0, none⟩) n cap) (some (.int .i64 (k : Int))) (some (.int .i64 a)) (some (.int .i64 (n : Int)))) w = .ok (.slice (some ⟨g, k * 5, none⟩) 1 (n - k)) w := by
  subst ha
  have hu := Tryz.underlying23
  obtain ⟨i, hi1, hi2⟩ := Option.map_eq_some_iff.1 rec_size
  have h1 : ¬ n = k := by omega
  have h2 : (k : Int) + 1 ≤ (n : Int) := by omega
  have h3 : k + 1 ≤ n := by omega
  have h4 : k ≤ n := by omega
  have h5 : (0 : Int) ≤ (k : Int) + 1 := by omega
  simp [Instr.slice, Instr.sliceBounds, Instr.sliceBound, asIntOf, run_underlying hu, go_sem, h1, h2, h5, hn, sizeOf, typeInfo, hi1, hi2]
theorem sl_last (g n cap : Nat) (hn : n + 1 ≤ cap) (a : Int) (ha : a = (n : Int) + 1) (w : World) : Sem.run Tryz.prog (Instr.slice 23 (.slice (some ⟨g, 0, none⟩) n cap) (some (.int .i64 (n : Int))) (some (.int .i64 a)) none) w = .ok (.slice (some ⟨g, n * 5, none⟩) 1 (cap - n)) w := by
  subst ha
  have hu := Tryz.underlying23
  obtain ⟨i, hi1, hi2⟩ := Option.map_eq_some_iff.1 rec_size
  have h1 : ¬ cap = n := by omega
  have h5 : (0 : Int) ≤ (n : Int) + 1 := by omega
  have h6 : (n : Int) + 1 ≤ (cap : Int) := by omega
  have h4 : n ≤ cap := by omega
  simp [Instr.slice, Instr.sliceBounds, Instr.sliceBound, asIntOf, run_underlying hu, go_sem, h1, h5, h6, sizeOf, typeInfo, hi1, hi2]
def zeros : List Value := [.string ⟨#[]⟩, .int .i64 0, .int .i64 0, .int .i64 0, .string ⟨#[]⟩]
theorem zero_rec (w : World) : (zeroValue 43).run Tryz.prog w = .ok (.agg zeros.toArray) w := by
  obtain ⟨i0, hif, hz0, hz1, hz2⟩ := info_parts infoRec
  simp [zeroValue, typeInfo, hif, hz0, zeros]
  rfl
theorem run_clear (w : World) (ty : TypeId) (b o c : Nat) (ht : w.there b o 5) : (Builtin.clear_ #[23] ty #[.slice (some ⟨b, o, none⟩) 1 c]).run Tryz.prog w = .ok (.tuple #[]) (w.setCells b o zeros) := by
  have hu := Tryz.underlying23
  have hst := run_storeCells_cells (P := Tryz.prog) b o zeros 0 w (fun j hj => (ht j hj).1) (fun j hj => (ht j hj).2) (by intro v hv; simp [zeros] at hv; rcases hv with rfl | rfl | rfl | rfl | rfl <;> rfl)
  have hz : (Builtin.zeroCells (Value.agg #[.string ⟨#[]⟩, .int .i64 0, .int .i64 0, .int .i64 0, .string ⟨#[]⟩]).cells 1).toList = zeros := by simp [Builtin.zeroCells, Value.cells, zeros, List.range_succ]
  simp only [Nat.add_zero] at hst
  simp [Builtin.clear_, run_underlying hu, hz, hst]
theorem putL_mid (A B C vs : List Value) (h : B.length = vs.length) : putL (A ++ (B ++ C)) A.length vs = A ++ (vs ++ C) := by
  have h1 := putL_skip A vs (B ++ C) 0
  rw [Nat.add_zero, putL_head vs B C h] at h1
  exact h1
theorem own_shrink {w : World} {base size g n cap : Nat} {e : TypeId} {xs : List Value} (h : w.ownsRow base e size (.slice (some ⟨g, 0, none⟩) n cap) n xs) (n' : Nat) (hn : n' ≤ n) : w.ownsRow base e size (.slice (some ⟨g, 0, none⟩) n' cap) n' (xs.take (n' * size)) := by
  rcases h.2 with ⟨h', _⟩ | ⟨g', cap', cur, h', hb, hg, hnc, hcm, hcs, htake⟩
  · cases h'
  · cases h'
    have hle : n' * size ≤ n * size := Nat.mul_le_mul_right _ hn
    refine ⟨by rw [List.length_take, h.1]; omega, .inr ⟨g, cap, cur, rfl, hb, hg, by omega, hcm, hcs, ?_⟩⟩
    rw [← htake, List.take_take, Nat.min_eq_left hle]
theorem erase_flat (L : List Rc) (k : Nat) : (L.eraseIdx k).flatMap Rc.cells = (L.take k).flatMap Rc.cells ++ (L.drop (k + 1)).flatMap Rc.cells := by
  rw [List.eraseIdx_eq_take_drop_succ, List.flatMap_append]
theorem grown_trans {a b c : World} {r : Option Nat} (h : a.grownBy b r) (h' : b.grownBy c r) : a.grownBy c r :=
  ⟨h'.os.trans h.os, h'.tape.trans h.tape, h'.output.trans h.output, Nat.le_trans h.size h'.size, fun k hk hn => (h'.block k (Nat.lt_of_lt_of_le hk h.size) hn).trans (h.block k hk hn)⟩
set_option maxRecDepth 100000 in
set_option maxHeartbeats 8000000 in
theorem delete_rec (base g cap k q : Nat) (L : List Rc) (w : World) (hL : L.length = k + q + 1) (ho : w.ownsRow base 43 5 (.slice (some ⟨g, 0, none⟩) (k + q + 1) cap) (k + q + 1) (L.flatMap Rc.cells)) (hb : k + q ≤ 1099511627776) :
    Calls Tryz.prog 36 #[.slice (some ⟨g, 0, none⟩) (k + q + 1) cap, .int .i64 (k : Int), .int .i64 ((k : Int) + 1)] w fun e w' => e = .returned (.slice (some ⟨g, 0, none⟩) (k + q) cap) ∧ w'.ownsRow base 43 5 (.slice (some ⟨g, 0, none⟩) (k + q) cap) (k + q) ((L.eraseIdx k).flatMap Rc.cells) ∧ w.grownBy w' (some g) := by
  obtain ⟨i0, hif, hz0, hz1, hz2⟩ := info_parts infoRec
  obtain ⟨g', cap', e1, _, hgl, hcells, hfroz, _⟩ := own_at ho (by omega)
  cases e1
  have hncm : k + q + 1 ≤ cap ∧ cap ≤ maxLen := by
    rcases ho.2 with ⟨h', _⟩ | ⟨_, _, _, h', _, _, h1, h2, _⟩
    · cases h'
    · cases h'; exact ⟨h1, h2⟩
  obtain ⟨hnc, hcm⟩ := hncm
  unfold maxLen at hcm
  obtain ⟨news, hnews⟩ : ∃ news, news = (L.drop (k + 1)).flatMap Rc.cells := ⟨_, rfl⟩
  have hlen : news.length = q * 5 := by rw [hnews, flat_len Rc.cells 5 (fun _ => rfl), List.length_drop, hL]; congr 1; omega
  have hsrc : Hid (∀ t u, news[t]? = some u → w.drew.cell? ((fromA g cap (k + 1)).add t) = some u) := Lib.hid (by
    intro t u hu
    have ht : t < q * 5 := by rw [← hlen]; exact (List.getElem?_eq_some_iff.1 hu).1
    unfold fromA
    rw [if_neg (by omega), addr_at]
    show w.cell? _ = some u
    have h1 := ho.cells (g := g) rfl ((k + 1) * 5 + t) u (by
      rw [← List.take_append_drop (k + 1) L, List.flatMap_append, List.getElem?_append_right (by rw [flat_len Rc.cells 5 (fun _ => rfl), List.length_take, hL]; omega), flat_len Rc.cells 5 (fun _ => rfl), List.length_take, hL, Nat.min_eq_left (by omega), Nat.add_sub_cancel_left, ← hnews]
      exact hu)
    rw [addr_at, Nat.zero_add] at h1; exact h1)
  have s2 : Hid (∀ u ∈ news, u.oneCell' = true) := Lib.hid (by rw [hnews]; exact one_cells rec_one)
  have s3 : Hid (∀ t, t < news.length → (w.drew.cell? ⟨g, 0 + k * 5 + t, none⟩).isSome = true ∧ w.drew.frozen? ⟨g, 0 + k * 5 + t, none⟩ = false) := Lib.hid (by
    intro t ht
    rw [hlen] at ht
    rw [Nat.zero_add]
    obtain ⟨u, hu⟩ := hcells (k * 5 + t) (by omega)
    exact ⟨by show (w.cell? _).isSome = true; rw [hu]; rfl, hfroz _⟩)
  have hod : w.drew.ownsRow base 43 5 (.slice (some ⟨g, 0, none⟩) (k + q + 1) cap) (k + q + 1) (L.flatMap Rc.cells) := ho.drew
  obtain ⟨W1, hW1⟩ : ∃ W1, W1 = w.drew.setCells g (0 + k * 5) news := ⟨_, rfl⟩
  obtain ⟨C, hC⟩ : ∃ C, (L.drop k).flatMap Rc.cells = ((L.drop k).flatMap Rc.cells).take (q * 5) ++ C := ⟨_, (List.take_append_drop _ _).symm⟩
  have hBl : (((L.drop k).flatMap Rc.cells).take (q * 5)).length = news.length := by
    rw [List.length_take, flat_len Rc.cells 5 (fun _ => rfl), List.length_drop, hL, hlen]; omega
  have hAl : ((L.take k).flatMap Rc.cells).length = k * 5 := by rw [flat_len Rc.cells 5 (fun _ => rfl), List.length_take, hL, Nat.min_eq_left (by omega)]
  have hsplit : L.flatMap Rc.cells = (L.take k).flatMap Rc.cells ++ (((L.drop k).flatMap Rc.cells).take (q * 5) ++ C) := by
    rw [← hC, ← List.flatMap_append, List.take_append_drop]
  have h1 := own_putL news (k * 5) w.drew _ hod
  rw [show putL (L.flatMap Rc.cells) (k * 5) news = (L.take k).flatMap Rc.cells ++ (news ++ C) from by rw [hsplit, ← hAl]; exact putL_mid _ _ _ _ hBl] at h1
  rw [Nat.zero_add] at hW1
  rw [← hW1] at h1
  have hCl : C.length = 5 := by
    have e1 := congrArg List.length hsplit
    rw [flat_len Rc.cells 5 (fun _ => rfl), hL, List.length_append, List.length_append, hAl, hBl, hlen] at e1
    omega
  have hth : W1.there g ((k + q) * 5) 5 := own_there h1.1 (k + q) (by omega)
  have hcl := fun ty => run_clear W1 ty g ((k + q) * 5) (cap - (k + q)) hth
  have h2 := own_putL zeros ((k + q) * 5) W1 _ h1.1
  rw [show putL ((L.take k).flatMap Rc.cells ++ (news ++ C)) ((k + q) * 5) zeros = ((L.take k).flatMap Rc.cells ++ news) ++ (zeros ++ []) from by
    have hl2 : ((L.take k).flatMap Rc.cells ++ news).length = (k + q) * 5 := by rw [List.length_append, hAl, hlen]; omega
    rw [← hl2, ← List.append_assoc, ← List.append_nil C]
    exact putL_mid _ _ _ _ (by rw [hCl]; rfl)] at h2
  have h3 := own_shrink h2.1 (k + q) (by omega)
  rw [List.take_append_of_le_length (by rw [List.length_append, hAl, hlen]; omega), List.take_of_length_le (by rw [List.length_append, hAl, hlen]; omega), hnews, ← erase_flat] at h3
  have HO := Lib.hid h3
  have HG : Hid (w.grownBy (W1.setCells g ((k + q) * 5) zeros) (some g)) := Lib.hid (grown_trans (r := some g) ⟨h1.2.os, h1.2.tape, h1.2.output, h1.2.size, h1.2.block⟩ h2.2)
  have hW : Hid (W1 = w.drew.setCells g (0 + k * 5) news) := Lib.hid (by rw [Nat.zero_add]; exact hW1)
  have s1 : Hid (news.length = q * 5) := Lib.hid hlen
  have l3 := fun w' => sl_three g (k + q + 1) cap k (by omega) hnc ((k : Int) + 1) rfl w'
  have l5a := fun w' => sl_to g (k + q + 1) cap k (by omega) w'
  have l5b := fun w' => sl_from g (k + q + 1) cap (k + 1) q (by omega) hnc ((k : Int) + 1) (by omega) w'
  have l6 := fun w' => sl_last g (k + q) cap hnc ((k : Int) + (q : Int) + 1) (by omega) w'
  clear ho hod h1 h2 h3 hC hBl hAl hsplit hCl hth hW1 hnews hlen hcells hfroz
  have mixed : Tryz.prog.follows Departure.mixedOrders = true := by kernel_rfl
  go_enter Tryz.func36, Tryz.ntmps36
  trace "1"
  go_wp2_with fail
  trace "5"
  go_region_law_o (refine step_append_room rfl (.tmp 22) (.tmp 25) 23 rfl 43 i0 5 Tryz.underlying23 hif hz1 g 0 k cap (by simp [Act.eval, Act.put]) (fromA g cap (k + 1)) q (cap - (k + 1)) news (by simp [Act.eval, Act.put]) s1.out hsrc.out s2.out (by omega) s3.out ?_; rw [← hW.out])
  trace "6"
  go_wp2_with fail
  go_ret
  exact ⟨rfl, HO.out, HG.out⟩
end Go.Proofs.YtnamkladeaohoaaGreat.delete
