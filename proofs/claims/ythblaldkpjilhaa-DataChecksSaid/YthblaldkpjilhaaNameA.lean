/- name.Count, Tail, lower, Fold, Equal: walks. -/
import Derived.Test.YthblaldkpjilhaaRefB
namespace Go.Proofs.Ythblaldkpjilhaa.nameA
open Go.RowKit Go.Shelf Go.Proofs.Ythblaldkpjilhaa.kit Go.Proofs.Ythblaldkpjilhaa.labels Go.Proofs.Ythblaldkpjilhaa.check Go.Proofs.Ythblaldkpjilhaa.nspec Go.Proofs.Ythblaldkpjilhaa.rsplit Go.Proofs.Ythblaldkpjilhaa.low Go.Proofs.Ythblaldkpjilhaa.refA Go.Proofs.Ythblaldkpjilhaa.refB
attribute [local go_sem] Oper.semAt_some

theorem pairsL_length : ∀ (k : Nat) (ls : List Bs), (pairsL k ls).length = ls.length + 1
  | _, [] => rfl
  | k, x :: r => by simp [pairsL, pairsL_length _ r]
theorem raw_length {N : Nat} (l : List (Lab N)) : (raw l).length = l.length := by simp [raw]

set_option maxRecDepth 100000 in
set_option maxHeartbeats 2000000 in
theorem ncount_yes (s : ByteArray) (ls : List Bs) (w : World) (h : IsN s.data.toList ls) :
    CallsIn Fence.wide 3 Try.prog 18 #[.string s] w fun e w' => e = .returned (.int .i64 (ls.length : Int)) ∧ Below w.heap.size w w' := by
  have hll := split_len h
  have hs : s.size ≤ 255 := by have := h.2.2; rwa [size_len] at this
  have HP := Lib.hid (pairs_isN h)
  have HK := Lib.hid (chk_yes h)
  clear h
  refine callsIn_of_wp_marks Try.func18 rfl trivial ?_ rfl
  simp only [Try.ntmps18, List.size_toArray, List.length_cons, List.length_nil, Nat.reduceAdd, Nat.reduceSub, Array.replicate_succ, Array.replicate_zero, List.push_toArray, List.append_toArray, List.nil_append, List.cons_append]
  gi_wp2_with fail
  refine ⟨trivial, ?_⟩
  refine (callsIn_wide.2 (check_any s _ (by omega))).mono ?_
  rintro e w1 ⟨rfl, hB1⟩
  rw [HK.out]
  gi_wp2_with fail
  refine ⟨trivial, ?_⟩
  refine (labels_in Fence.wide _ trivial rfl _ _).mono ?_
  rintro e w' ⟨rfl, rfl⟩
  gi_wp2
  obtain ⟨w2, hw2⟩ : ∃ w2, (w1.alloc (.cells #[.int .i64 (-1)] 3)).alloc (.cells #[.string s] 9) = w2 := ⟨_, rfl⟩
  rw [hw2]
  have hz : w2.heap.size = w1.heap.size + 2 := by rw [← hw2]; simp
  have hB : Below w.heap.size w w2 := by rw [← hw2]; exact (hB1.alloc hB1.size _).alloc (by have := hB1.size; simp; omega) _
  have h1 : Boxed w2 w1.heap.size 3 (.int .i64 (-1)) := by rw [← hw2]; exact (Boxed.new w1 _ _).alloc _
  have h3 : w2.cell? ⟨w1.heap.size + 1, 0, none⟩ = some (.string s) := by
    rw [← hw2]; have := (Boxed.new (w1.alloc (.cells #[.int .i64 (-1)] 3)) 9 (.string s)).cell; rw [World.size_alloc] at this; exact this
  have hz1 := hB1.size
  clear hw2
  refine wpIn_rangeFunc_ownG rfl (by omega) (gf := 121) (lb := #[.pointer (some ⟨w1.heap.size + 1, 0, none⟩)]) rfl trivial (enters_of Try.func121 (by kernel_rfl) rfl)
    (labels_stops Fence.wide _ trivial rfl (by omega) (w1.heap.size + 1) s (by omega) w2 (by omega) h3) (keepBox_t _) (fun W l o o' hl _ _ _ => keepBox_b W l o' (by omega)) (Below.refl _ _) (fun _ => rfl)
    (fun pre W => Boxed W w1.heap.size 3 (.int .i64 (-1 + (pre.length : Int))) ∧ Below w.heap.size w W)
    (fun _ _ _ => False)
    (((boxed_own _ _ (fun pre : List (Lab s.size) => .int .i64 (-1 + (pre.length : Int)))).from _).and (ownFrom_below (Nat.le_refl _) (by omega)))
    (fun c => ownFrom_pure _ _)
    ⟨h1, hB⟩
    (fun x => { tmps := #[.string s, undef, .int .i64 0, .pointer (some ⟨w1.heap.size, 0, none⟩), .string s, .int .i64 0, .bool false, .string s, .func (.func 121) #[] #[.pointer (some ⟨w1.heap.size + 1, 0, none⟩)], .int .i64 (x.val.1 : Int), .string x.val.2, undef, undef, undef], defers := [] }) ?assign ?body ?done ?stop
  case assign =>
    intro l x W K hK
    gi_wp2
    simpa using hK
  case body =>
    rintro l pre x W ⟨hb1, hBl⟩ hlen
    have hc1 := hb1.cell
    have hf1 := hb1.frozen
    gi_wp2
    refine ⟨(KeepsOthers.setCell _ _ _).from _, ?_, ?_, hBl.setCell (by simp; omega) _⟩
    · exact World.cell?_of_block (Below.heap_setCell _ _ _ _ (by simp))
    · have := hb1.set (.int .i64 (-1 + ((pre ++ [x]).length : Int)))
      have e : (-1 + ((pre ++ [x]).length : Int)) = -1 + (pre.length : Int) + 1 := by simp; omega
      rw [e] at this ⊢
      exact this
  case done =>
    rintro D ys W hD hS ⟨hb1, hBl⟩ hK
    have hlen : ys.length = ls.length + 1 := by rw [← raw_length, hS, HP.out, pairsL_length]
    clear hS
    have hc1 := hb1.cell
    have HL := Lib.hid hlen
    clear hlen
    gi_wp2
    refine ⟨by simp, .inl ⟨_, _, rfl, run_takeDeferred hK, ?_⟩⟩
    refine ⟨.int .i64 (-1 + (ys.length : Int)), by simp [results, Try.results18, go_sem], ret_int ?_, below_putObj hBl (by omega) _⟩
    rw [HL.out]; omega
  case stop =>
    rintro D c pre W hD hS h hK
    exact h.elim
theorem ncount_no (s : ByteArray) (w : World) (hs : s.size ≤ 1099511627776) (h : split s.data.toList = none) :
    Calls Try.prog 18 #[.string s] w fun e w' => e = .returned (.int .i64 (-1)) ∧ Below w.heap.size w w' := by
  have HK := Lib.hid (chk_no h)
  clear h
  go_enter Try.func18, Try.ntmps18
  go_wp2_with fail
  refine (check_any s _ hs).mono ?_
  rintro e w1 ⟨rfl, hB1⟩
  rw [HK.out]
  go_wp2
  go_ret
  exact ⟨rfl, hB1⟩
theorem ncount_any (s : ByteArray) (w : World) (hs : s.size ≤ 1099511627776) :
    Calls Try.prog 18 #[.string s] w fun e w' => e = .returned (.int .i64 (countS s.data.toList)) ∧ Below w.heap.size w w' := by
  rcases isB_or s with ⟨ls, h⟩ | h
  · rw [countS_yes h]; exact callsIn_wide.1 (ncount_yes s ls w h)
  · rw [countS_no h]; exact ncount_no s w hs h

theorem pairsL_at : ∀ (k j : Nat) (ls : List Bs) (p : Nat × ByteArray), (pairsL k ls)[j]? = some p → p.1 = k + room (ls.take j) ∧ j ≤ ls.length
  | k, 0, [], p, h => by simp [pairsL] at h; subst h; simp [room]
  | k, j + 1, [], p, h => by simp [pairsL] at h
  | k, 0, x :: r, p, h => by simp [pairsL] at h; subst h; simp [room]
  | k, j + 1, x :: r, p, h => by
    simp only [pairsL, List.getElem?_cons_succ] at h
    obtain ⟨h1, h2⟩ := pairsL_at _ j r p h
    simp only [List.take_succ_cons, List.length_cons]
    refine ⟨?_, by omega⟩
    rw [h1]; simp [room]; omega
theorem put_drop (ls : List Bs) (j : Nat) : (put ls).drop (room (ls.take j)) = put (ls.drop j) := by
  have h : put ls = (ls.take j).flatMap (fun x => UInt8.ofNat x.length :: x) ++ put (ls.drop j) := by
    rw [← put_append, List.take_append_drop]
  have hl : ((ls.take j).flatMap (fun x => UInt8.ofNat x.length :: x)).length = room (ls.take j) := by
    have := put_length (ls.take j); rw [put_flat] at this; simpa using this
  rw [h, ← hl, List.drop_left]
theorem pre_last {N : Nat} {s : ByteArray} {pre : List (Lab N)} {x : Lab N} (h : raw (pre ++ [x]) <+: pairs s) : (pairs s)[pre.length]? = some x.val := by
  obtain ⟨t, ht⟩ := h
  rw [← ht, raw_snoc, ← raw_length pre, List.append_assoc, List.getElem?_append_right (Nat.le_refl _)]
  simp
theorem tail_at {s : ByteArray} {ls : List Bs} {pre : List (Lab s.size)} {x : Lab s.size} {k : Int} (h : IsN s.data.toList ls) (hp : raw (pre ++ [x]) <+: pairs s) (hk : (ls.length : Int) - (pre.length : Int) = k) (hk0 : 0 ≤ k) :
    s.extract x.val.1 s.size = ⟨(tailS s.data.toList k).toArray⟩ := by
  have h1 := pre_last hp
  rw [pairs_isN h] at h1
  obtain ⟨h2, h3⟩ := pairsL_at 0 pre.length ls x.val h1
  refine ba_ext ?_
  rw [tailS_yes h, if_pos ⟨hk0, by omega⟩]
  rw [Lib.extract_data, List.take_of_length_le (by simp), h2, Nat.zero_add, show ls.length - k.toNat = pre.length from by omega]
  rw [h.1, put_drop]

set_option maxRecDepth 100000 in
set_option maxHeartbeats 2000000 in
theorem ntail_yes (s : ByteArray) (k : Int) (ls : List Bs) (w : World) (h : IsN s.data.toList ls) (hk0 : 0 ≤ k) (hk1 : k ≤ (ls.length : Int)) :
    CallsIn Fence.wide 3 Try.prog 22 #[.string s, .int .i64 k] w fun e w' => e = .returned (.string ⟨(tailS s.data.toList k).toArray⟩) ∧ Below w.heap.size w w' := by
  have hll := split_len h
  have hs : s.size ≤ 255 := by have := h.2.2; rwa [size_len] at this
  have HP := Lib.hid (pairs_isN h)
  have HN := Lib.hid h
  clear h
  refine callsIn_of_wp_marks Try.func22 rfl trivial ?_ rfl
  simp only [Try.ntmps22, List.size_toArray, List.length_cons, List.length_nil, Nat.reduceAdd, Nat.reduceSub, Array.replicate_succ, Array.replicate_zero, List.push_toArray, List.append_toArray, List.nil_append, List.cons_append]
  gi_wp2_with fail
  obtain ⟨w0, hw0⟩ : ∃ w0, ((w.alloc (.cells #[.string s] 9)).alloc (.cells #[.int .i64 k] 3)).alloc (.cells #[.string ByteArray.empty] 9) = w0 := ⟨_, rfl⟩
  have hE : (ByteArray.empty : ByteArray) = ⟨#[]⟩ := rfl
  rw [hE] at hw0
  rw [hw0]
  have hz0 : w0.heap.size = w.heap.size + 3 := by rw [← hw0]; simp
  have hB0 : Below w.heap.size w w0 := by rw [← hw0]; exact (((Below.refl _ w).alloc (Nat.le_refl _) _).alloc (by simp) _).alloc (by simp; omega) _
  have g1 : Boxed w0 w.heap.size 9 (.string s) := by rw [← hw0]; exact ((Boxed.new w _ _).alloc _).alloc _
  have g2 : Boxed w0 (w.heap.size + 1) 3 (.int .i64 k) := by
    rw [← hw0]; have := (Boxed.new (w.alloc (.cells #[.string s] 9)) 3 (.int .i64 k)).alloc (.cells #[.string ⟨#[]⟩] 9); rw [World.size_alloc] at this; exact this
  have g3 : Boxed w0 (w.heap.size + 2) 9 (.string ⟨#[]⟩) := by
    rw [← hw0]; have := (Boxed.new ((w.alloc (.cells #[.string s] 9)).alloc (.cells #[.int .i64 k] 3)) 9 (.string ⟨#[]⟩)); rw [World.size_alloc, World.size_alloc] at this; exact this
  clear hw0 hE
  refine ⟨trivial, ?_⟩
  refine (callsIn_wide.2 (callsIn_wide.1 (ncount_yes s ls _ HN.out))).mono ?_
  rintro e w1 ⟨rfl, hB1⟩
  have hBw := hB0.trans (hB1.mono hB0.size)
  have hz1 := hB1.size
  have kb : ∀ {B : Nat} {t : TypeId} {v : Value}, B < w0.heap.size → Boxed w0 B t v → Boxed w1 B t v := fun hb hv => (hB1.block _ hb).trans hv
  have f1 := kb (by omega) g1
  have f2 := kb (by omega) g2
  have f3 := kb (by omega) g3
  clear kb g1 g2 g3
  have c1 := f1.cell
  have c2 := f2.cell
  have hlt1 := f1.lt
  have hlt2 := f2.lt
  have hlt3 : w.heap.size + 1 + 1 < w1.heap.size := f3.lt
  have hk0b : decide (k < 0) = false := by simp; omega
  have hk1b : decide ((ls.length : Int) < k) = false := by simp; omega
  gi_wp2_with fail
  refine ⟨trivial, ?_⟩
  refine (labels_in Fence.wide _ trivial rfl _ _).mono ?_
  rintro e w' ⟨rfl, rfl⟩
  gi_wp2
  obtain ⟨w2, hw2⟩ : ∃ w2, (w1.alloc (.cells #[.int .i64 (ls.length : Int)] 3)).alloc (.cells #[.string s] 9) = w2 := ⟨_, rfl⟩
  rw [hw2]
  have hz : w2.heap.size = w1.heap.size + 2 := by rw [← hw2]; simp
  have hB : Below w.heap.size w w2 := by rw [← hw2]; exact (hBw.alloc hBw.size _).alloc (by have := hBw.size; simp; omega) _
  have h1 : Boxed w2 w1.heap.size 3 (.int .i64 (ls.length : Int)) := by rw [← hw2]; exact (Boxed.new w1 _ _).alloc _
  have h3 : w2.cell? ⟨w1.heap.size + 1, 0, none⟩ = some (.string s) := by
    rw [← hw2]; have := (Boxed.new (w1.alloc (.cells #[.int .i64 (ls.length : Int)] 3)) 9 (.string s)).cell; rw [World.size_alloc] at this; exact this
  have e1 : Boxed w2 w.heap.size 9 (.string s) := by rw [← hw2]; exact (f1.alloc _).alloc _
  have e2 : Boxed w2 (w.heap.size + 1) 3 (.int .i64 k) := by rw [← hw2]; exact (f2.alloc _).alloc _
  have e3 : Boxed w2 (w.heap.size + 1 + 1) 9 (.string ⟨#[]⟩) := by rw [← hw2]; exact (f3.alloc _).alloc _
  clear hw2 c1 c2 f1 f2 f3
  refine wpIn_rangeFunc_ownG rfl (by omega) (gf := 121) (lb := #[.pointer (some ⟨w1.heap.size + 1, 0, none⟩)]) rfl trivial (enters_of Try.func121 (by kernel_rfl) rfl)
    (labels_stops Fence.wide _ trivial rfl (by omega) (w1.heap.size + 1) s (by omega) w2 (by omega) h3) (keepBox_t _) (fun W l o o' hl _ _ _ => keepBox_b W l o' (by omega)) (Below.refl _ _) (fun _ => rfl)
    (fun pre W => Boxed W w1.heap.size 3 (.int .i64 ((ls.length : Int) - (pre.length : Int))) ∧ Boxed W w.heap.size 9 (.string s) ∧ Boxed W (w.heap.size + 1) 3 (.int .i64 k) ∧ Boxed W (w.heap.size + 1 + 1) 9 (.string ⟨#[]⟩) ∧ Below w.heap.size w W ∧ k + (pre.length : Int) ≤ (ls.length : Int))
    (fun c pre W => (c = .ret ∧ ∃ p x, pre = p ++ [x] ∧ (ls.length : Int) - (p.length : Int) = k ∧ Boxed W (w.heap.size + 1 + 1) 9 (.string (s.extract x.val.1 s.size))) ∧ Below w.heap.size w W)
    (((boxed_own _ _ (fun pre : List (Lab s.size) => .int .i64 ((ls.length : Int) - (pre.length : Int)))).from _).and (((boxed_own _ _ (fun _ => .string s)).from _).and (((boxed_own _ _ (fun _ => .int .i64 k)).from _).and (((boxed_own _ _ (fun _ => .string ⟨#[]⟩)).from _).and ((ownFrom_below (Nat.le_refl _) (by omega)).and (ownFrom_pure _ _))))))
    (fun c => OwnFrom.and (fun pre X Y row hs hg hr => by
      obtain ⟨h0, p, x, h1, h2, h3⟩ := hs
      exact ⟨h0, p, x, h1, h2, ((boxed_own (w.heap.size + 1 + 1) 9 (fun _ : Unit => .string (s.extract x.val.1 s.size))).from w2.heap.size) () X Y row h3 hg hr⟩) (ownFrom_below (Nat.le_refl _) (by omega)))
    ⟨by simpa using h1, e1, e2, e3, hB, by simpa using hk1⟩
    (fun x => { tmps := #[.string s, .int .i64 k, .pointer (some ⟨w.heap.size, 0, none⟩), .pointer (some ⟨w.heap.size + 1, 0, none⟩), .pointer (some ⟨w.heap.size + 1 + 1, 0, none⟩), .pointer (some ⟨w1.heap.size, 0, none⟩), .int .i64 (x.val.1 : Int), .string s, .int .i64 (ls.length : Int), .int .i64 k, .bool false, .bool false, .int .i64 (ls.length : Int), .int .i64 k, .bool false, .bool false, .string s, .func (.func 121) #[] #[.pointer (some ⟨w1.heap.size + 1, 0, none⟩)], .int .i64 (x.val.1 : Int), .string x.val.2, undef, undef, undef, undef, undef, undef, undef, undef], defers := [] }) ?assign ?body ?done ?stop
  case assign =>
    intro l x W K hK
    gi_wp2
    simpa using hK
  case body =>
    rintro l pre x W ⟨hb1, hb2, hb3, hb4, hBl, hpk⟩ hlen
    have hc1 := hb1.cell
    have hf1 := hb1.frozen
    have hc2 := hb2.cell
    have hc3 := hb3.cell
    have hc4 := hb4.cell
    have hf4 := hb4.frozen
    have hxs := x.property.1
    by_cases he : (ls.length : Int) - (pre.length : Int) = k
    · have he' : ((ls.length : Int) - (pre.length : Int) == k) = true := by simp [he]
      have HEQ := Lib.hid he; clear he
      gi_wp2
      exact ⟨(KeepsOthers.setCell _ _ _).from _, ⟨rfl, pre, x, rfl, HEQ.out, hb4.set _⟩, hBl.setCell (by simp; omega) _⟩
    · have he' : ((ls.length : Int) - (pre.length : Int) == k) = false := by simpa using he
      have hlt : k < (ls.length : Int) - (pre.length : Int) := by omega
      clear he
      gi_wp2
      have hne1 : w.heap.size ≠ w1.heap.size := by omega
      have hne2 : w.heap.size + 1 ≠ w1.heap.size := by omega
      have hne3 : w.heap.size + 1 + 1 ≠ w1.heap.size := by omega
      refine ⟨(KeepsOthers.setCell _ _ _).from _, World.cell?_of_block (Below.heap_setCell _ _ _ _ (by simp)), ?_, hb2.other hne1 _, hb3.other hne2 _, hb4.other hne3 _, hBl.setCell (by simp; omega) _, by simp; omega⟩
      have := hb1.set (.int .i64 ((ls.length : Int) - ((pre ++ [x]).length : Int)))
      have e : ((ls.length : Int) - ((pre ++ [x]).length : Int)) = (ls.length : Int) - (pre.length : Int) - 1 := by simp; omega
      rw [e] at this ⊢
      exact this
  case done =>
    rintro D ys W hD hS ⟨hb1, hb2, hb3, hb4, hBl, hpk⟩ hK
    have hlen : ys.length = ls.length + 1 := by rw [← raw_length, hS, HP.out, pairsL_length]
    exact absurd hpk (by omega)
  case stop =>
    rintro D c pre W hD hS ⟨⟨rfl, p, x, rfl, hpk, hb4⟩, hBl⟩ hK
    have HT := Lib.hid (tail_at HN.out hS hpk hk0)
    clear hpk
    gi_wp2
    refine ⟨by simp, .inl ⟨_, _, rfl, run_takeDeferred hK, ?_⟩⟩
    have hcf := (boxed_putObj hb4 (show w.heap.size + 1 + 1 ≠ D by omega) (.deferred none)).cell
    exact ⟨.string (s.extract x.val.1 s.size), by simp [results, Try.results22, go_sem, hcf], ret_str HT.out, below_putObj hBl (by omega) _⟩
theorem ntail_no (s : ByteArray) (k : Int) (w : World) (hs : s.size ≤ 1099511627776) (h : k < 0 ∨ countS s.data.toList < k) :
    Calls Try.prog 22 #[.string s, .int .i64 k] w fun e w' => e = .returned (.string ⟨[].toArray⟩) ∧ Below w.heap.size w w' := by
  obtain ⟨C, hC⟩ : ∃ C, countS s.data.toList = C := ⟨_, rfl⟩
  rw [hC] at h
  have HC := Lib.hid hC; clear hC
  go_enter Try.func22, Try.ntmps22
  go_wp2_with fail
  obtain ⟨w0, hw0⟩ : ∃ w0, ((w.alloc (.cells #[.string s] 9)).alloc (.cells #[.int .i64 k] 3)).alloc (.cells #[.string ByteArray.empty] 9) = w0 := ⟨_, rfl⟩
  have hE : (ByteArray.empty : ByteArray) = ⟨#[]⟩ := rfl
  rw [hE] at hw0
  rw [hw0]
  have hz0 : w0.heap.size = w.heap.size + 3 := by rw [← hw0]; simp
  have hB0 : Below w.heap.size w w0 := by rw [← hw0]; exact (((Below.refl _ w).alloc (Nat.le_refl _) _).alloc (by simp) _).alloc (by simp; omega) _
  have g2 : Boxed w0 (w.heap.size + 1) 3 (.int .i64 k) := by
    rw [← hw0]; have := (Boxed.new (w.alloc (.cells #[.string s] 9)) 3 (.int .i64 k)).alloc (.cells #[.string ⟨#[]⟩] 9); rw [World.size_alloc] at this; exact this
  have g3 : Boxed w0 (w.heap.size + 2) 9 (.string ⟨#[]⟩) := by
    rw [← hw0]; have := (Boxed.new ((w.alloc (.cells #[.string s] 9)).alloc (.cells #[.int .i64 k] 3)) 9 (.string ⟨#[]⟩)); rw [World.size_alloc, World.size_alloc] at this; exact this
  clear hw0 hE
  refine (ncount_any s _ hs).mono ?_
  rintro e w1 ⟨rfl, hB1⟩
  rw [HC.out]
  have hBw := hB0.trans (hB1.mono hB0.size)
  have hz1 := hB1.size
  have f2 : Boxed w1 (w.heap.size + 1) 3 (.int .i64 k) := (hB1.block _ (by omega)).trans g2
  have f3 : Boxed w1 (w.heap.size + 1 + 1) 9 (.string ⟨#[]⟩) := (hB1.block _ (by omega)).trans g3
  clear g2 g3
  have c2 := f2.cell
  have c3 := f3.cell
  have z3 := f3.frozen
  have hlt2 := f2.lt
  have hlt3 := f3.lt
  have e3 := (f3.set (.string ⟨#[]⟩)).alloc (.cells #[.int .i64 C] 3)
  have hBs : Below w.heap.size w (w1.setCell ⟨w.heap.size + 1 + 1, 0, none⟩ (.string ⟨#[]⟩)) := hBw.setCell (by simp; omega) _
  have hcf := e3.cell
  have HF := Lib.hid hcf; clear hcf e3 f2 f3
  by_cases hk : k < 0
  · go_wp2
    have hcf := HF.out
    exact bodyPost_ret (v := .string ⟨#[]⟩) (by simp [results, Try.results22, go_sem, hcf]) rfl ⟨rfl, hBs.alloc hBs.size _⟩
  · have hk' : 0 ≤ k := by omega
    have hC : C < k := by omega
    clear h hk
    go_wp2
    have hcf := HF.out
    exact bodyPost_ret (v := .string ⟨#[]⟩) (by simp [results, Try.results22, go_sem, hcf]) rfl ⟨rfl, hBs.alloc hBs.size _⟩
theorem ntail_any (s : ByteArray) (k : Int) (w : World) (hs : s.size ≤ 1099511627776) :
    Calls Try.prog 22 #[.string s, .int .i64 k] w fun e w' => e = .returned (.string ⟨(tailS s.data.toList k).toArray⟩) ∧ Below w.heap.size w w' := by
  by_cases hk : 0 ≤ k ∧ k ≤ countS s.data.toList
  · rcases isB_or s with ⟨ls, h⟩ | h
    · rw [countS_yes h] at hk
      exact callsIn_wide.1 (ntail_yes s k ls w h hk.1 hk.2)
    · rw [countS_no h] at hk; omega
  · have : tailS s.data.toList k = [] := by
      rcases isB_or s with ⟨ls, h⟩ | h
      · rw [countS_yes h] at hk; rw [tailS_yes h, if_neg hk]
      · rw [tailS_no h]
    rw [this]
    exact ntail_no s k w hs (by omega)
end Go.Proofs.Ythblaldkpjilhaa.nameA
