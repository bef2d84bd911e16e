/- name.Graft: walk; the law NameGrafts: its walk. name.Labels: walk. -/
import Derived.Test.YtanoiiodnddkfaaGreatJ4
namespace Go.Proofs.YtanoiiodnddkfaaGreat.nameC
open Go.RowKit Go.Proofs.YtanoiiodnddkfaaGreat.kit Go.Proofs.YtanoiiodnddkfaaGreat.check Go.Proofs.YtanoiiodnddkfaaGreat.nspec Go.Proofs.YtanoiiodnddkfaaGreat.rsplit Go.Proofs.YtanoiiodnddkfaaGreat.rput Go.Proofs.YtanoiiodnddkfaaGreat.low Go.Proofs.YtanoiiodnddkfaaGreat.refA Go.Proofs.YtanoiiodnddkfaaGreat.refB Go.Proofs.YtanoiiodnddkfaaGreat.nameA Go.Proofs.YtanoiiodnddkfaaGreat.nameB Go.Proofs.YtanoiiodnddkfaaGreat.refC

theorem wF_iff {n z : Bs} : ∀ (g k : Nat), wF n z g k = true ↔ ∃ j, k ≤ j ∧ j < k + g ∧ equalS (tailS n (j : Int)) z = true
  | 0, k => by simp [wF]; intro j h1 h2; omega
  | g + 1, k => by
    simp only [wF]
    by_cases he : equalS (tailS n (k : Int)) z = true
    · rw [if_pos he]; simp only [true_iff]; exact ⟨k, Nat.le_refl _, by omega, he⟩
    · rw [if_neg he, wF_iff g (k + 1)]
      constructor
      · rintro ⟨j, h1, h2, h3⟩; exact ⟨j, by omega, by omega, h3⟩
      · rintro ⟨j, h1, h2, h3⟩
        rcases Nat.lt_or_eq_of_le h1 with h | h
        · exact ⟨j, by omega, by omega, h3⟩
        · subst h; exact absurd h3 he
theorem split_nil : split [] = none := rfl
theorem tail_isN {n : Bs} {l : List Bs} (h : IsN n l) (j : Nat) (hj : j ≤ l.length) : IsN (tailS n (j : Int)) (l.drop (l.length - j)) := by
  rw [tailS_yes h, if_pos ⟨by omega, by omega⟩, Int.toNat_natCast]
  exact isN_put (okL_drop _ h.2.1) (by have := room_drop l (l.length - j); have := isN_room h; omega)
theorem equal_len {a b : Bs} {x y : List Bs} (ha : IsN a x) (hb : IsN b y) (h : equalS a b = true) : x.length = y.length := by
  unfold equalS at h
  rw [split_iff.2 ha, split_iff.2 hb] at h
  simp only [decide_eq_true_eq] at h
  simpa using congrArg List.length h
theorem within_same (n z : Bs) : withinP n z = withinS n z := by
  unfold withinP withinS
  cases hz : split z with
  | none =>
    rw [countS_no hz]
    have : wF n z (countS n + 1).toNat 0 = false := by
      cases h : wF n z (countS n + 1).toNat 0 with
      | false => rfl
      | true =>
        obtain ⟨j, _, _, h3⟩ := (wF_iff _ _).1 h
        rw [equal_no2 hz] at h3; simp at h3
    rw [this]; rfl
  | some zs =>
    have hzs := split_iff.1 hz
    rw [countS_yes hzs]
    rw [decide_eq_true (by omega), Bool.true_and]
    cases hn : split n with
    | none =>
      rw [tailS_no hn, equal_no1 split_nil, countS_no hn]; rfl
    | some l =>
      have hl := split_iff.1 hn
      rw [countS_yes hl]
      rw [Bool.eq_iff_iff, wF_iff]
      constructor
      · intro h
        refine ⟨zs.length, Nat.zero_le _, ?_, h⟩
        by_cases hle : zs.length ≤ l.length
        · omega
        · rw [tailS_yes hl, if_neg (by omega), equal_no1 split_nil] at h; simp at h
      · rintro ⟨j, _, h2, h3⟩
        have hj : j ≤ l.length := by omega
        have := equal_len (tail_isN hl j hj) hzs h3
        rw [List.length_drop] at this
        have e : j = zs.length := by omega
        rw [← e]; exact h3

theorem room_same : ∀ (a b : List Bs), a.map lowL = b.map lowL → room a = room b := by
  intro a b h
  rw [← room_low a, ← room_low b, h]
theorem graft_plain {n f t : Bs} {l x y : List Bs} (hn : IsN n l) (hf : IsN f x) (ht : IsN t y) (hw : withinS n f = true) :
    f.length ≤ n.length ∧ n.take (n.length - f.length) ++ t = put (l.take (l.length - x.length) ++ y) := by
  obtain ⟨h1, h2⟩ := within_len hn hf hw
  have hr := room_same _ _ h2
  have hra : room l = room (l.take (l.length - x.length)) + room (l.drop (l.length - x.length)) := by rw [← room_append, List.take_append_drop]
  have hnl : n.length = room l + 1 := by rw [hn.1, put_length]
  have hfl : f.length = room x + 1 := by rw [hf.1, put_length]
  refine ⟨by omega, ?_⟩
  have hd : n.length - f.length = room (l.take (l.length - x.length)) := by omega
  rw [hd, put_append]
  congr 1
  · rw [hn.1]
    have h : put l = (l.take (l.length - x.length)).flatMap (fun x => UInt8.ofNat x.length :: x) ++ put (l.drop (l.length - x.length)) := by
      rw [← put_append, List.take_append_drop]
    rw [h, ← flat_length]
    exact List.take_left
  · exact ht.1

end Go.Proofs.YtanoiiodnddkfaaGreat.nameC
namespace Go.Proofs.YtanoiiodnddkfaaGreat.nameL
open Go.RowKit Go.Shelf Go.Proofs.YtanoiiodnddkfaaGreat.kit Go.Proofs.YtanoiiodnddkfaaGreat.labels Go.Proofs.YtanoiiodnddkfaaGreat.check Go.Proofs.YtanoiiodnddkfaaGreat.nspec Go.Proofs.YtanoiiodnddkfaaGreat.rsplit Go.Proofs.YtanoiiodnddkfaaGreat.low Go.Proofs.YtanoiiodnddkfaaGreat.refA Go.Proofs.YtanoiiodnddkfaaGreat.nameA
attribute [local go_sem] Oper.semAt_some

/-- the labels among the pairs -/
def labsOf (l : List (Nat × ByteArray)) : List Bs := (l.map (fun p => p.2.data.toList)).filter (fun x => !x.isEmpty)
theorem labsOf_pairs : ∀ (k : Nat) (ls : List Bs), okL ls → labsOf (pairsL k ls) = ls
  | k, [], _ => by simp [pairsL, labsOf]
  | k, x :: r, h => by
    obtain ⟨⟨h1, _⟩, h3⟩ := okL_cons.1 h
    have := labsOf_pairs (k + 1 + x.length) r h3
    have hx : x.isEmpty = false := by
      cases x with
      | nil => simp at h1
      | cons a b => rfl
    simp only [labsOf, pairsL, List.map_cons, List.filter_cons, hx] at this ⊢
    rw [this]; rfl
theorem labsOf_yes {N : Nat} {pre : List (Lab N)} {x : Lab N} (h : x.val.2.toList.isEmpty = false) : labsOf (raw (pre ++ [x])) = labsOf (raw pre) ++ [x.val.2.data.toList] := by
  rw [Lib.toList_data] at h
  rw [raw_snoc]; simp [labsOf, h]
theorem labsOf_no {N : Nat} {pre : List (Lab N)} {x : Lab N} (h : x.val.2.toList = []) : labsOf (raw (pre ++ [x])) = labsOf (raw pre) := by
  rw [Lib.toList_data] at h
  rw [raw_snoc]; simp [labsOf, h]
theorem labsOf_len (l : List (Nat × ByteArray)) : (labsOf l).length ≤ l.length := by
  unfold labsOf
  exact Nat.le_trans (List.length_filter_le _ _) (by simp)

/-- an append in a round: the box of the list, the list itself, and all that lay there -/
theorem lab_append {W w3 : World} {n₀ B : Nat} {t e : TypeId} {v v' : Value} {k m : Nat} {xs ys : List Value} {tmp : Obj} (hv : Boxed W B t v) (hrow : W.ownsRow n₀ e 1 v k xs) (hn : n₀ ≤ W.heap.size) (hB : B < n₀)
    (hown' : w3.ownsRow n₀ e 1 v' m ys) (hgrow : (W.alloc tmp).grownBy w3 v.ownBlock) :
    Boxed w3 B t v ∧ Boxed (w3.setCell ⟨B, 0, none⟩ v') B t v' ∧ (w3.setCell ⟨B, 0, none⟩ v').ownsRow n₀ e 1 v' m ys ∧ KeepsOthers W (w3.setCell ⟨B, 0, none⟩ v') ∧ Below B W (w3.setCell ⟨B, 0, none⟩ v') ∧
      (∀ Bs, Bs < n₀ → Bs < W.heap.size → Bs ≠ B → KeepBox Bs W (w3.setCell ⟨B, 0, none⟩ v')) := by
  have hne : ∀ j, j < n₀ → some j ≠ v.ownBlock := fun j hj e => by have := (hrow.lt j e.symm).1; omega
  have hne' : some B ≠ v'.ownBlock := fun e => by have := (hown'.lt B e.symm).1; omega
  have hv1 : Boxed w3 B t v := (hv.alloc tmp).kept hgrow (hne B hB)
  refine ⟨hv1, hv1.set v', hown'.kept (grownBy_setCell' w3 B v') (.inr hne'.symm), ?_, ?_, ?_⟩
  · refine ((KeepsOthers.alloc W tmp).trans (KeepsOthers.of_grownBy hgrow fun j o ej hj => ?_)).trans (KeepsOthers.setCell _ _ _)
    rcases (hrow.alloc tmp).2 with ⟨rfl, _⟩ | ⟨g, cap, cur, rfl, _, hgb, _⟩
    · simp [Value.ownBlock] at ej
    · obtain rfl : g = j := by simpa [Value.ownBlock] using ej
      rw [hgb] at hj; cases hj; rfl
  · refine (((Below.refl B W).alloc (by omega) tmp).grown hgrow (by simp; omega) fun j ej => ?_).setCell (p := ⟨B, 0, none⟩) (Nat.le_refl _) v'
    have := (hrow.lt j ej).1; omega
  · intro Bs h1 h2 h3
    have e1 := Below.heap_alloc W tmp Bs h2
    have e2 := hgrow.block Bs (by simp; omega) (hne Bs h1)
    exact World.cell?_of_block ((Below.heap_setCell w3 ⟨B, 0, none⟩ v' Bs h3).trans (e2.trans e1))

set_option maxRecDepth 100000 in
set_option maxHeartbeats 2000000 in
theorem nlabels_own (s : ByteArray) (ls : List Bs) (w : World) (h : IsN s.data.toList ls) :
    CallsIn Fence.wide 3 Tryz.prog 72 #[.string s] w fun e w' => ∃ v, e = .returned v ∧ (w'.ownsRow w.heap.size 9 1 v ls.length (ls.map strV) ∧ (v = .slice none 0 0 ↔ ls = [])) ∧ Below w.heap.size w w' := by
  obtain ⟨i0, hi, hz0, hz1, hz2⟩ := info_parts infoStr
  have hll := split_len h
  have hs : s.size ≤ 255 := by have := h.2.2; rwa [size_len] at this
  have HP := Lib.hid (pairs_isN h)
  have HO := Lib.hid h.2.1
  have HK := Lib.hid (chk_yes h)
  clear h
  refine callsIn_of_wp_marks Tryz.func72 rfl trivial ?_ rfl
  simp only [Tryz.ntmps72, List.size_toArray, List.length_cons, List.length_nil, Nat.reduceAdd, Nat.reduceSub, Array.replicate_succ, Array.replicate_zero, List.push_toArray, List.append_toArray, List.nil_append, List.cons_append]
  gi_wp2_with fail
  obtain ⟨w0, hw0⟩ : ∃ w0, w.alloc (.cells #[.slice none 0 0] 74) = w0 := ⟨_, rfl⟩
  rw [hw0]
  have hz0' : w0.heap.size = w.heap.size + 1 := by rw [← hw0]; simp
  have hB0 : Below w.heap.size w w0 := by rw [← hw0]; exact (Below.refl _ w).alloc (Nat.le_refl _) _
  have g1 : Boxed w0 w.heap.size 74 (.slice none 0 0) := by rw [← hw0]; exact Boxed.new w _ _
  clear hw0
  refine ⟨trivial, ?_⟩
  refine (callsIn_wide.2 (check_any s _ (by omega))).mono ?_
  rintro e w1 ⟨rfl, hB1⟩
  rw [HK.out]
  have hBw := hB0.trans (hB1.mono hB0.size)
  have hz1' := hB1.size
  have f1 : Boxed w1 w.heap.size 74 (.slice none 0 0) := (hB1.block _ (by omega)).trans g1
  clear g1
  gi_wp2_with fail
  refine ⟨trivial, ?_⟩
  refine (labels_in Fence.wide _ trivial rfl _ _).mono ?_
  rintro e w' ⟨rfl, rfl⟩
  gi_wp2
  obtain ⟨w2, hw2⟩ : ∃ w2, w1.alloc (.cells #[.string s] 9) = w2 := ⟨_, rfl⟩
  rw [hw2]
  have hz : w2.heap.size = w1.heap.size + 1 := by rw [← hw2]; simp
  have hB : Below w.heap.size w w2 := by rw [← hw2]; exact hBw.alloc hBw.size _
  have h1 : Boxed w2 w.heap.size 74 (.slice none 0 0) := by rw [← hw2]; exact f1.alloc _
  have h3 : w2.cell? ⟨w1.heap.size, 0, none⟩ = some (.string s) := by
    rw [← hw2]; exact (Boxed.new w1 9 (.string s)).cell
  clear hw2 f1
  refine wpIn_rangeFunc_ownG rfl (by omega) (gf := 92) (lb := #[.pointer (some ⟨w1.heap.size, 0, none⟩)]) rfl trivial (enters_of Tryz.func92 (by kernel_rfl) rfl)
    (labels_stops Fence.wide _ trivial rfl (by omega) (w1.heap.size) s (by omega) w2 (by omega) h3) (keepBox_t _) (fun W l o o' hl _ _ _ => keepBox_b W l o' (by omega)) (Below.refl _ _) (fun _ => rfl)
    (fun pre W => (∃ v, Boxed W w.heap.size 74 v ∧ W.ownsRow w2.heap.size 9 1 v (labsOf (raw pre)).length ((labsOf (raw pre)).map strV) ∧ (v = .slice none 0 0 ↔ labsOf (raw pre) = [])) ∧ Below w.heap.size w W ∧ w2.heap.size ≤ W.heap.size)
    (fun _ _ _ => False)
    (((holdsRow_own w2.heap.size w.heap.size 74 9 1 (fun pre : List (Lab s.size) => (labsOf (raw pre)).length) (fun pre => (labsOf (raw pre)).map strV) (fun pre v => (v = .slice none 0 0 ↔ labsOf (raw pre) = []))).from _).and ((ownFrom_below (Nat.le_refl _) (by omega)).and (fun _ _ _ _ hs hg _ => Nat.le_trans hs hg.size)))
    (fun c => ownFrom_pure _ _)
    ⟨⟨_, h1, World.ownsRow_nil _ _ _ _, by simp [labsOf, raw]⟩, hB, Nat.le_refl _⟩
    (fun x => { tmps := #[.string s, undef, .slice none 0 0, .pointer (some ⟨w.heap.size, 0, none⟩), undef, .string x.val.2, .string s, .int .i64 0, .bool false, .string s, .func (.func 92) #[] #[.pointer (some ⟨w1.heap.size, 0, none⟩)], .int .i64 (x.val.1 : Int), .string x.val.2, undef, undef, undef, undef, undef, undef, undef], defers := [] }) ?assign ?body ?done ?stop
  case assign =>
    intro l x W K hK
    gi_wp2
    simpa using hK
  case body =>
    rintro l pre x W ⟨⟨v, hb1, hown, hnil⟩, hBl, hW2⟩ hlen
    have hc1 := hb1.cell
    have hf1 := hb1.frozen
    have hlab := labsOf_len (raw pre)
    rw [raw_length] at hlab
    have HNI := Lib.hid hnil; clear hnil
    by_cases he : x.val.2.toList = []
    · have HY := Lib.hid (labsOf_no (pre := pre) he)
      gi_wp2
      exact ⟨KeepsFrom.refl _ _, rfl, ⟨v, hb1, by rw [HY.out]; exact hown, by rw [HY.out]; exact HNI.out⟩, hBl, hW2⟩
    · have he' : x.val.2.toList.isEmpty = false := by simpa using he
      have HY := Lib.hid (labsOf_yes (pre := pre) he')
      clear he
      have hszW := hBl.size
      have hszW2 : w2.heap.size ≤ W.heap.size := hW2
      gi_wp2_with (gi_at_builtin; refine wpListIn_append_own _ rfl _ _ 74 rfl w2.heap.size 9 i0 (.string ByteArray.empty) 1 16 Tryz.underlying74 hi hz0 hz1 hz2 rfl (by decide) _ _ _ rfl (hown.alloc _) ⟨W.heap.size, 0, none⟩ 1 1 [.string x.val.2] rfl rfl (cell_one_new _ _ _) (by simp [Value.oneCell']) (by unfold maxLen; omega) (by omega) (by simp; omega) ?_; intro v' w3 hown' hgrow hnil2; obtain ⟨g', cap', rfl⟩ := ownsRow_succ hown'; obtain ⟨hv1, hv2, hr2, hk2, hb2, hkb⟩ := lab_append hb1 hown hszW2 (by omega) hown' hgrow; have hc1 := hv1.cell; have hf1 := hv1.frozen)
      refine ⟨hk2.from _, hkb _ (by omega) (by omega) (by omega), ⟨_, hv2, ?_, ?_⟩, hBl.trans hb2, Nat.le_trans hW2 hk2.size⟩
      · rw [HY.out]; simpa [strV] using hr2
      · rw [HY.out]; simp
  case done =>
    rintro D ys W hD hS ⟨⟨v, hb1, hown, hnil⟩, hBl, hW2⟩ hK
    have hl : labsOf (raw ys) = ls := by rw [hS, HP.out, labsOf_pairs 0 ls HO.out]
    rw [hl] at hown hnil
    have HNI := Lib.hid hnil; have HS := Lib.hid hS; clear hnil hS hl
    have hc1 := hb1.cell
    gi_wp2
    refine ⟨by simp, .inl ⟨_, _, rfl, run_takeDeferred hK, ?_⟩⟩
    refine ⟨v, by simp [results, Tryz.results72, go_sem], v, rfl, ?_, below_putObj hBl (by omega) _⟩
    have hrow := ownsRow_putObj hown (.deferred none) hK rfl
    refine ⟨⟨hrow.1, hrow.2.imp id ?_⟩, HNI.out⟩
    rintro ⟨g, cap, cur, h4, h5, h6⟩
    exact ⟨g, cap, cur, h4, by omega, h6⟩
  case stop =>
    rintro D c pre W hD hS h hK
    exact h.elim

theorem nlabels_yes (s : ByteArray) (ls : List Bs) (w : World) (h : IsN s.data.toList ls) :
    CallsIn Fence.wide 3 Tryz.prog 72 #[.string s] w fun e w' => ∃ v, e = .returned v ∧ SV w' v w.heap.size ls ∧ Below w.heap.size w w' := by
  refine (nlabels_own s ls w h).mono ?_
  rintro e w' ⟨v, rfl, ⟨h1, h2⟩, hB⟩
  exact ⟨v, rfl, SV.of_own h1 h2, hB⟩

set_option maxRecDepth 100000 in
theorem nlabels_no (s : ByteArray) (w : World) (hs : s.size ≤ 1099511627776) (h : split s.data.toList = none) :
    Calls Tryz.prog 72 #[.string s] w fun e w' => e = .returned (.slice none 0 0) ∧ Below w.heap.size w w' := by
  have HK := Lib.hid (chk_no h)
  clear h
  go_enter Tryz.func72, Tryz.ntmps72
  go_wp2_with fail
  have hB0 : Below w.heap.size w (w.alloc (.cells #[.slice none 0 0] 74)) := (Below.refl _ w).alloc (Nat.le_refl _) _
  refine (check_any s _ hs).mono ?_
  rintro e w1 ⟨rfl, hB1⟩
  rw [HK.out]
  go_wp2
  go_ret
  exact ⟨rfl, hB0.trans (hB1.mono hB0.size)⟩
def labS (l : Bs) : List Bs := match split l with | some ls => ls | none => []
theorem nlabels_any (s : ByteArray) (w : World) (hs : s.size ≤ 1099511627776) :
    Calls Tryz.prog 72 #[.string s] w fun e w' => ∃ v, e = .returned v ∧ SV w' v w.heap.size (labS s.data.toList) ∧ Below w.heap.size w w' := by
  unfold labS
  rcases isB_or s with ⟨ls, h⟩ | h
  · rw [split_iff.2 h]; exact callsIn_wide.1 (nlabels_yes s ls w h)
  · rw [h]
    refine (nlabels_no s w hs h).mono ?_
    rintro e w' ⟨rfl, hB⟩
    exact ⟨_, rfl, .inl ⟨rfl, rfl⟩, hB⟩
theorem nlabels_row (s : ByteArray) (w : World) (hs : s.size ≤ 1099511627776) :
    Calls Tryz.prog 72 #[.string s] w fun e w' => ∃ v, e = .returned v ∧ (w'.ownsRow w.heap.size 9 1 v (labS s.data.toList).length ((labS s.data.toList).map strV) ∧ (v = .slice none 0 0 ↔ labS s.data.toList = [])) ∧ Below w.heap.size w w' := by
  unfold labS
  rcases isB_or s with ⟨ls, h⟩ | h
  · rw [split_iff.2 h]; exact callsIn_wide.1 (nlabels_own s ls w h)
  · rw [h]
    refine (nlabels_no s w hs h).mono ?_
    rintro e w' ⟨rfl, hB⟩
    exact ⟨_, rfl, ⟨⟨rfl, .inl ⟨rfl, rfl⟩⟩, by simp⟩, hB⟩
theorem lab_low {l : Bs} {ls : List Bs} (h : IsN l ls) : IsN (lowL l) (ls.map lowL) := by
  have := nameB.low_put h.2.1
  refine ⟨by rw [h.1, this], okL_low h.2.1, ?_⟩
  have h3 := h.2.2
  simpa [lowL] using h3
end Go.Proofs.YtanoiiodnddkfaaGreat.nameL
