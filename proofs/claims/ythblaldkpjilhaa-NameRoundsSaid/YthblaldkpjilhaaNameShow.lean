/- name.Show: walk. -/
import Derived.Test.YthblaldkpjilhaaBuildN
import Derived.Test.YthblaldkpjilhaaShowB
namespace Go.Proofs.Ythblaldkpjilhaa.nshow
open Go.RowKit Go.Shelf Go.Proofs.Ythblaldkpjilhaa.kit Go.Proofs.Ythblaldkpjilhaa.labels Go.Proofs.Ythblaldkpjilhaa.check Go.Proofs.Ythblaldkpjilhaa.nspec Go.Proofs.Ythblaldkpjilhaa.rsplit Go.Proofs.Ythblaldkpjilhaa.low Go.Proofs.Ythblaldkpjilhaa.refA Go.Proofs.Ythblaldkpjilhaa.nameA Go.Proofs.Ythblaldkpjilhaa.nameL Go.Proofs.Ythblaldkpjilhaa.showA Go.Proofs.Ythblaldkpjilhaa.showB Go.Proofs.Ythblaldkpjilhaa.bld Go.Proofs.Ythblaldkpjilhaa.bldN Go.Proofs.Ythblaldkpjilhaa.rcmp
attribute [local go_sem] Oper.semAt_some

theorem labs_room {N : Nat} (pre : List (Lab N)) : room (labsOf (raw pre)) ≤ 64 * pre.length := by
  induction pre with
  | nil => simp [labsOf, raw, room]
  | cons x r ih =>
    have hx := x.property.2
    have hx2 : x.val.2.data.toList.length ≤ 63 := by rw [size_len]; exact hx
    simp only [labsOf, raw, room, List.map_cons, List.filter_cons, List.length_cons] at ih ⊢
    split
    · simp only [List.map_cons, List.sum_cons]; omega
    · omega
theorem labs_stop : ∀ (k : Nat) (ls : List Bs) (l : List (Nat × ByteArray)) (y : Nat × ByteArray), okL ls → (l ++ [y]) <+: pairsL k ls → y.2.data.toList = [] → labsOf l = ls
  | k, [], l, y, _, h, hy => by
    simp only [pairsL] at h
    have := h.length_le
    simp at this
    obtain rfl : l = [] := by
      cases l with
      | nil => rfl
      | cons a b => simp at this
    rfl
  | k, x :: r, l, y, ho, h, hy => by
    obtain ⟨⟨h1, _⟩, h3⟩ := okL_cons.1 ho
    simp only [pairsL] at h
    cases l with
    | nil =>
      simp only [List.nil_append, List.cons_prefix_cons] at h
      rw [h.1] at hy
      simp at hy
      subst hy; simp at h1
    | cons a b =>
      rw [List.cons_append, List.cons_prefix_cons] at h
      have ih := labs_stop _ r b y h3 h.2 hy
      have hx : x.isEmpty = false := by
        cases x with
        | nil => simp at h1
        | cons a b => rfl
      rw [h.1]
      simp only [labsOf, List.map_cons, List.filter_cons, hx] at ih ⊢
      rw [ih]; rfl
theorem idx_all : ∀ (l : List UInt8) (c : UInt8), -1 ≤ Lib.indexByte l c ∧ ((0 ≤ Lib.indexByte l c) ↔ l.contains c = true)
  | [], c => by simp [Lib.indexByte]
  | b :: l, c => by
    have ih := idx_all l c
    simp only [Lib.indexByte]
    by_cases h : b = c
    · simp [h]
    · have h' : (b == c) = false := by simpa using h
      rw [h', if_neg (by simp)]
      have hc : (b :: l).contains c = l.contains c := by simp [Ne.symm h]
      rw [hc, ← ih.2]
      by_cases h2 : Lib.indexByte l c = -1
      · rw [if_pos (by simpa using h2), h2]; omega
      · rw [if_neg (by simpa using h2)]; omega
theorem idx_ge (c : UInt8) : (0 ≤ Lib.indexByte spec8 c) ↔ spec8.contains c = true := (idx_all spec8 c).2
theorem show_ne {ls : List Bs} (h : ls ≠ []) : showL ls ≠ [] := by
  cases ls with
  | nil => exact absurd rfl h
  | cons x r => simp [showL, labSh]
theorem show_snoc (ls : List Bs) (x : Bs) : showL (ls ++ [x]) = showL ls ++ (x.flatMap escB ++ [46]) := by simp [showL, labSh]

set_option maxRecDepth 100000 in
set_option maxHeartbeats 4000000 in
theorem nshow_yes (s : ByteArray) (ls : List Bs) (w : World) (h : IsN s.data.toList ls) (h0 : ls ≠ []) :
    CallsIn Fence.wide 3 Try.prog 15 #[.string s] w fun e w' => e = .returned (.string ⟨(showL ls).toArray⟩) ∧ Below w.heap.size w w' := by
  have hll := split_len h
  have hs : s.size ≤ 255 := by have := h.2.2; rwa [size_len] at this
  have HP := Lib.hid (pairs_isN h)
  have HO := Lib.hid h.2.1
  have HK := Lib.hid (chk_yes h)
  have hroot : (s.toList == [0]) = false := by
    rw [Lib.toList_data, h.1]
    cases ls with
    | nil => exact absurd rfl h0
    | cons x r =>
      have := put_pos r
      simp only [put, beq_eq_false_iff_ne, ne_eq, List.cons.injEq, List.append_eq_nil_iff, not_and]
      intro _ _ h; rw [h] at this; simp at this
  have H0 := Lib.hid h0
  clear h h0
  refine callsIn_of_wp_marks Try.func15 rfl trivial ?_ rfl
  simp only [Try.ntmps15, List.size_toArray, List.length_cons, List.length_nil, Nat.reduceAdd, Nat.reduceSub, Array.replicate_succ, Array.replicate_zero, List.push_toArray, List.append_toArray, List.nil_append, List.cons_append]
  gi_wp2_with fail
  refine ⟨trivial, ?_⟩
  refine (callsIn_wide.2 (check_any s _ (by omega))).mono ?_
  rintro e w1 ⟨rfl, hB1⟩
  rw [HK.out]
  have hz1' := hB1.size
  gi_wp2_with fail
  refine ⟨trivial, ?_⟩
  refine (labels_in Fence.wide _ trivial rfl _ _).mono ?_
  rintro e w' ⟨rfl, rfl⟩
  gi_wp2
  obtain ⟨w2, hw2⟩ : ∃ w2, (w1.alloc (.cells #[.pointer none, .slice none 0 0] 101)).alloc (.cells #[.string s] 9) = w2 := ⟨_, rfl⟩
  rw [hw2]
  have hz : w2.heap.size = w1.heap.size + 2 := by rw [← hw2]; simp
  have hB : Below w.heap.size w w2 := by rw [← hw2]; exact (hB1.alloc (by omega) _).alloc (by simp; omega) _
  have hbh : w2.heap[w1.heap.size]? = some (.cells #[.pointer none, .slice none 0 0] 101 (0, 0)) := by
    rw [← hw2, Lib.alloc_old _ _ _ (by rw [World.size_alloc]; omega)]; exact Array.getElem?_push_size
  have h1 : IsBN w2.heap.size w1.heap.size [] w2 := IsBN.fresh _ hbh (by omega)
  have h3 : w2.cell? ⟨w1.heap.size + 1, 0, none⟩ = some (.string s) := by
    rw [← hw2]; have := (Boxed.new (w1.alloc (.cells #[.pointer none, .slice none 0 0] 101)) 9 (.string s)).cell; rw [World.size_alloc] at this; exact this
  clear hw2 hbh
  refine wpIn_rangeFunc_ownG rfl (by omega) (gf := 121) (lb := #[.pointer (some ⟨w1.heap.size + 1, 0, none⟩)]) rfl trivial (enters_of Try.func121 (by kernel_rfl) rfl)
    (labels_stops Fence.wide _ trivial rfl (by omega) (w1.heap.size + 1) s (by omega) w2 (by omega) h3) (keepBox_t _) (fun W l o o' hl _ _ _ => keepBox_b W l o' (by omega)) (Below.refl _ _) (fun _ => rfl)
    (fun pre W => IsBN w2.heap.size w1.heap.size (showL (labsOf (raw pre))) W ∧ Below w.heap.size w W ∧ w2.heap.size ≤ W.heap.size ∧ (labsOf (raw pre)).length = pre.length)
    (fun c pre W => (c = .exit 0 ∧ ∃ p x, pre = p ++ [x] ∧ x.val.2.data.toList = [] ∧ IsBN w2.heap.size w1.heap.size (showL (labsOf (raw p))) W) ∧ Below w.heap.size w W)
    (((bn_own _ _ (fun pre : List (Lab s.size) => showL (labsOf (raw pre)))).from _).and ((ownFrom_below (Nat.le_refl _) (by omega)).and (OwnFrom.and (fun _ _ _ _ hs hg _ => Nat.le_trans hs hg.size) (ownFrom_pure _ _))))
    (fun c => OwnFrom.and (fun pre X Y row hs hg hr => by
      obtain ⟨h0, p, x, h1, h2, h3⟩ := hs
      exact ⟨h0, p, x, h1, h2, ((bn_own w2.heap.size w1.heap.size (fun _ : Unit => showL (labsOf (raw p)))).from w2.heap.size) () X Y row h3 hg hr⟩) (ownFrom_below (Nat.le_refl _) (by omega)))
    ⟨h1, hB, Nat.le_refl _, rfl⟩
    (fun x => { tmps := #[.string s, undef, .string ⟨#[]⟩, .pointer (some ⟨w1.heap.size, 0, none⟩), undef, .string x.val.2, undef, undef, .string s, .int .i64 0, .bool false, .string s, .bool false, .string s, .func (.func 121) #[] #[.pointer (some ⟨w1.heap.size + 1, 0, none⟩)], .int .i64 (x.val.1 : Int), .string x.val.2, undef, undef, undef, undef, undef, undef, undef, undef, undef, undef, undef, undef, undef, undef, undef, undef, undef, undef, undef, undef, undef, undef, undef, undef, undef, undef, undef, undef, undef, undef, undef, undef, undef, undef, undef, undef, undef, undef, undef, undef, undef, undef, undef], defers := [] }) ?assign ?body ?done ?stop
  case assign =>
    intro l x W K hK
    gi_wp2
    simpa using hK
  case body =>
    rintro l pre x W ⟨hbn, hBl, hW2, hcnt⟩ hlen
    have hx63 := x.property.2
    have hrm := labs_room pre
    have hsl := show_len (labsOf (raw pre))
    by_cases he : x.val.2.toList = []
    · have he' : x.val.2.data.toList = [] := by rw [← Lib.toList_data]; exact he
      gi_wp2
      exact ⟨KeepsFrom.refl _ _, ⟨rfl, pre, x, rfl, he', hbn⟩, hBl⟩
    · have he' : x.val.2.toList.isEmpty = false := by simpa using he
      have HY := Lib.hid (labsOf_yes (pre := pre) he')
      clear he
      obtain ⟨P, hP⟩ : ∃ P, showL (labsOf (raw pre)) = P := ⟨_, rfl⟩
      rw [hP] at hbn hsl
      have HPP := Lib.hid hP; clear hP
      have hPl : P.length ≤ 70000 := by omega
      clear hsl hrm
      gi_wp2
      obtain ⟨X, hX⟩ : ∃ X, x.val.2 = X := ⟨_, rfl⟩
      rw [hX] at hx63 HY
      rw [hX]
      have HXX := Lib.hid hX; clear hX he'
      have hP0 : P ++ (X.data.toList.take 0).flatMap escB = P := by rw [List.take_zero]; exact List.append_nil P
      gi_loopg [21] (X.size + 1) (fun gas kv wr => ∃ (k : Nat), kv = .int .i64 k ∧ k ≤ X.size ∧ k + gas = X.size + 1 ∧ IsBN w2.heap.size w1.heap.size (P ++ (X.data.toList.take k).flatMap escB) wr ∧ Eff w2.heap.size w1.heap.size W wr)
      case atStart => exact ⟨0, rfl, by omega, by omega, by rw [hP0]; exact hbn, Eff.refl _ _ _⟩
      case round =>
        clear hbn hP0
        obtain ⟨k, rfl, hk, hkg, hb0, hE0⟩ := hrel
        have HKG := Lib.hid hkg; clear hkg
        by_cases hlt : k < X.size
        · obtain ⟨c, hc⟩ : ∃ c, X[k] = c := ⟨_, rfl⟩
          have hck : X.data.toList[k]? = some c := by rw [← hc]; exact List.getElem?_eq_getElem (by rw [size_len]; exact hlt)
          have htk : (X.data.toList.take (k + 1)).flatMap escB = (X.data.toList.take k).flatMap escB ++ escB c := by
            rw [List.take_add_one, hck]; simp
          have HTK := Lib.hid htk
          have hql := esc_len (X.data.toList.take k)
          rw [List.length_take, size_len] at hql
          obtain ⟨Q, hQ⟩ : ∃ Q, P ++ (X.data.toList.take k).flatMap escB = Q := ⟨_, rfl⟩
          have hQl : Q.length ≤ 80000 := by rw [← hQ, List.length_append]; omega
          rw [hQ] at hb0
          have HQ := Lib.hid hQ
          clear htk hck hQ hql
          obtain ⟨i, hi⟩ : ∃ i, Lib.indexByte spec8 c = i := ⟨_, rfl⟩
          have hge := idx_ge c
          rw [hi] at hge
          have hix := Try.strings_IndexByte ⟨#[46, 92, 34, 40, 41, 59, 64, 36]⟩ (c.toNat : Int) wr
          rw [show Lib.indexByte (⟨#[46, 92, 34, 40, 41, 59, 64, 36]⟩ : ByteArray).data.toList ((c.toNat : Int).toNat.toUInt8) = i from by rw [← hi]; simp [spec8]] at hix
          have HIX := Lib.hid hix; clear hix hi
          have hEc := escB_cases c
          have d1 := Lib.hid (dig c)
          have hc256 := byte_lt c
          have hc0 : (0 : Int) ≤ (c.toNat : Int) := by omega
          gi_wp2_with fail
          refine ⟨trivial, ?_⟩
          refine ((callsIn_wide.2 HIX.out).inRound l).mono ?_
          rintro e v0 ⟨rfl, rfl⟩
          rcases hEc with ⟨hsp, hE⟩ | ⟨hsp, hE, hlo⟩ | ⟨hsp, hE, hlo, hhi⟩
          · have HE := Lib.hid hE; clear hE
            have hi0 : 0 ≤ i := hge.2 hsp
            clear hge hsp
            gi_wp2_with fail
            refine ⟨trivial, ?_⟩
            refine ((callsIn_wide.2 (wbN _ _ _ (92 : UInt8) _ hb0 (by omega) (by have := hE0.below.size; omega))).inRound l).mono ?_
            rintro e v1 ⟨rfl, hb1, hF1⟩
            have hE1 := hE0.trans hF1
            clear hF1 hb0 hE0
            gi_wp2_with fail
            refine ⟨trivial, ?_⟩
            refine ((callsIn_wide.2 (wbN _ _ _ c _ hb1 (by rw [List.length_append]; simp; omega) (by have := hE1.below.size; omega))).inRound l).mono ?_
            rintro e v2 ⟨rfl, hb2, hF2⟩
            have hE2 := hE1.trans hF2
            clear hF2 hb1 hE1
            gi_wp2
            have hkg := HKG.out
            gi_roundg (gk - 1)
            case rel => exact ⟨k + 1, by go_num, by omega, by omega, by rw [HTK.out, ← List.append_assoc, HQ.out, HE.out]; simpa only [List.append_assoc, List.cons_append, List.nil_append] using hb2, hE2⟩
            case measure => omega
          · have HE := Lib.hid hE; clear hE
            have hi0 : ¬ 0 ≤ i := fun h => by rw [hge.1 h] at hsp; cases hsp
            clear hge hsp
            rcases hlo with hlo | hlo
            · have hlo' : decide ((c.toNat : Int) < 33) = true := by simpa using hlo
              gi_wp2_with fail
              refine ⟨trivial, ?_⟩
              refine ((callsIn_wide.2 (wbN _ _ _ (92 : UInt8) _ hb0 (by omega) (by have := hE0.below.size; omega))).inRound l).mono ?_
              rintro e v1 ⟨rfl, hb1, hF1⟩
              have hE1 := hE0.trans hF1
              clear hF1 hb0 hE0
              have hw2 := wbN _ _ _ (48 + c / 100) _ hb1 (by simp only [List.length_append, List.length_cons, List.length_nil]; omega) (by have := hE1.below.size; omega)
              rw [d1.out.1] at hw2
              have HW2 := Lib.hid hw2
              clear hw2
              gi_wp2_with fail
              refine ⟨trivial, ?_⟩
              refine ((callsIn_wide.2 HW2.out).inRound l).mono ?_
              rintro e v2 ⟨rfl, hb2, hF2⟩
              have hE2 := hE1.trans hF2
              clear hF2 hb1 hE1 HW2
              have hw3 := wbN _ _ _ (48 + c / 10 % 10) _ hb2 (by simp only [List.length_append, List.length_cons, List.length_nil]; omega) (by have := hE2.below.size; omega)
              rw [d1.out.2.1] at hw3
              have HW3 := Lib.hid hw3
              clear hw3
              gi_wp2_with fail
              refine ⟨trivial, ?_⟩
              refine ((callsIn_wide.2 HW3.out).inRound l).mono ?_
              rintro e v3 ⟨rfl, hb3, hF3⟩
              have hE3 := hE2.trans hF3
              clear hF3 hb2 hE2 HW3
              have hw4 := wbN _ _ _ (48 + c % 10) _ hb3 (by simp only [List.length_append, List.length_cons, List.length_nil]; omega) (by have := hE3.below.size; omega)
              rw [d1.out.2.2] at hw4
              have HW4 := Lib.hid hw4
              clear hw4
              gi_wp2_with fail
              refine ⟨trivial, ?_⟩
              refine ((callsIn_wide.2 HW4.out).inRound l).mono ?_
              rintro e v4 ⟨rfl, hb4, hF4⟩
              have hE4 := hE3.trans hF4
              clear hF4 hb3 hE3 HW4
              gi_wp2
              have hkg := HKG.out
              gi_roundg (gk - 1)
              case rel => exact ⟨k + 1, by go_num, by omega, by omega, by rw [HTK.out, ← List.append_assoc, HQ.out, HE.out]; simpa only [List.append_assoc, List.cons_append, List.nil_append, escL] using hb4, hE4⟩
              case measure => omega
            · have hlo' : ¬ (c.toNat : Int) < 33 := by omega
              gi_wp2_with fail
              refine ⟨trivial, ?_⟩
              refine ((callsIn_wide.2 (wbN _ _ _ (92 : UInt8) _ hb0 (by omega) (by have := hE0.below.size; omega))).inRound l).mono ?_
              rintro e v1 ⟨rfl, hb1, hF1⟩
              have hE1 := hE0.trans hF1
              clear hF1 hb0 hE0
              have hw2 := wbN _ _ _ (48 + c / 100) _ hb1 (by simp only [List.length_append, List.length_cons, List.length_nil]; omega) (by have := hE1.below.size; omega)
              rw [d1.out.1] at hw2
              have HW2 := Lib.hid hw2
              clear hw2
              gi_wp2_with fail
              refine ⟨trivial, ?_⟩
              refine ((callsIn_wide.2 HW2.out).inRound l).mono ?_
              rintro e v2 ⟨rfl, hb2, hF2⟩
              have hE2 := hE1.trans hF2
              clear hF2 hb1 hE1 HW2
              have hw3 := wbN _ _ _ (48 + c / 10 % 10) _ hb2 (by simp only [List.length_append, List.length_cons, List.length_nil]; omega) (by have := hE2.below.size; omega)
              rw [d1.out.2.1] at hw3
              have HW3 := Lib.hid hw3
              clear hw3
              gi_wp2_with fail
              refine ⟨trivial, ?_⟩
              refine ((callsIn_wide.2 HW3.out).inRound l).mono ?_
              rintro e v3 ⟨rfl, hb3, hF3⟩
              have hE3 := hE2.trans hF3
              clear hF3 hb2 hE2 HW3
              have hw4 := wbN _ _ _ (48 + c % 10) _ hb3 (by simp only [List.length_append, List.length_cons, List.length_nil]; omega) (by have := hE3.below.size; omega)
              rw [d1.out.2.2] at hw4
              have HW4 := Lib.hid hw4
              clear hw4
              gi_wp2_with fail
              refine ⟨trivial, ?_⟩
              refine ((callsIn_wide.2 HW4.out).inRound l).mono ?_
              rintro e v4 ⟨rfl, hb4, hF4⟩
              have hE4 := hE3.trans hF4
              clear hF4 hb3 hE3 HW4
              gi_wp2
              have hkg := HKG.out
              gi_roundg (gk - 1)
              case rel => exact ⟨k + 1, by go_num, by omega, by omega, by rw [HTK.out, ← List.append_assoc, HQ.out, HE.out]; simpa only [List.append_assoc, List.cons_append, List.nil_append, escL] using hb4, hE4⟩
              case measure => omega
          · have HE := Lib.hid hE; clear hE
            have hi0 : ¬ 0 ≤ i := fun h => by rw [hge.1 h] at hsp; cases hsp
            clear hge hsp
            gi_wp2_with fail
            refine ⟨trivial, ?_⟩
            refine ((callsIn_wide.2 (wbN _ _ _ c _ hb0 (by omega) (by have := hE0.below.size; omega))).inRound l).mono ?_
            rintro e v1 ⟨rfl, hb1, hF1⟩
            have hE1 := hE0.trans hF1
            clear hF1 hb0 hE0
            gi_wp2
            have hkg := HKG.out
            gi_roundg (gk - 1)
            case rel => exact ⟨k + 1, by go_num, by omega, by omega, by rw [HTK.out, ← List.append_assoc, HQ.out, HE.out]; simpa only [List.append_assoc, List.cons_append, List.nil_append] using hb1, hE1⟩
            case measure => omega
        · have hkk : k = X.size := by omega
          subst hkk
          rw [show X.data.toList.take X.size = X.data.toList from by rw [← size_len]; exact List.take_length] at hb0
          have hql := esc_len X.data.toList
          rw [size_len] at hql
          have hsn := show_snoc (labsOf (raw pre)) X.data.toList
          rw [← HY.out, HPP.out, ← List.append_assoc] at hsn
          have HSN := Lib.hid hsn
          obtain ⟨Q, hQ⟩ : ∃ Q, P ++ X.data.toList.flatMap escB = Q := ⟨_, rfl⟩
          have hQl : Q.length ≤ 80000 := by rw [← hQ, List.length_append]; omega
          rw [hQ] at hb0
          have HQ := Lib.hid hQ
          clear hQ hql hsn
          gi_wp2_with fail
          refine ⟨trivial, ?_⟩
          refine ((callsIn_wide.2 (wbN _ _ _ (46 : UInt8) _ hb0 (by omega) (by have := hE0.below.size; omega))).inRound l).mono ?_
          rintro e v1 ⟨rfl, hb1, hF1⟩
          have hE1 := hE0.trans hF1
          clear hF1 hb0 hE0
          gi_wp2
          refine ⟨hE1.others.from _, World.cell?_of_block (hE1.low (w1.heap.size + 1) (by omega) (by omega)), ?_, hBl.trans (hE1.below.mono (by omega)), Nat.le_trans hW2 hE1.below.size, ?_⟩
          · rw [HSN.out, HQ.out]; exact hb1
          · rw [HY.out, List.length_append, List.length_append, hcnt]; rfl
  case done =>
    rintro D ys W hD hS ⟨hb1, hBl, hW2, hcnt⟩ hK
    rw [hS, HP.out, labsOf_pairs 0 ls HO.out] at hcnt
    have hlen : ys.length = ls.length + 1 := by rw [← raw_length, hS, HP.out, pairsL_length]
    exact absurd hcnt (by omega)
  case stop =>
    rintro D c pre W hD hS ⟨⟨rfl, p, x, rfl, hx0, hb4⟩, hBl⟩ hK
    rw [HP.out, raw_snoc] at hS
    have HT := Lib.hid (labs_stop 0 ls (raw p) x.val HO.out hS hx0)
    rw [HT.out] at hb4
    gi_wp2_with fail
    refine ⟨trivial, ?_⟩
    refine (callsIn_wide.2 (strN _ _ _ _ hb4 (show_ne H0.out))).mono ?_
    rintro e W2 ⟨rfl, hB2, hKO⟩
    have hK2 := hKO.same _ _ hK rfl
    have hBf := hBl.trans (hB2.mono (by omega))
    gi_wp2
    refine ⟨by simp, .inl ⟨_, _, rfl, run_takeDeferred hK2, ?_⟩⟩
    exact ⟨_, by simp [results, Try.results15, go_sem], rfl, below_putObj hBf (by omega) _⟩

set_option maxRecDepth 100000 in
theorem nshow_root (s : ByteArray) (w : World) (h : IsN s.data.toList []) :
    Calls Try.prog 15 #[.string s] w fun e w' => e = .returned (.string ⟨#[46]⟩) ∧ Below w.heap.size w w' := by
  have hs : s.size ≤ 255 := by have := h.2.2; rwa [size_len] at this
  have HK := Lib.hid (chk_yes h)
  have hroot : (s.toList == [0]) = true := by
    rw [Lib.toList_data, h.1]; rfl
  clear h
  go_enter Try.func15, Try.ntmps15
  go_wp2_with fail
  refine (check_any s _ (by omega)).mono ?_
  rintro e w1 ⟨rfl, hB1⟩
  rw [HK.out]
  go_wp2
  go_ret
  exact ⟨rfl, hB1⟩
set_option maxRecDepth 100000 in
theorem nshow_no (s : ByteArray) (w : World) (hs : s.size ≤ 1099511627776) (h : split s.data.toList = none) :
    Calls Try.prog 15 #[.string s] w fun e w' => e = .returned (.string ⟨#[]⟩) ∧ Below w.heap.size w w' := by
  have HK := Lib.hid (chk_no h)
  clear h
  go_enter Try.func15, Try.ntmps15
  go_wp2_with fail
  refine (check_any s _ hs).mono ?_
  rintro e w1 ⟨rfl, hB1⟩
  rw [HK.out]
  go_wp2
  go_ret
  exact ⟨rfl, hB1⟩
theorem showS_no {l : Bs} (h : split l = none) : showS l = [] := by unfold showS; rw [h]
theorem showS_root {l : Bs} (h : IsN l []) : showS l = [46] := by unfold showS; rw [split_iff.2 h]
theorem showS_yes {l : Bs} {ls : List Bs} (h : IsN l ls) (h0 : ls ≠ []) : showS l = showL ls := by
  unfold showS; rw [split_iff.2 h]
  cases ls with
  | nil => exact absurd rfl h0
  | cons a b => rfl
theorem nshow_any (s : ByteArray) (w : World) (hs : s.size ≤ 1099511627776) :
    Calls Try.prog 15 #[.string s] w fun e w' => e = .returned (.string ⟨(showS s.data.toList).toArray⟩) ∧ Below w.heap.size w w' := by
  rcases isB_or s with ⟨ls, h⟩ | h
  · cases ls with
    | nil => rw [showS_root h]; exact nshow_root s w h
    | cons a b => rw [showS_yes h (by simp)]; exact callsIn_wide.1 (nshow_yes s _ w h (by simp))
  · rw [showS_no h]; exact nshow_no s w hs h

end Go.Proofs.Ythblaldkpjilhaa.nshow
