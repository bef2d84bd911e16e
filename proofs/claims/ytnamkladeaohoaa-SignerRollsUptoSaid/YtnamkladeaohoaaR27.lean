/- signer.edges: walk. signer.Safe: the loop that gathers the times: walk, under way. signer.Safe, whatever it is given. signer.Roll in plain words: keys that follow one another are safe. signer.Roll's closure: walk. slices.Clone of timed keys; the cells of a line of one's own: walks. -/
import Derived.Test.YtnamkladeaohoaaK25
import Derived.Test.YtnamkladeaohoaaK26
import Derived.Test.YtnamkladeaohoaaK16
import Derived.Test.YtnamkladeaohoaaK23
import Derived.Test.YtnamkladeaohoaaK24
import Derived.Test.YtnamkladeaohoaaK19
import Derived.Test.YtnamkladeaohoaaK2
import Derived.Deep.AppendLies
import Derived.Deep.Cut
import Derived.Laws.OwnMore
import Derived.Deep.RegionHeld3
namespace Go.Proofs.Ytnamkladeaohoaa.edgesW
open Go.RowKit Go.Proofs.Ytnamkladeaohoaa.kit Go.Proofs.Ytnamkladeaohoaa.timed Go.Proofs.Ytnamkladeaohoaa.safeP Go.Proofs.Ytnamkladeaohoaa.setP Go.Proofs.Ytnamkladeaohoaa.setW Go.Proofs.Ytnamkladeaohoaa.edges
set_option linter.unusedVariables false

def fltE (lo hi : Int) (ts : List Int) (k : Nat) : List Int := lo :: (hi + 1) :: (ts.take k).filter fun t => decide (lo < t) && decide (t ≤ hi)
theorem flt_yes {lo hi : Int} {ts : List Int} {k : Nat} {t : Int} (h : ts[k]? = some t) (h1 : lo < t) (h2 : t ≤ hi) : fltE lo hi ts (k + 1) = fltE lo hi ts k ++ [t] := by
  unfold fltE
  rw [List.take_add_one, h]
  simp [h1, h2]
theorem flt_no {lo hi : Int} {ts : List Int} {k : Nat} {t : Int} (h : ts[k]? = some t) (hn : (decide (lo < t) && decide (t ≤ hi)) = false) : fltE lo hi ts (k + 1) = fltE lo hi ts k := by
  unfold fltE
  rw [List.take_add_one, h]
  simp only [Option.toList_some, List.filter_append, List.filter_cons, hn]
  simp
theorem flt_all (lo hi : Int) (ts : List Int) : fltE lo hi ts ts.length = edgeL lo hi ts := by
  unfold fltE edgeL
  rw [List.take_length]
theorem flt_len (lo hi : Int) (ts : List Int) (k : Nat) : (fltE lo hi ts k).length ≤ k + 2 := by
  unfold fltE
  simp only [List.length_cons]
  have h1 := List.length_filter_le (fun t => decide (lo < t) && decide (t ≤ hi)) (ts.take k)
  rw [List.length_take] at h1
  omega
theorem infoInt : (Try.prog.info? 3).map (fun i => (i.zero, i.size, i.bytes)) = some (some (.int .i64 0), 1, 8) := by kernel_rfl
theorem compact_len (zs : List Int) : (Lib.compact zs).length ≤ zs.length := by
  unfold Lib.compact Lib.compactUpTo
  rw [List.length_map]
  have := List.length_filter_le (Lib.keeps zs.toArray) (List.range zs.length)
  rw [List.length_range] at this; exact this
theorem below_setCells {B : Nat} {w0 : World} (b : Nat) (hb : B ≤ b) : ∀ (vs : List Value) (o : Nat) (w : World), Below B w0 w → Below B w0 (w.setCells b o vs)
  | [], _, _, h => h
  | v :: r, o, w, h => below_setCells b hb r (o + 1) _ (h.setCell (p := ⟨b, o, none⟩) hb v)
set_option maxRecDepth 100000 in
set_option maxHeartbeats 4000000 in
theorem edges_any (lo hi : Int) (a : Option Addr) (n c : Nat) (ts : List Int) (w : World) (hn : n = ts.length) (hr : RdI w a ts) (hbig : n ≤ 1073741824) (h1 : 0 ≤ lo) (h2 : lo ≤ 8589934592) (h3 : 0 ≤ hi) (h4 : hi ≤ 8589934592) :
    Calls Try.prog 14 #[.int .i64 lo, .int .i64 hi, .slice a n c] w fun e w' => ∃ (g : Nat) (E : List Int) (c' : Nat), e = .returned (.slice (some ⟨g, 0, none⟩) E.length c') ∧ Edges lo hi ts E ∧ (∀ (j : Nat) (x : Int), E[j]? = some x → w'.cell? ⟨g, j, none⟩ = some (.int .i64 x)) ∧ E.length ≤ n + 2 ∧ E.length ≤ c' ∧ c' ≤ maxLen ∧ Below w.heap.size w w' := by
  obtain ⟨i0, hif, hz0, hz1, hz2⟩ := info_parts infoInt
  have HN := Lib.hid hn; have HRD := Lib.hid hr
  clear hn hr
  have ho0 := World.ownsRow_lit (base := w.heap.size) (e := 3) (size := 1) w #[.int .i64 lo, .int .i64 (hi + 1)] 2 (Nat.le_refl _) (by decide) rfl
  have HO0 : Hid ((w.alloc (.cells #[.int .i64 lo, .int .i64 (hi + 1)] 3)).ownsRow w.heap.size 3 1 (.slice (some ⟨w.heap.size, 0, none⟩) 2 2) (fltE lo hi ts 0).length ((fltE lo hi ts 0).map (Value.int .i64))) := Lib.hid ho0
  have HB0 := Lib.hid ((Below.refl w.heap.size w).alloc (Nat.le_refl _) (.cells #[.int .i64 lo, .int .i64 (hi + 1)] 3))
  clear ho0
  go_enter Try.func14, Try.ntmps14
  go_wp2_with fail
  go_loopg [7, 9, 16] (n + 1) (fun gas v _ kv wr => ∃ (k : Nat), kv = .int .i64 k ∧ k ≤ n ∧ k + gas = n + 1 ∧ Hid (wr.ownsRow w.heap.size 3 1 v (fltE lo hi ts k).length ((fltE lo hi ts k).map (Value.int .i64))) ∧ Hid (Below w.heap.size w wr))
  case atStart => exact ⟨0, rfl, by omega, by omega, HO0, HB0⟩
  case round =>
    clear HO0 HB0
    obtain ⟨k, rfl, hk, hkg, HO, HB⟩ := hrel
    have HK := Lib.hid hkg; clear hkg
    have ho := HO.out
    have hml := flt_len lo hi ts k
    obtain ⟨m, hm⟩ : ∃ m, (fltE lo hi ts k).length = m := ⟨_, rfl⟩
    have HM := Lib.hid hm
    rw [hm] at ho hml
    obtain ⟨av, cv, rfl⟩ : ∃ a' c', u7 = Value.slice a' m c' := by
      rcases ho.2 with ⟨e1, e2⟩ | ⟨g, cap, cur, e1, _⟩
      · exact ⟨none, 0, by rw [e1, e2]⟩
      · exact ⟨_, _, e1⟩
    have HO := Lib.hid ho
    clear ho hm
    by_cases hlt : k < n
    · obtain ⟨t, ht⟩ : ∃ t, ts[k]? = some t := ⟨_, List.getElem?_eq_getElem (by have := HN.out; omega)⟩
      obtain ⟨g1, o1, rfl, hg1, hc⟩ := HRD.out k t ht
      have hcw := (HB.out.cell (p := ⟨g1, o1 + k, none⟩) hg1).trans hc
      have zk : (0 : Int) ≤ (k : Int) := by omega
      have zl : (k : Int) < (n : Int) := by omega
      clear hc hlt
      by_cases h5 : lo < t
      · have e5 : decide (lo < t) = true := decide_eq_true h5
        by_cases h6 : t ≤ hi
        · have e6 : decide (t ≤ hi) = true := decide_eq_true h6
          have HF := Lib.hid (flt_yes ht h5 h6)
          have hw0 : w.heap.size ≤ wr.heap.size := HB.out.size
          clear ht
          trace "6"
          go_wp2_with (at_builtin; refine wpList_append_lies _ rfl _ _ 43 rfl w.heap.size 3 i0 _ 1 8 Try.underlying43 hif hz0 hz1 hz2 rfl (by decide) (.slice av m cv) m ((fltE lo hi ts k).map (Value.int .i64)) rfl (HO.out.alloc _) ⟨wr.heap.size, 0, none⟩ 1 1 [.int .i64 t] rfl rfl ?d1 ?d2 (by decide) ?d3 ?d4 ?d5 _ rfl ?_)
          case d1 => exact World.news_of_block (heap_alloc_new _ _)
          case d2 => intro u hu; simp only [List.mem_singleton] at hu; subst hu; rfl
          case d3 => unfold maxLen; omega
          case d4 => omega
          case d5 => simp; omega
          intro g3 cp w7 hown7 hgr hat hlt7
          have HO7 : Hid (w7.ownsRow w.heap.size 3 1 (.slice (some ⟨g3, 0, none⟩) (m + 1) cp) (fltE lo hi ts (k + 1)).length ((fltE lo hi ts (k + 1)).map (Value.int .i64))) := Lib.hid (by
            rw [HF.out, List.length_append, List.map_append, HM.out]; exact hown7)
          have HB7 := Lib.hid (below_append' (HB.out.alloc hw0 (.cells #[.int .i64 t] 3)) (by simp; omega) (HO.out.alloc _) hgr)
          clear hown7 hgr hat hlt7
          go_wp2_with fail
          have hkg := HK.out
          go_roundg (gk - 1)
          case rel => exact ⟨k + 1, by go_num, by omega, by omega, HO7, HB7⟩
          case measure => omega
        · have e6 : decide (t ≤ hi) = false := decide_eq_false h6
          have HON : Hid (wr.ownsRow w.heap.size 3 1 (.slice av m cv) (fltE lo hi ts (k + 1)).length ((fltE lo hi ts (k + 1)).map (Value.int .i64))) := Lib.hid (by rw [flt_no ht (by simp [h6])]; rw [HM.out]; exact HO.out)
          clear ht
          go_wp2_with fail
          have hkg := HK.out
          go_roundg (gk - 1)
          case rel => exact ⟨k + 1, by go_num, by omega, by omega, HON, HB⟩
          case measure => omega
      · have e5 : decide (lo < t) = false := decide_eq_false h5
        have HON : Hid (wr.ownsRow w.heap.size 3 1 (.slice av m cv) (fltE lo hi ts (k + 1)).length ((fltE lo hi ts (k + 1)).map (Value.int .i64))) := Lib.hid (by rw [flt_no ht (by simp [h5])]; rw [HM.out]; exact HO.out)
        clear ht
        go_wp2_with fail
        have hkg := HK.out
        go_roundg (gk - 1)
        case rel => exact ⟨k + 1, by go_num, by omega, by omega, HON, HB⟩
        case measure => omega
    · have hke : k = n := by omega
      subst hke
      have hz : ¬ (k : Int) < (k : Int) := by omega
      have hL : fltE lo hi ts k = edgeL lo hi ts := by rw [HN.out]; exact flt_all lo hi ts
      have ho := HO.out
      have hmm := HM.out
      rw [hL] at ho hmm
      have hpos : 2 ≤ m := by rw [← hmm]; unfold edgeL; simp only [List.length_cons]; omega
      obtain ⟨gv, hcap⟩ : ∃ g, av = some ⟨g, 0, none⟩ ∧ m ≤ cv ∧ cv ≤ maxLen := by
        rcases ho.2 with ⟨_, e2⟩ | ⟨g, cap, cur, e1, _, _, e4, e5, _⟩
        · omega
        · injection e1 with x1 x2 x3; subst x3; exact ⟨g, x1, e4, e5⟩
      obtain ⟨rfl, hc1, hc2⟩ := hcap
      have CS := Lib.hid (sort_any w.heap.size (.slice (some ⟨gv, 0, none⟩) m cv) m (edgeL lo hi ts) wr hmm.symm ho (by omega))
      have HOW := Lib.hid ho; have HMM := Lib.hid hmm
      clear ho hmm hL HO HM hml
      trace "8"
      go_wp2_with fail
      refine CS.out.mono ?_
      rintro e w1 ⟨rfl, ho1, hg1⟩
      have hsl : (sortL (edgeL lo hi ts)).length = m := by rw [sortL_len]; exact HMM.out
      have hmb : m ≤ 9223372036854775807 := by unfold maxLen at hc2; omega
      have CC := Lib.hid (Try.slices_Compact_int_cells gv 0 m cv (sortL (edgeL lo hi ts)) w1 (by omega) hmb hc1 (fun j hj => by
        have h := ho1.cells (g := gv) rfl j (.int .i64 ((sortL (edgeL lo hi ts)).getD j 0)) (by rw [List.getElem?_map, List.getD_eq_getElem?_getD, List.getElem?_eq_getElem hj]; rfl)
        rw [addr_add] at h
        rw [Nat.zero_add]; exact h) (fun j hj => ho1.frozenAt (0 + j)))
      have HB1 := Lib.hid (below_append' HB.out HB.out.size HOW.out hg1)
      have HO1 := Lib.hid ho1; have HSL := Lib.hid hsl
      rw [List.take_of_length_le (by rw [HSL.out]; exact Nat.le_refl _)] at CC
      have hEd := edges_of lo hi ts
      have hEl := compact_len (sortL (edgeL lo hi ts))
      rw [hsl] at hEl
      obtain ⟨E, hE⟩ : ∃ E, Lib.compact (sortL (edgeL lo hi ts)) = E := ⟨_, rfl⟩
      rw [hE] at CC hEd hEl
      have HED := Lib.hid hEd; have HEL := Lib.hid hEl
      have HML : Hid (m ≤ k + 2) := Lib.hid (by rw [← HMM.out, ← flt_all lo hi ts, ← HN.out]; exact flt_len lo hi ts k)
      clear ho1 hg1 hsl CS HOW hE hEd hEl
      trace "9"
      go_wp2_with fail
      refine CC.out.mono ?_
      rintro e w2 ⟨rfl, q, rfl⟩
      have hvl : ((E ++ List.replicate (m - E.length) 0).map (Value.int .i64)).length = m := by
        rw [List.length_map, List.length_append, List.length_replicate]; have := HEL.out; omega
      have hcs : ∀ j, j < ((E ++ List.replicate (m - E.length) 0).map (Value.int .i64)).length → ((w1.drewN q).cell? ⟨gv, 0 + j, none⟩).isSome = true := fun j hj => by
        rw [hvl] at hj
        have h := HO1.out.cells (g := gv) rfl j (.int .i64 ((sortL (edgeL lo hi ts)).getD j 0)) (by rw [List.getElem?_map, List.getD_eq_getElem?_getD, List.getElem?_eq_getElem (by rw [HSL.out]; exact hj)]; rfl)
        rw [addr_add] at h
        rw [Nat.zero_add]
        show (w1.cell? _).isSome = true
        rw [h]; rfl
      have HCL : Hid (∀ (j : Nat) (x : Int), E[j]? = some x → ((w1.drewN q).setCells gv 0 ((E ++ List.replicate (m - E.length) 0).map (Value.int .i64))).cell? ⟨gv, j, none⟩ = some (.int .i64 x)) := Lib.hid (fun j x hx => by
        have hj : j < E.length := (List.getElem?_eq_some_iff.1 hx).1
        have hjm : j < ((E ++ List.replicate (m - E.length) 0).map (Value.int .i64)).length := by rw [hvl]; have := HEL.out; omega
        have h := World.cell?_setCells_in gv ((E ++ List.replicate (m - E.length) 0).map (Value.int .i64)) 0 (w1.drewN q) hcs j hjm
        rw [Nat.zero_add] at h
        rw [h]
        congr 1
        rw [List.getElem_map, List.getElem_append_left hj]
        congr 1
        exact (List.getElem?_eq_some_iff.1 hx).2)
      have hgb : w.heap.size ≤ gv := ((HO1.out.lt gv rfl).1)
      have HB2 := Lib.hid (below_setCells gv hgb ((E ++ List.replicate (m - E.length) 0).map (Value.int .i64)) 0 (w1.drewN q) (bel_drewN HB1.out q))
      clear hvl hcs
      obtain ⟨w2, hw2⟩ : ∃ w2, (w1.drewN q).setCells gv 0 ((E ++ List.replicate (m - E.length) 0).map (Value.int .i64)) = w2 := ⟨_, rfl⟩
      rw [hw2] at HCL HB2 ⊢
      clear hw2
      go_wp2_with fail
      go_ret
      exact ⟨gv, E, cv, rfl, HED.out, HCL.out, Nat.le_trans HEL.out HML.out, Nat.le_trans HEL.out hc1, hc2, HB2.out⟩
end Go.Proofs.Ytnamkladeaohoaa.edgesW
namespace Go.Proofs.Ytnamkladeaohoaa.safeL
open Go.RowKit Go.Proofs.Ytnamkladeaohoaa.kit Go.Proofs.Ytnamkladeaohoaa.timed Go.Proofs.Ytnamkladeaohoaa.safeP Go.Proofs.Ytnamkladeaohoaa.age Go.Proofs.Ytnamkladeaohoaa.line Go.Proofs.Ytnamkladeaohoaa.safeW Go.Proofs.Ytnamkladeaohoaa.safeM Go.Proofs.Ytnamkladeaohoaa.ust Go.Proofs.Ytnamkladeaohoaa.edgesW Go.Proofs.Ytnamkladeaohoaa.setW Go.Proofs.Ytnamkladeaohoaa.contains Go.Proofs.Ytnamkladeaohoaa.good Go.Proofs.Ytnamkladeaohoaa.safeA
set_option linter.unusedVariables false

/-- what Safe answers -/
def safeT : Option (Int × Int) → Value
  | none => .tuple #[.int .i64 0, .int .i64 0, .int .i64 0]
  | some r => .tuple #[.int .i64 r.1, .int .i64 r.2, .int .i64 25]
/-- the two lists of edges, in their boxes -/
structure LS (wr : World) (P Q gA cA gB cB nA nB : Nat) (A B : List Int) : Prop where
  b1 : wr.cell? ⟨P, 0, none⟩ = some (.slice (some ⟨gA, 0, none⟩) nA cA)
  b2 : wr.cell? ⟨Q, 0, none⟩ = some (.slice (some ⟨gB, 0, none⟩) nB cB)
  ca : ∀ (j : Nat) (x : Int), A[j]? = some x → wr.cell? ⟨gA, j, none⟩ = some (.int .i64 x)
  cb : ∀ (j : Nat) (x : Int), B[j]? = some x → wr.cell? ⟨gB, j, none⟩ = some (.int .i64 x)
theorem cell_kept {w w' : World} {a : Addr} {v : Value} (hB : Below w.heap.size w w') (ha : w.cell? a = some v) : w'.cell? a = some v := (hB.cell (p := a) (World.block_lt_of_cell? w _ ha)).trans ha
theorem LS.below {wr w1 : World} {P Q gA cA gB cB nA nB : Nat} {A B : List Int} (h : LS wr P Q gA cA gB cB nA nB A B) (hB : Below wr.heap.size wr w1) : LS w1 P Q gA cA gB cB nA nB A B :=
  ⟨cell_kept hB h.b1, cell_kept hB h.b2, fun j x hx => cell_kept hB (h.ca j x hx), fun j x hx => cell_kept hB (h.cb j x hx)⟩
theorem LS.make {w2 : World} {gA cA gB cB nA nB : Nat} {A B : List Int} {t : TypeId} (hA : ∀ (j : Nat) (x : Int), A[j]? = some x → w2.cell? ⟨gA, j, none⟩ = some (.int .i64 x)) (hB : ∀ (j : Nat) (x : Int), B[j]? = some x → w2.cell? ⟨gB, j, none⟩ = some (.int .i64 x)) :
    LS ((w2.alloc (.cells #[.slice (some ⟨gA, 0, none⟩) nA cA] t)).alloc (.cells #[.slice (some ⟨gB, 0, none⟩) nB cB] t)) w2.heap.size (w2.heap.size + 1) gA cA gB cB nA nB A B := by
  have hBw := ((Below.refl w2.heap.size w2).alloc (Nat.le_refl _) (.cells #[.slice (some ⟨gA, 0, none⟩) nA cA] t)).alloc (by simp) (.cells #[.slice (some ⟨gB, 0, none⟩) nB cB] t)
  have h1 : ((w2.alloc (.cells #[.slice (some ⟨gA, 0, none⟩) nA cA] t)).alloc (.cells #[.slice (some ⟨gB, 0, none⟩) nB cB] t)).heap[w2.heap.size]? = some (.cells #[.slice (some ⟨gA, 0, none⟩) nA cA] t) := (heap_alloc_old _ _ (by simp)).trans (heap_alloc_new _ _)
  have h2 := heap_alloc_new (w2.alloc (.cells #[.slice (some ⟨gA, 0, none⟩) nA cA] t)) (.cells #[.slice (some ⟨gB, 0, none⟩) nB cB] t)
  rw [show (w2.alloc (.cells #[.slice (some ⟨gA, 0, none⟩) nA cA] t)).heap.size = w2.heap.size + 1 from by simp] at h2
  exact ⟨by simp only [World.cell?, h1]; rfl, by simp only [World.cell?, h2]; rfl, fun j x hx => cell_kept hBw (hA j x hx), fun j x hx => cell_kept hBw (hB j x hx)⟩
theorem edges_pos {lo hi : Int} {ts E : List Int} (h : Edges lo hi ts E) : 1 ≤ E.length := by
  obtain ⟨j, hj⟩ := List.getElem?_of_mem ((h.mem lo).2 (mem_edge.2 (.inl rfl)))
  have := (List.getElem?_eq_some_iff.1 hj).1
  omega
theorem box_new (w : World) (v : Value) (t : TypeId) : (w.alloc (.cells #[v] t)).cell? ⟨w.heap.size, 0, none⟩ = some v := by
  simp only [World.cell?, heap_alloc_new]; rfl
theorem outS_step {L : List Tm} {ka sa : Int} {A B : List Int} {i : Nat} {s t : Int} (h1 : A[i]? = some s) (h2 : A[i + 1]? = some t) : outS L ka sa B (A.drop i) = match inS L ka sa s t B with
    | some r => some r
    | none => outS L ka sa B (A.drop (i + 1)) := by
  obtain ⟨k1, e1⟩ := List.getElem?_eq_some_iff.1 h1
  obtain ⟨k2, e2⟩ := List.getElem?_eq_some_iff.1 h2
  rw [List.drop_eq_getElem_cons k1, List.drop_eq_getElem_cons k2, e1, e2]
  rfl
theorem inS_step {L : List Tm} {ka sa s t : Int} {B : List Int} {j : Nat} {u v : Int} (h1 : B[j]? = some u) (h2 : B[j + 1]? = some v) : inS L ka sa s t (B.drop j) = if servL L s u then inS L ka sa s t (B.drop (j + 1)) else match meetS s (t - 1) u (v - 1) ka sa with
    | (x, y, true) => some (x, y)
    | _ => inS L ka sa s t (B.drop (j + 1)) := by
  obtain ⟨k1, e1⟩ := List.getElem?_eq_some_iff.1 h1
  obtain ⟨k2, e2⟩ := List.getElem?_eq_some_iff.1 h2
  rw [List.drop_eq_getElem_cons k1, List.drop_eq_getElem_cons k2, e1, e2]
  rfl
theorem outS_end {L : List Tm} {ka sa : Int} {A B : List Int} {i : Nat} (h : A.length ≤ i + 1) : outS L ka sa B (A.drop i) = none := by
  have hl : (A.drop i).length ≤ 1 := by rw [List.length_drop]; omega
  match A.drop i, hl with
  | [], _ => rfl
  | [_], _ => rfl
theorem inS_end {L : List Tm} {ka sa s t : Int} {B : List Int} {j : Nat} (h : B.length ≤ j + 1) : inS L ka sa s t (B.drop j) = none := by
  have hl : (B.drop j).length ≤ 1 := by rw [List.length_drop]; omega
  match B.drop j, hl with
  | [], _ => rfl
  | [_], _ => rfl

set_option maxRecDepth 100000 in
set_option maxHeartbeats 4000000 in
theorem safe_main (a : Option Addr) (n c : Nat) (L : List Tm) (ka sa lo hi : Int) (w : World) (hn : n = L.length) (hr : RdC w a 8 (L.map Tm.cells)) (h : argsB ka sa lo hi = true) (hl : lineB L = true) :
    Calls Try.prog 5 #[.slice a n c, .int .i64 ka, .int .i64 sa, .int .i64 lo, .int .i64 hi] w fun e w' => ∃ A B, Edges lo hi (toldL L) A ∧ Edges lo hi (signL L) B ∧ e = .returned (safeT (outS L ka sa B A)) ∧ Below w.heap.size w w' := by
  unfold argsB at h
  simp only [Bool.and_eq_true, decide_eq_true_eq] at h
  obtain ⟨hka, hsa, h1, h2, h3⟩ := h
  have hn50 : n ≤ 50 := by
    unfold lineB at hl
    simp only [Bool.and_eq_true, decide_eq_true_eq] at hl
    rw [hn]; exact hl.2
  obtain ⟨i0, hif, hz0, hz1, hz2⟩ := info_parts infoInt
  have hkb : 0 ≤ ka ∧ ka ≤ 2147483647 := by unfold ageB at hka; simpa using hka
  have hsb' : 0 ≤ sa ∧ sa ≤ 2147483647 := by unfold ageB at hsa; simpa using hsa
  have CK := Lib.hid (fun w => age_any ka w)
  have CS := Lib.hid (fun w => age_any sa w)
  have CL := Lib.hid (line_any a n c L w hn hr (by omega))
  rw [hka] at CK; rw [hsa] at CS; rw [hl] at CL
  have e1 : decide (lo < 0) = false := decide_eq_false (by omega)
  have e2 : decide (hi < lo) = false := decide_eq_false (by omega)
  have e3 : decide (4294967295 < hi) = false := decide_eq_false (by omega)
  have HN := Lib.hid hn; have HRD := Lib.hid hr
  clear hn hr hka hsa hl
  go_enter Try.func5, Try.ntmps5
  go_wp2_with fail
  refine (CK.out _).mono ?_
  rintro e w1 ⟨rfl, hq⟩
  rw [hq]
  clear hq w1
  go_wp2_with fail
  refine (CS.out _).mono ?_
  rintro e w1 ⟨rfl, hq⟩
  rw [hq]
  clear hq w1
  go_wp2_with fail
  refine CL.out.mono ?_
  rintro e w0 ⟨rfl, hB⟩
  have HB0 := Lib.hid hB
  clear hB CK CS CL e1 e2 e3
  go_wp2_with fail
  trace "loop"
  go_loopg [13, 14, 51] (n + 1) (fun gas vT vS kv wr => ∃ (k : Nat) (aT : Option Addr) (cT : Nat) (aS : Option Addr) (cS : Nat), vT = .slice aT (2 * k) cT ∧ vS = .slice aS (2 * k) cS ∧ kv = .int .i64 (k : Int) ∧ k ≤ n ∧ k + gas = n + 1 ∧ Hid (TS w.heap.size wr L k aT cT aS cS) ∧ Hid (Below w.heap.size w wr))
  case atStart => exact ⟨0, none, 0, none, 0, rfl, rfl, rfl, by omega, by omega, Lib.hid (TS.start _ _ _), HB0⟩
  case round =>
    clear HB0
    obtain ⟨k, aT, cT, aS, cS, rfl, rfl, rfl, hk, hkg, HT, HB⟩ := hrel
    have HK := Lib.hid hkg; clear hkg
    by_cases hlt : k < n
    · obtain ⟨t, hx⟩ : ∃ t, L[k]? = some t := ⟨_, List.getElem?_eq_getElem (by have := HN.out; omega)⟩
      obtain ⟨g1, o1, rfl, hg1, hcl1⟩ := HRD.out.at_t hx
      obtain ⟨z0, z1, z2, z3, z4, z5, z6, z7⟩ := hcl1.below HB.out hg1
      have zk : (0 : Int) ≤ (k : Int) := by omega
      have zl : (k : Int) < (n : Int) := by omega
      obtain ⟨D, hD⟩ : ∃ D, 2 * k = D := ⟨_, rfl⟩
      have hDb : D ≤ 100 := by omega
      have ho := HT.out.t
      rw [hD] at ho
      have HO := Lib.hid ho
      have hw0 : w.heap.size ≤ wr.heap.size := HB.out.size
      rw [hD]
      have HD := Lib.hid hD
      clear hcl1 hlt ho hD
      trace "9"
      go_wp2_with (at_builtin; refine wpList_append_lies _ rfl _ _ 43 rfl w.heap.size 3 i0 _ 1 8 Try.underlying43 hif hz0 hz1 hz2 rfl (by decide) (.slice aT D cT) D ((toldL (L.take k)).map (Value.int .i64)) rfl ((HO.out.alloc _).alloc _) ⟨wr.heap.size + 1, 0, none⟩ 2 2 [.int .i64 t.p, .int .i64 t.v] rfl rfl ?d1 ?d2 (by decide) ?d3 ?d4 ?d5 _ rfl ?_)
      case d1 => exact World.news_of_block (by first | exact heap_alloc_new _ _ | (have h := heap_alloc_new (wr.alloc (.cells #[.int .i64 t.f, .int .i64 t.m, .int .i64 t.e, .int .i64 t.s, .int .i64 t.p, .int .i64 t.a, .int .i64 t.r, .int .i64 t.v] 36)) (.cells #[.int .i64 t.p, .int .i64 t.v] 3); rw [show (wr.alloc (.cells #[.int .i64 t.f, .int .i64 t.m, .int .i64 t.e, .int .i64 t.s, .int .i64 t.p, .int .i64 t.a, .int .i64 t.r, .int .i64 t.v] 36)).heap.size = wr.heap.size + 1 from by simp] at h; exact h))
      case d2 => intro u hu; simp only [List.mem_cons, List.not_mem_nil, or_false] at hu; rcases hu with rfl | rfl <;> rfl
      case d3 => unfold maxLen; omega
      case d4 => omega
      case d5 => simp; omega
      intro g3 cp w7 hown7 hgr hat hlt7
      have hB2 := ((Below.refl wr.heap.size wr).alloc (Nat.le_refl _) (.cells #[.int .i64 t.f, .int .i64 t.m, .int .i64 t.e, .int .i64 t.s, .int .i64 t.p, .int .i64 t.a, .int .i64 t.r, .int .i64 t.v] 36)).alloc (by simp) (.cells #[.int .i64 t.p, .int .i64 t.v] 3)
      have h3 := (HT.out.below hB2).told hx (by rw [HD.out]; exact hown7) (by rw [HD.out]; exact hgr) (by rw [HD.out]; exact hat.imp id (fun e => by rw [e]; simp))
      have hbx0 : ((wr.alloc (.cells #[.int .i64 t.f, .int .i64 t.m, .int .i64 t.e, .int .i64 t.s, .int .i64 t.p, .int .i64 t.a, .int .i64 t.r, .int .i64 t.v] 36)).alloc (.cells #[.int .i64 t.p, .int .i64 t.v] 3)).heap[wr.heap.size]? = some (.cells #[.int .i64 t.f, .int .i64 t.m, .int .i64 t.e, .int .i64 t.s, .int .i64 t.p, .int .i64 t.a, .int .i64 t.r, .int .i64 t.v] 36) := (heap_alloc_old _ _ (by simp)).trans (heap_alloc_new _ _)
      have hbx := (hgr.block wr.heap.size (by simp; omega) (rows.row_neG ((HO.out.alloc (.cells #[.int .i64 t.f, .int .i64 t.m, .int .i64 t.e, .int .i64 t.s, .int .i64 t.p, .int .i64 t.a, .int .i64 t.r, .int .i64 t.v] 36)).alloc (.cells #[.int .i64 t.p, .int .i64 t.v] 3)) hbx0 (fun c' f e => by injection e with _ e2 _; exact absurd e2 (by decide)))).trans hbx0
      have HB7 := Lib.hid (below_append' (HB.out.trans (hB2.mono hw0)) (by simp; omega) ((HO.out.alloc (.cells #[.int .i64 t.f, .int .i64 t.m, .int .i64 t.e, .int .i64 t.s, .int .i64 t.p, .int .i64 t.a, .int .i64 t.r, .int .i64 t.v] 36)).alloc (.cells #[.int .i64 t.p, .int .i64 t.v] 3)) hgr)
      obtain ⟨p1, p2, p3⟩ := h3
      rw [HD.out] at p2
      have HP1 := Lib.hid p1; have HP2 := Lib.hid p2; have HP3 := Lib.hid p3
      obtain ⟨X, hX⟩ : ∃ X, wr.heap.size = X := ⟨_, rfl⟩
      rw [hX] at hbx
      have y5 : w7.cell? ⟨X, 5, none⟩ = some (.int .i64 t.a) := by simp only [World.cell?, hbx]; rfl
      have y6 : w7.cell? ⟨X, 6, none⟩ = some (.int .i64 t.r) := by simp only [World.cell?, hbx]; rfl
      have hw7 : w.heap.size ≤ w7.heap.size := HB7.out.size
      try rw [hX]
      clear hown7 hgr hat hlt7 hB2 hbx0 hbx p1 p2 p3 z0 z1 z2 z3 z4 z5 z6 z7 HT HO HB
      trace "10"
      go_wp2_with (at_builtin; refine wpList_append_lies _ rfl _ _ 43 rfl w.heap.size 3 i0 _ 1 8 Try.underlying43 hif hz0 hz1 hz2 rfl (by decide) (.slice aS D cS) D ((signL (L.take k)).map (Value.int .i64)) rfl (HP2.out.alloc _) ⟨w7.heap.size, 0, none⟩ 2 2 [.int .i64 t.a, .int .i64 t.r] rfl rfl ?c1 ?c2 (by decide) ?c3 ?c4 ?c5 _ rfl ?_)
      case c1 => exact World.news_of_block (heap_alloc_new _ _)
      case c2 => intro u hu; simp only [List.mem_cons, List.not_mem_nil, or_false] at hu; rcases hu with rfl | rfl <;> rfl
      case c3 => unfold maxLen; omega
      case c4 => omega
      case c5 => simp; omega
      intro g4 cp2 w8 hown8 hgr8 hat8 hlt8
      have hTS := TS.signs (W := w7.alloc (.cells #[.int .i64 t.a, .int .i64 t.r] 3)) (HP1.out.alloc _) (by rw [HD.out]; exact HP2.out.alloc _) HP3.out hx (by rw [HD.out]; exact hown8) (by rw [HD.out]; exact hgr8) (by rw [HD.out]; exact hat8.imp id (fun e => by rw [e]; simp))
      have HTS := Lib.hid hTS
      have HB8 := Lib.hid (below_append' (HB7.out.alloc hw7 (.cells #[.int .i64 t.a, .int .i64 t.r] 3)) (by simp; omega) (HP2.out.alloc (.cells #[.int .i64 t.a, .int .i64 t.r] 3)) hgr8)
      clear hown8 hgr8 hat8 hTS
      go_wp2_with fail
      have hkg := HK.out; have hdd := HD.out
      go_roundg (gk - 1)
      case rel => exact ⟨k + 1, some ⟨g3, 0, none⟩, cp, some ⟨g4, 0, none⟩, cp2, by rw [show 2 * (k + 1) = D + 2 by omega], by rw [show 2 * (k + 1) = D + 2 by omega], by go_num, by omega, by omega, HTS, HB8⟩
      case measure => omega
    · have hke : k = n := by omega
      subst hke
      have hz : ¬ (k : Int) < (k : Int) := by omega
      have hTk : L.take k = L := by rw [HN.out]; exact List.take_length
      have t1 := HT.out.t; have s1 := HT.out.s
      rw [hTk] at t1 s1
      have tl : 2 * k = (toldL L).length := by have h := t1.1; rw [List.length_map] at h; omega
      have sl : 2 * k = (signL L).length := by have h := s1.1; rw [List.length_map] at h; omega
      have CT := Lib.hid (fun (wx : World) (hB : Below wr.heap.size wr wx) (hT : RdI wx aT (toldL L)) => edges_any lo hi aT (2 * k) cT (toldL L) wx tl hT (by omega) h1 (by omega) (by omega) (by omega))
      have CG := Lib.hid (fun (wx : World) (hB : Below wr.heap.size wr wx) (hS : RdI wx aS (signL L)) => edges_any lo hi aS (2 * k) cS (signL L) wx sl hS (by omega) h1 (by omega) (by omega) (by omega))
      obtain ⟨_, _, et, _, _, rt⟩ := RdI.of_own tl t1
      cases et
      obtain ⟨_, _, es, _, _, rs⟩ := RdI.of_own sl s1
      cases es
      have HT1 := Lib.hid rt; have HS1 := Lib.hid rs
      clear t1 s1 tl sl hTk rt rs
      trace "12"
      go_wp2_with fail
      refine (CT.out wr (Below.refl _ _) HT1.out).mono ?_
      rintro e w1 ⟨gA, A, cA, rfl, hEA, hcA, hlA, hkA, hmA, hB1⟩
      have HEA := Lib.hid hEA; have HCA := Lib.hid hcA; have HS2 := Lib.hid (HS1.out.below hB1 rfl)
      have HB1 := Lib.hid hB1
      obtain ⟨nA, hnA⟩ : ∃ n, A.length = n := ⟨_, rfl⟩
      rw [hnA] at hlA hkA ⊢
      have HNA := Lib.hid hnA
      have hbA : nA ≤ 102 := by omega
      clear hEA hcA hB1 hnA hlA
      trace "13"
      go_wp2_with fail
      refine (CG.out w1 HB1.out HS2.out).mono ?_
      rintro e w2 ⟨gB, B, cB, rfl, hEB, hcB, hlB, hkB, hmB, hB2⟩
      have HEB := Lib.hid hEB; have HCB := Lib.hid hcB
      have HB2 := Lib.hid hB2
      obtain ⟨nB, hnB⟩ : ∃ n, B.length = n := ⟨_, rfl⟩
      rw [hnB] at hlB hkB ⊢
      have HNB := Lib.hid hnB
      have hbB : nB ≤ 102 := by omega
      clear hEB hcB hB2 hnB hlB HT1 HS1 HS2 CT CG HT
      trace "14"
      go_upto_region 13 with fail
      have hLS := LS.make (t := 43) (nA := nA) (nB := nB) (cA := cA) (cB := cB) (fun j x hx => cell_kept HB2.out (HCA.out j x hx)) HCB.out
      have hB3 := ((Below.refl w2.heap.size w2).alloc (Nat.le_refl _) (.cells #[.slice (some ⟨gA, 0, none⟩) nA cA] 43)).alloc (by simp) (.cells #[.slice (some ⟨gB, 0, none⟩) nB cB] 43)
      have hw01 : w.heap.size ≤ wr.heap.size := HB.out.size
      have hw12 : wr.heap.size ≤ w1.heap.size := HB1.out.size
      have hw23 : w1.heap.size ≤ w2.heap.size := HB2.out.size
      obtain ⟨w3, hw3⟩ : ∃ w3, (w2.alloc (.cells #[.slice (some ⟨gA, 0, none⟩) nA cA] 43)).alloc (.cells #[.slice (some ⟨gB, 0, none⟩) nB cB] 43) = w3 := ⟨_, rfl⟩
      obtain ⟨P, hP⟩ : ∃ P, w2.heap.size = P := ⟨_, rfl⟩
      rw [hw3] at hLS hB3 ⊢
      rw [hP] at hLS
      try rw [hP]
      have HBL := Lib.hid (((HB.out.trans (HB1.out.mono hw01)).trans (HB2.out.mono (Nat.le_trans hw01 hw12))).trans (hB3.mono (Nat.le_trans hw01 (Nat.le_trans hw12 hw23))))
      have HLS := Lib.hid hLS
      have hp1 : 1 ≤ nA := by rw [← HNA.out]; exact edges_pos HEA.out
      have hp2 : 1 ≤ nB := by rw [← HNB.out]; exact edges_pos HEB.out
      obtain ⟨R, hR⟩ : ∃ R, outS L ka sa B A = R := ⟨_, rfl⟩
      have HR := Lib.hid hR
      have HRW := Lib.hid (fun (wx : World) (hB : Below w.heap.size w wx) => HRD.out.below hB rfl)
      have x1 := hLS.b1
      have HEL := Lib.hid (fun (i : Nat) (s : Int) (h : A[i]? = some s) => HEA.out.low h2 (List.mem_of_getElem? h))
      have HEM := Lib.hid (fun (i : Nat) (s : Int) (h : B[i]? = some s) => HEB.out.low h2 (List.mem_of_getElem? h))
      clear hw3 hP hLS hB3 hw01 hw12 hw23 HB HB1 HB2 HCA HCB hR
      trace "15"
      go_wp2_with fail
      clear x1
      go_loopg [81] (nA + 1) (fun gas iv wr => ∃ i : Nat, iv = .int .i64 (i : Int) ∧ i + 1 ≤ nA ∧ i + gas = nA + 1 ∧ Hid (LS wr P (P + 1) gA cA gB cB nA nB A B) ∧ Hid (outS L ka sa B (A.drop i) = R) ∧ Hid (Below w.heap.size w wr))
      case atStart => exact ⟨0, rfl, by omega, by omega, HLS, Lib.hid (by rw [List.drop_zero]; exact HR.out), HBL⟩
      case round =>
        clear HLS HBL
        obtain ⟨i, rfl, hi1, hig, HLS, HW, HB⟩ := hrel
        obtain ⟨gk', hgk'⟩ : ∃ g, g = gk := ⟨_, rfl⟩
        rw [← hgk'] at hig
        have HIG := Lib.hid hig; clear hig
        by_cases hlt : i + 1 < nA
        · obtain ⟨s, hs⟩ : ∃ s, A[i]? = some s := ⟨_, List.getElem?_eq_getElem (by have := HNA.out; omega)⟩
          obtain ⟨t, ht⟩ : ∃ t, A[i + 1]? = some t := ⟨_, List.getElem?_eq_getElem (by have := HNA.out; omega)⟩
          have HST := Lib.hid ((outS_step (L := L) (ka := ka) (sa := sa) (B := B) hs ht).symm.trans HW.out)
          have hsb := HEL.out i s hs; have htb := HEL.out (i + 1) t ht; have hst := HEA.out.lt hs ht (by omega)
          have hil : (i : Int) < (nA : Int) - 1 := by omega
          have hB1 := (Below.refl wr.heap.size wr).alloc (Nat.le_refl _) (.cells #[.int .i64 (i : Int)] 3)
          have hl1 := HLS.out.below hB1
          have x2 := hl1.b2
          have hbx := box_new wr (.int .i64 (i : Int)) 3
          obtain ⟨P1, hP1⟩ : ∃ P, wr.heap.size = P := ⟨_, rfl⟩
          obtain ⟨w4, hw4⟩ : ∃ w4, wr.alloc (.cells #[.int .i64 (i : Int)] 3) = w4 := ⟨_, rfl⟩
          rw [hw4] at hB1 hl1 x2 hbx
          have HB4 := Lib.hid (HB.out.trans (hB1.mono HB.out.size))
          rw [hP1] at hbx
          have HL4 := Lib.hid hl1; have HBX := Lib.hid hbx; have HW4 := Lib.hid hw4; have HP1 := Lib.hid hP1
          obtain ⟨RI, hRI⟩ : ∃ RI, inS L ka sa s t B = RI := ⟨_, rfl⟩
          rw [hRI] at HST
          have HRI := Lib.hid hRI
          have HSA := Lib.hid hs; have HTA := Lib.hid ht
          clear hB1 hl1 hbx hw4 hP1 hRI hs ht HW HLS HB
          trace "16"
          go_upto_region 16 with fail
          rw [HW4.out]
          try rw [HP1.out]
          go_wp2_with fail
          clear x2
          go_loopg [87] (nB + 1) (fun gas jv wy => ∃ j : Nat, jv = .int .i64 (j : Int) ∧ j + 1 ≤ nB ∧ j + gas = nB + 1 ∧ Hid (LS wy P (P + 1) gA cA gB cB nA nB A B) ∧ Hid (wy.cell? ⟨P1, 0, none⟩ = some (.int .i64 (i : Int))) ∧ Hid (inS L ka sa s t (B.drop j) = RI) ∧ Hid (Below w.heap.size w wy))
          case atStart => exact ⟨0, rfl, by omega, by omega, HL4, HBX, Lib.hid (by rw [List.drop_zero]; exact HRI.out), HB4⟩
          case round =>
            clear HL4 HBX HB4 HRI HW4 HP1
            obtain ⟨j, rfl, hj, hjg, HLS, HBX, HW, HB⟩ := hrel
            have HJG := Lib.hid hjg; clear hjg
            by_cases hlt2 : j + 1 < nB
            · obtain ⟨u, hu⟩ : ∃ u, B[j]? = some u := ⟨_, List.getElem?_eq_getElem (by have := HNB.out; omega)⟩
              obtain ⟨v, hv⟩ : ∃ v, B[j + 1]? = some v := ⟨_, List.getElem?_eq_getElem (by have := HNB.out; omega)⟩
              have HSJ := Lib.hid ((inS_step (L := L) (ka := ka) (sa := sa) (s := s) (t := t) hu hv).symm.trans HW.out)
              have hub := HEM.out j u hu; have hvb := HEM.out (j + 1) v hv; have huv := HEB.out.lt hu hv (by omega)
              have hjl : (j : Int) < (nB : Int) - 1 := by omega
              have hB1 := (Below.refl wr.heap.size wr).alloc (Nat.le_refl _) (.cells #[.int .i64 (j : Int)] 3)
              have hl1 := HLS.out.below hB1
              have hbj := box_new wr (.int .i64 (j : Int)) 3
              have hbi := cell_kept hB1 HBX.out
              obtain ⟨P2, hP2⟩ : ∃ P, wr.heap.size = P := ⟨_, rfl⟩
              obtain ⟨w5, hw5⟩ : ∃ w5, wr.alloc (.cells #[.int .i64 (j : Int)] 3) = w5 := ⟨_, rfl⟩
              rw [hw5] at hB1 hl1 hbj hbi
              rw [hP2] at hbj
              have HB5 := Lib.hid (HB.out.trans (hB1.mono HB.out.size))
              have hbx : Boxes w5 P P1 (P + 1) P2 gA nA cA gB nB cB i j s u := ⟨hl1.b1, hbi, hl1.b2, hbj, hl1.ca i s HSA.out, hl1.cb j u hu⟩
              have CC := Lib.hid (contains_any 15 #[.pointer (some ⟨P, 0, none⟩), .pointer (some ⟨P1, 0, none⟩), .pointer (some ⟨P + 1, 0, none⟩), .pointer (some ⟨P2, 0, none⟩)] (fun t => servK t s u) a k c L w5 (fun _ _ => rfl) HN.out (HRW.out w5 HB5.out) (by omega) (fun t _ wx hB => good_any t P P1 (P + 1) P2 gA nA cA gB nB cB i j s u wx (hbx.below hB) (by omega) (by omega) (by omega) (by omega)))
              have HL5 := Lib.hid hl1; have HBI := Lib.hid hbi; have HBJ := Lib.hid hbj; have HW5 := Lib.hid hw5; have HP2 := Lib.hid hP2
              have HUB := Lib.hid hu; have HVB := Lib.hid hv
              have hsv : (L.any fun t => servK t s u) = servL L s u := rfl
              rw [hsv] at CC
              clear hB1 hl1 hbj hbi hbx hw5 hP2 hu hv HLS HW HB hsv
              trace "17"
              go_upto_region 19 with fail
              rw [HW5.out]
              try rw [HP2.out]
              cases hsl : servL L s u with
              | true =>
                rw [hsl] at CC
                have HIN : Hid (inS L ka sa s t (B.drop (j + 1)) = RI) := Lib.hid (by rw [← HSJ.out, if_pos hsl])
                trace "18"
                go_wp2_with fail
                refine CC.out.mono ?_
                rintro e w6 ⟨rfl, hB6⟩
                have HB6 := Lib.hid (HB5.out.trans (hB6.mono HB5.out.size))
                have HL6 := Lib.hid (HL5.out.below hB6)
                have HBX6 := Lib.hid (cell_kept hB6 HBI.out)
                clear hB6 CC
                go_wp2_with fail
                have hjg := HJG.out
                go_roundg (gk - 1)
                case rel => exact ⟨j + 1, by go_num, by omega, by omega, HL6, HBX6, HIN, HB6⟩
                case measure => omega
              | false =>
                rw [hsl] at CC
                have HSK : Hid ((match meetS s (t - 1) u (v - 1) ka sa with | (x, y, true) => some (x, y) | _ => inS L ka sa s t (B.drop (j + 1))) = RI) := Lib.hid (by rw [← HSJ.out, if_neg (by rw [hsl]; decide)])
                trace "19"
                go_wp2_with fail
                refine CC.out.mono ?_
                rintro e w6 ⟨rfl, hB6⟩
                have HB6 := Lib.hid (HB5.out.trans (hB6.mono HB5.out.size))
                have HL6 := Lib.hid (HL5.out.below hB6)
                have HBX6 := Lib.hid (cell_kept hB6 HBI.out)
                have HBJ6 := Lib.hid (cell_kept hB6 HBJ.out)
                clear hB6 CC
                trace "20"
                go_upto_region 21 with fail
                have hl6 := HL6.out
                have y1 := hl6.b1; have y2 := hl6.b2; have y3 := HBX6.out; have y4 := HBJ6.out
                have y5 := hl6.ca i s HSA.out; have y6 := hl6.ca (i + 1) t HTA.out; have y7 := hl6.cb j u HUB.out; have y8 := hl6.cb (j + 1) v HVB.out
                obtain ⟨i', hi'⟩ : ∃ i', i + 1 = i' := ⟨_, rfl⟩
                obtain ⟨j', hj'⟩ : ∃ j', j + 1 = j' := ⟨_, rfl⟩
                rw [hi'] at y6; rw [hj'] at y8
                have q1 : Value.int .i64 (IntKind.i64.wrap ((i : Int) + 1)) = Value.int .i64 (i' : Int) := by rw [← hi', IntWalk.i64_in ((i : Int) + 1) (by omega)]; congr 1
                have q2 : Value.int .i64 (IntKind.i64.wrap ((j : Int) + 1)) = Value.int .i64 (j' : Int) := by rw [← hj', IntWalk.i64_in ((j : Int) + 1) (by omega)]; congr 1
                have i0 : (0 : Int) ≤ (i : Int) := by omega
                have j0 : (0 : Int) ≤ (j : Int) := by omega
                have i2 : (i : Int) < (nA : Int) := by omega
                have j2 : (j : Int) < (nB : Int) := by omega
                have i3 : (0 : Int) ≤ (i' : Int) := by omega
                have j3 : (0 : Int) ≤ (j' : Int) := by omega
                have i4 : (i' : Int) < (nA : Int) := by omega
                have j4 : (j' : Int) < (nB : Int) := by omega
                obtain ⟨⟨mx, my, mk⟩, hmt⟩ : ∃ r, meetS s (t - 1) u (v - 1) ka sa = r := ⟨_, rfl⟩
                rw [hmt] at HSK
                have CM : Hid (∀ wx : World, Calls Try.prog 17 #[.int .i64 s, .int .i64 (IntKind.i64.wrap (t - 1)), .int .i64 u, .int .i64 (IntKind.i64.wrap (v - 1)), .int .i64 ka, .int .i64 sa] wx fun e w' => e = .returned (.tuple #[.int .i64 mx, .int .i64 my, .bool mk]) ∧ w' = wx) := Lib.hid (fun wx => by
                  rw [IntWalk.i64_in (t - 1) (by omega), IntWalk.i64_in (v - 1) (by omega)]
                  have h := meet_any s (t - 1) u (v - 1) ka sa wx (by omega) (by omega) (by omega) (by omega) (by omega) (by omega) (by omega) (by omega) (by omega) (by omega) (by omega) (by omega)
                  rw [hmt] at h
                  exact h)
                have HLT2 := Lib.hid hlt2; have HBB := Lib.hid hbB
                clear hl6 hmt hi' hj' hn50 hbA hbB hkA hmA hkB hmB hp1 hp2 hi1 hlt hil hsb htb hst hj hlt2 hjl hub hvb huv hkb hsb' hk h1 h2 h3 hif hz0 hz1 hz2 hz
                trace "21"
                refine wp_region_quiet_lit (by kernel_rfl) (by kernel_rfl) ?_
                repeat (quiet_step ((go_at_call 17; refine (CM.out _).mono ?_; rintro e w' ⟨rfl, rfl⟩; exact ⟨rfl, _, rfl⟩)))
                refine wpQuiet_nil ?_
                intro _ hw'
                obtain ⟨nq, hw''⟩ := hw'
                subst hw''
                have HB7 := Lib.hid (bel_drewN HB6.out nq)
                have HL7 := Lib.hid (HL6.out.below (bel_drewN (Below.refl _ _) nq))
                have HBX7 := Lib.hid (cell_kept (bel_drewN (Below.refl _ _) nq) HBX6.out)
                clear y1 y2 y3 y4 y5 y6 y7 y8 q1 q2 i0 j0 i2 j2 i3 j3 i4 j4 HB6 HL6 HBX6 HBJ6 CM
                cases mk with
                | true =>
                  have HRI : Hid (RI = some (mx, my)) := Lib.hid HSK.out.symm
                  have HRF : Hid (R = some (mx, my)) := Lib.hid (by rw [← HST.out, HRI.out])
                  trace "22"
                  go_wp2_with fail
                  go_ret3
                  exact ⟨A, HEA.out, B, HEB.out, by rw [HR.out, HRF.out]; rfl, HB7.out⟩
                | false =>
                  have HIN : Hid (inS L ka sa s t (B.drop (j + 1)) = RI) := Lib.hid HSK.out
                  have hlt2 := HLT2.out; have hbB := HBB.out
                  trace "23"
                  go_wp2_with fail
                  have hjg := HJG.out
                  go_roundg (gk - 1)
                  case rel => exact ⟨j + 1, by go_num, by omega, by omega, HL7, HBX7, HIN, HB7⟩
                  case measure => omega
            · have hjl : ¬ (j : Int) < (nB : Int) - 1 := by omega
              have HRI : Hid (RI = none) := Lib.hid (by rw [← HW.out, inS_end (by rw [HNB.out]; omega)])
              have HOT : Hid (outS L ka sa B (A.drop (i + 1)) = R) := Lib.hid (by rw [← HST.out, HRI.out])
              clear HBX HW
              trace "24"
              go_wp2_with fail
              have hig := HIG.out
              go_roundg (gk' - 1)
              case rel => exact ⟨i + 1, by go_num, by omega, by omega, HLS, HOT, HB⟩
              case measure => omega
        · have hil : ¬ (i : Int) < (nA : Int) - 1 := by omega
          have HRF : Hid (R = none) := Lib.hid (by rw [← HW.out, outS_end (by rw [HNA.out]; omega)])
          trace "25"
          go_wp2_with fail
          go_ret3
          exact ⟨A, HEA.out, B, HEB.out, by rw [HR.out, HRF.out]; rfl, HB.out⟩
end Go.Proofs.Ytnamkladeaohoaa.safeL
namespace Go.Proofs.Ytnamkladeaohoaa.safeAll
open Go.RowKit Go.Proofs.Ytnamkladeaohoaa.kit Go.Proofs.Ytnamkladeaohoaa.timed Go.Proofs.Ytnamkladeaohoaa.safeP Go.Proofs.Ytnamkladeaohoaa.age Go.Proofs.Ytnamkladeaohoaa.line Go.Proofs.Ytnamkladeaohoaa.safeW Go.Proofs.Ytnamkladeaohoaa.safeL
set_option linter.unusedVariables false

/-- what Safe says -/
structure SafeP (L : List Tm) (ka sa lo hi x y e : Int) : Prop where
  args : argsB ka sa lo hi = false → x = 0 ∧ y = 0 ∧ e = 23
  line : argsB ka sa lo hi = true → lineB L = false → x = 0 ∧ y = 0 ∧ e = 8
  all : argsB ka sa lo hi = true → lineB L = true → ∃ A B, Edges lo hi (toldL L) A ∧ Edges lo hi (signL L) B ∧ ((outS L ka sa B A = none ∧ x = 0 ∧ y = 0 ∧ e = 0) ∨ (outS L ka sa B A = some (x, y) ∧ e = 25))
theorem safe_any (a : Option Addr) (n c : Nat) (L : List Tm) (ka sa lo hi : Int) (w : World) (hn : n = L.length) (hr : RdC w a 8 (L.map Tm.cells)) (hbig : n ≤ 1099511627776) :
    Calls Try.prog 5 #[.slice a n c, .int .i64 ka, .int .i64 sa, .int .i64 lo, .int .i64 hi] w fun en w' => ∃ x y e : Int, en = .returned (.tuple #[.int .i64 x, .int .i64 y, .int .i64 e]) ∧ SafeP L ka sa lo hi x y e ∧ Below w.heap.size w w' := by
  cases ha : argsB ka sa lo hi with
  | false =>
    refine (safe_args a n c ka sa lo hi w ha).mono ?_
    rintro en w' ⟨rfl, rfl⟩
    exact ⟨0, 0, 23, rfl, ⟨fun _ => ⟨rfl, rfl, rfl⟩, fun h => (by rw [ha] at h; cases h), fun h => (by rw [ha] at h; cases h)⟩, Below.refl _ _⟩
  | true =>
    cases hl : lineB L with
    | false =>
      refine (safe_line a n c L ka sa lo hi w hn hr hbig ha hl).mono ?_
      rintro en w' ⟨rfl, hB⟩
      exact ⟨0, 0, 8, rfl, ⟨fun h => (by rw [ha] at h; cases h), fun _ _ => ⟨rfl, rfl, rfl⟩, fun _ h => (by rw [hl] at h; cases h)⟩, hB⟩
    | true =>
      refine (safe_main a n c L ka sa lo hi w hn hr ha hl).mono ?_
      rintro en w' ⟨A, B, hA, hB, rfl, hw⟩
      cases ho : outS L ka sa B A with
      | none => exact ⟨0, 0, 0, rfl, ⟨fun h => (by rw [ha] at h; cases h), fun _ h => (by rw [hl] at h; cases h), fun _ _ => ⟨A, B, hA, hB, .inl ⟨ho, rfl, rfl, rfl⟩⟩⟩, hw⟩
      | some r => exact ⟨r.1, r.2, 25, rfl, ⟨fun h => (by rw [ha] at h; cases h), fun _ h => (by rw [hl] at h; cases h), fun _ _ => ⟨A, B, hA, hB, .inr ⟨ho, rfl⟩⟩⟩, hw⟩
end Go.Proofs.Ytnamkladeaohoaa.safeAll
namespace Go.Proofs.Ytnamkladeaohoaa.rollP
open Go.RowKit Go.Proofs.Ytnamkladeaohoaa.kit Go.Proofs.Ytnamkladeaohoaa.timed Go.Proofs.Ytnamkladeaohoaa.safeP Go.Proofs.Ytnamkladeaohoaa.right Go.Proofs.Ytnamkladeaohoaa.pub Go.Proofs.Ytnamkladeaohoaa.line
set_option linter.unusedVariables false

def ageB' (v : Int) : Bool := decide (0 ≤ v) && decide (v ≤ 2147483647)
/-- the loop that looks for the key that never retires -/
def loopN : List Tm → Nat → Int → Nat → Int × Nat
  | [], _, at', n => (at', n)
  | t :: r, k, at', n => if t.r = 4294967296 then loopN r (k + 1) (k : Int) (n + 1) else loopN r (k + 1) at' n
def newT (f m e s now ka : Int) : Tm := ⟨f, m, e, s, now, now + ka, 4294967296, 4294967296⟩
def rolled (L : List Tm) (i : Nat) (k : Tm) (f m e s now ka sa : Int) : List Tm := L.set i { k with r := now + ka, v := now + ka + sa } ++ [newT f m e s now ka]
def sameP (f m e s : Int) (t : Tm) : Bool := decide (pubS t.f t.m t.e t.s = pubS f m e s)
def rollT (L : List Tm) (i : Nat) (k : Tm) (f m e s now ka sa : Int) : List Tm × Int :=
  if now < k.a then ([], 29) else if 4294967295 < now + ka + sa then ([], 25) else if L.length = 50 then ([], 20) else (rolled L i k f m e s now ka sa, 0)
def rollS (L : List Tm) (f m e s now ka sa : Int) : List Tm × Int :=
  if (ageB' ka && ageB' sa) = false then ([], 23)
  else if (loopN L 0 (-1) 0).2 ≠ 1 ∨ lineB L = false then ([], 8)
  else if rightB f m e s = false then ([], 24)
  else if L.any (sameP f m e s) = true then ([], 19)
  else match L[(loopN L 0 (-1) 0).1.toNat]? with
    | none => ([], 8)
    | some k => rollT L (loopN L 0 (-1) 0).1.toNat k f m e s now ka sa
theorem loopN_ge : ∀ (L : List Tm) (k : Nat) (at' : Int) (n : Nat), n ≤ (loopN L k at' n).2
  | [], _, _, n => Nat.le_refl n
  | t :: r, k, at', n => by
    unfold loopN
    split
    · exact Nat.le_trans (Nat.le_succ n) (loopN_ge r (k + 1) _ (n + 1))
    · exact loopN_ge r (k + 1) at' n
theorem loopN_same : ∀ (L : List Tm) (k : Nat) (at' : Int) (n : Nat), (loopN L k at' n).2 = n → (loopN L k at' n).1 = at' ∧ ∀ t ∈ L, t.r ≠ 4294967296
  | [], _, _, n, _ => ⟨rfl, fun t h => by cases h⟩
  | t :: r, k, at', n, h => by
    unfold loopN at h ⊢
    split at h
    · have := loopN_ge r (k + 1) k (n + 1); omega
    · rename_i ht
      rw [if_neg ht]
      obtain ⟨h1, h2⟩ := loopN_same r (k + 1) at' n h
      refine ⟨h1, fun x hx => ?_⟩
      rcases List.mem_cons.1 hx with e | e
      · subst e; exact ht
      · exact h2 x e
theorem loopN_one : ∀ (L : List Tm) (k : Nat) (at' : Int) (n : Nat), (loopN L k at' n).2 = n + 1 → ∃ (i : Nat) (x : Tm), (loopN L k at' n).1 = ((k + i : Nat) : Int) ∧ L[i]? = some x ∧ x.r = 4294967296 ∧ ∀ (j : Nat) (y : Tm), L[j]? = some y → j ≠ i → y.r ≠ 4294967296
  | [], _, _, n, h => by simp [loopN] at h
  | t :: r, k, at', n, h => by
    unfold loopN at h ⊢
    split at h
    · rename_i ht
      rw [if_pos ht]
      obtain ⟨h1, h2⟩ := loopN_same r (k + 1) k (n + 1) h
      refine ⟨0, t, by rw [h1]; simp, rfl, ht, fun j y hy hj => ?_⟩
      obtain ⟨j', rfl⟩ : ∃ j', j = j' + 1 := ⟨j - 1, by omega⟩
      exact h2 y (List.mem_of_getElem? (by simpa using hy))
    · rename_i ht
      rw [if_neg ht]
      obtain ⟨i, x, h1, h2, h3, h4⟩ := loopN_one r (k + 1) at' n h
      refine ⟨i + 1, x, by rw [h1]; congr 1; omega, by simpa using h2, h3, fun j y hy hj => ?_⟩
      match j, hy, hj with
      | 0, hy, _ => simp at hy; subst hy; exact ht
      | j + 1, hy, hj => exact h4 j y (by simpa using hy) (by omega)
/-- what holds of a line of keys that follow one another -/
structure Chain (ka sa lo : Int) (L : List Tm) : Prop where
  line : lineB L = true
  cover : ∀ b, lo ≤ b → b ≤ 4294967295 → ∃ t ∈ L, t.a ≤ b ∧ b < t.r
  told : ∀ t ∈ L, t.p = lo ∨ t.p + ka ≤ t.a
  kept : ∀ t ∈ L, t.v = 4294967296 ∨ t.r + sa ≤ t.v
theorem Chain.serves {ka sa lo : Int} {L : List Tm} (h : Chain ka sa lo L) {a b : Int} (ha1 : lo ≤ a) (ha2 : a ≤ 4294967295) (hb1 : lo ≤ b) (hb2 : b ≤ 4294967295) (hk : b - a ≤ ka) (hs : a - b ≤ sa) : servL L a b = true := by
  obtain ⟨t, ht, h1, h2⟩ := h.cover b hb1 hb2
  refine served_iff.2 ⟨t, ht, h1, h2, ?_, ?_⟩
  · rcases h.told t ht with e | e <;> omega
  · rcases h.kept t ht with e | e <;> omega
theorem line_in {L : List Tm} (h : lineB L = true) : (∀ t ∈ L, okT t = true) ∧ L.length ≤ 50 := by
  unfold lineB at h
  simp only [Bool.and_eq_true, decide_eq_true_eq, List.all_eq_true] at h
  exact h
theorem ok_in {t : Tm} (h : okT t = true) : rightB t.f t.m t.e t.s = true ∧ 0 ≤ t.p ∧ t.p ≤ t.a ∧ t.a ≤ t.r ∧ t.r ≤ t.v ∧ t.v ≤ 4294967296 := by
  unfold okT at h
  simpa only [Bool.and_eq_true, decide_eq_true_eq] using h
theorem Chain.first {ka sa lo f m e s : Int} (hr : rightB f m e s = true) (h0 : 0 ≤ lo) (h1 : lo ≤ 4294967295) : Chain ka sa lo [⟨f, m, e, s, lo, lo, 4294967296, 4294967296⟩] := by
  refine ⟨?_, fun b h2 h3 => ⟨_, List.mem_singleton.2 rfl, h2, by show b < 4294967296; omega⟩, fun t ht => ?_, fun t ht => ?_⟩
  · unfold lineB okT
    simp only [List.all_cons, List.all_nil, Bool.and_true, Bool.and_eq_true, decide_eq_true_eq, List.length_singleton]
    refine ⟨⟨hr, h0, Int.le_refl _, ?_, Int.le_refl _, Int.le_refl _⟩, by decide⟩
    omega
  · simp only [List.mem_singleton] at ht; subst ht; exact .inl rfl
  · simp only [List.mem_singleton] at ht; subst ht; exact .inl rfl
theorem age_in {v : Int} (h : ageB' v = true) : 0 ≤ v ∧ v ≤ 2147483647 := by
  unfold ageB' at h; simpa using h
/-- a line that was rolled is one -/
theorem Chain.roll {ka sa lo f m e s now : Int} {L M : List Tm} (h : Chain ka sa lo L) (hr : rollS L f m e s now ka sa = (M, 0)) : Chain ka sa lo M := by
  unfold rollS at hr
  split at hr
  · simp at hr
  rename_i hag
  have hag' : (ageB' ka && ageB' sa) = true := by simpa using hag
  simp only [Bool.and_eq_true] at hag'
  have hka := age_in hag'.1; have hsa := age_in hag'.2
  split at hr
  · simp at hr
  rename_i h1
  have hn : (loopN L 0 (-1) 0).2 = 0 + 1 := by
    rcases Nat.decEq (loopN L 0 (-1) 0).2 1 with e | e
    · exact absurd (Or.inl e) h1
    · rw [e]
  obtain ⟨i, x, hi1, hi2, hi3, hi4⟩ := loopN_one L 0 (-1) 0 hn
  split at hr
  · simp at hr
  rename_i hrt
  have hrt' : rightB f m e s = true := by simpa using hrt
  split at hr
  · simp at hr
  rw [hi1] at hr
  simp only [Nat.zero_add, Int.toNat_natCast, hi2] at hr
  unfold rollT at hr
  split at hr
  · simp at hr
  rename_i hb
  split at hr
  · simp at hr
  rename_i ht
  split at hr
  · simp at hr
  rename_i hm
  simp only [Prod.mk.injEq, and_true] at hr
  subst hr
  obtain ⟨hL1, hL2⟩ := line_in h.line
  have hx := ok_in (hL1 x (List.mem_of_getElem? hi2))
  have hil : i < L.length := (List.getElem?_eq_some_iff.1 hi2).1
  have hmem : ∀ t, t ∈ rolled L i x f m e s now ka sa → t = { x with r := now + ka, v := now + ka + sa } ∨ t ∈ L ∨ t = newT f m e s now ka := by
    intro t ht
    unfold rolled at ht
    rcases List.mem_append.1 ht with e | e
    · rcases List.mem_or_eq_of_mem_set e with e | e
      · exact .inr (.inl e)
      · exact .inl e
    · exact .inr (.inr (List.mem_singleton.1 e))
  have hset : { x with r := now + ka, v := now + ka + sa } ∈ rolled L i x f m e s now ka sa := List.mem_append_left _ (List.mem_of_getElem? (i := i) (by rw [List.getElem?_set_self hil]))
  have hnew : newT f m e s now ka ∈ rolled L i x f m e s now ka sa := List.mem_append_right _ (List.mem_singleton.2 rfl)
  refine ⟨?_, fun b h2 h3 => ?_, fun t ht' => ?_, fun t ht' => ?_⟩
  · unfold lineB
    simp only [Bool.and_eq_true, decide_eq_true_eq, List.all_eq_true]
    refine ⟨fun t ht' => ?_, by unfold rolled; rw [List.length_append, List.length_set, List.length_singleton]; omega⟩
    rcases hmem t ht' with e | e | e
    · subst e
      unfold okT
      simp only [Bool.and_eq_true, decide_eq_true_eq]
      exact ⟨hx.1, hx.2.1, hx.2.2.1, by omega, by omega, by omega⟩
    · exact hL1 t e
    · subst e
      unfold okT newT
      simp only [Bool.and_eq_true, decide_eq_true_eq]
      exact ⟨hrt', by omega, by omega, by omega, by omega, by omega⟩
  · obtain ⟨t, ht1, ht2, ht3⟩ := h.cover b h2 h3
    obtain ⟨j, hj⟩ := List.getElem?_of_mem ht1
    by_cases hji : j = i
    · subst hji
      rw [hi2] at hj; cases hj
      by_cases hbn : b < now + ka
      · exact ⟨_, hset, ht2, hbn⟩
      · exact ⟨_, hnew, by unfold newT; show now + ka ≤ b; omega, by unfold newT; show b < 4294967296; omega⟩
    · refine ⟨t, List.mem_append_left _ (List.mem_of_getElem? (i := j) ?_), ht2, ht3⟩
      rw [List.getElem?_set_ne (by omega)]; exact hj
  · rcases hmem t ht' with e | e | e
    · subst e; exact h.told x (List.mem_of_getElem? hi2)
    · exact h.told t e
    · subst e; exact .inr (Int.le_refl _)
  · rcases hmem t ht' with e | e | e
    · subst e; exact .inr (Int.le_refl _)
    · exact h.kept t e
    · subst e; exact .inl rfl
end Go.Proofs.Ytnamkladeaohoaa.rollP
namespace Go.Proofs.Ytnamkladeaohoaa.rollA
open Go.RowKit Go.Proofs.Ytnamkladeaohoaa.kit Go.Proofs.Ytnamkladeaohoaa.timed Go.Proofs.Ytnamkladeaohoaa.safeP Go.Proofs.Ytnamkladeaohoaa.right Go.Proofs.Ytnamkladeaohoaa.pub Go.Proofs.Ytnamkladeaohoaa.line Go.Proofs.Ytnamkladeaohoaa.rollP
set_option linter.unusedVariables false

/-- a key in its box -/
structure KeyAt (w : World) (P : Nat) (f m e s : Int) : Prop where
  c0 : w.cell? ⟨P, 0, none⟩ = some (.int .i64 f)
  c1 : w.cell? ⟨P, 1, none⟩ = some (.int .i64 m)
  c2 : w.cell? ⟨P, 2, none⟩ = some (.int .i64 e)
  c3 : w.cell? ⟨P, 3, none⟩ = some (.int .i64 s)
theorem cell_kept {w w' : World} {a : Addr} {v : Value} (hB : Below w.heap.size w w') (ha : w.cell? a = some v) : w'.cell? a = some v := (hB.cell (p := a) (World.block_lt_of_cell? w _ ha)).trans ha
theorem KeyAt.below {w w' : World} {P : Nat} {f m e s : Int} (h : KeyAt w P f m e s) (hB : Below w.heap.size w w') : KeyAt w' P f m e s := ⟨cell_kept hB h.c0, cell_kept hB h.c1, cell_kept hB h.c2, cell_kept hB h.c3⟩
def S8 (W : World) (X P : Nat) (tf tm te ts f m e s : Int) (w' : World) : Prop := w'.cell? ⟨X, 0, none⟩ = some (.int .i64 tf) ∧ w'.cell? ⟨X, 1, none⟩ = some (.int .i64 tm) ∧ w'.cell? ⟨X, 2, none⟩ = some (.int .i64 te) ∧ w'.cell? ⟨X, 3, none⟩ = some (.int .i64 ts) ∧ w'.cell? ⟨P, 0, none⟩ = some (.int .i64 f) ∧ w'.cell? ⟨P, 1, none⟩ = some (.int .i64 m) ∧ w'.cell? ⟨P, 2, none⟩ = some (.int .i64 e) ∧ w'.cell? ⟨P, 3, none⟩ = some (.int .i64 s) ∧ Below W.heap.size W w'
theorem s8_of {W w' : World} {X P : Nat} {tf tm te ts f m e s : Int} (h1 : KeyAt W X tf tm te ts) (h2 : KeyAt W P f m e s) (hB : Below W.heap.size W w') : w'.cell? ⟨X, 0, none⟩ = some (.int .i64 tf) ∧ w'.cell? ⟨X, 1, none⟩ = some (.int .i64 tm) ∧ w'.cell? ⟨X, 2, none⟩ = some (.int .i64 te) ∧ w'.cell? ⟨X, 3, none⟩ = some (.int .i64 ts) ∧ w'.cell? ⟨P, 0, none⟩ = some (.int .i64 f) ∧ w'.cell? ⟨P, 1, none⟩ = some (.int .i64 m) ∧ w'.cell? ⟨P, 2, none⟩ = some (.int .i64 e) ∧ w'.cell? ⟨P, 3, none⟩ = some (.int .i64 s) ∧ Below W.heap.size W w' := by
  have a := h1.below hB; have b := h2.below hB
  exact ⟨a.c0, a.c1, a.c2, a.c3, b.c0, b.c1, b.c2, b.c3, hB⟩
theorem keep8 {W w w' : World} {X P : Nat} {v0 v1 v2 v3 u0 u1 u2 u3 : Value} (h : w.cell? ⟨X, 0, none⟩ = some v0 ∧ w.cell? ⟨X, 1, none⟩ = some v1 ∧ w.cell? ⟨X, 2, none⟩ = some v2 ∧ w.cell? ⟨X, 3, none⟩ = some v3 ∧ w.cell? ⟨P, 0, none⟩ = some u0 ∧ w.cell? ⟨P, 1, none⟩ = some u1 ∧ w.cell? ⟨P, 2, none⟩ = some u2 ∧ w.cell? ⟨P, 3, none⟩ = some u3 ∧ Below W.heap.size W w) (hB : Below w.heap.size w w') :
    w'.cell? ⟨X, 0, none⟩ = some v0 ∧ w'.cell? ⟨X, 1, none⟩ = some v1 ∧ w'.cell? ⟨X, 2, none⟩ = some v2 ∧ w'.cell? ⟨X, 3, none⟩ = some v3 ∧ w'.cell? ⟨P, 0, none⟩ = some u0 ∧ w'.cell? ⟨P, 1, none⟩ = some u1 ∧ w'.cell? ⟨P, 2, none⟩ = some u2 ∧ w'.cell? ⟨P, 3, none⟩ = some u3 ∧ Below W.heap.size W w' := by
  obtain ⟨a0, a1, a2, a3, b0, b1, b2, b3, h9⟩ := h
  exact ⟨cell_kept hB a0, cell_kept hB a1, cell_kept hB a2, cell_kept hB a3, cell_kept hB b0, cell_kept hB b1, cell_kept hB b2, cell_kept hB b3, h9.trans (hB.mono h9.size)⟩
theorem same_str (p q : List UInt8) : ((⟨p.toArray⟩ : ByteArray).toList == (⟨q.toArray⟩ : ByteArray).toList) = decide (p = q) := by
  rw [Lib.toList_data, Lib.toList_data]
  by_cases h : p = q
  · subst h; simp
  · rw [decide_eq_false h, beq_eq_false_iff_ne]; exact h
set_option maxRecDepth 100000 in
set_option maxHeartbeats 8000000 in
theorem same_any (t : Tm) (P : Nat) (f m e s : Int) (w : World) (hk : KeyAt w P f m e s) :
    Calls Try.prog 21 #[.agg #[.int .i64 t.f, .int .i64 t.m, .int .i64 t.e, .int .i64 t.s, .int .i64 t.p, .int .i64 t.a, .int .i64 t.r, .int .i64 t.v], .pointer (some ⟨P, 0, none⟩)] w fun en w' => en = .returned (.bool (sameP f m e s t)) ∧ Below w.heap.size w w' := by
  obtain ⟨tf, tm, te, ts, tp, ta, tr, tv⟩ := t
  dsimp only
  have hB0 := (Below.refl w.heap.size w).alloc (Nat.le_refl _) (.cells #[.int .i64 tf, .int .i64 tm, .int .i64 te, .int .i64 ts, .int .i64 tp, .int .i64 ta, .int .i64 tr, .int .i64 tv] 36)
  have hx := heap_alloc_new w (.cells #[.int .i64 tf, .int .i64 tm, .int .i64 te, .int .i64 ts, .int .i64 tp, .int .i64 ta, .int .i64 tr, .int .i64 tv] 36)
  obtain ⟨X, hX⟩ : ∃ X, w.heap.size = X := ⟨_, rfl⟩
  obtain ⟨W, hW⟩ : ∃ W, w.alloc (.cells #[.int .i64 tf, .int .i64 tm, .int .i64 te, .int .i64 ts, .int .i64 tp, .int .i64 ta, .int .i64 tr, .int .i64 tv] 36) = W := ⟨_, rfl⟩
  have hk0 := hk.below hB0
  rw [hW] at hB0 hx hk0
  rw [hX] at hx
  have hxk : KeyAt W X tf tm te ts := ⟨by simp only [World.cell?, hx]; rfl, by simp only [World.cell?, hx]; rfl, by simp only [World.cell?, hx]; rfl, by simp only [World.cell?, hx]; rfl⟩
  have HB0 := Lib.hid hB0; have HW := Lib.hid hW; have HX := Lib.hid hX; have HXK := Lib.hid hxk; have HK := Lib.hid hk0
  have hss := same_str (pubS tf tm te ts) (pubS f m e s)
  have CP := Lib.hid (fun wx => pub_any tf tm te ts wx)
  have CQ := Lib.hid (fun wx => pub_any f m e s wx)
  obtain ⟨S, hS⟩ : ∃ S : ByteArray, (⟨(pubS tf tm te ts).toArray⟩ : ByteArray) = S := ⟨_, rfl⟩
  obtain ⟨T, hT⟩ : ∃ T : ByteArray, (⟨(pubS f m e s).toArray⟩ : ByteArray) = T := ⟨_, rfl⟩
  rw [hS] at CP hss; rw [hT] at CQ hss
  have HSS : Hid (sameP f m e s ⟨tf, tm, te, ts, tp, ta, tr, tv⟩ = (S.toList == T.toList)) := Lib.hid (by rw [hss]; rfl)
  obtain ⟨a0, a1, a2, a3, b0, b1, b2, b3, hBd⟩ := s8_of hxk hk0 (Below.refl W.heap.size W).drew
  clear hB0 hW hX hx hk0 hxk hk hss hS hT
  go_enter Try.func21, Try.ntmps21
  go_upto_region 1 with fail
  rw [HW.out]
  try rw [HX.out]
  go_region_held3 (fun w' => w'.cell? ⟨X, 0, none⟩ = some (.int .i64 tf) ∧ w'.cell? ⟨X, 1, none⟩ = some (.int .i64 tm) ∧ w'.cell? ⟨X, 2, none⟩ = some (.int .i64 te) ∧ w'.cell? ⟨X, 3, none⟩ = some (.int .i64 ts) ∧ w'.cell? ⟨P, 0, none⟩ = some (.int .i64 f) ∧ w'.cell? ⟨P, 1, none⟩ = some (.int .i64 m) ∧ w'.cell? ⟨P, 2, none⟩ = some (.int .i64 e) ∧ w'.cell? ⟨P, 3, none⟩ = some (.int .i64 s) ∧ Below W.heap.size W w') (first | assumption | (refine ⟨?_, ?_, ?_, ?_, ?_, ?_, ?_, ?_, ?_⟩ <;> assumption))
    (first
      | (go_at_call_of 22 (Value.agg #[.int .i64 tf, .int .i64 tm, .int .i64 te, .int .i64 ts]); refine (CP.out _).mono ?_; rintro en w' ⟨rfl, hBz⟩; have hBz2 := keep8 (by assumption) hBz; clear hBz)
      | (go_at_call_of 22 (Value.agg #[.int .i64 f, .int .i64 m, .int .i64 e, .int .i64 s]); refine (CQ.out _).mono ?_; rintro en w' ⟨rfl, hBz⟩; have hBz2 := keep8 (by assumption) hBz; clear hBz))
  all_goals (go_wp2_with fail; go_ret; exact ⟨by rw [HSS.out]; rfl, HB0.out.trans ((‹_ ∧ _ ∧ _ ∧ _ ∧ _ ∧ _ ∧ _ ∧ _ ∧ Below _ _ _›).2.2.2.2.2.2.2.2.mono HB0.out.size)⟩)
end Go.Proofs.Ytnamkladeaohoaa.rollA
namespace Go.Proofs.Ytnamkladeaohoaa.cloneT
open Go.RowKit Go.Proofs.Ytnamkladeaohoaa.kit Go.Proofs.Ytnamkladeaohoaa.timed Go.Proofs.Ytnamkladeaohoaa.rows
set_option linter.unusedVariables false

theorem infoTm : (Try.prog.info? 36).map (fun i => (i.zero, i.size, i.bytes)) = some (some (.agg #[.int .i64 0, .int .i64 0, .int .i64 0, .int .i64 0, .int .i64 0, .int .i64 0, .int .i64 0, .int .i64 0]), 8, 64) := by kernel_rfl
theorem tm_one (x : Tm) (u : Value) (h : u ∈ x.cells) : u.oneCell' = true := by
  simp only [Tm.cells, List.mem_cons, List.not_mem_nil, or_false] at h
  rcases h with rfl | rfl | rfl | rfl | rfl | rfl | rfl | rfl <;> rfl
set_option maxRecDepth 100000 in
set_option maxHeartbeats 4000000 in
theorem clone_tm (a : Option Addr) (n c : Nat) (L : List Tm) (w : World) (hn : n = L.length) (hr : RdC w a 8 (L.map Tm.cells)) (ha : a = none → L.length = 0 ∧ c = 0) (hl : n ≤ 1099511627776) :
    Calls Try.prog 23 #[.slice a n c] w fun e w' => ∃ a' c', e = .returned (.slice a' n c') ∧ w'.ownsRow w.heap.size 36 8 (.slice a' n c') n (L.flatMap Tm.cells) ∧ Below w.heap.size w w' := by
  obtain ⟨i0, hif, hz0, hz1, hz2⟩ := info_parts infoTm
  have q22 : ∀ (w : World) (a : Option Addr) (n c n' c' : Nat), (binOp .eql 22 (.slice a n c) (.slice none n' c')).run Try.prog w = .ok (.bool a.isNone) w := fun w a n c n' c' => Lib.run_eql_slice_nil w _ _ a n c n' c' Try.underlying22
  cases a with
  | none =>
    obtain ⟨h0, h1⟩ := ha rfl
    subst hn
    have hL : L = [] := List.eq_nil_of_length_eq_zero h0
    subst hL; subst h1
    clear hr ha
    go_enter Try.func23, Try.ntmps23
    go_wp2_with fail
    go_ret
    exact ⟨none, 0, rfl, World.ownsRow_nil _ _ _ _, Below.refl _ _⟩
  | some ad =>
    have S1 : Hid (∀ (j : Nat) (u : Value), (L.flatMap Tm.cells)[j]? = some u → w.cell? (ad.add j) = some u) := Lib.hid (by
      rcases cells_rd Tm.cells 8 (by decide) (fun _ => rfl) hr c (fun h => by cases h) with ⟨h, _⟩ | ⟨ad', h1, h2⟩
      · cases h
      · cases h1; exact h2)
    have HN := Lib.hid hn
    clear hr ha hn
    go_enter Try.func23, Try.ntmps23
    go_wp2_with (at_builtin; refine wpList_append_src rfl _ _ 22 rfl w.heap.size 36 i0 _ 8 64 Try.underlying22 hif hz0 hz1 hz2 rfl (by decide) _ 0 [] rfl (World.ownsRow_made w #[] 0 (Nat.le_refl _) (Nat.zero_le _) rfl) (some ad) n c (L.flatMap Tm.cells) rfl (by rw [flat_len Tm.cells 8 (fun _ => rfl), HN.out]) (.inr ⟨ad, rfl, fun j u hj => Lib.cell?_alloc_some _ (S1.out j u hj)⟩) (one_cells tm_one) (by unfold maxLen; omega) (by omega) (by simp) ?_)
    intro v' w1 hown hgr
    have hB : Below w.heap.size w w1 := ((Below.refl _ w).alloc (Nat.le_refl _) _).grown hgr (by simp) (by intro k hk; simp [Value.ownBlock] at hk; omega)
    have ho : w1.ownsRow w.heap.size 36 8 v' n (L.flatMap Tm.cells) := by first | exact hown | simpa using hown
    obtain ⟨a', c', rfl⟩ : ∃ a' c', v' = .slice a' n c' := by
      rcases ho.2 with ⟨h1, h2⟩ | ⟨g, cap, cur, h1, _⟩
      · exact ⟨none, 0, by rw [h1, h2]⟩
      · exact ⟨_, _, h1⟩
    have HO := Lib.hid ho; have HB := Lib.hid hB
    clear hown hgr ho hB hif hz0 hz1 hz2
    go_wp2_with fail
    go_ret
    exact ⟨a', c', rfl, HO.out, HB.out⟩
end Go.Proofs.Ytnamkladeaohoaa.cloneT
