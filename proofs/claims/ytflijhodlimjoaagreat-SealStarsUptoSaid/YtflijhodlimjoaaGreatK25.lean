/- slices.SortFunc at lines: the row holds the sorted texts. -/
import Derived.Test.YtflijhodlimjoaaGreatK22
import Derived.Test.YtflijhodlimjoaaGreatK24
import Derived.Sort.OwnSortedInts
namespace Go.Proofs.YtflijhodlimjoaaGreat.sortL
open Go.RowKit Go.Sort Go.Shelf Go.Proofs.YtflijhodlimjoaaGreat.kit Go.Proofs.YtflijhodlimjoaaGreat.nspec Go.Proofs.YtflijhodlimjoaaGreat.sortT Go.Proofs.YtflijhodlimjoaaGreat.cmpT Go.Proofs.YtflijhodlimjoaaGreat.rows Go.Proofs.YtflijhodlimjoaaGreat.timed Go.Proofs.YtflijhodlimjoaaGreat.lnP
set_option linter.unusedVariables false

def cfB (a b : Bs) : Int := Lib.compareBytes a b
theorem lt_cf (a b : Bs) : ltOf cfB a b = ltT a b := rfl
theorem lt_not (a b : Bs) : ltT a b = !leT b a := by unfold leT; rw [Bool.not_not]
theorem lt_le {a b : Bs} (h : ltT a b = true) : leT a b = true := by
  have h1 := leT_total a b
  rw [lt_not] at h
  simp only [Bool.not_eq_true'] at h
  rw [h, Bool.or_false] at h1; exact h1
theorem swoB : SWO (ltOf cfB) where
  irrefl x := by
    rw [lt_cf, lt_not]
    have := leT_total x x
    rw [Bool.or_self] at this
    rw [this]; rfl
  trans x y z h1 h2 := by
    rw [lt_cf] at *
    have a1 := lt_le h1
    cases h3 : ltT x z with
    | true => rfl
    | false =>
      rw [lt_not] at h3 h2
      simp only [Bool.not_eq_false'] at h3
      simp only [Bool.not_eq_true'] at h2
      have := leT_trans h3 a1
      rw [h2] at this; cases this
  ntrans x y z h1 h2 := by
    rw [lt_cf, lt_not] at *
    simp only [Bool.not_eq_false'] at *
    exact leT_trans h2 h1
theorem flat_ln1 (ds : List Bs) : flatK lnC 1 ds.toArray = (ds.map strV).toArray := by
  apply Array.ext
  · simp
  · intro i h1 h2
    have h3 : i < ds.length := by simpa using h2
    simp [flatK, Nat.mod_one, lnC, h3]
theorem holds_ln {w : World} {base g n c : Nat} {e : TypeId} {ds : List Bs} (hn : n = ds.length) (h : w.ownsRow base e 1 (.slice (some ⟨g, 0, none⟩) n c) n (ds.flatMap lnC)) : HoldsK lnC 1 w g 0 ds.toArray := by
  intro j hj
  rw [flat_ln1] at hj ⊢
  have hj' : j < ds.length := by simpa using hj
  refine ⟨?_, own_thaw h _⟩
  rw [Nat.zero_add, own_ln h j ds[j] (List.getElem?_eq_getElem hj')]
  simp [hj']
theorem heap_sortedL {w : World} {g n : Nat} {os : Array Obj} {cur : Array Value} {e : TypeId} {fr : Nat × Nat} (d : Array Value) (hb : w.heap[g]? = some (.cells cur e fr)) :
    (grow (putRow id (Sort.ahead w n) g 0 d) os).heap[g]? = some (.cells (putCells id 0 d cur) e fr) := by
  have hg : g < w.heap.size := (Array.getElem?_eq_some_iff.1 hb).1
  rw [heap_grow_old _ _ (by simpa using hg)]
  simp [putRow, mapBlock, Sort.ahead, Array.getElem?_modify, hb, onCells]
theorem grownBy_sortedL {w : World} {g n : Nat} {os : Array Obj} (d : Array Value) : w.grownBy (grow (putRow id (Sort.ahead w n) g 0 d) os) (some g) := by
  refine ⟨rfl, rfl, rfl, by simp, fun k hk hne => ?_⟩
  rw [heap_grow_old _ _ (by simpa using hk)]
  have : g ≠ k := fun e => hne (by rw [e])
  simp [putRow, mapBlock, Sort.ahead, Array.getElem?_modify, this]
theorem take_putCellsL (cur : Array Value) (ts : List Value) (h : ts.length ≤ cur.size) : (putCells id 0 ts.toArray cur).toList.take ts.length = ts := by
  apply List.ext_getElem?
  intro j
  by_cases hj : j < ts.length
  · rw [List.getElem?_take_of_lt hj, Array.getElem?_toList]
    simp [putCells, hj, show j < cur.size by omega]
  · rw [List.getElem?_take_eq_none (by omega), List.getElem?_eq_none (by omega)]
theorem lays (blk off : Nat) (d : Array Bs) (w : World) : CmpLays Tryz.prog 122 #[] lnC 1 cfB blk off d.size w := by
  intro m os dk _ x y
  refine (lines1_any ⟨x.toArray⟩ ⟨y.toArray⟩ _).mono ?_
  rintro e w' ⟨rfl, rfl⟩
  refine ⟨rfl, 0, #[.cells #[.string ⟨x.toArray⟩] 137, .cells #[.string ⟨y.toArray⟩] 137], ?_⟩
  rw [alloc_eq_grow, alloc_eq_grow, grow_grow]
  rfl
set_option maxRecDepth 100000 in
set_option maxHeartbeats 2000000 in
theorem sortln_any (g n c base : Nat) (ds : List Bs) (w : World) (hn : n = ds.length) (h1 : 1 ≤ n) (hbase : base ≤ w.heap.size) (hbig : n ≤ 1099511627776) (h : w.ownsRow base 137 1 (.slice (some ⟨g, 0, none⟩) n c) n (ds.flatMap lnC)) :
    Calls Tryz.prog 121 #[.slice (some ⟨g, 0, none⟩) n c, .func (.func 122) #[] #[]] w fun e w' => e = .returned (.tuple #[]) ∧ w'.ownsRow base 137 1 (.slice (some ⟨g, 0, none⟩) n c) n ((sortedT ds).flatMap lnC) ∧ Below base w w' := by
  obtain ⟨g', cap, cur, hv, hg, hb, hnc, hcm, hcs, htk⟩ : ∃ g' cap cur, Value.slice (some ⟨g, 0, none⟩) n c = .slice (some ⟨g', 0, none⟩) n cap ∧ base ≤ g' ∧ w.heap[g']? = some (.cells cur 137 (0, 0)) ∧ n ≤ cap ∧ cap ≤ maxLen ∧ cur.size = cap * 1 ∧ cur.toList.take (n * 1) = ds.flatMap lnC := by
    rcases h.2 with ⟨h0, _⟩ | ⟨g', cap, cur, a1, a2, a3, a4, a5, a6, a7⟩
    · cases h0
    · exact ⟨g', cap, cur, a1, a2, a3, a4, a5, a6, a7⟩
  cases hv
  have eg : ∀ args w, (callFunc 122 args).run Tryz.prog w = .ok (.enter 122 args) w := enters_of Tryz.func122 (by kernel_rfl) rfl
  have hgs : g < w.heap.size := (Array.getElem?_eq_some_iff.1 hb).1
  have hcon := AnyQ.slices_SortFunc_total Tryz.sortln 1 Tryz.isAgg137 Tryz.sizeOf137 lnC (fun _ => rfl) ln_one cfB swoB 122 #[] g 0 c ds.toArray w eg (lays g 0 ds.toArray w) (holds_ln hn h) hgs (by rw [List.size_toArray, ← hn]; omega) (fun x y h1 h2 => leT_anti (by rw [lt_cf, lt_not] at h2; simpa using h2) (by rw [lt_cf, lt_not] at h1; simpa using h1))
  rw [List.size_toArray, ← hn] at hcon
  change Calls Tryz.prog 121 _ _ _ at hcon
  refine hcon.mono ?_
  rintro e w' ⟨rfl, k, os, rfl⟩
  have e1 : (fun x y : Bs => !(ltOf cfB) y x) = leT := by
    funext x y; rw [lt_cf, lt_not, Bool.not_not]
  have e2 : ((ds.toArray).toList.mergeSort fun x y => !(ltOf cfB) y x) = sortedT ds := by
    rw [e1, sorted_is]
  rw [e2]
  have e3 : sortWorldK lnC 1 w g 0 k (sortedT ds).toArray os = grow (putRow id (Sort.ahead w k) g 0 ((sortedT ds).map strV).toArray) os := by
    unfold sortWorldK putRowK
    rw [flat_ln1]
  rw [e3]
  have hl : ((sortedT ds).map strV).length = n := by rw [List.length_map, sortedT_len, hn]
  refine ⟨rfl, ?_, ?_⟩
  · refine ⟨by rw [ln_flat, hl, Nat.mul_one], .inr ⟨g, c, _, rfl, hg, heap_sortedL _ hb, hnc, hcm, by simp [putCells, hcs], ?_⟩⟩
    rw [ln_flat, Nat.mul_one, ← hl]
    exact take_putCellsL cur _ (by rw [hl]; omega)
  · exact (Below.refl base w).grown (grownBy_sortedL _) hbase (fun j e => by cases e; exact hg)
theorem sortln_none (w : World) :
    Calls Tryz.prog 121 #[.slice none 0 0, .func (.func 122) #[] #[]] w fun e w' => e = .returned (.tuple #[]) ∧ w' = w :=
  AnyF.slices_SortFunc_none Tryz.sortln none 0 _ w
end Go.Proofs.YtflijhodlimjoaaGreat.sortL
