/- The program's first, over whatever function: walks (gen_first.py). The program's closures over proofs: walks (gen_clos.py). proof.judgeBelow, judgeHashes: walks (gen_jh.py). The law NameCompares: its walk. -/
import Derived.Test.YtanoiiodnddkfaaGreatJ19
import Derived.Test.YtanoiiodnddkfaaGreatJ8
import Derived.Test.YtanoiiodnddkfaaGreatJ4
import Derived.Test.YtanoiiodnddkfaaGreatJ7
import Derived.Test.YtanoiiodnddkfaaGreatJ5
import Derived.OwnWalk
import Derived.Shelf.RegionOpenPlain
import Derived.Laws.Tables
import Derived.Laws.CopyOwn
import Derived.Laws.CopyRow
import Derived.Handy
namespace Go.Proofs.YtanoiiodnddkfaaGreat.first
open Go.RowKit Go.Proofs.YtanoiiodnddkfaaGreat.kit Go.Proofs.YtanoiiodnddkfaaGreat.nspec Go.Proofs.YtanoiiodnddkfaaGreat.fld Go.Proofs.YtanoiiodnddkfaaGreat.timed Go.Proofs.YtanoiiodnddkfaaGreat.wireP Go.Proofs.YtanoiiodnddkfaaGreat.gapP Go.Proofs.YtanoiiodnddkfaaGreat.bits Go.Proofs.YtanoiiodnddkfaaGreat.ints Go.Proofs.YtanoiiodnddkfaaGreat.gapA Go.Proofs.YtanoiiodnddkfaaGreat.gapC Go.Proofs.YtanoiiodnddkfaaGreat.gapN Go.Proofs.YtanoiiodnddkfaaGreat.gapR Go.Proofs.YtanoiiodnddkfaaGreat.useP Go.Proofs.YtanoiiodnddkfaaGreat.useM Go.Proofs.YtanoiiodnddkfaaGreat.judgeP
set_option linter.unusedVariables false

def zGr : Gr := ⟨⟨⟨⟨#[]⟩, 0, 0, 0, ⟨#[]⟩⟩, false, ⟨#[]⟩, ⟨#[]⟩, ⟨#[]⟩, 0, []⟩, none, 0, 0⟩
theorem map_at {L : List Gr} {k : Nat} {r : Gr} (h : L[k]? = some r) : (L.map Gr.g)[k]? = some r.g := by rw [List.getElem?_map, h]; rfl
theorem blk_lt {w : World} {X : Nat} {o : Obj} (h : w.heap[X]? = some o) : X < w.heap.size := (Array.getElem?_eq_some_iff.1 h).1
theorem below_setRow {w0 w : World} {b0 B : Nat} (h : Below b0 w0 w) (hb : b0 ≤ B) (cs : Array Value) : Below b0 w0 (w.setRow B cs) :=
  h.trans ⟨rfl, rfl, rfl, by simp, fun k hk => setRow_other _ _ _ _ (by omega)⟩
theorem set_same {w : World} {X i : Nat} {v : Value} {cs : Array Value} {t : TypeId} {fr : Nat × Nat} (h : w.heap[X]? = some (.cells cs t fr)) : (w.setCell ⟨X, i, none⟩ v).heap[X]? = some (.cells (cs.setIfInBounds i v) t fr) := by
  rw [setCell_eq_setRow w X i cs t fr v h]
  exact setRow_heap _ _ _ _ _ _ h
theorem below_one {w0 w : World} {b0 X i : Nat} {v : Value} (h : Below b0 w0 w) (hb : b0 ≤ X) : Below b0 w0 (w.setCell ⟨X, i, none⟩ v) :=
  h.trans ⟨rfl, rfl, rfl, by simp [World.setCell], fun k hk => Below.heap_setCell w ⟨X, i, none⟩ v k (by simp only; omega)⟩
def AtN (w : World) (X : Nat) (r : Gr) : Prop := w.heap[X]? = some (.cells (nameC r.g r.v) 58 (0, 0))
theorem AtN.below {w w1 : World} {X : Nat} {r : Gr} (h : AtN w X r) (hB : Below w.heap.size w w1) : AtN w1 X r := (hB.block X (blk_lt h)).trans h
theorem infoN : (Tryz.prog.info? 58).map (·.size) = some 8 := by kernel_rfl
theorem storeN {w : World} {B : Nat} {x y : Gr} (h : AtN w B y) : Sem.run Tryz.prog (storeCells ⟨B, 0, none⟩ (nameC x.g x.v).toList) w = .ok () (w.setRow B (nameC x.g x.v)) := by
  have e := run_storeCells_at (P := Tryz.prog) B 0 58 (nameC x.g x.v).toList 0 (nameC y.g y.v) w h (by simp [nameC]) (by intro v hv; simp [nameC, Gr.v] at hv; rcases hv with rfl | rfl | rfl | rfl | rfl | rfl | rfl | rfl <;> rfl)
  simpa [nameC] using e
theorem oneN (r : Gr) : ((nameC r.g r.v).all fun u => u.oneCell') = true := by
  have h : ∀ u ∈ (nameC r.g r.v).toList, u.oneCell' = true := by
    intro v hv
    simp [nameC, Gr.v] at hv
    rcases hv with rfl | rfl | rfl | rfl | rfl | rfl | rfl | rfl <;> rfl
  rw [← Array.all_toList, List.all_eq_true]
  exact h
theorem fzN {w : World} {X : Nat} {r : Gr} (h : AtN w X r) (i : Nat) : w.frozen? ⟨X, i, none⟩ = false := by unfold AtN at h; simp [World.frozen?, h]
/-- all the cells laid anew -/
def putN (w : World) (X : Nat) (r : Gr) : World := ((((((((w.setCell ⟨X, 0, none⟩ (.slice r.a r.n r.c)).setCell ⟨X, 1, none⟩ (.string r.g.x.o)).setCell ⟨X, 2, none⟩ (.int .i64 r.g.x.t)).setCell ⟨X, 3, none⟩ (.int .i64 r.g.x.c)).setCell ⟨X, 4, none⟩ (.int .i64 r.g.x.l)).setCell ⟨X, 5, none⟩ (.string r.g.x.d)).setCell ⟨X, 6, none⟩ (.string r.g.x.o)).setCell ⟨X, 7, none⟩ (.string r.g.nx))
theorem putN_at {w : World} {X : Nat} {y : Gr} (r : Gr) (h : AtN w X y) : AtN (putN w X r) X r := by
  have h0 : w.heap[X]? = some (.cells (nameC y.g y.v) 58 (0, 0)) := h
  have h1 := set_same (i := 7) (v := .string r.g.nx) (set_same (i := 6) (v := .string r.g.x.o) (set_same (i := 5) (v := .string r.g.x.d) (set_same (i := 4) (v := .int .i64 r.g.x.l) (set_same (i := 3) (v := .int .i64 r.g.x.c) (set_same (i := 2) (v := .int .i64 r.g.x.t) (set_same (i := 1) (v := .string r.g.x.o) (set_same (i := 0) (v := .slice r.a r.n r.c) (h0))))))))
  unfold AtN putN
  refine h1.trans ?_
  simp [nameC, Gr.v]
theorem putN_below {w0 w : World} {b0 X : Nat} (h : Below b0 w0 w) (hb : b0 ≤ X) (r : Gr) : Below b0 w0 (putN w X r) := below_one (below_one (below_one (below_one (below_one (below_one (below_one (below_one (h) hb) hb) hb) hb) hb) hb) hb) hb
/-- what a function says of one -/
def SaysN (fn : FuncId) (lb : Array Value) (pr : Gp → Bool) (L : List Gr) (w : World) : Prop :=
  ∀ r ∈ L, ∀ wx, Below w.heap.size w wx → Calls Tryz.prog fn (#[.agg (nameC r.g r.v)] ++ lb) wx fun e w' => e = .returned (.bool (pr r.g)) ∧ Below wx.heap.size wx w'
/-- what first answers -/
def FindN (pr : Gp → Bool) (L : List Gr) (e : Ending) : Prop :=
  ∃ r b, e = .returned (.tuple #[.agg (nameC r.g r.v), .bool b]) ∧ (b = true → r ∈ L ∧ (L.map Gr.g).find? pr = some r.g) ∧ (b = false → (L.map Gr.g).find? pr = none)
theorem resN {w : World} {B : Nat} {r : Gr} {j : Value} (tmps : Array Value) (h4 : tmps[4]?.getD undef = .pointer (some ⟨B, 0, none⟩)) (h5 : tmps[5]?.getD undef = j) (hx : AtN w B r) :
    (results Tryz.f27 tmps).run Tryz.prog w = .ok (.tuple #[.agg (nameC r.g r.v), j]) w := by
  have hx' : w.heap[B]? = some (.cells #[.slice r.a r.n r.c, .string r.g.x.o, .int .i64 r.g.x.t, .int .i64 r.g.x.c, .int .i64 r.g.x.l, .string r.g.x.d, .string r.g.x.o, .string r.g.nx] 58 (0, 0)) := hx
  obtain ⟨d0, d1, d2, d3, d4, d5, d6, d7⟩ := cells8 hx'
  simp [results, Tryz.results27, h4, h5, asAddr, go_sem, d0, d1, d2, d3, d4, d5, d6, d7, nameC, Gr.v]
theorem finN {w1 : World} {B : Nat} {r : Gr} {j : Value} {Q : Ending → World → Prop} (tmps : Array Value) (h4 : tmps[4]?.getD undef = .pointer (some ⟨B, 0, none⟩)) (h5 : tmps[5]?.getD undef = j) (hx : AtN w1 B r) (hR : Q (.returned (.tuple #[.agg (nameC r.g r.v), j])) w1) :
    bodyPost Tryz.prog Tryz.f27 Q .ret { tmps := tmps, defers := [] } w1 :=
  bodyPost_ret (v := .tuple #[.agg (nameC r.g r.v), j]) (resN tmps h4 h5 hx) rfl hR
set_option maxRecDepth 100000 in
set_option maxHeartbeats 2400000 in
theorem firstN_any (fn : FuncId) (lb : Array Value) (pr : Gp → Bool) (a : Option Addr) (n c : Nat) (L : List Gr) (w : World) (eg : ∀ args w, (callFunc fn args).run Tryz.prog w = .ok (.enter fn args) w) (hn : L.length = n) (hnl : n ≤ 1099511627776) (h : GapsR Gr.nameL 8 w a L) (hp : SaysN fn lb pr L w) :
    Calls Tryz.prog 27 #[.slice a n c, .func (.func fn) #[] lb] w fun e w' => FindN pr L e ∧ Below w.heap.size w w' := by
  obtain ⟨R, HR⟩ : ∃ R, Hid ((L.map Gr.g).find? pr = R) := ⟨_, Lib.hid rfl⟩
  have HS : Hid (((L.map Gr.g).drop 0).find? pr = R) := Lib.hid HR.out
  have HG := Lib.hid h; have HN := Lib.hid hn; have HP := Lib.hid hp
  clear h hn hp
  have hz : AtN (w.alloc (.cells (nameC zGr.g zGr.v) 58)) w.heap.size zGr := heap_alloc_new _ _
  have hB0 := (Below.refl w.heap.size w).alloc (Nat.le_refl _) (.cells (nameC zGr.g zGr.v) 58)
  obtain ⟨Z, hZ⟩ : ∃ Z, w.heap.size = Z := ⟨_, rfl⟩
  obtain ⟨W0, hW0⟩ : ∃ W, w.alloc (.cells (nameC zGr.g zGr.v) 58) = W := ⟨_, rfl⟩
  rw [hW0] at hz hB0
  rw [hZ] at hz
  have HZ := Lib.hid hz; have HZZ := Lib.hid hZ; have HB0 := Lib.hid hB0
  have HW0 : Hid (w.alloc (.cells #[.slice none 0 0, .string ⟨#[]⟩, .int .i64 0, .int .i64 0, .int .i64 0, .string ⟨#[]⟩, .string ⟨#[]⟩, .string ⟨#[]⟩] 58) = W0) := Lib.hid hW0
  clear hz hB0 hW0 hZ
  go_enter Tryz.func27, Tryz.ntmps27
  go_upto_region 1 with fail
  try rw [HW0.out]
  try rw [HZZ.out]
  go_wp2_with fail
  go_loopg [7, 11] (n + 1) (fun gas _ kv wr => ∃ (k : Nat), kv = .int .i64 k ∧ k ≤ n ∧ k + gas = n + 1 ∧ Hid (((L.map Gr.g).drop k).find? pr = R) ∧ Hid (AtN wr Z zGr) ∧ Below w.heap.size w wr)
  case atStart => exact ⟨0, rfl, by omega, by omega, HS, HZ, HB0.out⟩
  case round =>
    obtain ⟨k, rfl, hk, hkg, HW2, HZR, hB⟩ := hrel
    have HKG := Lib.hid hkg; clear hkg
    have HB := Lib.hid hB; clear hB
    by_cases hlt : k < n
    · obtain ⟨r, hy⟩ : ∃ r, L[k]? = some r := ⟨_, List.getElem?_eq_getElem (by have := HN.out; omega)⟩
      have hm := List.mem_of_getElem? hy
      obtain ⟨g0, of, rfl, hg, hcy⟩ := (HG.out.below HB.out).at hy
      have y0 : wr.cell? ⟨g0, of + k * 8, none⟩ = some (.slice r.a r.n r.c) := hcy 0 _ rfl
      have y1 : wr.cell? ⟨g0, of + k * 8 + 1, none⟩ = some (.string r.g.x.o) := hcy 1 _ rfl
      have y2 : wr.cell? ⟨g0, of + k * 8 + 2, none⟩ = some (.int .i64 r.g.x.t) := hcy 2 _ rfl
      have y3 : wr.cell? ⟨g0, of + k * 8 + 3, none⟩ = some (.int .i64 r.g.x.c) := hcy 3 _ rfl
      have y4 : wr.cell? ⟨g0, of + k * 8 + 4, none⟩ = some (.int .i64 r.g.x.l) := hcy 4 _ rfl
      have y5 : wr.cell? ⟨g0, of + k * 8 + 5, none⟩ = some (.string r.g.x.d) := hcy 5 _ rfl
      have y6 : wr.cell? ⟨g0, of + k * 8 + 6, none⟩ = some (.string r.g.x.o) := hcy 6 _ rfl
      have y7 : wr.cell? ⟨g0, of + k * 8 + 7, none⟩ = some (.string r.g.nx) := hcy 7 _ rfl
      have zk : (0 : Int) ≤ (k : Int) := by omega
      have zl : (k : Int) < (n : Int) := by omega
      have CG := Lib.hid (fun (wx : World) (hB : Below w.heap.size w wx) => HP.out r hm wx hB)
      obtain ⟨b, hb⟩ : ∃ b, pr r.g = b := ⟨_, rfl⟩
      rw [hb] at CG
      have HPB := Lib.hid hb; have HM := Lib.hid hm; have HY := Lib.hid hy
      have hB7 := (Below.refl wr.heap.size wr).alloc (Nat.le_refl _) (.cells (nameC r.g r.v) 58)
      have hx : AtN (wr.alloc (.cells (nameC r.g r.v) 58)) wr.heap.size r := heap_alloc_new _ _
      have hzr := HZR.out.below hB7
      obtain ⟨X, hX⟩ : ∃ X, wr.heap.size = X := ⟨_, rfl⟩
      obtain ⟨W, hW⟩ : ∃ W, wr.alloc (.cells (nameC r.g r.v) 58) = W := ⟨_, rfl⟩
      rw [hW] at hB7 hx hzr
      rw [hX] at hx
      have HW : Hid (wr.alloc (.cells #[.slice r.a r.n r.c, .string r.g.x.o, .int .i64 r.g.x.t, .int .i64 r.g.x.c, .int .i64 r.g.x.l, .string r.g.x.d, .string r.g.x.o, .string r.g.nx] 58) = W) := Lib.hid hW
      have HX := Lib.hid hX; have HXX := Lib.hid hx; have HZ7 := Lib.hid hzr
      have HB7 := Lib.hid (HB.out.trans (hB7.mono HB.out.size))
      clear hg hcy hm hb hy hB7 hX hW hzr
      go_upto_region 4 with fail
      try rw [HW.out]
      try rw [HX.out]
      clear y0 y1 y2 y3 y4 y5 y6 y7
      cases b with
      | true =>
        go_wp2_with (first | (refine wpList_load_row rfl 58 _ rfl X rfl 58 _ _ _ hx8 Tryz.underlying58 rfl (by rw [infoN]; rfl) ?_) | (refine wpList_load_row rfl 58 _ rfl X rfl 58 _ _ _ hx Tryz.underlying58 rfl (by rw [infoN]; rfl) ?_) | (refine wpList_store_row rfl 58 _ _ rfl Z _ rfl rfl 58 _ hz8 (by rw [infoN]; rfl) rfl rfl ?_) | (go_at_fn fn; refine (CG.out W HB7.out).mono ?_; rintro e w8 ⟨rfl, hB8⟩; have hx8 := HXX.out.below hB8; have hz8 := HZ7.out.below hB8; have hst := storeN (x := r) hz8))
        have HB8 := Lib.hid (HB7.out.trans (hB8.mono HB7.out.size))
        exact finN _ rfl rfl (setRow_heap _ _ _ _ _ _ hz8) ⟨⟨r, true, rfl, fun _ => ⟨HM.out, by rw [HR.out]; exact find_yes (map_at HY.out) HPB.out HW2.out⟩, fun h => (by cases h)⟩, below_setRow HB8.out (by rw [HZZ.out]; exact Nat.le_refl _) _⟩
      | false =>
        go_wp2_with (first | (refine wpList_load_row rfl 58 _ rfl X rfl 58 _ _ _ hx Tryz.underlying58 rfl (by rw [infoN]; rfl) ?_) | (go_at_fn fn; refine (CG.out W HB7.out).mono ?_; rintro e w8 ⟨rfl, hB8⟩))
        have HZ8 := Lib.hid (HZ7.out.below hB8)
        have HB8 := Lib.hid (HB7.out.trans (hB8.mono HB7.out.size))
        have HT := Lib.hid (find_no (map_at HY.out) HPB.out HW2.out)
        have hkg := HKG.out
        go_roundg (gk - 1)
        case rel => exact ⟨k + 1, by go_num, by omega, by omega, HT, HZ8, HB8.out⟩
        case measure => omega
    · have hnl : ¬ (k : Int) < (n : Int) := by omega
      have HF : Hid (R = none) := Lib.hid (by rw [← HW2.out, List.drop_eq_nil_of_le (by rw [List.length_map]; have := HN.out; omega)]; rfl)
      have hB7 := (Below.refl wr.heap.size wr).alloc (Nat.le_refl _) (.cells (nameC zGr.g zGr.v) 58)
      have hx : AtN (wr.alloc (.cells (nameC zGr.g zGr.v) 58)) wr.heap.size zGr := heap_alloc_new _ _
      have hzr := HZR.out.below hB7
      obtain ⟨X, hX⟩ : ∃ X, wr.heap.size = X := ⟨_, rfl⟩
      obtain ⟨W, hW⟩ : ∃ W, wr.alloc (.cells (nameC zGr.g zGr.v) 58) = W := ⟨_, rfl⟩
      rw [hW] at hB7 hx hzr
      rw [hX] at hx
      have HW : Hid (wr.alloc (.cells #[.slice none 0 0, .string ⟨#[]⟩, .int .i64 0, .int .i64 0, .int .i64 0, .string ⟨#[]⟩, .string ⟨#[]⟩, .string ⟨#[]⟩] 58) = W) := Lib.hid hW
      have HX := Lib.hid hX
      have HB7 := Lib.hid (HB.out.trans (hB7.mono HB.out.size))
      have hst := storeN (x := zGr) hzr
      clear hB7 hW hX
      go_upto_region 8 with fail
      try rw [HW.out]
      try rw [HX.out]
      go_wp2_with (refine wpList_load_row rfl 58 _ rfl X rfl 58 _ _ _ hx Tryz.underlying58 rfl (by rw [infoN]; rfl) ?_)
      exact finN _ rfl rfl (setRow_heap _ _ _ _ _ _ hzr) ⟨⟨zGr, false, rfl, fun h => (by cases h), fun _ => by rw [HR.out]; exact HF.out⟩, below_setRow HB7.out (by rw [HZZ.out]; exact Nat.le_refl _) _⟩
def AtH (w : World) (X : Nat) (r : Gr) : Prop := w.heap[X]? = some (.cells (hashC r.g r.v) 63 (0, 0))
theorem AtH.below {w w1 : World} {X : Nat} {r : Gr} (h : AtH w X r) (hB : Below w.heap.size w w1) : AtH w1 X r := (hB.block X (blk_lt h)).trans h
theorem infoH : (Tryz.prog.info? 63).map (·.size) = some 10 := by kernel_rfl
theorem storeH {w : World} {B : Nat} {x y : Gr} (h : AtH w B y) : Sem.run Tryz.prog (storeCells ⟨B, 0, none⟩ (hashC x.g x.v).toList) w = .ok () (w.setRow B (hashC x.g x.v)) := by
  have e := run_storeCells_at (P := Tryz.prog) B 0 63 (hashC x.g x.v).toList 0 (hashC y.g y.v) w h (by simp [hashC]) (by intro v hv; simp [hashC, Gr.v] at hv; rcases hv with rfl | rfl | rfl | rfl | rfl | rfl | rfl | rfl | rfl | rfl <;> rfl)
  simpa [hashC] using e
theorem oneH (r : Gr) : ((hashC r.g r.v).all fun u => u.oneCell') = true := by
  have h : ∀ u ∈ (hashC r.g r.v).toList, u.oneCell' = true := by
    intro v hv
    simp [hashC, Gr.v] at hv
    rcases hv with rfl | rfl | rfl | rfl | rfl | rfl | rfl | rfl | rfl | rfl <;> rfl
  rw [← Array.all_toList, List.all_eq_true]
  exact h
theorem fzH {w : World} {X : Nat} {r : Gr} (h : AtH w X r) (i : Nat) : w.frozen? ⟨X, i, none⟩ = false := by unfold AtH at h; simp [World.frozen?, h]
/-- all the cells laid anew -/
def putH (w : World) (X : Nat) (r : Gr) : World := ((((((((((w.setCell ⟨X, 0, none⟩ (.slice r.a r.n r.c)).setCell ⟨X, 1, none⟩ (.string r.g.x.o)).setCell ⟨X, 2, none⟩ (.int .i64 r.g.x.t)).setCell ⟨X, 3, none⟩ (.int .i64 r.g.x.c)).setCell ⟨X, 4, none⟩ (.int .i64 r.g.x.l)).setCell ⟨X, 5, none⟩ (.string r.g.x.d)).setCell ⟨X, 6, none⟩ (.string r.g.own)).setCell ⟨X, 7, none⟩ (.string r.g.nx)).setCell ⟨X, 8, none⟩ (.string r.g.salt)).setCell ⟨X, 9, none⟩ (.int .i64 r.g.rounds))
theorem putH_at {w : World} {X : Nat} {y : Gr} (r : Gr) (h : AtH w X y) : AtH (putH w X r) X r := by
  have h0 : w.heap[X]? = some (.cells (hashC y.g y.v) 63 (0, 0)) := h
  have h1 := set_same (i := 9) (v := .int .i64 r.g.rounds) (set_same (i := 8) (v := .string r.g.salt) (set_same (i := 7) (v := .string r.g.nx) (set_same (i := 6) (v := .string r.g.own) (set_same (i := 5) (v := .string r.g.x.d) (set_same (i := 4) (v := .int .i64 r.g.x.l) (set_same (i := 3) (v := .int .i64 r.g.x.c) (set_same (i := 2) (v := .int .i64 r.g.x.t) (set_same (i := 1) (v := .string r.g.x.o) (set_same (i := 0) (v := .slice r.a r.n r.c) (h0))))))))))
  unfold AtH putH
  refine h1.trans ?_
  simp [hashC, Gr.v]
theorem putH_below {w0 w : World} {b0 X : Nat} (h : Below b0 w0 w) (hb : b0 ≤ X) (r : Gr) : Below b0 w0 (putH w X r) := below_one (below_one (below_one (below_one (below_one (below_one (below_one (below_one (below_one (below_one (h) hb) hb) hb) hb) hb) hb) hb) hb) hb) hb
/-- what a function says of one -/
def SaysH (fn : FuncId) (lb : Array Value) (pr : Gp → Bool) (L : List Gr) (w : World) : Prop :=
  ∀ r ∈ L, ∀ wx, Below w.heap.size w wx → Calls Tryz.prog fn (#[.agg (hashC r.g r.v)] ++ lb) wx fun e w' => e = .returned (.bool (pr r.g)) ∧ Below wx.heap.size wx w'
/-- what first answers -/
def FindH (pr : Gp → Bool) (L : List Gr) (e : Ending) : Prop :=
  ∃ r b, e = .returned (.tuple #[.agg (hashC r.g r.v), .bool b]) ∧ (b = true → r ∈ L ∧ (L.map Gr.g).find? pr = some r.g) ∧ (b = false → (L.map Gr.g).find? pr = none)
theorem resH {w : World} {B : Nat} {r : Gr} {j : Value} (tmps : Array Value) (h4 : tmps[4]?.getD undef = .pointer (some ⟨B, 0, none⟩)) (h5 : tmps[5]?.getD undef = j) (hx : AtH w B r) :
    (results Tryz.f30 tmps).run Tryz.prog w = .ok (.tuple #[.agg (hashC r.g r.v), j]) w := by
  have hx' : w.heap[B]? = some (.cells #[.slice r.a r.n r.c, .string r.g.x.o, .int .i64 r.g.x.t, .int .i64 r.g.x.c, .int .i64 r.g.x.l, .string r.g.x.d, .string r.g.own, .string r.g.nx, .string r.g.salt, .int .i64 r.g.rounds] 63 (0, 0)) := hx
  obtain ⟨d0, d1, d2, d3, d4, d5, d6, d7, d8, d9⟩ := cells10 hx'
  simp [results, Tryz.results30, h4, h5, asAddr, go_sem, d0, d1, d2, d3, d4, d5, d6, d7, d8, d9, hashC, Gr.v]
theorem finH {w1 : World} {B : Nat} {r : Gr} {j : Value} {Q : Ending → World → Prop} (tmps : Array Value) (h4 : tmps[4]?.getD undef = .pointer (some ⟨B, 0, none⟩)) (h5 : tmps[5]?.getD undef = j) (hx : AtH w1 B r) (hR : Q (.returned (.tuple #[.agg (hashC r.g r.v), j])) w1) :
    bodyPost Tryz.prog Tryz.f30 Q .ret { tmps := tmps, defers := [] } w1 :=
  bodyPost_ret (v := .tuple #[.agg (hashC r.g r.v), j]) (resH tmps h4 h5 hx) rfl hR
set_option maxRecDepth 100000 in
set_option maxHeartbeats 2400000 in
theorem firstH_any (fn : FuncId) (lb : Array Value) (pr : Gp → Bool) (a : Option Addr) (n c : Nat) (L : List Gr) (w : World) (eg : ∀ args w, (callFunc fn args).run Tryz.prog w = .ok (.enter fn args) w) (hn : L.length = n) (hnl : n ≤ 1099511627776) (h : GapsR Gr.hashL 10 w a L) (hp : SaysH fn lb pr L w) :
    Calls Tryz.prog 30 #[.slice a n c, .func (.func fn) #[] lb] w fun e w' => FindH pr L e ∧ Below w.heap.size w w' := by
  obtain ⟨R, HR⟩ : ∃ R, Hid ((L.map Gr.g).find? pr = R) := ⟨_, Lib.hid rfl⟩
  have HS : Hid (((L.map Gr.g).drop 0).find? pr = R) := Lib.hid HR.out
  have HG := Lib.hid h; have HN := Lib.hid hn; have HP := Lib.hid hp
  clear h hn hp
  have hz : AtH (w.alloc (.cells (hashC zGr.g zGr.v) 63)) w.heap.size zGr := heap_alloc_new _ _
  have hB0 := (Below.refl w.heap.size w).alloc (Nat.le_refl _) (.cells (hashC zGr.g zGr.v) 63)
  obtain ⟨Z, hZ⟩ : ∃ Z, w.heap.size = Z := ⟨_, rfl⟩
  obtain ⟨W0, hW0⟩ : ∃ W, w.alloc (.cells (hashC zGr.g zGr.v) 63) = W := ⟨_, rfl⟩
  rw [hW0] at hz hB0
  rw [hZ] at hz
  have HZ := Lib.hid hz; have HZZ := Lib.hid hZ; have HB0 := Lib.hid hB0
  have HW0 : Hid (w.alloc (.cells #[.slice none 0 0, .string ⟨#[]⟩, .int .i64 0, .int .i64 0, .int .i64 0, .string ⟨#[]⟩, .string ⟨#[]⟩, .string ⟨#[]⟩, .string ⟨#[]⟩, .int .i64 0] 63) = W0) := Lib.hid hW0
  clear hz hB0 hW0 hZ
  go_enter Tryz.func30, Tryz.ntmps30
  go_upto_region 1 with fail
  try rw [HW0.out]
  try rw [HZZ.out]
  go_wp2_with fail
  go_loopg [7, 11] (n + 1) (fun gas _ kv wr => ∃ (k : Nat), kv = .int .i64 k ∧ k ≤ n ∧ k + gas = n + 1 ∧ Hid (((L.map Gr.g).drop k).find? pr = R) ∧ Hid (AtH wr Z zGr) ∧ Below w.heap.size w wr)
  case atStart => exact ⟨0, rfl, by omega, by omega, HS, HZ, HB0.out⟩
  case round =>
    obtain ⟨k, rfl, hk, hkg, HW2, HZR, hB⟩ := hrel
    have HKG := Lib.hid hkg; clear hkg
    have HB := Lib.hid hB; clear hB
    by_cases hlt : k < n
    · obtain ⟨r, hy⟩ : ∃ r, L[k]? = some r := ⟨_, List.getElem?_eq_getElem (by have := HN.out; omega)⟩
      have hm := List.mem_of_getElem? hy
      obtain ⟨g0, of, rfl, hg, hcy⟩ := (HG.out.below HB.out).at hy
      have y0 : wr.cell? ⟨g0, of + k * 10, none⟩ = some (.slice r.a r.n r.c) := hcy 0 _ rfl
      have y1 : wr.cell? ⟨g0, of + k * 10 + 1, none⟩ = some (.string r.g.x.o) := hcy 1 _ rfl
      have y2 : wr.cell? ⟨g0, of + k * 10 + 2, none⟩ = some (.int .i64 r.g.x.t) := hcy 2 _ rfl
      have y3 : wr.cell? ⟨g0, of + k * 10 + 3, none⟩ = some (.int .i64 r.g.x.c) := hcy 3 _ rfl
      have y4 : wr.cell? ⟨g0, of + k * 10 + 4, none⟩ = some (.int .i64 r.g.x.l) := hcy 4 _ rfl
      have y5 : wr.cell? ⟨g0, of + k * 10 + 5, none⟩ = some (.string r.g.x.d) := hcy 5 _ rfl
      have y6 : wr.cell? ⟨g0, of + k * 10 + 6, none⟩ = some (.string r.g.own) := hcy 6 _ rfl
      have y7 : wr.cell? ⟨g0, of + k * 10 + 7, none⟩ = some (.string r.g.nx) := hcy 7 _ rfl
      have y8 : wr.cell? ⟨g0, of + k * 10 + 8, none⟩ = some (.string r.g.salt) := hcy 8 _ rfl
      have y9 : wr.cell? ⟨g0, of + k * 10 + 9, none⟩ = some (.int .i64 r.g.rounds) := hcy 9 _ rfl
      have zk : (0 : Int) ≤ (k : Int) := by omega
      have zl : (k : Int) < (n : Int) := by omega
      have CG := Lib.hid (fun (wx : World) (hB : Below w.heap.size w wx) => HP.out r hm wx hB)
      obtain ⟨b, hb⟩ : ∃ b, pr r.g = b := ⟨_, rfl⟩
      rw [hb] at CG
      have HPB := Lib.hid hb; have HM := Lib.hid hm; have HY := Lib.hid hy
      have hB7 := (Below.refl wr.heap.size wr).alloc (Nat.le_refl _) (.cells (hashC r.g r.v) 63)
      have hx : AtH (wr.alloc (.cells (hashC r.g r.v) 63)) wr.heap.size r := heap_alloc_new _ _
      have hzr := HZR.out.below hB7
      obtain ⟨X, hX⟩ : ∃ X, wr.heap.size = X := ⟨_, rfl⟩
      obtain ⟨W, hW⟩ : ∃ W, wr.alloc (.cells (hashC r.g r.v) 63) = W := ⟨_, rfl⟩
      rw [hW] at hB7 hx hzr
      rw [hX] at hx
      have HW : Hid (wr.alloc (.cells #[.slice r.a r.n r.c, .string r.g.x.o, .int .i64 r.g.x.t, .int .i64 r.g.x.c, .int .i64 r.g.x.l, .string r.g.x.d, .string r.g.own, .string r.g.nx, .string r.g.salt, .int .i64 r.g.rounds] 63) = W) := Lib.hid hW
      have HX := Lib.hid hX; have HXX := Lib.hid hx; have HZ7 := Lib.hid hzr
      have HB7 := Lib.hid (HB.out.trans (hB7.mono HB.out.size))
      clear hg hcy hm hb hy hB7 hX hW hzr
      go_upto_region 4 with fail
      try rw [HW.out]
      try rw [HX.out]
      clear y0 y1 y2 y3 y4 y5 y6 y7 y8 y9
      cases b with
      | true =>
        go_wp2_with (first | (refine wpList_load_row rfl 63 _ rfl X rfl 63 _ _ _ hx8 Tryz.underlying63 rfl (by rw [infoH]; rfl) ?_) | (refine wpList_load_row rfl 63 _ rfl X rfl 63 _ _ _ hx Tryz.underlying63 rfl (by rw [infoH]; rfl) ?_) | (refine wpList_store_row rfl 63 _ _ rfl Z _ rfl rfl 63 _ hz8 (by rw [infoH]; rfl) rfl rfl ?_) | (go_at_fn fn; refine (CG.out W HB7.out).mono ?_; rintro e w8 ⟨rfl, hB8⟩; have hx8 := HXX.out.below hB8; have hz8 := HZ7.out.below hB8; have hst := storeH (x := r) hz8))
        have HB8 := Lib.hid (HB7.out.trans (hB8.mono HB7.out.size))
        exact finH _ rfl rfl (setRow_heap _ _ _ _ _ _ hz8) ⟨⟨r, true, rfl, fun _ => ⟨HM.out, by rw [HR.out]; exact find_yes (map_at HY.out) HPB.out HW2.out⟩, fun h => (by cases h)⟩, below_setRow HB8.out (by rw [HZZ.out]; exact Nat.le_refl _) _⟩
      | false =>
        go_wp2_with (first | (refine wpList_load_row rfl 63 _ rfl X rfl 63 _ _ _ hx Tryz.underlying63 rfl (by rw [infoH]; rfl) ?_) | (go_at_fn fn; refine (CG.out W HB7.out).mono ?_; rintro e w8 ⟨rfl, hB8⟩))
        have HZ8 := Lib.hid (HZ7.out.below hB8)
        have HB8 := Lib.hid (HB7.out.trans (hB8.mono HB7.out.size))
        have HT := Lib.hid (find_no (map_at HY.out) HPB.out HW2.out)
        have hkg := HKG.out
        go_roundg (gk - 1)
        case rel => exact ⟨k + 1, by go_num, by omega, by omega, HT, HZ8, HB8.out⟩
        case measure => omega
    · have hnl : ¬ (k : Int) < (n : Int) := by omega
      have HF : Hid (R = none) := Lib.hid (by rw [← HW2.out, List.drop_eq_nil_of_le (by rw [List.length_map]; have := HN.out; omega)]; rfl)
      have hB7 := (Below.refl wr.heap.size wr).alloc (Nat.le_refl _) (.cells (hashC zGr.g zGr.v) 63)
      have hx : AtH (wr.alloc (.cells (hashC zGr.g zGr.v) 63)) wr.heap.size zGr := heap_alloc_new _ _
      have hzr := HZR.out.below hB7
      obtain ⟨X, hX⟩ : ∃ X, wr.heap.size = X := ⟨_, rfl⟩
      obtain ⟨W, hW⟩ : ∃ W, wr.alloc (.cells (hashC zGr.g zGr.v) 63) = W := ⟨_, rfl⟩
      rw [hW] at hB7 hx hzr
      rw [hX] at hx
      have HW : Hid (wr.alloc (.cells #[.slice none 0 0, .string ⟨#[]⟩, .int .i64 0, .int .i64 0, .int .i64 0, .string ⟨#[]⟩, .string ⟨#[]⟩, .string ⟨#[]⟩, .string ⟨#[]⟩, .int .i64 0] 63) = W) := Lib.hid hW
      have HX := Lib.hid hX
      have HB7 := Lib.hid (HB.out.trans (hB7.mono HB.out.size))
      have hst := storeH (x := zGr) hzr
      clear hB7 hW hX
      go_upto_region 8 with fail
      try rw [HW.out]
      try rw [HX.out]
      go_wp2_with (refine wpList_load_row rfl 63 _ rfl X rfl 63 _ _ _ hx Tryz.underlying63 rfl (by rw [infoH]; rfl) ?_)
      exact finH _ rfl rfl (setRow_heap _ _ _ _ _ _ hzr) ⟨⟨zGr, false, rfl, fun h => (by cases h), fun _ => by rw [HR.out]; exact HF.out⟩, below_setRow HB7.out (by rw [HZZ.out]; exact Nat.le_refl _) _⟩
end Go.Proofs.YtanoiiodnddkfaaGreat.first
namespace Go.Proofs.YtanoiiodnddkfaaGreat.clos
open Go.RowKit Go.Proofs.YtanoiiodnddkfaaGreat.kit Go.Proofs.YtanoiiodnddkfaaGreat.nspec Go.Proofs.YtanoiiodnddkfaaGreat.refA Go.Proofs.YtanoiiodnddkfaaGreat.refB Go.Proofs.YtanoiiodnddkfaaGreat.fld Go.Proofs.YtanoiiodnddkfaaGreat.timed Go.Proofs.YtanoiiodnddkfaaGreat.wireP Go.Proofs.YtanoiiodnddkfaaGreat.gapP Go.Proofs.YtanoiiodnddkfaaGreat.bits Go.Proofs.YtanoiiodnddkfaaGreat.ints Go.Proofs.YtanoiiodnddkfaaGreat.gapA Go.Proofs.YtanoiiodnddkfaaGreat.gapC Go.Proofs.YtanoiiodnddkfaaGreat.gapN Go.Proofs.YtanoiiodnddkfaaGreat.gapH Go.Proofs.YtanoiiodnddkfaaGreat.gapJ Go.Proofs.YtanoiiodnddkfaaGreat.gapK Go.Proofs.YtanoiiodnddkfaaGreat.gapR Go.Proofs.YtanoiiodnddkfaaGreat.useP Go.Proofs.YtanoiiodnddkfaaGreat.useM Go.Proofs.YtanoiiodnddkfaaGreat.judgeP Go.Proofs.YtanoiiodnddkfaaGreat.first
set_option linter.unusedVariables false

theorem ckb {w w' : World} {a : Addr} {v : Value} (hB : Below w.heap.size w w') (h : w.cell? a = some v) : w'.cell? a = some v := (hB.cell (p := a) (World.block_lt_of_cell? w _ h)).trans h
theorem any_find {L : List Gr} {f : Gp → Bool} {b : Bool} (h1 : b = true → ∃ g, (L.map Gr.g).find? f = some g) (h2 : b = false → (L.map Gr.g).find? f = none) : (L.map Gr.g).any f = b := by
  cases b with
  | true =>
    obtain ⟨g, hg⟩ := h1 rfl
    exact List.any_eq_true.2 ⟨g, List.mem_of_find?_eq_some hg, List.find?_some hg⟩
  | false =>
    have h := h2 rfl
    rw [List.find?_eq_none] at h
    rw [List.any_eq_false]
    intro x hx
    have := h x hx
    simpa using this
set_option maxRecDepth 100000 in
set_option maxHeartbeats 1200000 in
theorem names2_any (r : Gr) (P : Nat) (N : ByteArray) (w : World) (hT : TyR w r) (hh : r.g.hashed = false) (hN : N.size ≤ 1048576) (hp : w.cell? ⟨P, 0, none⟩ = some (.string N)) :
    Calls Tryz.prog 46 #[.agg (nameC r.g r.v), .pointer (some ⟨P, 0, none⟩)] w fun e w' => e = .returned (.bool (denyB r.g N.data.toList)) ∧ Below w.heap.size w w' := by
  have CM := Lib.hid (fun (wx : World) (hB : Below w.heap.size w wx) => ndenies_any r.g r.a r.n r.c N wx hT.ok hN hh hT.len hT.le (hT.rd.below hB rfl))
  have e : denyB r.g N.data.toList = denyB r.g N.data.toList := by rfl
  rw [e]
  have hB0 := (Below.refl w.heap.size w).alloc (Nat.le_refl _) (.cells (nameC r.g r.v) 58)
  have hx : AtN (w.alloc (.cells (nameC r.g r.v) 58)) w.heap.size r := heap_alloc_new _ _
  obtain ⟨X, hX⟩ : ∃ X, w.heap.size = X := ⟨_, rfl⟩
  obtain ⟨W, hW⟩ : ∃ W, w.alloc (.cells (nameC r.g r.v) 58) = W := ⟨_, rfl⟩
  rw [hW] at hB0 hx
  rw [hX] at hx
  have q1 := ckb hB0 hp
  have HX := Lib.hid hX; have HW := Lib.hid hW; have HB0 := Lib.hid hB0; have HXX := Lib.hid hx
  clear hX hW hB0 hp
  clear hh e hT
  go_enter Tryz.func46, Tryz.ntmps46
  go_upto_region 1 with fail
  try rw [HW.out]
  try rw [HX.out]
  go_wp2_with (refine wpList_load_row rfl 58 _ rfl X rfl 58 _ _ _ hx Tryz.underlying58 rfl (by rw [infoN]; rfl) ?_)
  refine (CM.out W HB0.out).mono ?_
  rintro e w1 ⟨rfl, hB1⟩
  have HB1 := Lib.hid (HB0.out.trans (hB1.mono HB0.out.size))
  clear hB1
  go_wp2_with fail
  go_ret
  first | exact ⟨rfl, HB1.out⟩ | exact ⟨rfl, HX.out ▸ HB1.out⟩
set_option maxRecDepth 100000 in
set_option maxHeartbeats 1200000 in
theorem hashes1_any (r : Gr) (P : Nat) (N : ByteArray) (w : World) (hT : TyR w r) (hh : r.g.hashed = true) (hN : N.size ≤ 1048576) (hp : w.cell? ⟨P, 0, none⟩ = some (.string N)) :
    Calls Tryz.prog 47 #[.agg (hashC r.g r.v), .pointer (some ⟨P, 0, none⟩)] w fun e w' => e = .returned (.bool (matchB r.g N.data.toList)) ∧ Below w.heap.size w w' := by
  have CM := Lib.hid (fun (wx : World) (hB : Below w.heap.size w wx) => hmatches_any r.g r.a r.n r.c N wx hT.ok hN hh)
  have e : matchB r.g N.data.toList = decide (hashOf r.g N.data.toList = r.g.own.data.toList) := by simp only [matchB, hh]; rfl
  rw [e]
  have hB0 := (Below.refl w.heap.size w).alloc (Nat.le_refl _) (.cells (hashC r.g r.v) 63)
  have hx : AtH (w.alloc (.cells (hashC r.g r.v) 63)) w.heap.size r := heap_alloc_new _ _
  obtain ⟨X, hX⟩ : ∃ X, w.heap.size = X := ⟨_, rfl⟩
  obtain ⟨W, hW⟩ : ∃ W, w.alloc (.cells (hashC r.g r.v) 63) = W := ⟨_, rfl⟩
  rw [hW] at hB0 hx
  rw [hX] at hx
  have q1 := ckb hB0 hp
  have HX := Lib.hid hX; have HW := Lib.hid hW; have HB0 := Lib.hid hB0; have HXX := Lib.hid hx
  clear hX hW hB0 hp
  clear hh e hT
  go_enter Tryz.func47, Tryz.ntmps47
  go_upto_region 1 with fail
  try rw [HW.out]
  try rw [HX.out]
  go_wp2_with (refine wpList_load_row rfl 63 _ rfl X rfl 63 _ _ _ hx Tryz.underlying63 rfl (by rw [infoH]; rfl) ?_)
  refine (CM.out W HB0.out).mono ?_
  rintro e w1 ⟨rfl, hB1⟩
  have HB1 := Lib.hid (HB0.out.trans (hB1.mono HB0.out.size))
  clear hB1
  go_wp2_with fail
  go_ret
  first | exact ⟨rfl, HB1.out⟩ | exact ⟨rfl, HX.out ▸ HB1.out⟩
set_option maxRecDepth 100000 in
set_option maxHeartbeats 1200000 in
theorem below11_any (r : Gr) (P : Nat) (N : ByteArray) (w : World) (hT : TyR w r) (hh : r.g.hashed = true) (hN : N.size ≤ 1048576) (hp : w.cell? ⟨P, 0, none⟩ = some (.string N)) :
    Calls Tryz.prog 76 #[.agg (hashC r.g r.v), .pointer (some ⟨P, 0, none⟩)] w fun e w' => e = .returned (.bool (spanB r.g N.data.toList)) ∧ Below w.heap.size w w' := by
  have CM := Lib.hid (fun (wx : World) (hB : Below w.heap.size w wx) => hcovers_any r.g r.a r.n r.c N wx hT.ok hN hh)
  have e : spanB r.g N.data.toList = betB r.g.own.data.toList r.g.nx.data.toList (hashOf r.g N.data.toList) := by simp only [spanB, hh]; rfl
  rw [e]
  have hB0 := (Below.refl w.heap.size w).alloc (Nat.le_refl _) (.cells (hashC r.g r.v) 63)
  have hx : AtH (w.alloc (.cells (hashC r.g r.v) 63)) w.heap.size r := heap_alloc_new _ _
  obtain ⟨X, hX⟩ : ∃ X, w.heap.size = X := ⟨_, rfl⟩
  obtain ⟨W, hW⟩ : ∃ W, w.alloc (.cells (hashC r.g r.v) 63) = W := ⟨_, rfl⟩
  rw [hW] at hB0 hx
  rw [hX] at hx
  have q1 := ckb hB0 hp
  have HX := Lib.hid hX; have HW := Lib.hid hW; have HB0 := Lib.hid hB0; have HXX := Lib.hid hx
  clear hX hW hB0 hp
  clear hh e hT
  go_enter Tryz.func76, Tryz.ntmps76
  go_upto_region 1 with fail
  try rw [HW.out]
  try rw [HX.out]
  go_wp2_with (refine wpList_load_row rfl 63 _ rfl X rfl 63 _ _ _ hx Tryz.underlying63 rfl (by rw [infoH]; rfl) ?_)
  refine (CM.out W HB0.out).mono ?_
  rintro e w1 ⟨rfl, hB1⟩
  have HB1 := Lib.hid (HB0.out.trans (hB1.mono HB0.out.size))
  clear hB1
  go_wp2_with fail
  go_ret
  first | exact ⟨rfl, HB1.out⟩ | exact ⟨rfl, HX.out ▸ HB1.out⟩
set_option maxRecDepth 100000 in
set_option maxHeartbeats 1200000 in
theorem below2_any (r : Gr) (P : Nat) (N : ByteArray) (w : World) (hT : TyR w r) (hh : r.g.hashed = true) (hN : N.size ≤ 1048576) (hp : w.cell? ⟨P, 0, none⟩ = some (.string N)) :
    Calls Tryz.prog 77 #[.agg (hashC r.g r.v), .pointer (some ⟨P, 0, none⟩)] w fun e w' => e = .returned (.bool (matchB r.g N.data.toList)) ∧ Below w.heap.size w w' := by
  have CM := Lib.hid (fun (wx : World) (hB : Below w.heap.size w wx) => hmatches_any r.g r.a r.n r.c N wx hT.ok hN hh)
  have e : matchB r.g N.data.toList = decide (hashOf r.g N.data.toList = r.g.own.data.toList) := by simp only [matchB, hh]; rfl
  rw [e]
  have hB0 := (Below.refl w.heap.size w).alloc (Nat.le_refl _) (.cells (hashC r.g r.v) 63)
  have hx : AtH (w.alloc (.cells (hashC r.g r.v) 63)) w.heap.size r := heap_alloc_new _ _
  obtain ⟨X, hX⟩ : ∃ X, w.heap.size = X := ⟨_, rfl⟩
  obtain ⟨W, hW⟩ : ∃ W, w.alloc (.cells (hashC r.g r.v) 63) = W := ⟨_, rfl⟩
  rw [hW] at hB0 hx
  rw [hX] at hx
  have q1 := ckb hB0 hp
  have HX := Lib.hid hX; have HW := Lib.hid hW; have HB0 := Lib.hid hB0; have HXX := Lib.hid hx
  clear hX hW hB0 hp
  clear hh e hT
  go_enter Tryz.func77, Tryz.ntmps77
  go_upto_region 1 with fail
  try rw [HW.out]
  try rw [HX.out]
  go_wp2_with (refine wpList_load_row rfl 63 _ rfl X rfl 63 _ _ _ hx Tryz.underlying63 rfl (by rw [infoH]; rfl) ?_)
  refine (CM.out W HB0.out).mono ?_
  rintro e w1 ⟨rfl, hB1⟩
  have HB1 := Lib.hid (HB0.out.trans (hB1.mono HB0.out.size))
  clear hB1
  go_wp2_with fail
  go_ret
  first | exact ⟨rfl, HB1.out⟩ | exact ⟨rfl, HX.out ▸ HB1.out⟩
set_option maxRecDepth 100000 in
set_option maxHeartbeats 1200000 in
theorem absent2_any (r : Gr) (P : Nat) (N : ByteArray) (w : World) (hT : TyR w r) (hh : r.g.hashed = true) (hN : N.size ≤ 1048576) (hp : w.cell? ⟨P, 0, none⟩ = some (.string N)) :
    Calls Tryz.prog 31 #[.agg (hashC r.g r.v), .pointer (some ⟨P, 0, none⟩)] w fun e w' => e = .returned (.bool (spanB r.g N.data.toList)) ∧ Below w.heap.size w w' := by
  have CM := Lib.hid (fun (wx : World) (hB : Below w.heap.size w wx) => hcovers_any r.g r.a r.n r.c N wx hT.ok hN hh)
  have e : spanB r.g N.data.toList = betB r.g.own.data.toList r.g.nx.data.toList (hashOf r.g N.data.toList) := by simp only [spanB, hh]; rfl
  rw [e]
  have hB0 := (Below.refl w.heap.size w).alloc (Nat.le_refl _) (.cells (hashC r.g r.v) 63)
  have hx : AtH (w.alloc (.cells (hashC r.g r.v) 63)) w.heap.size r := heap_alloc_new _ _
  obtain ⟨X, hX⟩ : ∃ X, w.heap.size = X := ⟨_, rfl⟩
  obtain ⟨W, hW⟩ : ∃ W, w.alloc (.cells (hashC r.g r.v) 63) = W := ⟨_, rfl⟩
  rw [hW] at hB0 hx
  rw [hX] at hx
  have q1 := ckb hB0 hp
  have HX := Lib.hid hX; have HW := Lib.hid hW; have HB0 := Lib.hid hB0; have HXX := Lib.hid hx
  clear hX hW hB0 hp
  clear hh e hT
  go_enter Tryz.func31, Tryz.ntmps31
  go_upto_region 1 with fail
  try rw [HW.out]
  try rw [HX.out]
  go_wp2_with (refine wpList_load_row rfl 63 _ rfl X rfl 63 _ _ _ hx Tryz.underlying63 rfl (by rw [infoH]; rfl) ?_)
  refine (CM.out W HB0.out).mono ?_
  rintro e w1 ⟨rfl, hB1⟩
  have HB1 := Lib.hid (HB0.out.trans (hB1.mono HB0.out.size))
  clear hB1
  go_wp2_with fail
  go_ret
  first | exact ⟨rfl, HB1.out⟩ | exact ⟨rfl, HX.out ▸ HB1.out⟩
set_option maxRecDepth 100000 in
set_option maxHeartbeats 1600000 in
theorem names11_any (r : Gr) (P P2 : Nat) (N : ByteArray) (t : Int) (w : World) (hT : TyR w r) (hh : r.g.hashed = false) (hN : N.size ≤ 1048576) (hp : w.cell? ⟨P, 0, none⟩ = some (.string N)) (hp2 : w.cell? ⟨P2, 0, none⟩ = some (.int .i64 t)) :
    Calls Tryz.prog 41 #[.agg (nameC r.g r.v), .pointer (some ⟨P, 0, none⟩), .pointer (some ⟨P2, 0, none⟩)] w fun e w' => e = .returned (.bool (matchB r.g N.data.toList && lacksB r.g t)) ∧ Below w.heap.size w w' := by
  have CM := Lib.hid (fun (wx : World) (hB : Below w.heap.size w wx) => nmatches_any r.g r.a r.n r.c N wx hT.ok hN)
  have CL := Lib.hid (fun (wx : World) (hB : Below w.heap.size w wx) => nlacks_any r.g r.a r.n r.c t wx hT.len hT.le (hT.rd.below hB rfl))
  have e : matchB r.g N.data.toList = equalS r.g.x.o.data.toList N.data.toList := by simp only [matchB, hh]; rfl
  rw [e]
  obtain ⟨b1, h1⟩ : ∃ b, equalS r.g.x.o.data.toList N.data.toList = b := ⟨_, rfl⟩
  obtain ⟨b2, h2⟩ : ∃ b, lacksB r.g t = b := ⟨_, rfl⟩
  rw [h1] at CM ⊢
  rw [h2] at CL ⊢
  clear h1 h2
  have hB0 := (Below.refl w.heap.size w).alloc (Nat.le_refl _) (.cells (nameC r.g r.v) 58)
  have hx : AtN (w.alloc (.cells (nameC r.g r.v) 58)) w.heap.size r := heap_alloc_new _ _
  obtain ⟨X, hX⟩ : ∃ X, w.heap.size = X := ⟨_, rfl⟩
  obtain ⟨W, hW⟩ : ∃ W, w.alloc (.cells (nameC r.g r.v) 58) = W := ⟨_, rfl⟩
  rw [hW] at hB0 hx
  rw [hX] at hx
  have q1 := ckb hB0 hp; have q2 := ckb hB0 hp2
  have HX := Lib.hid hX; have HW := Lib.hid hW; have HB0 := Lib.hid hB0; have HXX := Lib.hid hx
  clear hX hW hB0 hp hp2
  clear hh e hT
  cases b1 with
  | false =>
    go_enter Tryz.func41, Tryz.ntmps41
    go_upto_region 1 with fail
    try rw [HW.out]
    try rw [HX.out]
    go_wp2_with (refine wpList_load_row rfl 58 _ rfl X rfl 58 _ _ _ hx Tryz.underlying58 rfl (by rw [infoN]; rfl) ?_)
    refine (CM.out W HB0.out).mono ?_
    rintro e w1 ⟨rfl, hB1⟩
    have HB1 := Lib.hid (HB0.out.trans (hB1.mono HB0.out.size))
    clear hB1
    go_wp2_with fail
    go_ret
    first | exact ⟨rfl, HB1.out⟩ | exact ⟨rfl, HX.out ▸ HB1.out⟩
  | true =>
    go_enter Tryz.func41, Tryz.ntmps41
    go_upto_region 1 with fail
    try rw [HW.out]
    try rw [HX.out]
    go_wp2_with (refine wpList_load_row rfl 58 _ rfl X rfl 58 _ _ _ hx Tryz.underlying58 rfl (by rw [infoN]; rfl) ?_)
    refine (CM.out W HB0.out).mono ?_
    rintro e w1 ⟨rfl, hB1⟩
    have hx1 := HXX.out.below hB1
    have q21 := ckb hB1 q2
    obtain ⟨d0, d1, d2, d3, d4, d5, d6, d7⟩ := cells8 (g := r.g) (a := r.a) (n := r.n) (c := r.c) hx1
    have HB1 := Lib.hid (HB0.out.trans (hB1.mono HB0.out.size))
    clear hB1 hx q1 q2
    dsimp only [nameC] at CL
    go_wp2_with fail
    refine (CL.out w1 HB1.out).mono ?_
    rintro e w2 ⟨rfl, hB2⟩
    have HB2 := Lib.hid (HB1.out.trans (hB2.mono HB1.out.size))
    clear hB2 hx1
    go_wp2_with fail
    go_ret
    first | exact ⟨rfl, HB2.out⟩ | exact ⟨rfl, HX.out ▸ HB2.out⟩
set_option maxRecDepth 100000 in
set_option maxHeartbeats 1600000 in
theorem absent1_any (r : Gr) (P : Nat) (N : ByteArray) (w : World) (hT : TyR w r) (hh : r.g.hashed = false) (hN : N.size ≤ 1048576) (hp : w.cell? ⟨P, 0, none⟩ = some (.string N)) :
    Calls Tryz.prog 28 #[.agg (nameC r.g r.v), .pointer (some ⟨P, 0, none⟩)] w fun e w' => e = .returned (.bool (denyB r.g N.data.toList && !withinS r.g.nx.data.toList N.data.toList)) ∧ Below w.heap.size w w' := by
  have CM := Lib.hid (fun (wx : World) (hB : Below w.heap.size w wx) => ndenies_any r.g r.a r.n r.c N wx hT.ok hN hh hT.len hT.le (hT.rd.below hB rfl))
  have CL := Lib.hid (fun (wx : World) => nameB.nwithin_any r.g.nx N wx (by have := hT.ok.nx; omega) (by omega))
  simp only [Go.Proofs.YtanoiiodnddkfaaGreat.nameC.within_same] at CL
  obtain ⟨b1, h1⟩ : ∃ b, denyB r.g N.data.toList = b := ⟨_, rfl⟩
  obtain ⟨b2, h2⟩ : ∃ b, withinS r.g.nx.data.toList N.data.toList = b := ⟨_, rfl⟩
  rw [h1] at CM ⊢
  rw [h2] at CL ⊢
  clear h1 h2
  have hB0 := (Below.refl w.heap.size w).alloc (Nat.le_refl _) (.cells (nameC r.g r.v) 58)
  have hx : AtN (w.alloc (.cells (nameC r.g r.v) 58)) w.heap.size r := heap_alloc_new _ _
  obtain ⟨X, hX⟩ : ∃ X, w.heap.size = X := ⟨_, rfl⟩
  obtain ⟨W, hW⟩ : ∃ W, w.alloc (.cells (nameC r.g r.v) 58) = W := ⟨_, rfl⟩
  rw [hW] at hB0 hx
  rw [hX] at hx
  have q1 := ckb hB0 hp
  have HX := Lib.hid hX; have HW := Lib.hid hW; have HB0 := Lib.hid hB0; have HXX := Lib.hid hx
  clear hX hW hB0 hp
  clear hh hT
  cases b1 with
  | false =>
    go_enter Tryz.func28, Tryz.ntmps28
    go_upto_region 1 with fail
    try rw [HW.out]
    try rw [HX.out]
    go_wp2_with (refine wpList_load_row rfl 58 _ rfl X rfl 58 _ _ _ hx Tryz.underlying58 rfl (by rw [infoN]; rfl) ?_)
    refine (CM.out W HB0.out).mono ?_
    rintro e w1 ⟨rfl, hB1⟩
    have HB1 := Lib.hid (HB0.out.trans (hB1.mono HB0.out.size))
    clear hB1
    go_wp2_with fail
    go_ret
    first | exact ⟨rfl, HB1.out⟩ | exact ⟨rfl, HX.out ▸ HB1.out⟩
  | true =>
    go_enter Tryz.func28, Tryz.ntmps28
    go_upto_region 1 with fail
    try rw [HW.out]
    try rw [HX.out]
    go_wp2_with (refine wpList_load_row rfl 58 _ rfl X rfl 58 _ _ _ hx Tryz.underlying58 rfl (by rw [infoN]; rfl) ?_)
    refine (CM.out W HB0.out).mono ?_
    rintro e w1 ⟨rfl, hB1⟩
    have hx1 := HXX.out.below hB1
    have q11 := ckb hB1 q1
    obtain ⟨d0, d1, d2, d3, d4, d5, d6, d7⟩ := cells8 (g := r.g) (a := r.a) (n := r.n) (c := r.c) hx1
    have HB1 := Lib.hid (HB0.out.trans (hB1.mono HB0.out.size))
    clear hB1 hx hx1 q1
    go_wp2_with fail
    refine (CL.out w1).mono ?_
    rintro e w2 ⟨rfl, hB2⟩
    have HB2 := Lib.hid (HB1.out.trans (hB2.mono HB1.out.size))
    clear hB2
    go_wp2_with fail
    go_ret
    first | exact ⟨rfl, HB2.out⟩ | exact ⟨rfl, HX.out ▸ HB2.out⟩
set_option maxRecDepth 100000 in
set_option maxHeartbeats 2400000 in
theorem names1_any (P1 P2 : Nat) (N : ByteArray) (t : Int) (a : Option Addr) (n c : Nat) (L : List Gr) (w : World) (hn : L.length = n) (hnl : n ≤ 1099511627776) (h : GapsR Gr.nameL 8 w a L) (hh : ∀ r ∈ L, r.g.hashed = false) (hN : N.size ≤ 1048576) (hp : w.cell? ⟨P1, 0, none⟩ = some (.slice a n c)) (hp2 : w.cell? ⟨P2, 0, none⟩ = some (.int .i64 t)) :
    Calls Tryz.prog 40 #[.string N, .pointer (some ⟨P1, 0, none⟩), .pointer (some ⟨P2, 0, none⟩)] w fun e w' => e = .returned (.bool (shownB (L.map Gr.g) N.data.toList t)) ∧ Below w.heap.size w w' := by
  have hB0 := (Below.refl w.heap.size w).alloc (Nat.le_refl _) (.cells #[.string N] 9)
  have hx := heap_alloc_new w (.cells #[.string N] 9)
  obtain ⟨X, hX⟩ : ∃ X, w.heap.size = X := ⟨_, rfl⟩
  obtain ⟨W, hW⟩ : ∃ W, w.alloc (.cells #[.string N] 9) = W := ⟨_, rfl⟩
  rw [hW] at hB0 hx
  rw [hX] at hx
  have q0 : W.cell? ⟨X, 0, none⟩ = some (.string N) := by simp only [World.cell?, hx]; rfl
  have q1 := ckb hB0 hp
  have q2 := ckb hB0 hp2
  have hg := h.below hB0
  have CF := Lib.hid (firstN_any 41 #[.pointer (some ⟨X, 0, none⟩), .pointer (some ⟨P2, 0, none⟩)] (fun g => matchB g N.data.toList && lacksB g t) a n c L W (fun _ _ => rfl) hn hnl hg (fun r hr wx hB => names11_any r X P2 N t wx ((hg.ty r hr).below hB) (hh r hr) hN (ckb hB q0) (ckb hB q2)))
  have HX := Lib.hid hX; have HW := Lib.hid hW; have HB0 := Lib.hid hB0
  clear hX hW hB0 hx hg hp hp2 q2 h hh q0
  go_enter Tryz.func40, Tryz.ntmps40
  go_upto_region 1 with fail
  try rw [HW.out]
  try rw [HX.out]
  go_wp2_with fail
  refine CF.out.mono ?_
  rintro e w1 ⟨⟨r, b, rfl, f1, f2⟩, hB1⟩
  have HR := Lib.hid (any_find (L := L) (f := (fun g => matchB g N.data.toList && lacksB g t)) (b := b) (fun h => ⟨_, (f1 h).2⟩) f2)
  have HB1 := Lib.hid ((HB0.out.trans (hB1.mono HB0.out.size)).alloc (by have := hB1.size; have h2 := HB0.out.size; omega) (.cells (nameC r.g r.v) 58))
  clear hB1 f1 f2
  dsimp only [nameC, Gr.v] at HB1 ⊢
  go_wp2_with fail
  go_ret
  first | exact ⟨by rw [← HR.out]; rfl, HB1.out⟩ | exact ⟨by rw [← HR.out]; rfl, HX.out ▸ HB1.out⟩
set_option maxRecDepth 100000 in
set_option maxHeartbeats 2400000 in
theorem below1_any (P1 : Nat) (N : ByteArray) (a : Option Addr) (n c : Nat) (L : List Gr) (w : World) (hn : L.length = n) (hnl : n ≤ 1099511627776) (h : GapsR Gr.hashL 10 w a L) (hh : ∀ r ∈ L, r.g.hashed = true) (hN : N.size ≤ 1048576) (hp : w.cell? ⟨P1, 0, none⟩ = some (.slice a n c)) :
    Calls Tryz.prog 75 #[.string N, .pointer (some ⟨P1, 0, none⟩)] w fun e w' => e = .returned (.bool (spannedB (L.map Gr.g) N.data.toList)) ∧ Below w.heap.size w w' := by
  have hB0 := (Below.refl w.heap.size w).alloc (Nat.le_refl _) (.cells #[.string N] 9)
  have hx := heap_alloc_new w (.cells #[.string N] 9)
  obtain ⟨X, hX⟩ : ∃ X, w.heap.size = X := ⟨_, rfl⟩
  obtain ⟨W, hW⟩ : ∃ W, w.alloc (.cells #[.string N] 9) = W := ⟨_, rfl⟩
  rw [hW] at hB0 hx
  rw [hX] at hx
  have q0 : W.cell? ⟨X, 0, none⟩ = some (.string N) := by simp only [World.cell?, hx]; rfl
  have q1 := ckb hB0 hp
  have hg := h.below hB0
  have CF := Lib.hid (firstH_any 76 #[.pointer (some ⟨X, 0, none⟩)] (fun g => spanB g N.data.toList) a n c L W (fun _ _ => rfl) hn hnl hg (fun r hr wx hB => below11_any r X N wx ((hg.ty r hr).below hB) (hh r hr) hN (ckb hB q0)))
  have HX := Lib.hid hX; have HW := Lib.hid hW; have HB0 := Lib.hid hB0
  clear hX hW hB0 hx hg hp h hh q0
  go_enter Tryz.func75, Tryz.ntmps75
  go_upto_region 1 with fail
  try rw [HW.out]
  try rw [HX.out]
  go_wp2_with fail
  refine CF.out.mono ?_
  rintro e w1 ⟨⟨r, b, rfl, f1, f2⟩, hB1⟩
  have HR := Lib.hid (any_find (L := L) (f := (fun g => spanB g N.data.toList)) (b := b) (fun h => ⟨_, (f1 h).2⟩) f2)
  have HB1 := Lib.hid ((HB0.out.trans (hB1.mono HB0.out.size)).alloc (by have := hB1.size; have h2 := HB0.out.size; omega) (.cells (hashC r.g r.v) 63))
  clear hB1 f1 f2
  dsimp only [hashC, Gr.v] at HB1 ⊢
  go_wp2_with fail
  go_ret
  first | exact ⟨by rw [← HR.out]; rfl, HB1.out⟩ | exact ⟨by rw [← HR.out]; rfl, HX.out ▸ HB1.out⟩
end Go.Proofs.YtanoiiodnddkfaaGreat.clos
namespace Go.Proofs.YtanoiiodnddkfaaGreat.judgeH
open Go.RowKit Go.Proofs.YtanoiiodnddkfaaGreat.kit Go.Proofs.YtanoiiodnddkfaaGreat.nspec Go.Proofs.YtanoiiodnddkfaaGreat.refA Go.Proofs.YtanoiiodnddkfaaGreat.refB Go.Proofs.YtanoiiodnddkfaaGreat.fld Go.Proofs.YtanoiiodnddkfaaGreat.timed Go.Proofs.YtanoiiodnddkfaaGreat.wireP Go.Proofs.YtanoiiodnddkfaaGreat.gapP Go.Proofs.YtanoiiodnddkfaaGreat.bits Go.Proofs.YtanoiiodnddkfaaGreat.ints Go.Proofs.YtanoiiodnddkfaaGreat.gapA Go.Proofs.YtanoiiodnddkfaaGreat.gapC Go.Proofs.YtanoiiodnddkfaaGreat.gapN Go.Proofs.YtanoiiodnddkfaaGreat.gapH Go.Proofs.YtanoiiodnddkfaaGreat.gapJ Go.Proofs.YtanoiiodnddkfaaGreat.gapR Go.Proofs.YtanoiiodnddkfaaGreat.useP Go.Proofs.YtanoiiodnddkfaaGreat.useM Go.Proofs.YtanoiiodnddkfaaGreat.judgeP Go.Proofs.YtanoiiodnddkfaaGreat.first Go.Proofs.YtanoiiodnddkfaaGreat.clos Go.Proofs.YtanoiiodnddkfaaGreat.nameA
set_option linter.unusedVariables false

theorem mk_size (l : Bs) : (⟨l.toArray⟩ : ByteArray).size = l.length := by show l.toArray.size = l.length; rw [List.size_toArray]
theorem str_eq2 {a b : ByteArray} : (a.toList == b.toList) = decide (a.data.toList = b.data.toList) := str_eqB
set_option maxRecDepth 100000 in
set_option maxHeartbeats 4800000 in
theorem below_any (a : Option Addr) (n c : Nat) (L : List Gr) (q E : ByteArray) (k t : Int) (w : World) (hn : L.length = n) (hnl : n ≤ 16777216) (h : GapsR Gr.hashL 10 w a L) (hh : ∀ r ∈ L, r.g.hashed = true) (hq : q.size ≤ 1048576) (hE : E.size ≤ 1048576) (hk : countS E.data.toList = k) :
    Calls Tryz.prog 50 #[.slice a n c, .string q, .string E, .int .i64 t] w fun e w' => e = .returned (.int .i64 (belowI (L.map Gr.g) q.data.toList E.data.toList k t)) ∧ Below w.heap.size w w' := by
  obtain ⟨R, HR⟩ : ∃ R, Hid (belowI (L.map Gr.g) q.data.toList E.data.toList k t = R) := ⟨_, Lib.hid rfl⟩
  rw [HR.out]
  have hkb := countS_bd E.data.toList
  rw [hk] at hkb
  have CC := Lib.hid (fun wx => ncount_any E wx (by omega))
  rw [hk] at CC
  have CT := Lib.hid (fun wx => ntail_any q (k + 1) wx (by omega))
  obtain ⟨T1, hT1⟩ : ∃ B : ByteArray, (⟨(tailS q.data.toList (k + 1)).toArray⟩ : ByteArray) = B := ⟨_, rfl⟩
  rw [hT1] at CT
  have hT1s : T1.size ≤ 1048576 := by rw [← hT1, mk_size]; have := tailS_len q.data.toList (k + 1); omega
  have HT1 : Hid (T1.data.toList = tailS q.data.toList (k + 1)) := Lib.hid (by rw [← hT1])
  have CS := Lib.hid (fun wx => star.nstar_any E wx (by omega))
  obtain ⟨SS, hSS⟩ : ∃ B : ByteArray, (⟨(star.starS E.data.toList).toArray⟩ : ByteArray) = B := ⟨_, rfl⟩
  rw [hSS] at CS
  have hSs : SS.size ≤ 1048576 := by rw [← hSS, mk_size]; have := star_le E.data.toList; omega
  have HS : Hid (SS.data.toList = star.starS E.data.toList) := Lib.hid (by rw [← hSS])
  have HRE : Hid (R = if spannedB (L.map Gr.g) T1.data.toList = false then 0 else if spannedB (L.map Gr.g) SS.data.toList = true then 1 else match (L.map Gr.g).find? (fun h => matchB h SS.data.toList) with | some h => if lacksB h t = true then 2 else 0 | none => 0) := Lib.hid (by rw [← HR.out, HT1.out, HS.out]; rfl)
  have hB0 := (Below.refl w.heap.size w).alloc (Nat.le_refl _) (.cells #[.slice a n c] 36)
  have hx := heap_alloc_new w (.cells #[.slice a n c] 36)
  obtain ⟨X, hX⟩ : ∃ X, w.heap.size = X := ⟨_, rfl⟩
  obtain ⟨W, hW⟩ : ∃ W, w.alloc (.cells #[.slice a n c] 36) = W := ⟨_, rfl⟩
  rw [hW] at hB0 hx
  rw [hX] at hx
  have hx0 : W.cell? ⟨X, 0, none⟩ = some (.slice a n c) := by simp only [World.cell?, hx]; rfl
  have HX := Lib.hid hX; have HW := Lib.hid hW; have HB0 := Lib.hid hB0; have HX0 := Lib.hid hx0
  have HG0 := Lib.hid (h.below hB0)
  have HN := Lib.hid hn; have HH := Lib.hid hh
  clear hX hW hB0 hx hk hT1 hSS h hn hh
  go_enter Tryz.func50, Tryz.ntmps50
  go_upto_region 1 with fail
  try rw [HW.out]
  try rw [HX.out]
  go_wp2_with fail
  refine (CC.out W).mono ?_
  rintro e w1 ⟨rfl, hB1⟩
  have HB1 := Lib.hid (HB0.out.trans (hB1.mono HB0.out.size))
  have HX1 := Lib.hid (ckb hB1 HX0.out); have HG1 := Lib.hid (HG0.out.below hB1)
  clear hB1 hx0
  go_wp2_with fail
  refine (CT.out w1).mono ?_
  rintro e w2 ⟨rfl, hB2⟩
  have HB2 := Lib.hid (HB1.out.trans (hB2.mono HB1.out.size))
  have hx2 := ckb hB2 HX1.out
  have HX2 := Lib.hid hx2; have HG2 := Lib.hid (HG1.out.below hB2)
  clear hB2
  go_wp2_with fail
  refine (below1_any X T1 a n c L w2 HN.out (by omega) HG2.out HH.out hT1s hx2).mono ?_
  rintro e w3 ⟨rfl, hB3⟩
  have HB3 := Lib.hid (HB2.out.trans (hB3.mono HB2.out.size))
  have hx3 := ckb hB3 HX2.out
  have HX3 := Lib.hid hx3; have HG3 := Lib.hid (HG2.out.below hB3)
  clear hB3 hx2
  cases hs : spannedB (L.map Gr.g) T1.data.toList with
  | false =>
    have HV : Hid (R = 0) := Lib.hid (by rw [HRE.out, if_pos hs])
    clear hs
    go_wp2_with fail
    go_ret
    exact ⟨by rw [HV.out]; rfl, HB3.out⟩
  | true =>
  have HRF : Hid (R = if spannedB (L.map Gr.g) SS.data.toList = true then 1 else match (L.map Gr.g).find? (fun h => matchB h SS.data.toList) with | some h => if lacksB h t = true then 2 else 0 | none => 0) := Lib.hid (by rw [HRE.out, if_neg (by rw [hs]; simp)])
  clear hs
  go_wp2_with fail
  refine (CS.out w3).mono ?_
  rintro e w4 ⟨rfl, hB4⟩
  have hB5 := (Below.refl w4.heap.size w4).alloc (Nat.le_refl _) (.cells #[.string SS] 9)
  have hs5 := heap_alloc_new w4 (.cells #[.string SS] 9)
  have hx5 := ckb hB5 (ckb hB4 HX3.out)
  have hg5 := (HG3.out.below hB4).below hB5
  have hb5 := HB3.out.trans (hB4.mono HB3.out.size)
  have hb6 := hb5.trans (hB5.mono hb5.size)
  obtain ⟨Y, hY⟩ : ∃ X, w4.heap.size = X := ⟨_, rfl⟩
  obtain ⟨w5, hw5⟩ : ∃ W, w4.alloc (.cells #[.string SS] 9) = W := ⟨_, rfl⟩
  rw [hw5] at hs5 hx5 hg5 hb6
  rw [hY] at hs5
  have hs5 : w5.cell? ⟨Y, 0, none⟩ = some (.string SS) := by simp only [World.cell?, hs5]; rfl
  have HW5 := Lib.hid hw5; have HY := Lib.hid hY; have HB5 := Lib.hid hb6; have HX5 := Lib.hid hx5; have HG5 := Lib.hid hg5; have HS5 := Lib.hid hs5
  clear hB4 hB5 hb5 hb6 hw5 hY hg5 hx3
  go_upto_region 5 with fail
  try rw [HW5.out]
  try rw [HY.out]
  go_wp2_with fail
  refine (below1_any X SS a n c L w5 HN.out (by omega) HG5.out HH.out hSs hx5).mono ?_
  rintro e w6 ⟨rfl, hB6⟩
  have HB6 := Lib.hid (HB5.out.trans (hB6.mono HB5.out.size))
  have hx6 := ckb hB6 HX5.out; have hs6 := ckb hB6 HS5.out
  have HX6 := Lib.hid hx6; have HG6 := Lib.hid (HG5.out.below hB6); have HS6 := Lib.hid hs6
  clear hB6 hx5 hs5
  cases hs : spannedB (L.map Gr.g) SS.data.toList with
  | true =>
    have HV : Hid (R = 1) := Lib.hid (by rw [HRF.out, if_pos hs])
    clear hs
    go_wp2_with fail
    go_ret
    exact ⟨by rw [HV.out]; rfl, HB6.out⟩
  | false =>
  have HRG : Hid (R = match (L.map Gr.g).find? (fun h => matchB h SS.data.toList) with | some h => if lacksB h t = true then 2 else 0 | none => 0) := Lib.hid (by rw [HRF.out, if_neg (by rw [hs]; simp)])
  clear hs
  go_wp2_with fail
  refine (firstH_any 77 #[.pointer (some ⟨Y, 0, none⟩)] (fun g => matchB g SS.data.toList) a n c L w6 (fun _ _ => rfl) HN.out (by omega) HG6.out (fun r hr wx hB => below2_any r Y SS wx ((HG6.out.ty r hr).below hB) (HH.out r hr) hSs (ckb hB HS6.out))).mono ?_
  rintro e w7 ⟨⟨r, b, rfl, f1, f2⟩, hB7⟩
  have HG7 := Lib.hid (HG6.out.below hB7)
  have HB7 := Lib.hid (HB6.out.trans (hB7.mono HB6.out.size))
  have HF1 := Lib.hid f1; have HF2 := Lib.hid f2
  clear hB7 f1 f2 hx6 hs6
  have hB8 := (Below.refl w7.heap.size w7).alloc (Nat.le_refl _) (.cells (hashC r.g r.v) 63)
  have hy8 : AtH (w7.alloc (.cells (hashC r.g r.v) 63)) w7.heap.size r := heap_alloc_new _ _
  have hg8 := HG7.out.below hB8
  have hb8 := HB7.out.trans (hB8.mono HB7.out.size)
  obtain ⟨Z, hZ⟩ : ∃ X, w7.heap.size = X := ⟨_, rfl⟩
  obtain ⟨w8, hw8⟩ : ∃ W, w7.alloc (.cells (hashC r.g r.v) 63) = W := ⟨_, rfl⟩
  rw [hw8] at hy8 hg8 hb8
  rw [hZ] at hy8
  have HW8 : Hid (w7.alloc (.cells #[.slice r.a r.n r.c, .string r.g.x.o, .int .i64 r.g.x.t, .int .i64 r.g.x.c, .int .i64 r.g.x.l, .string r.g.x.d, .string r.g.own, .string r.g.nx, .string r.g.salt, .int .i64 r.g.rounds] 63) = w8) := Lib.hid hw8
  have HZ := Lib.hid hZ; have HB8 := Lib.hid hb8; have HG8 := Lib.hid hg8
  clear hB8 hb8 hg8 hw8 hZ
  dsimp only [hashC, Gr.v]
  go_upto_region 8 with fail
  try rw [HW8.out]
  try rw [HZ.out]
  obtain ⟨d0, d1, d2, d3, d4, d5, d6, d7, d8, d9⟩ := cells10 (g := r.g) (a := r.a) (n := r.n) (c := r.c) hy8
  cases b with
  | false =>
    have HV : Hid (R = 0) := Lib.hid (by rw [HRG.out, HF2.out (by trivial)])
    go_wp2_with fail
    go_ret
    exact ⟨by rw [HV.out]; rfl, HB8.out⟩
  | true =>
    have hm := (HF1.out (by trivial)).1
    have hT := HG8.out.ty r hm
    have CL := Lib.hid (hlacks_any r.g r.a r.n r.c t w8 hT.len hT.le hT.rd)
    dsimp only [hashC] at CL
    have HV : Hid (R = if lacksB r.g t = true then 2 else 0) := Lib.hid (by rw [HRG.out, (HF1.out (by trivial)).2])
    obtain ⟨lk, hlk⟩ : ∃ b, lacksB r.g t = b := ⟨_, rfl⟩
    rw [hlk] at CL HV
    clear hm hT hlk
    go_wp2_with fail
    refine CL.out.mono ?_
    rintro e w9 ⟨rfl, hB9⟩
    have HB9 := Lib.hid (HB8.out.trans (hB9.mono HB8.out.size))
    clear hB9
    cases lk with
    | true =>
      go_wp2_with fail
      go_ret
      exact ⟨by rw [HV.out]; rfl, HB9.out⟩
    | false =>
      go_wp2_with fail
      go_ret
      exact ⟨by rw [HV.out]; rfl, HB9.out⟩
theorem tail_self {q : Bs} {ls : List Bs} (h : IsN q ls) {k : Int} (h0 : 0 ≤ k) (h1 : k ≤ countS q) : decide (tailS q k = q) = decide (k = countS q) := by
  have hc := countS_yes h
  obtain ⟨j, rfl⟩ : ∃ j : Nat, k = (j : Int) := ⟨k.toNat, by omega⟩
  have hj : j ≤ ls.length := by omega
  have hl : tailS q (ls.length : Int) = q := by
    have := (Go.Proofs.YtanoiiodnddkfaaGreat.nameC.tail_isN h ls.length (Nat.le_refl _)).1
    rw [Nat.sub_self, List.drop_zero] at this
    rw [this, h.1]
  rw [hc]
  by_cases e : j = ls.length
  · subst e
    rw [decide_eq_true hl, decide_eq_true rfl]
  · rw [decide_eq_false (show ¬ ((j : Int) = (ls.length : Int)) by omega), decide_eq_false]
    intro hh
    have h2 := (tail_more h hj (Nat.le_refl _)).2 (by omega)
    rw [hh, hl] at h2
    omega
theorem judgeU_end {ap q : Bs} {l : List Gp} {t : Int} {f : Nat} {k R : Int} (h : judgeU ap q l t (f + 1) k = R) (hk : k < countS ap) : R = 0 := by
  rw [← h]; simp only [judgeU]; rw [if_pos hk]
theorem judgeU_go {ap q : Bs} {l : List Gp} {t : Int} {f : Nat} {k R : Int} (h : judgeU ap q l t (f + 1) k = R) (hk : ¬ k < countS ap) (hf : l.find? (fun g => matchB g (tailS q k)) = none) : judgeU ap q l t f (k - 1) = R := by
  rw [← h]; simp only [judgeU]; rw [if_neg hk, hf]
theorem judgeU_at {ap q : Bs} {l : List Gp} {t : Int} {f : Nat} {k R : Int} {g : Gp} (h : judgeU ap q l t (f + 1) k = R) (hk : ¬ k < countS ap) (hf : l.find? (fun g => matchB g (tailS q k)) = some g) :
    R = if k = countS q then (if lacksB g t = true then 2 else 0) else if awayB g = true then 0 else belowI l q (tailS q k) k t := by
  rw [← h]; simp only [judgeU]; rw [if_neg hk, hf]
set_option maxRecDepth 100000 in
set_option maxHeartbeats 4800000 in
theorem hashes_any (ap : ByteArray) (a : Option Addr) (n c : Nat) (L : List Gr) (q : ByteArray) (t : Int) (ls : List Bs) (w : World) (hn : L.length = n) (hnl : n ≤ 16777216) (h : GapsR Gr.hashL 10 w a L) (hh : ∀ r ∈ L, r.g.hashed = true) (hq : q.size ≤ 1048576) (hap : ap.size ≤ 1048576) (hqn : IsN q.data.toList ls) (hap0 : 0 ≤ countS ap.data.toList) (hle : countS ap.data.toList ≤ countS q.data.toList) :
    Calls Tryz.prog 14 #[.string ap, .slice a n c, .string q, .int .i64 t] w fun e w' => e = .returned (.int .i64 (judgeH ap.data.toList q.data.toList (L.map Gr.g) t)) ∧ Below w.heap.size w w' := by
  obtain ⟨R, HR⟩ : ∃ R, Hid (judgeH ap.data.toList q.data.toList (L.map Gr.g) t = R) := ⟨_, Lib.hid rfl⟩
  rw [HR.out]
  have hCb := countS_bd q.data.toList
  obtain ⟨C, hC⟩ : ∃ C, countS q.data.toList = C := ⟨_, rfl⟩
  obtain ⟨A, hA⟩ : ∃ A, countS ap.data.toList = A := ⟨_, rfl⟩
  have CC := Lib.hid (fun wx => ncount_any q wx (by omega))
  have CA := Lib.hid (fun wx => ncount_any ap wx (by omega))
  rw [hC] at CC hCb hle
  rw [hA] at CA hap0 hle
  have HC := Lib.hid hC; have HA := Lib.hid hA
  have HU0 : Hid (judgeU ap.data.toList q.data.toList (L.map Gr.g) t (C + 2).toNat C = R) := Lib.hid (by rw [← hC]; exact HR.out)
  have HG := Lib.hid h; have HN := Lib.hid hn; have HH := Lib.hid hh; have HQN := Lib.hid hqn
  obtain ⟨N0, hN0⟩ : ∃ N0 : Nat, (C + 3).toNat = N0 := ⟨_, rfl⟩
  have hN1 : (N0 : Int) = C + 3 := by omega
  clear hC hA h hn hh hqn hN0
  go_enter Tryz.func14, Tryz.ntmps14
  go_wp2_with fail
  refine (CC.out w).mono ?_
  rintro e w1 ⟨rfl, hB1⟩
  have HB1 := Lib.hid hB1
  clear hB1
  go_wp2_with fail
  go_loopg [9] N0 (fun gas kv wr => ∃ (k : Int) (f : Nat), kv = .int .i64 k ∧ k ≤ C ∧ A - 1 ≤ k ∧ (f : Int) = k + 2 ∧ gas = f + 1 ∧ Hid (judgeU ap.data.toList q.data.toList (L.map Gr.g) t f k = R) ∧ Hid (Below w.heap.size w wr))
  case atStart => exact ⟨C, (C + 2).toNat, rfl, by omega, by omega, by omega, by omega, HU0, HB1⟩
  case round =>
    obtain ⟨k, f, rfl, hk, hkA, hf, hgas, HU, HB⟩ := hrel
    obtain ⟨f', rfl⟩ : ∃ f', f = f' + 1 := ⟨f - 1, by omega⟩
    have HF := Lib.hid hf; have HGAS := Lib.hid hgas
    clear hf hgas
    go_wp2_with fail
    refine (CA.out wr).mono ?_
    rintro e w2 ⟨rfl, hB2⟩
    have HB2 := Lib.hid (HB.out.trans (hB2.mono HB.out.size))
    clear hB2
    by_cases hka : k < A
    · have e1 : decide (A ≤ k) = false := decide_eq_false (by omega)
      have HV : Hid (R = 0) := Lib.hid (judgeU_end HU.out (by rw [HA.out]; exact hka))
      go_wp2_with fail
      go_ret
      exact ⟨by rw [HV.out]; rfl, HB2.out⟩
    · have e1 : decide (A ≤ k) = true := decide_eq_true (by omega)
      have HKA : Hid (A ≤ k) := Lib.hid (by omega)
      have CT := Lib.hid (fun wx => ntail_any q k wx (by omega))
      obtain ⟨E, hE⟩ : ∃ B : ByteArray, (⟨(tailS q.data.toList k).toArray⟩ : ByteArray) = B := ⟨_, rfl⟩
      rw [hE] at CT
      have hEs : E.size ≤ 1048576 := by rw [← hE, mk_size]; have := tailS_len q.data.toList k; omega
      have HE : Hid (E.data.toList = tailS q.data.toList k) := Lib.hid (by rw [← hE])
      clear hE hka
      go_wp2_with fail
      refine (CT.out w2).mono ?_
      rintro e w4 ⟨rfl, hB4⟩
      have hb4 := HB2.out.trans (hB4.mono HB2.out.size)
      have hB5 := (Below.refl w4.heap.size w4).alloc (Nat.le_refl _) (.cells #[.string E] 9)
      have hs5 := heap_alloc_new w4 (.cells #[.string E] 9)
      have hb6 := hb4.trans (hB5.mono hb4.size)
      obtain ⟨Y, hY⟩ : ∃ X, w4.heap.size = X := ⟨_, rfl⟩
      obtain ⟨w5, hw5⟩ : ∃ W, w4.alloc (.cells #[.string E] 9) = W := ⟨_, rfl⟩
      rw [hw5] at hs5 hb6
      rw [hY] at hs5
      have hs5 : w5.cell? ⟨Y, 0, none⟩ = some (.string E) := by simp only [World.cell?, hs5]; rfl
      have HW5 := Lib.hid hw5; have HY := Lib.hid hY; have HB5 := Lib.hid hb6; have HS5 := Lib.hid hs5
      clear hB4 hb4 hB5 hb6 hw5 hY
      go_upto_region 5 with fail
      try rw [HW5.out]
      try rw [HY.out]
      go_wp2_with fail
      refine (firstH_any 47 #[.pointer (some ⟨Y, 0, none⟩)] (fun g => matchB g E.data.toList) a n c L w5 (fun _ _ => rfl) HN.out (by omega) (HG.out.below HB5.out) (fun r hr wx hB => hashes1_any r Y E wx ((HG.out.ty r hr).below (HB5.out.trans (hB.mono HB5.out.size))) (HH.out r hr) hEs (ckb hB HS5.out))).mono ?_
      rintro e w7 ⟨⟨r, b, rfl, f1, f2⟩, hB7⟩
      have HB7 := Lib.hid (HB5.out.trans (hB7.mono HB5.out.size))
      have hs7 := ckb hB7 HS5.out
      rw [HE.out] at f1 f2
      have HF1 := Lib.hid f1; have HF2 := Lib.hid f2
      clear hB7 f1 f2 hs5
      have hB8 := (Below.refl w7.heap.size w7).alloc (Nat.le_refl _) (.cells (hashC r.g r.v) 63)
      have hy8 : AtH (w7.alloc (.cells (hashC r.g r.v) 63)) w7.heap.size r := heap_alloc_new _ _
      have hs8 := ckb hB8 hs7
      have hb8 := HB7.out.trans (hB8.mono HB7.out.size)
      obtain ⟨Z, hZ⟩ : ∃ X, w7.heap.size = X := ⟨_, rfl⟩
      obtain ⟨w8, hw8⟩ : ∃ W, w7.alloc (.cells (hashC r.g r.v) 63) = W := ⟨_, rfl⟩
      rw [hw8] at hy8 hs8 hb8
      rw [hZ] at hy8
      have HW8 : Hid (w7.alloc (.cells #[.slice r.a r.n r.c, .string r.g.x.o, .int .i64 r.g.x.t, .int .i64 r.g.x.c, .int .i64 r.g.x.l, .string r.g.x.d, .string r.g.own, .string r.g.nx, .string r.g.salt, .int .i64 r.g.rounds] 63) = w8) := Lib.hid hw8
      have HZ := Lib.hid hZ; have HB8 := Lib.hid hb8; have HY8 := Lib.hid hy8; have HS8 := Lib.hid hs8
      clear hB8 hb8 hw8 hZ hs7
      dsimp only [hashC, Gr.v]
      go_upto_region 6 with fail
      try rw [HW8.out]
      try rw [HZ.out]
      obtain ⟨d0, d1, d2, d3, d4, d5, d6, d7, d8, d9⟩ := cells10 (g := r.g) (a := r.a) (n := r.n) (c := r.c) hy8
      cases b with
      | false =>
        have HT := Lib.hid (judgeU_go HU.out (by rw [HA.out]; have := HKA.out; omega) (HF2.out (by trivial)))
        go_wp2_with fail
        have hf := HF.out; have hgas := HGAS.out; have hka := HKA.out
        go_roundg (gk - 1)
        case rel => exact ⟨k - 1, f', by go_num, by omega, by omega, by omega, by omega, HT, HB8⟩
        case measure => omega
      | true =>
        have hm := (HF1.out (by trivial)).1
        have hT := (HG.out.ty r hm).below HB8.out
        have CL := Lib.hid (fun (wx : World) (hB : Below w8.heap.size w8 wx) => hlacks_any r.g r.a r.n r.c t wx hT.len hT.le (hT.below hB).rd)
        have CW := Lib.hid (fun (wx : World) (hB : Below w8.heap.size w8 wx) => haway_any r.g r.a r.n r.c wx hT.len hT.le (hT.below hB).rd)
        dsimp only [hashC] at CL CW
        have HV := Lib.hid (judgeU_at HU.out (by rw [HA.out]; have := HKA.out; omega) (HF1.out (by trivial)).2)
        obtain ⟨lk, hlk⟩ : ∃ b, lacksB r.g t = b := ⟨_, rfl⟩
        obtain ⟨aw, haw⟩ : ∃ b, awayB r.g = b := ⟨_, rfl⟩
        rw [hlk] at CL HV
        rw [haw] at CW HV
        have hka := HKA.out
        have heq : (E.toList == q.toList) = decide (k = C) := by
          rw [str_eqB, HE.out, tail_self HQN.out (by omega) (by rw [HC.out]; exact hk), HC.out]
        rw [HC.out] at HV
        clear hm hT hlk haw
        by_cases hkc : k = C
        · have HV2 : Hid (R = if lk = true then 2 else 0) := Lib.hid (by rw [HV.out, if_pos hkc])
          rw [decide_eq_true hkc] at heq
          clear hkc
          go_wp2_with fail
          refine (CL.out w8 (Below.refl _ _)).mono ?_
          rintro e w9 ⟨rfl, hB9⟩
          have HB9 := Lib.hid (HB8.out.trans (hB9.mono HB8.out.size))
          clear hB9
          cases lk with
          | true =>
            go_wp2_with fail
            go_ret
            exact ⟨by rw [HV2.out]; rfl, HB9.out⟩
          | false =>
            go_wp2_with fail
            go_ret
            exact ⟨by rw [HV2.out]; rfl, HB9.out⟩
        · have HV2 : Hid (R = if aw = true then 0 else belowI (L.map Gr.g) q.data.toList (tailS q.data.toList k) k t) := Lib.hid (by rw [HV.out, if_neg hkc])
          rw [decide_eq_false hkc] at heq
          have hcnt : countS E.data.toList = k := by
            obtain ⟨j, hj⟩ : ∃ j : Nat, k = (j : Int) := ⟨k.toNat, by omega⟩
            rw [HE.out, hj]
            have h1 := countS_yes HQN.out
            rw [HC.out] at h1
            exact tail_count HQN.out (by omega)
          have CB := Lib.hid (fun (wx : World) (hB : Below w.heap.size w wx) => below_any a n c L q E k t wx HN.out hnl (HG.out.below hB) HH.out hq hEs hcnt)
          clear hkc hcnt
          go_wp2_with fail
          refine (CW.out w8 (Below.refl _ _)).mono ?_
          rintro e w9 ⟨rfl, hB9⟩
          have HB9 := Lib.hid (HB8.out.trans (hB9.mono HB8.out.size))
          have hs9 := ckb hB9 HS8.out
          clear hB9 hs8
          cases aw with
          | true =>
            go_wp2_with fail
            go_ret
            exact ⟨by rw [HV2.out]; rfl, HB9.out⟩
          | false =>
            go_wp2_with fail
            refine (CB.out w9 HB9.out).mono ?_
            rintro e wA ⟨rfl, hBA⟩
            have HBA := Lib.hid (HB9.out.trans (hBA.mono HB9.out.size))
            clear hBA
            go_wp2_with fail
            go_ret
            exact ⟨by rw [HV2.out, HE.out]; rfl, HBA.out⟩
end Go.Proofs.YtanoiiodnddkfaaGreat.judgeH
namespace Go.Proofs.YtanoiiodnddkfaaGreat.ncmps
open Go.RowKit Go.Proofs.YtanoiiodnddkfaaGreat.kit Go.Proofs.YtanoiiodnddkfaaGreat.check Go.Proofs.YtanoiiodnddkfaaGreat.nspec Go.Proofs.YtanoiiodnddkfaaGreat.rsplit Go.Proofs.YtanoiiodnddkfaaGreat.low Go.Proofs.YtanoiiodnddkfaaGreat.refA Go.Proofs.YtanoiiodnddkfaaGreat.refB Go.Proofs.YtanoiiodnddkfaaGreat.nameA Go.Proofs.YtanoiiodnddkfaaGreat.nameB Go.Proofs.YtanoiiodnddkfaaGreat.nameC Go.Proofs.YtanoiiodnddkfaaGreat.ncmp Go.Proofs.YtanoiiodnddkfaaGreat.rcmp

theorem equal_symm (a b : Bs) : equalS a b = equalS b a := by
  rw [equalS_eq, equalS_eq, Bool.and_comm (split b).isSome, decide_eq_decide.2 (eq_comm (a := foldS a) (b := foldS b))]
theorem comF_far {a b : Bs} {n : Nat} (h : ∀ g, n < g → equalS (tailS a g) (tailS b g) = false) : ∀ k, comF a b (n + 1 + k) = comF a b (n + 1)
  | 0 => rfl
  | k + 1 => by
    rw [← Nat.add_assoc]
    conv => lhs; rw [comF]
    rw [h _ (by omega), if_neg (by simp)]
    exact comF_far h k
theorem common_same (a b : Bs) : commonP a b = commonS a b := by
  unfold commonP commonS
  cases ha : split a with
  | none =>
    have h1 := countS_no ha
    have h2 := countS_bd b
    rw [h1, show (min (-1) (countS b) + 1).toNat = 0 by omega]
    rfl
  | some x =>
    have hx := split_iff.1 ha
    rw [countS_yes hx]
    cases hb : split b with
    | none =>
      rw [countS_no hb, show (min (x.length : Int) (-1) + 1).toNat = 0 by omega]
      have : ∀ g, cF a b g = [] := by
        intro g
        induction g with
        | zero => rfl
        | succ g ih =>
          rw [cF, ih]
          have hw : withinS b (tailS a g) = false := by
            rw [← within_same]; unfold withinP; rw [tailS_no hb, equal_no1 split_nil]; simp
          rw [hw]; rfl
      rw [this]; rfl
    | some y =>
      have hy := split_iff.1 hb
      rw [countS_yes hy]
      have hstep : ∀ g : Nat, g ≤ x.length → withinS b (tailS a g) = equalS (tailS a g) (tailS b g) := by
        intro g hg
        have ht := tail_isN hx g hg
        rw [← within_same]; unfold withinP
        rw [countS_yes ht, List.length_drop, show x.length - (x.length - g) = g by omega, decide_eq_true (by omega), Bool.true_and, equal_symm]
      have hall : ∀ g : Nat, g ≤ x.length + 1 → cF a b g = comF a b g := by
        intro g
        induction g with
        | zero => intro _; rfl
        | succ g ih => intro hg; rw [cF, comF, hstep g (by omega), ih (by omega)]
      rw [show ((x.length : Int) + 1).toNat = x.length + 1 by omega, hall _ (Nat.le_refl _)]
      by_cases hle : x.length ≤ y.length
      · rw [show (min (x.length : Int) (y.length : Int) + 1).toNat = x.length + 1 by omega]
      · rw [show (min (x.length : Int) (y.length : Int) + 1).toNat = y.length + 1 by omega]
        have := comF_far (a := a) (b := b) (n := y.length) (fun g hg => by
          rw [tailS_yes hy, if_neg (by omega), equal_no2 split_nil]) (x.length - y.length)
        rw [← this]; congr 1; omega

theorem commonS_len (a b : Bs) : (commonS a b).length ≤ 255 := by
  have : ∀ g, (cF a b g).length ≤ 255 := by
    intro g
    induction g with
    | zero => simp [cF]
    | succ g ih => rw [cF]; split; exact tailS_len _ _; exact ih
  exact this _
end Go.Proofs.YtanoiiodnddkfaaGreat.ncmps
