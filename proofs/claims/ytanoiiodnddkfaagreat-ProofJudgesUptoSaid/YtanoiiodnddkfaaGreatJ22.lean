/- A region that draws its order: loads taken first though the region's last operations write their cells. proof.readName: walk (gen_readn.py). data.From32: walk. -/
import Derived.Test.YtanoiiodnddkfaaGreatJ1
import Derived.Test.YtanoiiodnddkfaaGreatJ20
import Derived.Test.YtanoiiodnddkfaaGreatJ19
import Derived.Test.YtanoiiodnddkfaaGreatJ14
import Derived.Test.YtanoiiodnddkfaaGreatJ13
import Derived.Test.YtanoiiodnddkfaaGreatJ9
import Derived.StillTail
import Derived.Deep.RegionHeld3
namespace Go.Proofs.YtanoiiodnddkfaaGreat.heldG
open Go.RowKit
set_option linter.unusedVariables false

section
variable {P : Program} {ops : Array Oper} {Q : Exit → Act → World → Prop} {md : Region.Mode} {S : World → Prop} {T : Nat → Bool}
/-- S is owed behind each operation that is none of T's -/
def wpAnyG (P : Program) (md : Region.Mode) (ops : Array Oper) (Q : Exit → Act → World → Prop) (S : World → Prop) (T : Nat → Bool) : Nat → Array Bool → Act → World → Prop
  | 0, listed, a, w => Region.ready md ops listed = [] ∧ Q .normal a w
  | fuel + 1, listed, a, w =>
    (Region.ready md ops listed = [] → Q .normal a w) ∧
    ∀ i ∈ Region.ready md ops listed, wpOp P ops Q i (fun a' w' => (T i = false → S w') ∧ wpAnyG P md ops Q S T fuel (listed.setIfInBounds i true) a' w') a w
theorem any_of_G : ∀ (fuel : Nat) (listed : Array Bool) (a : Act) (w : World), wpAnyG P md ops Q S T fuel listed a w → wpAny P md ops Q fuel listed a w
  | 0, _, _, _, h => h
  | fuel + 1, _, _, _, h => ⟨h.1, fun i hi => wpOp_mono (fun a' w' h' => any_of_G fuel _ a' w' h'.2) (h.2 i hi)⟩
/-- each of T's waits for i -/
def waitB (md : Region.Mode) (ops : Array Oper) (T : Nat → Bool) (i : Nat) : Bool := (List.range ops.size).all fun t => !T t || Region.waitsFor md ops t i
theorem firstG {i : Nat} {oi : Oper} {v : Value} (hi : ops[i]? = some oi) (hsel : ∀ (j : Nat) (o : Oper) cs b, ops[j]? = some o → o.op ≠ .select cs b)
    (hQ : ∀ c a w, Q (.panic c) (a.put oi.dst v) w → Q (.panic c) a w) (hT : waitB md ops T i = true) (hTi : T i = false) :
    ∀ (fuel : Nat) (listed : Array Bool) (a : Act) (w : World),
      (∀ j oj, ops[j]? = some oj → j ≠ i → listed.getD j true = false → (∀ e ∈ oj.after, Region.binds md e = true → e.on ≠ i) → oi.apart ops oj = true) →
      i ∈ Region.ready md ops listed → YieldsIf P ops S oi v a → S w →
      wpAnyG P md ops Q S T fuel (listed.setIfInBounds i true) (a.put oi.dst v) w → wpAnyG P md ops Q S T (fuel + 1) listed a w := by
  intro fuel
  induction fuel with
  | zero =>
    intro listed a w _ hr hy hS H
    refine ⟨fun h => (by rw [h] at hr; cases hr), fun j hj => ?_⟩
    by_cases hji : j = i
    · subst hji; exact hy.wpOp hi hS ⟨fun _ => hS, H⟩
    · have := ready_mono hj hji
      rw [H.1] at this
      cases this
  | succ fuel ih =>
    intro listed a w hfree hr hy hS H
    refine ⟨fun h => (by rw [h] at hr; cases hr), fun j hj => ?_⟩
    by_cases hji : j = i
    · subst hji; exact hy.wpOp hi hS ⟨fun _ => hS, H⟩
    · have h1 := H.2 j (ready_mono hj hji)
      obtain ⟨hjun, oj, hoj, hall⟩ := mem_ready.1 hj
      have hnot : ∀ e ∈ oj.after, Region.binds md e = true → e.on ≠ i := fun e he hb heq => by
        have h1 := hall e he hb
        have h0 := (mem_ready.1 hr).1
        rw [heq] at h1
        rcases Nat.lt_or_ge i listed.size with h' | h'
        · simp [h'] at h0 h1; rw [h0] at h1; cases h1
        · simp [Array.getElem?_eq_none h'] at h1
      have hTj : T j = false := by
        cases hq : T j with
        | false => rfl
        | true =>
          have hlt : j < ops.size := (Array.getElem?_eq_some_iff.1 hoj).1
          have h2 := List.all_eq_true.1 hT j (List.mem_range.2 hlt)
          rw [hq] at h2
          simp only [Bool.not_true, Bool.false_or] at h2
          obtain ⟨o', ho', e, he, hb, hon⟩ := Region.waitsFor_spec h2
          have : o' = oj := Option.some.inj (ho'.symm.trans hoj)
          subst this
          exact absurd hon (hnot e he hb)
      have h2 := wpOp_putIf hoj (hfree j oj hoj hji hjun hnot) (fun cs b => hsel i oi cs b hi) (fun cs b => hsel j oj cs b hoj) hQ hy h1
      have hfree' : ∀ k ok, ops[k]? = some ok → k ≠ i → (listed.setIfInBounds j true).getD k true = false →
          (∀ e ∈ ok.after, Region.binds md e = true → e.on ≠ i) → oi.apart ops ok = true := fun k ok hk hki hun hno => by
        refine hfree k ok hk hki ?_ hno
        by_cases hjk : j = k
        · subst hjk; exact hjun
        · rw [getD_set_ne true hjk] at hun; exact hun
      refine wpOp_mono (fun a' w' h3 => ⟨h3.2.1, ih (listed.setIfInBounds j true) a' w' hfree' (ready_mono hr (Ne.symm hji)) h3.1 (h3.2.1 hTj) ?_⟩) h2
      rw [Array.setIfInBounds_comm _ _ hji]
      exact h3.2.2
theorem takeG {i : Nat} {oi : Oper} {v : Value} {fuel : Nat} {listed : Array Bool} {a : Act} {w : World} (hi : ops[i]? = some oi)
    (hs : Region.noSelect ops = true) (hf : Region.free md ops listed i = true) (hr : (Region.ready md ops listed).contains i = true)
    (hQ : ∀ c a w, Q (.panic c) (a.put oi.dst v) w → Q (.panic c) a w) (hT : waitB md ops T i = true) (hTi : T i = false) (hy : YieldsIf P ops S oi v a) (hS : S w)
    (h : wpAnyG P md ops Q S T fuel (listed.setIfInBounds i true) (a.put oi.dst v) w) : wpAnyG P md ops Q S T (fuel + 1) listed a w :=
  firstG hi (Region.noSelect_spec hs) hQ hT hTi fuel listed a w (Region.free_spec hi hf) (by simpa using hr) hy hS h
def AllG (P : Program) (md : Region.Mode) (ops : Array Oper) (Q : Exit → Act → World → Prop) (S : World → Prop) (T : Nat → Bool) (fuel : Nat) (listed : Array Bool) (a : Act) (w : World) (rs : List Nat) : Prop :=
  ∀ i ∈ rs, wpOp P ops Q i (fun a' w' => (T i = false → S w') ∧ wpAnyG P md ops Q S T fuel (listed.setIfInBounds i true) a' w') a w
theorem AllG.nil {fuel : Nat} {listed : Array Bool} {a : Act} {w : World} : AllG P md ops Q S T fuel listed a w [] := fun _ h => by cases h
theorem AllG.cons {fuel : Nat} {listed : Array Bool} {a : Act} {w : World} {i : Nat} {o : Oper} {rs : List Nat} (ho : ops[i]? = some o)
    (h : ∀ K' : Act → World → Prop, Shut (∀ a w, (T i = false → S w) → wpAnyG P md ops Q S T fuel (listed.setIfInBounds i true) a w → K' a w) → if Region.wanted o (yielded ops a.tmps) = true then Oper.wp P o a w K' Q else K' (a.put o.dst undef) w)
    (hs : AllG P md ops Q S T fuel listed a w rs) : AllG P md ops Q S T fuel listed a w (i :: rs) := fun j hj => by
  rcases List.mem_cons.1 hj with rfl | hj
  · exact wpOp_step ho (fun K' hK => h K' (fun a w hS hW => hK a w ⟨hS, hW⟩))
  · exact hs j hj
theorem readyG {rs : List Nat} {fuel : Nat} {listed : Array Bool} {a : Act} {w : World} (hr : Region.ready md ops listed = rs) (hne : rs ≠ [])
    (h : AllG P md ops Q S T fuel listed a w rs) : wpAnyG P md ops Q S T (fuel + 1) listed a w :=
  ⟨fun h0 => absurd (hr ▸ h0) hne, hr ▸ h⟩
theorem doneG {listed : Array Bool} {a : Act} {w : World} (hr : Region.ready md ops listed = []) (h : Q .normal a w) :
    ∀ fuel, wpAnyG P md ops Q S T fuel listed a w
  | 0 => ⟨hr, h⟩
  | _ + 1 => ⟨fun _ => h, by rw [hr]; simp⟩
theorem regionG {id : Nat} {a : Act} {w : World} (S : World → Prop) (T : Nat → Bool) (hm : P.follows .mixedOrders = true)
    (h : wpAnyG P .any ops Q S T ops.size (Array.replicate ops.size false) a w.drew) : (Code.region id ops true).wp P Q a w :=
  wp_region_any hm (any_of_G _ _ _ _ h)
end
end Go.Proofs.YtanoiiodnddkfaaGreat.heldG
namespace Go.Proofs.YtanoiiodnddkfaaGreat.readN
open Go.RowKit Go.Proofs.YtanoiiodnddkfaaGreat.kit Go.Proofs.YtanoiiodnddkfaaGreat.nspec Go.Proofs.YtanoiiodnddkfaaGreat.refA Go.Proofs.YtanoiiodnddkfaaGreat.refB Go.Proofs.YtanoiiodnddkfaaGreat.rsplit Go.Proofs.YtanoiiodnddkfaaGreat.fld Go.Proofs.YtanoiiodnddkfaaGreat.timed Go.Proofs.YtanoiiodnddkfaaGreat.wireP Go.Proofs.YtanoiiodnddkfaaGreat.gapP Go.Proofs.YtanoiiodnddkfaaGreat.bits Go.Proofs.YtanoiiodnddkfaaGreat.ints Go.Proofs.YtanoiiodnddkfaaGreat.gapA Go.Proofs.YtanoiiodnddkfaaGreat.gapC Go.Proofs.YtanoiiodnddkfaaGreat.gapN Go.Proofs.YtanoiiodnddkfaaGreat.gapR Go.Proofs.YtanoiiodnddkfaaGreat.useP Go.Proofs.YtanoiiodnddkfaaGreat.useM Go.Proofs.YtanoiiodnddkfaaGreat.judgeP Go.Proofs.YtanoiiodnddkfaaGreat.first Go.Proofs.YtanoiiodnddkfaaGreat.textsT Go.Proofs.YtanoiiodnddkfaaGreat.typesW
set_option linter.unusedVariables false

theorem infoR : (Tryz.prog.info? 32).map (·.size) = some 5 := by kernel_rfl
theorem takeD {P : Program} {ops : Array Oper} {Q : Exit → Act → World → Prop} {md : Region.Mode} {S : World → Prop} {T : Nat → Bool} {i d : Nat} {oi : Oper} {v : Value} {fuel : Nat} {listed : Array Bool} {a : Act} {w : World} (hi : ops[i]? = some oi) (hd : oi.dst = some d)
    (hs : Region.noSelect ops = true) (hf : Region.free md ops listed i = true) (hr : (Region.ready md ops listed).contains i = true)
    (hQ : ∀ c a w, Q (.panic c) (a.put oi.dst v) w → Q (.panic c) a w) (hT : heldG.waitB md ops T i = true) (hTi : T i = false) (hy : YieldsIf P ops S oi v a) (hS : S w)
    (h : heldG.wpAnyG P md ops Q S T fuel (listed.setIfInBounds i true) (a.put (some d) v) w) : heldG.wpAnyG P md ops Q S T (fuel + 1) listed a w :=
  heldG.takeG hi hs hf hr hQ hT hTi hy hS (by rw [hd]; exact h)
theorem own_one {w : World} {b : Nat} {e : TypeId} {v : Value} {n : Nat} {u : Value} {xs : List Value} (h : w.ownsRow b e 1 v n xs) (hx : xs = [u]) : ∃ g c, v = .slice (some ⟨g, 0, none⟩) n c ∧ w.cell? ⟨g, 0, none⟩ = some u ∧ n = 1 := by
  subst hx
  have hn : n = 1 := by have := h.1; simp at this; omega
  rcases h.2 with ⟨rfl, h0⟩ | ⟨g, cap, cur, rfl, hb, hg, h1, h2, _, _⟩
  · omega
  · have := h.cells (g := g) rfl 0 u rfl
    rw [rows.addr_at, Nat.zero_add] at this
    exact ⟨g, cap, rfl, this, hn⟩
/-- what readName answers -/
def ReadNE (ap : Bs) (x : Rc) (w : World) (e : Ending) (w' : World) : Prop :=
  (∃ (r : Gr) (b : Bool), e = .returned (.tuple #[.agg (nameC r.g r.v), .bool b]) ∧ (b = true → useN ap x = some r.g ∧ TyO w' w.heap.size r) ∧ (b = false → useN ap x = none)) ∧ Below w.heap.size w w'
/-- what stands while the last region runs -/
def ReadS (X Z : Nat) (x : Rc) (r : Gr) (w w' : World) : Prop := w'.heap[X]? = some (.cells #[.string x.o, .int .i64 x.t, .int .i64 x.c, .int .i64 x.l, .string x.d] 32 (0, 0)) ∧ (∃ y, AtN w' Z y) ∧ TyO w' w.heap.size r ∧ Below w.heap.size w w'
theorem keepS {X Z : Nat} {x : Rc} {r : Gr} {w w1 w2 : World} (h : ReadS X Z x r w w1) (hB : Below w1.heap.size w1 w2) : ReadS X Z x r w w2 := by
  obtain ⟨h1, ⟨y, h2⟩, h3, h4⟩ := h
  exact ⟨(hB.block X (blk_lt h1)).trans h1, ⟨y, h2.below hB⟩, h3.below hB, h4.trans (hB.mono h4.size)⟩
theorem row_kept {X Z : Nat} {x : Rc} {r y : Gr} {w w1 : World} (h : ReadS X Z x r w w1) (hz : AtN w1 Z y) (hXZ : X < Z) (hl : w.heap.size ≤ Z) (r2 : Gr) : ReadS X Z x r w (w1.setRow Z (nameC r2.g r2.v)) := by
  obtain ⟨h1, _, h3, h4⟩ := h
  refine ⟨(setRow_other _ _ _ _ (by omega)).trans h1, ⟨r2, setRow_heap _ _ _ _ _ _ hz⟩, h3.kept fun k hk => setRow_other _ _ _ _ ?_, below_setRow h4 hl _⟩
  rintro rfl
  rcases h3.own.2 with ⟨e, _⟩ | ⟨g, cap, cur, e, _, hg, _⟩
  · rw [e] at hk; simp [Value.ownBlock] at hk
  · rw [e] at hk
    simp only [Value.ownBlock, Option.some.injEq] at hk
    subst hk
    unfold AtN at hz
    rw [hz] at hg
    simp only [Option.some.injEq, Obj.cells.injEq] at hg
    exact absurd hg.2.1 (by decide)
theorem res {w : World} {B : Nat} {r : Gr} {j : Value} (tmps : Array Value) (h4 : tmps[4]?.getD undef = .pointer (some ⟨B, 0, none⟩)) (h5 : tmps[5]?.getD undef = j) (hx : AtN w B r) :
    (results Tryz.f38 tmps).run Tryz.prog w = .ok (.tuple #[.agg (nameC r.g r.v), j]) w := by
  have hx' : w.heap[B]? = some (.cells #[.slice r.a r.n r.c, .string r.g.x.o, .int .i64 r.g.x.t, .int .i64 r.g.x.c, .int .i64 r.g.x.l, .string r.g.x.d, .string r.g.x.o, .string r.g.nx] 58 (0, 0)) := hx
  obtain ⟨d0, d1, d2, d3, d4, d5, d6, d7⟩ := cells8 hx'
  simp [results, Tryz.results38, h4, h5, asAddr, go_sem, d0, d1, d2, d3, d4, d5, d6, d7, nameC, Gr.v]
theorem fin {w1 : World} {B : Nat} {r : Gr} {j : Value} {Q : Ending → World → Prop} (tmps : Array Value) (h4 : tmps[4]?.getD undef = .pointer (some ⟨B, 0, none⟩)) (h5 : tmps[5]?.getD undef = j) (hx : AtN w1 B r) (hR : Q (.returned (.tuple #[.agg (nameC r.g r.v), j])) w1) :
    bodyPost Tryz.prog Tryz.f38 Q .ret { tmps := tmps, defers := [] } w1 :=
  bodyPost_ret (v := .tuple #[.agg (nameC r.g r.v), j]) (res tmps h4 h5 hx) rfl hR
set_option maxRecDepth 100000 in
set_option maxHeartbeats 2400000 in
theorem readN_any (ap : ByteArray) (x : Rc) (w : World) (hap : ap.size ≤ 1048576) (ho : x.o.size ≤ 1048576) (hd : x.d.size ≤ maxLen) :
    Calls Tryz.prog 38 #[.string ap, .agg #[.string x.o, .int .i64 x.t, .int .i64 x.c, .int .i64 x.l, .string x.d]] w (ReadNE ap.data.toList x w) := by
  have hB1 := (Below.refl w.heap.size w).alloc (Nat.le_refl _) (.cells #[.string x.o, .int .i64 x.t, .int .i64 x.c, .int .i64 x.l, .string x.d] 32 (0, 0))
  have hx1 := heap_alloc_new w (.cells #[.string x.o, .int .i64 x.t, .int .i64 x.c, .int .i64 x.l, .string x.d] 32 (0, 0))
  obtain ⟨X, hX⟩ : ∃ X, w.heap.size = X := ⟨_, rfl⟩
  obtain ⟨w1, hw1⟩ : ∃ W, w.alloc (.cells #[.string x.o, .int .i64 x.t, .int .i64 x.c, .int .i64 x.l, .string x.d] 32 (0, 0)) = W := ⟨_, rfl⟩
  have hsz : w1.heap.size = X + 1 := by rw [← hw1, World.size_alloc, hX]
  rw [hw1] at hB1 hx1
  rw [hX] at hx1
  have hB2 := hB1.alloc (by omega) (.cells (nameC zGr.g zGr.v) 58)
  have hz2 : AtN (w1.alloc (.cells (nameC zGr.g zGr.v) 58)) w1.heap.size zGr := heap_alloc_new _ _
  have hx2 := (heap_alloc_old w1 (.cells (nameC zGr.g zGr.v) 58) (by rw [hsz]; omega)).trans hx1
  obtain ⟨Z, hZ⟩ : ∃ Z, w1.heap.size = Z := ⟨_, rfl⟩
  obtain ⟨W, hW⟩ : ∃ W, w1.alloc (.cells (nameC zGr.g zGr.v) 58) = W := ⟨_, rfl⟩
  rw [hW] at hB2 hz2 hx2
  rw [hZ] at hz2
  have hXZ : X < Z := by omega
  have HZ1 : Hid (X + 1 = Z) := Lib.hid (by omega)
  have HW1 := Lib.hid hw1; have HX := Lib.hid hX; have HZ := Lib.hid hZ
  have HW : Hid (w1.alloc (.cells #[.slice none 0 0, .string ⟨#[]⟩, .int .i64 0, .int .i64 0, .int .i64 0, .string ⟨#[]⟩, .string ⟨#[]⟩, .string ⟨#[]⟩] 58) = W) := Lib.hid hW
  have HB2 := Lib.hid hB2; have HZ2 := Lib.hid hz2; have HX2 := Lib.hid hx2
  obtain ⟨x0, x1, x2, x3, x4⟩ := cells5 hx2
  have CR := Lib.hid (fun wx => right_any ap x wx hap (by omega) hd)
  have CN := Lib.hid (fun wx => dnames.names_any x.t x.d wx hd)
  clear hX hw1 hsz hB1 hx1 hB2 hZ hW
  by_cases ht : ¬ x.t = 47
  · have et : (x.t != 47) = true := bne_iff_ne.2 ht
    have HU : Hid (useN ap.data.toList x = none) := Lib.hid (useN_no ht)
    obtain ⟨z0, z1, z2, z3, z4, z5, z6, z7⟩ := cells8 (g := zGr.g) (a := none) (n := 0) (c := 0) hz2
    have f0 := fzN hz2 0; have f1 := fzN hz2 1; have f2 := fzN hz2 2; have f3 := fzN hz2 3; have f4 := fzN hz2 4; have f5 := fzN hz2 5; have f6 := fzN hz2 6; have f7 := fzN hz2 7
    go_enter Tryz.func38, Tryz.ntmps38
    go_upto_region 1 with fail
    try rw [HW1.out]
    try rw [HX.out]
    try rw [HW.out]
    try rw [HZ1.out]
    go_wp2_with (first | (refine wpList_store_row rfl 58 _ _ rfl Z _ rfl rfl 58 _ hz2 (by rw [infoN]; rfl) rfl rfl ?_))
    exact fin _ rfl rfl (putN_at zGr hz2) ⟨⟨zGr, false, rfl, fun h => (by cases h), fun _ => HU.out⟩, putN_below HB2.out (by have := HX.out; omega) zGr⟩
  have et : (x.t != 47) = false := by simpa using ht
  have ht : x.t = 47 := Classical.not_not.1 ht
  obtain ⟨rb, hrb⟩ : ∃ rb, rgtB ap.data.toList x = rb := ⟨_, rfl⟩
  rw [hrb] at CR
  cases rb with
  | false =>
    have HU : Hid (useN ap.data.toList x = none) := Lib.hid (useN_bad hrb)
    clear hrb ht
    go_enter Tryz.func38, Tryz.ntmps38
    go_upto_region 1 with fail
    try rw [HW1.out]
    try rw [HX.out]
    try rw [HW.out]
    try rw [HZ1.out]
    go_wp2_with (refine wpList_load_row rfl 32 _ rfl X rfl 32 _ _ _ hx2 Tryz.underlying32 rfl (by rw [infoR]; rfl) ?_)
    refine (CR.out _).mono ?_
    rintro e w3 ⟨rfl, hB3⟩
    have hz3 := HZ2.out.below hB3
    have HB3 := Lib.hid (HB2.out.trans (hB3.mono HB2.out.size))
    clear hB3 hx2 hz2
    obtain ⟨z0, z1, z2, z3, z4, z5, z6, z7⟩ := cells8 (g := zGr.g) (a := none) (n := 0) (c := 0) hz3
    have f0 := fzN hz3 0; have f1 := fzN hz3 1; have f2 := fzN hz3 2; have f3 := fzN hz3 3; have f4 := fzN hz3 4; have f5 := fzN hz3 5; have f6 := fzN hz3 6; have f7 := fzN hz3 7
    go_wp2_with (refine wpList_store_row rfl 58 _ _ rfl Z _ rfl rfl 58 _ hz3 (by rw [infoN]; rfl) rfl rfl ?_)
    exact fin _ rfl rfl (putN_at zGr hz3) ⟨⟨zGr, false, rfl, fun h => (by cases h), fun _ => HU.out⟩, putN_below HB3.out (by have := HX.out; omega) zGr⟩
  | true =>
    obtain ⟨hwi, hck⟩ := rgt_owner hrb
    rw [ht] at hck
    obtain ⟨a, b, l, hp⟩ := ns_parts hck
    have HUA := Lib.hid (useN_at hrb ht hp)
    obtain ⟨A, hA⟩ : ∃ A : ByteArray, (⟨a.toArray⟩ : ByteArray) = A := ⟨_, rfl⟩
    have hAd : a = A.data.toList := by rw [← hA]
    have HP := Lib.hid hp
    have hAs : A.size ≤ 255 := by obtain ⟨ls, hl⟩ := hp.name; rw [← size_len, ← hAd]; exact isN_size hl
    have hall := hp.all
    have hAle : A.size ≤ x.d.size := by rw [← size_len, ← size_len, hall, ← hAd, List.length_append]; omega
    have hds : x.d.size ≤ 65535 := by rw [← size_len]; exact hp.small
    obtain ⟨BX, hBX⟩ : ∃ B : ByteArray, x.d.extract A.size x.d.size = B := ⟨_, rfl⟩
    have hBd : BX.data.toList = b := by rw [← hBX, ext_end, hall, hAd]; simp
    have hBs : BX.size ≤ 65535 := by rw [← size_len, hBd]; have := hp.small; rw [hall, List.length_append] at this; omega
    have hll : l.length ≤ 1048576 := by have h1 := types_len hp.ty; rw [← hBd, size_len] at h1; omega
    have CT := Lib.hid (fun wx => types_any BX wx (by omega))
    rw [hBd, ← hBX] at CT
    have CW := Lib.hid (fun wx => nameB.nwithin_any A ap wx (by omega) (by omega))
    simp only [Go.Proofs.YtanoiiodnddkfaaGreat.nameC.within_same] at CW
    rw [← hAd] at CW
    rw [ht] at CN
    rw [hp.names] at CN
    obtain ⟨wi, hwi2⟩ : ∃ wi, withinS a ap.data.toList = wi := ⟨_, rfl⟩
    rw [hwi2] at CW HUA
    obtain ⟨nl, hnl⟩ : ∃ nl, l.length = nl := ⟨_, rfl⟩
    have HNL := Lib.hid hnl
    have HAA := Lib.hid hA; have HTY := Lib.hid hp.ty; have HAD := Lib.hid hAd; have HXT := Lib.hid ht
    have hle1 : (A.size : Int) ≤ (x.d.size : Int) := by omega
    have hle0 : (0 : Int) ≤ (A.size : Int) := by omega
    have OKR : Hid (OkG ⟨x, false, A, ⟨#[]⟩, ⟨#[]⟩, 0, l⟩) := Lib.hid ⟨ho, by simp only; omega, fun h => (by cases h), by simp [ByteArray.size]⟩
    clear hp hwi hck hrb hwi2 hBX hBd hBs hall hAle hA hAd ht
    go_enter Tryz.func38, Tryz.ntmps38
    go_upto_region 1 with fail
    try rw [HW1.out]
    try rw [HX.out]
    try rw [HW.out]
    try rw [HZ1.out]
    go_wp2_with (refine wpList_load_row rfl 32 _ rfl X rfl 32 _ _ _ hx2 Tryz.underlying32 rfl (by rw [infoR]; rfl) ?_)
    refine (CR.out _).mono ?_
    rintro e w3 ⟨rfl, hB3⟩
    have hz3 := HZ2.out.below hB3
    have hx3 := (hB3.block X (blk_lt HX2.out)).trans HX2.out
    have HB3 := Lib.hid (HB2.out.trans (hB3.mono HB2.out.size))
    have HZ3 := Lib.hid hz3; have HX3 := Lib.hid hx3
    clear hB3 hx2 hz2 x0 x1 x2 x3 x4 hx3 hz3
    obtain ⟨x0, x1, x2, x3, x4⟩ := cells5 HX3.out
    rw [HXT.out] at x1
    trace "3"
    go_wp2_with fail
    refine (CN.out w3).mono ?_
    rintro e w4 ⟨v, rfl, hown, hB4⟩
    have hown1 : w4.ownsRow w3.heap.size 9 1 v 1 [strV a] := hown
    obtain ⟨gn, cn, rfl, hc3, _⟩ := own_one hown1 rfl
    have hc4 : w4.cell? ⟨gn, 0, none⟩ = some (.string A) := by rw [hc3, ← HAA.out]; rfl
    have HZ4 := Lib.hid (HZ3.out.below hB4)
    have HX4 := Lib.hid ((hB4.block X (blk_lt HX3.out)).trans HX3.out)
    have HB4 := Lib.hid (HB3.out.trans (hB4.mono HB3.out.size))
    clear hB4 hown hown1 hc3 x0 x1 x2 x3 x4
    obtain ⟨x0, x1, x2, x3, x4⟩ := cells5 HX4.out
    have z1 : (0 : Int) < ((1 : Nat) : Int) := by omega
    trace "4"
    go_wp2_with fail
    refine (CT.out w4).mono ?_
    rintro e w5 ⟨hB5, ⟨v, l', hl', rfl, hown5⟩ | ⟨hno, _⟩⟩
    rotate_left
    · rw [HTY.out] at hno; cases hno
    rw [HTY.out] at hl'
    cases hl'
    rw [HNL.out] at hown5
    obtain ⟨a5, c5, rfl, _, _⟩ := own_slice hown5
    obtain ⟨r, hr⟩ : ∃ r : Gr, (⟨⟨x, false, A, ⟨#[]⟩, ⟨#[]⟩, 0, l⟩, a5, nl, c5⟩ : Gr) = r := ⟨_, rfl⟩
    have hT5 : TyO w5 w.heap.size r := by
      rw [← hr]
      exact ⟨HNL.out, by rw [← HNL.out]; exact hll, own_mono hown5 HB4.out.size, OKR.out⟩
    have HT5 := Lib.hid hT5; have HR := Lib.hid hr
    have HZ5 := Lib.hid (HZ4.out.below hB5)
    have HX5 := Lib.hid ((hB5.block X (blk_lt HX4.out)).trans HX4.out)
    have HB5 := Lib.hid (HB4.out.trans (hB5.mono HB4.out.size))
    have HRG : Hid (r.g = ⟨x, false, A, ⟨#[]⟩, ⟨#[]⟩, 0, l⟩) := Lib.hid (by rw [← hr])
    have HNC : Hid (nameC r.g r.v = #[.slice a5 nl c5, .string x.o, .int .i64 x.t, .int .i64 x.c, .int .i64 x.l, .string x.d, .string x.o, .string A]) := Lib.hid (by rw [← hr]; rfl)
    clear hB5 hown5 x0 x1 x2 x3 x4 hT5 hr
    trace "5"
    go_upto_region 5 with fail
    refine heldG.regionG (fun w' => ReadS X Z x r w w') (fun _ => false) (by kernel_rfl) ?_
    obtain ⟨w6, hw6⟩ : ∃ z, w5.drew = z := ⟨_, rfl⟩
    have hBd : Below w5.heap.size w5 w6 := by rw [← hw6]; exact (Below.refl _ _).drew
    rw [hw6]
    have hS0 := keepS ⟨HX5.out, ⟨_, HZ5.out⟩, HT5.out, HB5.out⟩ hBd
    clear hw6 hBd
    refine takeD (i := 0) (d := 35) (v := .slice a5 nl c5) rfl rfl (by kernel_rfl) (by kernel_rfl) (by kernel_rfl) (fun _ _ _ h => h) (by kernel_rfl) rfl (Or.inl ⟨by kernel_rfl, ?_⟩) hS0 ?_
    · intro wz hSw
      obtain ⟨s0, s1, s2, s3, s4⟩ := cells5 hSw.1
      go_simp
    try simp only [Act.put, List.setIfInBounds_toArray, List.set_cons_zero, List.set_cons_succ]
    refine takeD (i := 1) (d := 36) (v := .agg #[.string x.o, .int .i64 x.t, .int .i64 x.c, .int .i64 x.l, .string x.d]) rfl rfl (by kernel_rfl) (by kernel_rfl) (by kernel_rfl) (fun _ _ _ h => h) (by kernel_rfl) rfl (Or.inl ⟨by kernel_rfl, ?_⟩) hS0 ?_
    · intro wz hSw
      obtain ⟨s0, s1, s2, s3, s4⟩ := cells5 hSw.1
      go_simp
    try simp only [Act.put, List.setIfInBounds_toArray, List.set_cons_zero, List.set_cons_succ]
    refine takeD (i := 2) (d := 37) (v := .agg #[.slice a5 nl c5, .string x.o, .int .i64 x.t, .int .i64 x.c, .int .i64 x.l, .string x.d]) rfl rfl (by kernel_rfl) (by kernel_rfl) (by kernel_rfl) (fun _ _ _ h => h) (by kernel_rfl) rfl (Or.inl ⟨by kernel_rfl, ?_⟩) hS0 ?_
    · intro wz hSw
      obtain ⟨s0, s1, s2, s3, s4⟩ := cells5 hSw.1
      go_simp
    try simp only [Act.put, List.setIfInBounds_toArray, List.set_cons_zero, List.set_cons_succ]
    refine takeD (i := 3) (d := 38) (v := .pointer (some ⟨X, 0, none⟩)) rfl rfl (by kernel_rfl) (by kernel_rfl) (by kernel_rfl) (fun _ _ _ h => h) (by kernel_rfl) rfl (Or.inl ⟨by kernel_rfl, ?_⟩) hS0 ?_
    · intro wz hSw
      obtain ⟨s0, s1, s2, s3, s4⟩ := cells5 hSw.1
      go_simp
    try simp only [Act.put, List.setIfInBounds_toArray, List.set_cons_zero, List.set_cons_succ]
    refine takeD (i := 4) (d := 39) (v := .string x.o) rfl rfl (by kernel_rfl) (by kernel_rfl) (by kernel_rfl) (fun _ _ _ h => h) (by kernel_rfl) rfl (Or.inl ⟨by kernel_rfl, ?_⟩) hS0 ?_
    · intro wz hSw
      obtain ⟨s0, s1, s2, s3, s4⟩ := cells5 hSw.1
      go_simp
    try simp only [Act.put, List.setIfInBounds_toArray, List.set_cons_zero, List.set_cons_succ]
    refine takeD (i := 5) (d := 40) (v := .string A) rfl rfl (by kernel_rfl) (by kernel_rfl) (by kernel_rfl) (fun _ _ _ h => h) (by kernel_rfl) rfl (Or.inl ⟨by kernel_rfl, ?_⟩) hS0 ?_
    · intro wz hSw
      obtain ⟨s0, s1, s2, s3, s4⟩ := cells5 hSw.1
      go_simp
    try simp only [Act.put, List.setIfInBounds_toArray, List.set_cons_zero, List.set_cons_succ]
    refine takeD (i := 6) (d := 41) (v := .agg #[.slice a5 nl c5, .string x.o, .int .i64 x.t, .int .i64 x.c, .int .i64 x.l, .string x.d, .string x.o, .string A]) rfl rfl (by kernel_rfl) (by kernel_rfl) (by kernel_rfl) (fun _ _ _ h => h) (by kernel_rfl) rfl (Or.inl ⟨by kernel_rfl, ?_⟩) hS0 ?_
    · intro wz hSw
      obtain ⟨s0, s1, s2, s3, s4⟩ := cells5 hSw.1
      go_simp
    try simp only [Act.put, List.setIfInBounds_toArray, List.set_cons_zero, List.set_cons_succ]
    refine takeD (i := 7) (d := 42) (v := .string A) rfl rfl (by kernel_rfl) (by kernel_rfl) (by kernel_rfl) (fun _ _ _ h => h) (by kernel_rfl) rfl (Or.inl ⟨by kernel_rfl, ?_⟩) hS0 ?_
    · intro wz hSw
      obtain ⟨s0, s1, s2, s3, s4⟩ := cells5 hSw.1
      go_simp
    try simp only [Act.put, List.setIfInBounds_toArray, List.set_cons_zero, List.set_cons_succ]
    refine takeD (i := 8) (d := 43) (v := .string ap) rfl rfl (by kernel_rfl) (by kernel_rfl) (by kernel_rfl) (fun _ _ _ h => h) (by kernel_rfl) rfl (Or.inl ⟨by kernel_rfl, ?_⟩) hS0 ?_
    · intro wz hSw
      obtain ⟨s0, s1, s2, s3, s4⟩ := cells5 hSw.1
      go_simp
    try simp only [Act.put, List.setIfInBounds_toArray, List.set_cons_zero, List.set_cons_succ]
    refine heldG.readyG (rs := [9]) (by kernel_rfl) (by simp) ?_
    refine heldG.AllG.cons rfl (fun KK hKK => ?_) heldG.AllG.nil
    go_simp
    refine (CW.out _).mono ?_
    rintro en wq ⟨rfl, hBz⟩
    have hS1 := keepS hS0 hBz
    dsimp only
    refine hKK.out _ _ (fun _ => hS1) ?_; clear hKK KK hBz
    try simp only [Act.put, List.setIfInBounds_toArray, List.set_cons_zero, List.set_cons_succ]
    refine heldG.readyG (rs := [10]) (by kernel_rfl) (by simp) ?_
    refine heldG.AllG.cons rfl (fun KK hKK => ?_) heldG.AllG.nil
    rw [if_pos (by kernel_rfl)]
    obtain ⟨y, hyz⟩ := hS1.2.1
    refine wp_store_row 58 _ _ rfl Z _ rfl rfl 58 _ hyz (by rw [infoN]; rfl) rfl (by rw [← HNC.out]; exact oneN r) ?_
    rw [← HNC.out]
    have hS2 : (fun w' => ReadS X Z x r w w') (wq.setRow Z (nameC r.g r.v)) := row_kept hS1 hyz hXZ (by have := HX.out; omega) _
    refine hKK.out _ _ (fun _ => hS2) ?_; clear hKK KK
    try simp only [Act.put, List.setIfInBounds_toArray]
    refine takeD (i := 11) (d := 5) (v := .bool wi) rfl rfl (by kernel_rfl) (by kernel_rfl) (by kernel_rfl) (fun _ _ _ h => h) (by kernel_rfl) rfl (Or.inl ⟨by kernel_rfl, ?_⟩) hS2 ?_
    · intro wz hSw
      obtain ⟨s0, s1, s2, s3, s4⟩ := cells5 hSw.1
      go_simp
    try simp only [Act.put]
    refine heldG.doneG (by kernel_rfl) ?_ _
    go_wp2_with fail
    exact fin _ rfl rfl (setRow_heap _ _ _ _ _ _ hyz) ⟨⟨r, wi, rfl, fun h => ⟨by rw [HUA.out, h, if_pos rfl, HRG.out, HAA.out], hS2.2.2.1⟩, fun h => by rw [HUA.out, h]; rfl⟩, hS2.2.2.2⟩
end Go.Proofs.YtanoiiodnddkfaaGreat.readN
namespace Go.Proofs.YtanoiiodnddkfaaGreat.from32
open Go.RowKit Go.Proofs.YtanoiiodnddkfaaGreat.kit Go.Proofs.YtanoiiodnddkfaaGreat.bits Go.Proofs.YtanoiiodnddkfaaGreat.back Go.Proofs.YtanoiiodnddkfaaGreat.bld Go.Proofs.YtanoiiodnddkfaaGreat.to32

theorem or5 {x y : Int} (hx₀ : 0 ≤ x) (hx : x % 32 = 0) (hx₁ : x < 2147483648) (h₀ : 0 ≤ y) (h₁ : y < 32) : bits .or .i64 x y = x + y :=
  bits_join .i64 31 (by decide) wraps31 5 x y hx₀ hx hx₁ h₀ h₁ (by omega)
theorem val_case (c : UInt8) : (∃ v : Nat, val32 c = some v ∧ v < 32 ∧ ((48 ≤ c.toNat ∧ c.toNat ≤ 57 ∧ v + 48 = c.toNat) ∨ (97 ≤ c.toNat ∧ c.toNat ≤ 118 ∧ v + 87 = c.toNat) ∨ (65 ≤ c.toNat ∧ c.toNat ≤ 86 ∧ v + 55 = c.toNat))) ∨
    (val32 c = none ∧ (c.toNat < 48 ∨ (57 < c.toNat ∧ c.toNat < 65) ∨ (86 < c.toNat ∧ c.toNat < 97) ∨ 118 < c.toNat)) := by
  by_cases h1 : 48 ≤ c.toNat ∧ c.toNat ≤ 57
  · exact .inl ⟨c.toNat - 48, by unfold val32; rw [if_pos h1], by omega, .inl ⟨h1.1, h1.2, by omega⟩⟩
  · by_cases h2 : 97 ≤ c.toNat ∧ c.toNat ≤ 118
    · exact .inl ⟨c.toNat - 87, by unfold val32; rw [if_neg h1, if_pos h2], by omega, .inr (.inl ⟨h2.1, h2.2, by omega⟩)⟩
    · by_cases h3 : 65 ≤ c.toNat ∧ c.toNat ≤ 86
      · exact .inl ⟨c.toNat - 55, by unfold val32; rw [if_neg h1, if_neg h2, if_pos h3], by omega, .inr (.inr ⟨h3.1, h3.2, by omega⟩)⟩
      · exact .inr ⟨by unfold val32; rw [if_neg h1, if_neg h2, if_neg h3], by omega⟩

set_option maxRecDepth 100000 in
set_option maxHeartbeats 4000000 in
theorem nfrom32_any (s : ByteArray) (w : World) (hs : s.size ≤ 1099511627776) :
    Calls Tryz.prog 71 #[.string s] w fun e w' => e = two (from32S s.data.toList) ∧ Below w.heap.size w w' := by
  obtain ⟨R, HR⟩ : ∃ R, Hid (from32S s.data.toList = R) := ⟨_, Lib.hid rfl⟩
  rw [HR.out]
  have hfb := Lib.fresh_isBuilder 116 5 w
  have hBa := (Below.refl w.heap.size w).alloc (Nat.le_refl _) (.cells #[.pointer none, .slice none 0 0] 116)
  go_enter Tryz.func71, Tryz.ntmps71
  go_wp2
  go_loopg [5, 6, 12] (s.size + 1) (fun gas hv bv kv wr => ∃ (k h b : Nat) (A : List UInt8), hv = .int .i64 h ∧ bv = .int .i64 b ∧ kv = .int .i64 k ∧ h < 4096 ∧ b < 8 ∧ k ≤ s.size ∧ k + gas = s.size + 1 ∧ A.length ≤ k ∧ Hid (backS 5 5 val32 A (tob h b) (s.data.toList.drop k) = R) ∧ Bld w.heap.size w.heap.size A wr ∧ Below w.heap.size w wr)
  case atStart => exact ⟨0, 0, 0, [], rfl, rfl, rfl, by omega, by omega, by omega, by omega, by simp, HR, hfb, hBa⟩
  case round =>
    clear hfb hBa
    obtain ⟨k, h, b, A, rfl, rfl, rfl, hh, hb, hk, hkg, hAk, HW, hA, hB⟩ := hrel
    have HK := Lib.hid hkg; clear hkg
    have hsz := hB.size
    by_cases hlt : k < s.size
    · have hc256 := byte_lt s[k]
      rcases val_case s[k] with ⟨v, hv, hv32, hcc⟩ | ⟨hv, hcc⟩
      · obtain ⟨H, hH⟩ : ∃ H : Nat, (h * 32 + v) % 4096 = H := ⟨_, rfl⟩
        have hH4 : H < 4096 := by omega
        have HSTEP := Lib.hid (back_some HW.out (drop_cons s k hlt) hv hv32 (by omega) hH)
        have HOR := Lib.hid (or5 (x := (h : Int) * 32) (y := (v : Int)) (by omega) (by omega) (by omega) (by omega) (by omega))
        have HAND : Hid (bits .and .i64 ((h : Int) * 32 + (v : Int)) 4095 = (H : Int)) := Lib.hid (by
          rw [and4095 (by omega) (by omega)]; omega)
        clear hH hv
        have hor := congrArg (Value.int .i64) HOR.out
        have hand := congrArg (Value.int .i64) HAND.out
        by_cases h8 : 3 ≤ b
        · obtain ⟨q, hq⟩ : ∃ q, b = q + 3 := ⟨b - 3, by omega⟩
          have hq8 : (q : Int) < 8 := by omega
          have hsub : Value.int .i64 ((b : Int) + 5 - 8) = Value.int .i64 (q : Int) := by congr 1; omega
          have hbb : (8 : Int) ≤ (b : Int) + 5 := by omega
          have hZb : ((UInt8.ofNat (H / 2 ^ q)).toNat : Int) = (H : Int) / 2 ^ q % 256 := by simp [UInt8.toNat_ofNat']
          have HSB : Hid (backS 5 5 val32 (A ++ [UInt8.ofNat (H / 2 ^ q)]) (tob H q) (s.data.toList.drop (k + 1)) = R) := Lib.hid (by
            have h1 := HSTEP.out
            rw [hq] at h1
            exact back_byte h1)
          have hwb := wb w.heap.size w.heap.size A (UInt8.ofNat (H / 2 ^ q)) wr hA (by omega) hsz
          rw [hZb] at hwb
          have HWB := Lib.hid hwb
          clear hwb hq hZb
          rcases hcc with ⟨hc1, hc2, hc3⟩ | ⟨hc1, hc2, hc3⟩ | ⟨hc1, hc2, hc3⟩
          · have hc4 : Value.int .i64 ((s[k].toNat : Int) - 48) = Value.int .i64 (v : Int) := by congr 1; omega
            have hc1 : (48 : Int) ≤ (s[k].toNat : Int) := by omega
            have hc2 : (s[k].toNat : Int) ≤ 57 := by omega
            clear hc3
            go_wp2_with fail
            refine HWB.out.mono ?_
            rintro e v1 ⟨rfl, hb1, hE1⟩
            clear hor hand hc4
            go_wp2
            have hkg := HK.out
            go_roundg (gk - 1)
            case rel => exact ⟨k + 1, H, q, _, rfl, (by first | rfl | exact hsub), by go_num, hH4, by omega, by omega, by omega, by simp; omega, HSB, hb1, hB.trans hE1⟩
            case measure => omega
          · have hc4 : Value.int .i64 ((s[k].toNat : Int) - 97 + 10) = Value.int .i64 (v : Int) := by congr 1; omega
            have hc1 : (97 : Int) ≤ (s[k].toNat : Int) := by omega
            have hc2 : (s[k].toNat : Int) ≤ 118 := by omega
            clear hc3
            go_wp2_with fail
            refine HWB.out.mono ?_
            rintro e v1 ⟨rfl, hb1, hE1⟩
            clear hor hand hc4
            go_wp2
            have hkg := HK.out
            go_roundg (gk - 1)
            case rel => exact ⟨k + 1, H, q, _, rfl, (by first | rfl | exact hsub), by go_num, hH4, by omega, by omega, by omega, by simp; omega, HSB, hb1, hB.trans hE1⟩
            case measure => omega
          · have hc4 : Value.int .i64 ((s[k].toNat : Int) - 65 + 10) = Value.int .i64 (v : Int) := by congr 1; omega
            have hc1 : (65 : Int) ≤ (s[k].toNat : Int) := by omega
            have hc2 : (s[k].toNat : Int) ≤ 86 := by omega
            clear hc3
            go_wp2_with fail
            refine HWB.out.mono ?_
            rintro e v1 ⟨rfl, hb1, hE1⟩
            clear hor hand hc4
            go_wp2
            have hkg := HK.out
            go_roundg (gk - 1)
            case rel => exact ⟨k + 1, H, q, _, rfl, (by first | rfl | exact hsub), by go_num, hH4, by omega, by omega, by omega, by simp; omega, HSB, hb1, hB.trans hE1⟩
            case measure => omega
        · have hbb : (b : Int) + 5 < 8 := by omega
          rcases hcc with ⟨hc1, hc2, hc3⟩ | ⟨hc1, hc2, hc3⟩ | ⟨hc1, hc2, hc3⟩
          · have hc4 : Value.int .i64 ((s[k].toNat : Int) - 48) = Value.int .i64 (v : Int) := by congr 1; omega
            have hc1 : (48 : Int) ≤ (s[k].toNat : Int) := by omega
            have hc2 : (s[k].toNat : Int) ≤ 57 := by omega
            clear hc3
            go_wp2
            clear hor hand hc4
            have hkg := HK.out
            go_roundg (gk - 1)
            case rel => exact ⟨k + 1, H, b + 5, A, rfl, by go_num, by go_num, hH4, by omega, by omega, by omega, by omega, HSTEP, hA, hB⟩
            case measure => omega
          · have hc4 : Value.int .i64 ((s[k].toNat : Int) - 97 + 10) = Value.int .i64 (v : Int) := by congr 1; omega
            have hc1 : (97 : Int) ≤ (s[k].toNat : Int) := by omega
            have hc2 : (s[k].toNat : Int) ≤ 118 := by omega
            clear hc3
            go_wp2
            clear hor hand hc4
            have hkg := HK.out
            go_roundg (gk - 1)
            case rel => exact ⟨k + 1, H, b + 5, A, rfl, by go_num, by go_num, hH4, by omega, by omega, by omega, by omega, HSTEP, hA, hB⟩
            case measure => omega
          · have hc4 : Value.int .i64 ((s[k].toNat : Int) - 65 + 10) = Value.int .i64 (v : Int) := by congr 1; omega
            have hc1 : (65 : Int) ≤ (s[k].toNat : Int) := by omega
            have hc2 : (s[k].toNat : Int) ≤ 86 := by omega
            clear hc3
            go_wp2
            clear hor hand hc4
            have hkg := HK.out
            go_roundg (gk - 1)
            case rel => exact ⟨k + 1, H, b + 5, A, rfl, by go_num, by go_num, hH4, by omega, by omega, by omega, by omega, HSTEP, hA, hB⟩
            case measure => omega
      · have HN := Lib.hid (back_none HW.out (drop_cons s k hlt) hv)
        clear hv
        have hc0 : (0 : Int) ≤ (s[k].toNat : Int) := by omega
        rcases hcc with hc | ⟨hc, hc'⟩ | ⟨hc, hc'⟩ | hc
        · have hc1 : (s[k].toNat : Int) < 48 := by omega
          go_wp2
          go_ret2
          exact ⟨by rw [HN.out]; rfl, hB⟩
        · have hc1 : (57 : Int) < (s[k].toNat : Int) := by omega
          have hc2 : (s[k].toNat : Int) < 65 := by omega
          go_wp2
          go_ret2
          exact ⟨by rw [HN.out]; rfl, hB⟩
        · have hc1 : (86 : Int) < (s[k].toNat : Int) := by omega
          have hc2 : (s[k].toNat : Int) < 97 := by omega
          go_wp2
          go_ret2
          exact ⟨by rw [HN.out]; rfl, hB⟩
        · have hc1 : (118 : Int) < (s[k].toNat : Int) := by omega
          go_wp2
          go_ret2
          exact ⟨by rw [HN.out]; rfl, hB⟩
    · have hkk : s.data.toList.drop k = [] := drop_end s k (by omega)
      have HN := HW.out
      rw [hkk] at HN
      have HE := Lib.hid (back_end HN (by omega))
      clear HN hkk
      by_cases hb5 : 5 ≤ b
      · have HRR : Hid (R = none) := Lib.hid (by rw [HE.out, if_neg (by omega)])
        have hb5i : (5 : Int) ≤ (b : Int) := by omega
        have hd : decide (5 ≤ b) = true := by simp; omega
        go_wp2
        go_ret2
        exact ⟨by rw [HRR.out]; rfl, hB⟩
      · have hb5i : (b : Int) < 5 := by omega
        have hd : decide (5 ≤ b) = false := by simp; omega
        obtain ⟨z, hz⟩ : ∃ z : Nat, h % 2 ^ b = z := ⟨_, rfl⟩
        have hv : Value.int .i64 (bits .and .i64 (h : Int) (wrap64 (wrap64 (2 ^ b) - 1))) = Value.int .i64 (z : Int) := by
          obtain ⟨Z, hZ⟩ : ∃ Z : Nat, 2 ^ b = Z := ⟨_, rfl⟩
          have hp : 1 ≤ Z := by rw [← hZ]; exact Nat.two_pow_pos b
          have hl : Z ≤ 16 := by rw [← hZ]; exact Nat.pow_le_pow_right (n := 2) (by omega) (show b ≤ 4 by omega)
          have e : (2 : Int) ^ b = (Z : Int) := by rw [← hZ]; simp
          have em := bits_mask .i64 31 (by decide) wraps31 b (by omega) (h : Int) (by omega) (by omega)
          rw [e] at em ⊢
          rw [IntWalk.wrap64_in (Z : Int) (by omega), IntWalk.wrap64_in ((Z : Int) - 1) (by omega), em, ← hz, hZ]
          simp
        have HE2 := HE.out
        rw [hz] at HE2
        have HE3 := Lib.hid HE2
        clear HE2 hz
        by_cases hz0 : z = 0
        · have HRR : Hid (R = some A) := Lib.hid (by rw [HE3.out, if_pos ⟨hz0, by omega⟩])
          subst hz0
          have hd0 : ((((0 : Nat) : Int)) != 0) = false := rfl
          go_wp2_with fail
          refine (Tryz.Builder_String_any _ _ A _ hA (by omega)).mono ?_
          rintro e v2 ⟨rfl, hE2⟩
          go_wp2
          go_ret2
          exact ⟨by rw [HRR.out]; rfl, hB.trans hE2⟩
        · have HRR : Hid (R = none) := Lib.hid (by rw [HE3.out, if_neg (by omega)])
          have hd0 : ((z : Int) != 0) = true := by rw [bne_iff_ne]; omega
          go_wp2
          go_ret2
          exact ⟨by rw [HRR.out]; rfl, hB⟩
end Go.Proofs.YtanoiiodnddkfaaGreat.from32
