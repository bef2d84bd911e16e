/- The reference's Use: walk (gen_user.py). -/
import Derived.Test.YtanoiiodnddkfaaGreatJ24
import Derived.Test.YtanoiiodnddkfaaGreatJ23
import Derived.Test.YtanoiiodnddkfaaGreatJ16
import Derived.Test.YtanoiiodnddkfaaGreatJ17
import Derived.Test.YtanoiiodnddkfaaGreatJ25
import Derived.Test.YtanoiiodnddkfaaGreatJ13
import Derived.Deep.RegionHeld3
namespace Go.Proofs.YtanoiiodnddkfaaGreat.useR
open Go.RowKit Go.Proofs.YtanoiiodnddkfaaGreat.kit Go.Proofs.YtanoiiodnddkfaaGreat.nspec Go.Proofs.YtanoiiodnddkfaaGreat.refA Go.Proofs.YtanoiiodnddkfaaGreat.refB Go.Proofs.YtanoiiodnddkfaaGreat.rsplit Go.Proofs.YtanoiiodnddkfaaGreat.fld Go.Proofs.YtanoiiodnddkfaaGreat.timed Go.Proofs.YtanoiiodnddkfaaGreat.wireP Go.Proofs.YtanoiiodnddkfaaGreat.gapP Go.Proofs.YtanoiiodnddkfaaGreat.bits Go.Proofs.YtanoiiodnddkfaaGreat.ints Go.Proofs.YtanoiiodnddkfaaGreat.gapA Go.Proofs.YtanoiiodnddkfaaGreat.gapB Go.Proofs.YtanoiiodnddkfaaGreat.gapC Go.Proofs.YtanoiiodnddkfaaGreat.gapN Go.Proofs.YtanoiiodnddkfaaGreat.gapR Go.Proofs.YtanoiiodnddkfaaGreat.useP Go.Proofs.YtanoiiodnddkfaaGreat.useM Go.Proofs.YtanoiiodnddkfaaGreat.judgeP Go.Proofs.YtanoiiodnddkfaaGreat.first Go.Proofs.YtanoiiodnddkfaaGreat.textsT Go.Proofs.YtanoiiodnddkfaaGreat.typesW Go.Proofs.YtanoiiodnddkfaaGreat.readN Go.Proofs.YtanoiiodnddkfaaGreat.gapM
set_option linter.unusedVariables false

/-- what Use answers -/
def UseE (ap : Bs) (x : Rc) (w : World) (e : Ending) (w' : World) : Prop :=
  (∃ (r : Gr) (b : Bool), e = .returned (.tuple #[.agg (gapC r.g r.v), .bool b]) ∧ (b = true → useG ap x = some r.g ∧ TyO w' w.heap.size r) ∧ (b = false → useG ap x = none)) ∧ Below w.heap.size w w'
/-- the three boxes -/
structure Bx (X Z G : Nat) (x : Rc) (r : Gr) (w0 w : World) : Prop where
  x : w.heap[X]? = some (.cells #[.string x.o, .int .i64 x.t, .int .i64 x.c, .int .i64 x.l, .string x.d] 32 (0, 0))
  z : AtG w Z zGr
  g : AtG w G r
  b : Below w0.heap.size w0 w
section
variable {X Z G : Nat} {x : Rc} {r : Gr} {w0 w w1 : World}
theorem Bx.below (h : Bx X Z G x r w0 w) (hB : Below w.heap.size w w1) : Bx X Z G x r w0 w1 :=
  ⟨(hB.block X (blk_lt h.x)).trans h.x, h.z.below hB, h.g.below hB, h.b.trans (hB.mono h.b.size)⟩
theorem Bx.set (h : Bx X Z G x r w0 w) (hX : X < Z) (hZ : Z < G) (hw : w0.heap.size ≤ X) (i : Nat) (v : Value) (r' : Gr) (hr : gapC r'.g r'.v = (gapC r.g r.v).setIfInBounds i v) : Bx X Z G x r' w0 (w.setCell ⟨G, i, none⟩ v) := by
  refine ⟨(Below.heap_setCell w ⟨G, i, none⟩ v X (by simp only; omega)).trans h.x, (Below.heap_setCell w ⟨G, i, none⟩ v Z (by simp only; omega)).trans h.z, ?_, below_one h.b (by omega)⟩
  unfold AtG
  rw [hr]
  exact set_same h.g
end
/-- the boxes where the result's may be laid already, and the types' list -/
structure Sx (X Z G : Nat) (x : Rc) (r : Gr) (w0 w : World) : Prop where
  x : w.heap[X]? = some (.cells #[.string x.o, .int .i64 x.t, .int .i64 x.c, .int .i64 x.l, .string x.d] 32 (0, 0))
  z : ∃ y, AtG w Z y
  g : AtG w G r
  own : w.ownsRow w0.heap.size 3 1 r.v r.n (r.g.ty.map bitV)
  b : Below w0.heap.size w0 w
theorem row_far {w : World} {b : Nat} {v : Value} {n : Nat} {xs : List Value} {Z : Nat} {y : Gr} (h : w.ownsRow b 3 1 v n xs) (hz : AtG w Z y) : ∀ k, v.ownBlock = some k → k ≠ Z := by
  rintro k hk rfl
  rcases h.2 with ⟨e, _⟩ | ⟨g, cap, cur, e, _, hg, _⟩
  · rw [e] at hk; simp [Value.ownBlock] at hk
  · rw [e] at hk
    simp only [Value.ownBlock, Option.some.injEq] at hk
    subst hk
    unfold AtG at hz
    rw [hz] at hg
    simp only [Option.some.injEq, Obj.cells.injEq] at hg
    exact absurd hg.2.1 (by decide)
section
variable {X Z G : Nat} {x : Rc} {r : Gr} {w0 w w1 : World}
theorem Sx.below (h : Sx X Z G x r w0 w) (hB : Below w.heap.size w w1) : Sx X Z G x r w0 w1 :=
  ⟨(hB.block X (blk_lt h.x)).trans h.x, by obtain ⟨y, hy⟩ := h.z; exact ⟨y, hy.below hB⟩, h.g.below hB, own_keptB h.own (fun k hk => hB.block k (h.own.lt k hk).2), h.b.trans (hB.mono h.b.size)⟩
theorem Sx.row (h : Sx X Z G x r w0 w) {y : Gr} (hz : AtG w Z y) (hX : X < Z) (hZ : Z < G) (hw : w0.heap.size ≤ X) (r2 : Gr) : Sx X Z G x r w0 (w.setRow Z (gapC r2.g r2.v)) :=
  ⟨(setRow_other _ _ _ _ (by omega)).trans h.x, ⟨r2, setRow_heap _ _ _ _ _ _ hz⟩, (setRow_other _ _ _ _ (by omega)).trans h.g, own_keptB h.own (fun k hk => setRow_other _ _ _ _ (row_far h.own hz k hk)), below_setRow h.b (by omega) _⟩
theorem Sx.of {r0 : Gr} {i : Nat} {v : Value} (h0 : Bx X Z G x r0 w0 w) (ho : w.ownsRow w0.heap.size 3 1 r.v r.n (r.g.ty.map bitV)) (h : Bx X Z G x r w0 (w.setCell ⟨G, i, none⟩ v)) (hX : X < Z) (hZ : Z < G) (hw : w0.heap.size ≤ X) : Sx X Z G x r w0 (w.setCell ⟨G, i, none⟩ v) :=
  ⟨h.x, ⟨_, h.z⟩, h.g, own_keptB ho (fun k hk => Below.heap_setCell w ⟨G, i, none⟩ v k (row_far ho h0.g k hk)), h.b⟩
end
/-- the boxes and the six parts -/
structure Px (X Z G gp : Nat) (x : Rc) (r : Gr) (P0 P1 P2 P3 P4 P5 : ByteArray) (w0 w : World) : Prop where
  bx : Bx X Z G x r w0 w
  c0 : w.cell? ⟨gp, 0, none⟩ = some (.string P0)
  c1 : w.cell? ⟨gp, 1, none⟩ = some (.string P1)
  c2 : w.cell? ⟨gp, 2, none⟩ = some (.string P2)
  c3 : w.cell? ⟨gp, 3, none⟩ = some (.string P3)
  c4 : w.cell? ⟨gp, 4, none⟩ = some (.string P4)
  c5 : w.cell? ⟨gp, 5, none⟩ = some (.string P5)
theorem ckb {w w' : World} {a : Addr} {v : Value} (hB : Below w.heap.size w w') (h : w.cell? a = some v) : w'.cell? a = some v := (hB.cell (p := a) (World.block_lt_of_cell? w _ h)).trans h
section
variable {X Z G gp : Nat} {x : Rc} {r : Gr} {P0 P1 P2 P3 P4 P5 : ByteArray} {w0 w w1 : World}
theorem Px.below (h : Px X Z G gp x r P0 P1 P2 P3 P4 P5 w0 w) (hB : Below w.heap.size w w1) : Px X Z G gp x r P0 P1 P2 P3 P4 P5 w0 w1 :=
  ⟨h.bx.below hB, ckb hB h.c0, ckb hB h.c1, ckb hB h.c2, ckb hB h.c3, ckb hB h.c4, ckb hB h.c5⟩
theorem Px.set (h : Px X Z G gp x r P0 P1 P2 P3 P4 P5 w0 w) (hX : X < Z) (hZ : Z < G) (hw : w0.heap.size ≤ X) (hg : gp ≠ G) (i : Nat) (v : Value) (r' : Gr) (hr : gapC r'.g r'.v = (gapC r.g r.v).setIfInBounds i v) : Px X Z G gp x r' P0 P1 P2 P3 P4 P5 w0 (w.setCell ⟨G, i, none⟩ v) := by
  have far : ∀ j, (w.setCell ⟨G, i, none⟩ v).cell? ⟨gp, j, none⟩ = w.cell? ⟨gp, j, none⟩ := fun j => World.cell?_setCell_other _ _ _ _ (by intro h; injection h with h1 h2; exact hg h1.symm)
  exact ⟨h.bx.set hX hZ hw i v r' hr, (far 0).trans h.c0, (far 1).trans h.c1, (far 2).trans h.c2, (far 3).trans h.c3, (far 4).trans h.c4, (far 5).trans h.c5⟩
end
theorem zon_split {ap : Bs} {x : Rc} (h : zon4.zonB x = false ∨ withinS x.o.data.toList ap = false) : rgtB ap x = false := by
  unfold rgtB
  rcases h with h | h
  · unfold zon4.zonB at h
    rw [Bool.and_eq_false_iff] at h
    rcases h with h | h
    · cases hw : withinS x.o.data.toList ap with
      | false => rfl
      | true =>
        obtain ⟨ls, hl⟩ := within_name hw
        rw [isB_yes hl] at h; cases h
    · rw [h, Bool.and_false]
  · rw [h]; rfl
theorem zon_join {ap : Bs} {x : Rc} (h : zon4.zonB x = true) (h2 : withinS x.o.data.toList ap = true) : rgtB ap x = true := by
  unfold rgtB
  unfold zon4.zonB at h
  rw [Bool.and_eq_true] at h
  rw [h2, h.2]; rfl
theorem useG_bad {ap : Bs} {x : Rc} (h : rgtB ap x = false) : useG ap x = none := by
  unfold useG
  split
  · exact useN_bad h
  · exact useH_bad h
theorem useG_kind {ap : Bs} {x : Rc} (h1 : x.t ≠ 47) (h2 : x.t ≠ 50) : useG ap x = none := by
  unfold useG
  rw [if_neg h1]
  exact useH_no h2
/-- the parts of an NSEC -/
def PartsE (n : Nat) (ps : List Bs) (e : Ending) (w w' : World) : Prop := ∃ g c, e = .returned (.tuple #[.slice (some ⟨g, 0, none⟩) n c, .bool true]) ∧ (∀ (j : Nat) (x : Bs), ps[j]? = some x → w'.cell? ⟨g, j, none⟩ = some (strV x)) ∧ w.heap.size ≤ g ∧ Below w.heap.size w w'
theorem parts_of {fs : List Fld} {F : Bs} {ps : List Bs} {n : Nat} {d : ByteArray} (hF : F = rform.lettersB fs) (hf : parts.Fair4 fs) (hd : d.size ≤ 65535) (hn : fs.length = n) (hp : ps.length = n) (h0 : 0 < n) (hs : splitS fs d.data.toList = some (ps, [])) (w : World) :
    Calls Tryz.prog 81 #[.string ⟨F.toArray⟩, .string d] w fun e w' => PartsE n ps e w w' := by
  refine (parts.parts_any fs ⟨F.toArray⟩ d w (by rw [← hF]) hf hd n hn).mono ?_
  rintro e w' ⟨hB, ⟨v, p, r, hsp, rfl, hown⟩ | ⟨hsp, _⟩⟩
  · rw [hs] at hsp
    simp only [Option.some.injEq, Prod.mk.injEq] at hsp
    obtain ⟨rfl, rfl⟩ := hsp
    rcases hown.2 with ⟨_, h1⟩ | ⟨g, cap, cur, rfl, hb, hg, h1, h2, _, _⟩
    · omega
    · rw [hp]
      refine ⟨g, cap, rfl, fun j x hx => ?_, hb, hB⟩
      have := hown.cells (g := g) rfl j (strV x) (by rw [List.getElem?_map, hx]; rfl)
      rw [rows.addr_at, Nat.zero_add] at this
      exact this
  · rw [hs] at hsp; cases hsp
theorem parts_split {t : Int} {d : Bs} {fs : List Fld} {p : List Bs} (hc : checkS t d = 0) (hf : formS t = some fs) (hp : partsS t d = some p) : splitS fs d = some (p, []) := by
  obtain ⟨q, h1, h2, _⟩ := check_parts hc hf
  rw [hp] at h2
  cases h2
  exact h1
theorem k3 {W w w' : World} {a b : Addr} {u v : Value} (h : w.cell? a = some u ∧ w.cell? b = some v ∧ Below W.heap.size W w) (hB : Below w.heap.size w w') : w'.cell? a = some u ∧ w'.cell? b = some v ∧ Below W.heap.size W w' :=
  ⟨(hB.cell (p := a) (World.block_lt_of_cell? w _ h.1)).trans h.1, (hB.cell (p := b) (World.block_lt_of_cell? w _ h.2.1)).trans h.2.1, h.2.2.trans (hB.mono h.2.2.size)⟩
def g0 (x : Rc) : Gr := ⟨⟨x, false, ⟨#[]⟩, ⟨#[]⟩, ⟨#[]⟩, 0, []⟩, none, 0, 0⟩
attribute [local irreducible] wpList
set_option maxRecDepth 100000 in
set_option maxHeartbeats 4800000 in
theorem use_any (ap : ByteArray) (x : Rc) (w : World) (hap : ap.size ≤ 1048576) (ho : x.o.size ≤ 1048576) (hd : x.d.size ≤ maxLen) :
    Calls Tryz.prog 52 #[.string ap, .agg #[.string x.o, .int .i64 x.t, .int .i64 x.c, .int .i64 x.l, .string x.d]] w (UseE ap.data.toList x w) := by
  have hB1 := (Below.refl w.heap.size w).alloc (Nat.le_refl _) (.cells #[.string x.o, .int .i64 x.t, .int .i64 x.c, .int .i64 x.l, .string x.d] 32 (0, 0))
  have hx1 := heap_alloc_new w (.cells #[.string x.o, .int .i64 x.t, .int .i64 x.c, .int .i64 x.l, .string x.d] 32 (0, 0))
  obtain ⟨X, hX⟩ : ∃ X, w.heap.size = X := ⟨_, rfl⟩
  obtain ⟨w1, hw1⟩ : ∃ W, w.alloc (.cells #[.string x.o, .int .i64 x.t, .int .i64 x.c, .int .i64 x.l, .string x.d] 32 (0, 0)) = W := ⟨_, rfl⟩
  have hs1 : w1.heap.size = X + 1 := by rw [← hw1, World.size_alloc, hX]
  rw [hw1] at hB1 hx1
  rw [hX] at hx1
  have hB2 := hB1.alloc (by omega) (.cells (gapC zGr.g zGr.v) 45)
  have hz2 : AtG (w1.alloc (.cells (gapC zGr.g zGr.v) 45)) w1.heap.size zGr := heap_alloc_new _ _
  have hx2 := (heap_alloc_old w1 (.cells (gapC zGr.g zGr.v) 45) (by rw [hs1]; omega)).trans hx1
  obtain ⟨Z, hZ⟩ : ∃ Z, w1.heap.size = Z := ⟨_, rfl⟩
  obtain ⟨w2, hw2⟩ : ∃ W, w1.alloc (.cells (gapC zGr.g zGr.v) 45) = W := ⟨_, rfl⟩
  have hs2 : w2.heap.size = Z + 1 := by rw [← hw2, World.size_alloc, hZ]
  rw [hw2] at hB2 hz2 hx2
  rw [hZ] at hz2
  have hB3 := hB2.alloc (by omega) (.cells (gapC (g0 x).g (g0 x).v) 45)
  have hg3 : AtG (w2.alloc (.cells (gapC (g0 x).g (g0 x).v) 45)) w2.heap.size (g0 x) := heap_alloc_new _ _
  have hx3 := (heap_alloc_old w2 (.cells (gapC (g0 x).g (g0 x).v) 45) (by rw [hs2]; omega)).trans hx2
  have hz3 : AtG (w2.alloc (.cells (gapC (g0 x).g (g0 x).v) 45)) Z zGr := (heap_alloc_old w2 (.cells (gapC (g0 x).g (g0 x).v) 45) (by rw [hs2]; omega)).trans hz2
  obtain ⟨G, hG⟩ : ∃ Z, w2.heap.size = Z := ⟨_, rfl⟩
  obtain ⟨W, hW⟩ : ∃ W, w2.alloc (.cells (gapC (g0 x).g (g0 x).v) 45) = W := ⟨_, rfl⟩
  rw [hW] at hB3 hg3 hx3 hz3
  rw [hG] at hg3
  have hXZ : X < Z := by omega
  have hZG : Z < G := by omega
  have hwX : w.heap.size ≤ X := by omega
  have HZ1 : Hid (X + 1 = Z) := Lib.hid (by omega)
  have HG1 : Hid (w2.heap.size = G) := Lib.hid hG
  have HW1 := Lib.hid hw1; have HX := Lib.hid hX; have HZ := Lib.hid hZ
  have HW2 : Hid (w1.alloc (.cells #[.string ⟨#[]⟩, .int .i64 0, .int .i64 0, .int .i64 0, .string ⟨#[]⟩, .bool false, .string ⟨#[]⟩, .string ⟨#[]⟩, .string ⟨#[]⟩, .int .i64 0, .slice none 0 0] 45) = w2) := Lib.hid hw2
  have HW3 : Hid (w2.alloc (.cells #[.string x.o, .int .i64 x.t, .int .i64 x.c, .int .i64 x.l, .string x.d, .bool false, .string ⟨#[]⟩, .string ⟨#[]⟩, .string ⟨#[]⟩, .int .i64 0, .slice none 0 0] 45) = W) := Lib.hid hW
  have HBX : Hid (Bx X Z G x (g0 x) w W) := Lib.hid ⟨hx3, hz3, hg3, hB3⟩
  obtain ⟨x0, x1, x2, x3, x4⟩ := cells5 hx2
  have CZ := Lib.hid (fun wx => zon4.zonal_any x wx (by omega) hd)
  have CW := Lib.hid (fun wx => refB.within_any x.o ap wx (by omega) (by omega))
  obtain ⟨zo, hzo⟩ : ∃ b, zon4.zonB x = b := ⟨_, rfl⟩
  obtain ⟨wi, hwi⟩ : ∃ b, withinS x.o.data.toList ap.data.toList = b := ⟨_, rfl⟩
  rw [hzo] at CZ
  rw [hwi] at CW
  have hxW := hx3
  clear hX hw1 hs1 hB1 hx1 hB2 hz2 hZ hw2 hs2 hB3 hg3 hz3 hG hW hx3
  cases zo with
  | false =>
    go_enter Tryz.func52, Tryz.ntmps52
    obtain ⟨BP, hBP⟩ : ∃ BP, bodyPost Tryz.prog Tryz.f52 (UseE ap.data.toList x w) = BP := ⟨_, rfl⟩
    rw [hBP]
    have HBP := Lib.hid hBP
    have HPP : Hid (∀ (c : _) (a : Act) (d : Option Tmp) (v : Value) (w : World), BP (.panic c) (a.put d v) w → BP (.panic c) a w) := Lib.hid (by rw [← hBP]; intro c a d v w h; cases d <;> exact h)
    clear hBP
    go_upto_region 1 with fail
    try rw [HW1.out]
    try rw [HX.out]
    try rw [HW2.out]
    try rw [HZ1.out]
    go_upto_region 2 with fail
    try rw [HW3.out]
    try rw [HG1.out]
    clear x0 x1 x2 x3 x4
    go_wp2_with (refine wpList_load_row rfl 32 _ rfl X rfl 32 _ _ _ hxW Tryz.underlying32 rfl (by rw [infoR]; rfl) ?_)
    refine (CZ.out _).mono ?_
    rintro e w4 ⟨rfl, hB4⟩
    have HB4 := Lib.hid (HBX.out.below hB4)
    clear hB4 hxW
    have hst := storeG (x := g0 x) HB4.out.z
    have hg := HB4.out.g
    go_upto_region 3 with fail
    go_wp2_with (refine wpList_load_row rfl 45 _ rfl G rfl 45 _ _ _ hg Tryz.underlying45 rfl (by rw [infoG]; rfl) ?_)
    rw [← HBP.out]
    exact finG _ rfl rfl (setRow_heap _ _ _ _ _ _ HB4.out.z) ⟨⟨g0 x, false, rfl, fun h => (by cases h), fun _ => useG_bad (zon_split (.inl hzo))⟩, below_setRow HB4.out.b (by have := HX.out; omega) _⟩
  | true =>
  go_enter Tryz.func52, Tryz.ntmps52
  obtain ⟨BP, hBP⟩ : ∃ BP, bodyPost Tryz.prog Tryz.f52 (UseE ap.data.toList x w) = BP := ⟨_, rfl⟩
  rw [hBP]
  have HBP := Lib.hid hBP
  have HPP : Hid (∀ (c : _) (a : Act) (d : Option Tmp) (v : Value) (w : World), BP (.panic c) (a.put d v) w → BP (.panic c) a w) := Lib.hid (by rw [← hBP]; intro c a d v w h; cases d <;> exact h)
  clear hBP
  go_upto_region 1 with fail
  try rw [HW1.out]
  try rw [HX.out]
  try rw [HW2.out]
  try rw [HZ1.out]
  go_upto_region 2 with fail
  try rw [HW3.out]
  try rw [HG1.out]
  clear x0 x1 x2 x3 x4
  go_wp2_with (refine wpList_load_row rfl 32 _ rfl X rfl 32 _ _ _ hxW Tryz.underlying32 rfl (by rw [infoR]; rfl) ?_)
  refine (CZ.out _).mono ?_
  rintro e w4 ⟨rfl, hB4⟩
  have HB4 := Lib.hid (HBX.out.below hB4)
  clear hB4 hxW
  obtain ⟨x0, x1, x2, x3, x4⟩ := cells5 HB4.out.x
  go_wp2_with fail
  refine (CW.out _).mono ?_
  rintro e w5 ⟨rfl, hB5⟩
  have HB5 := Lib.hid (HB4.out.below hB5)
  clear hB5 x0 x1 x2 x3 x4 HB4
  obtain ⟨x0, x1, x2, x3, x4⟩ := cells5 HB5.out.x
  cases wi with
  | false =>
    have hst := storeG (x := g0 x) HB5.out.z
    have hg := HB5.out.g
    go_upto_region 3 with fail
    go_wp2_with (refine wpList_load_row rfl 45 _ rfl G rfl 45 _ _ _ hg Tryz.underlying45 rfl (by rw [infoG]; rfl) ?_)
    rw [← HBP.out]
    exact finG _ rfl rfl (setRow_heap _ _ _ _ _ _ HB5.out.z) ⟨⟨g0 x, false, rfl, fun h => (by cases h), fun _ => useG_bad (zon_split (.inr hwi))⟩, below_setRow HB5.out.b (by have := HX.out; omega) _⟩
  | true =>
  have HRG := Lib.hid (zon_join hzo hwi)
  clear hzo hwi
  by_cases h47 : ¬ x.t = 47
  · have e47 : (x.t != 47) = true := bne_iff_ne.2 h47
    have f47 : (x.t == 47) = false := beq_eq_false_iff_ne.2 h47
    have H47 := Lib.hid h47
    clear h47
    by_cases h50 : ¬ x.t = 50
    · have e50 : (x.t != 50) = true := bne_iff_ne.2 h50
      have H50 := Lib.hid h50
      clear h50
      have hst := storeG (x := g0 x) HB5.out.z
      have hg := HB5.out.g
      go_upto_region 3 with fail
      go_wp2_with (refine wpList_load_row rfl 45 _ rfl G rfl 45 _ _ _ hg Tryz.underlying45 rfl (by rw [infoG]; rfl) ?_)
      rw [← HBP.out]
      exact finG _ rfl rfl (setRow_heap _ _ _ _ _ _ HB5.out.z) ⟨⟨g0 x, false, rfl, fun h => (by cases h), fun _ => useG_kind H47.out H50.out⟩, below_setRow HB5.out.b (by have := HX.out; omega) _⟩
    have ht : x.t = 50 := Classical.not_not.1 h50
    have e50 : (x.t != 50) = false := by simpa using ht
    have HXT := Lib.hid ht
    have hck := (rgt_owner HRG.out).2
    rw [ht] at hck
    obtain ⟨a, b, c0, c1, sc, nc, s, n, k, l, hp⟩ := hs_parts hck
    have HUA := Lib.hid (useH_at HRG.out ht hp)
    have HUG : Hid (useG ap.data.toList x = useH ap.data.toList x) := Lib.hid (by unfold useG; rw [if_neg H47.out])
    have hds : x.d.size ≤ 65535 := by rw [← size_len]; exact hp.small
    have hlen : x.d.size = 6 + s.length + n.length + k.length := by rw [← size_len, hp.all]; simp; omega
    have CF := Lib.hid (fun wx => rform.rform_50 wx)
    have CP := Lib.hid (fun wx => parts_of (F := [49, 49, 50, 115, 72, 75]) (fs := [.num 1, .num 1, .num 2, .salt, .hash, .kinds]) (ps := [[a], [b], [c0, c1], sc :: s, nc :: n, k]) (n := 6) (d := x.d) rfl (checkData.form_fair4 (t := 50) rfl) hds rfl rfl (by omega) (parts_split hck rfl hp.parts) wx)
    obtain ⟨FB, hFB⟩ : ∃ B : ByteArray, (⟨([49, 49, 50, 115, 72, 75] : Bs).toArray⟩ : ByteArray) = B := ⟨_, rfl⟩
    unfold rform.FormIs at CF
    rw [hFB] at CF CP
    obtain ⟨P0, hP0⟩ : ∃ A : ByteArray, (⟨([a] : Bs).toArray⟩ : ByteArray) = A := ⟨_, rfl⟩
    obtain ⟨P1, hP1⟩ : ∃ A : ByteArray, (⟨([b] : Bs).toArray⟩ : ByteArray) = A := ⟨_, rfl⟩
    obtain ⟨P2, hP2⟩ : ∃ A : ByteArray, (⟨([c0, c1] : Bs).toArray⟩ : ByteArray) = A := ⟨_, rfl⟩
    obtain ⟨P3, hP3⟩ : ∃ A : ByteArray, (⟨(sc :: s : Bs).toArray⟩ : ByteArray) = A := ⟨_, rfl⟩
    obtain ⟨P4, hP4⟩ : ∃ A : ByteArray, (⟨(nc :: n : Bs).toArray⟩ : ByteArray) = A := ⟨_, rfl⟩
    obtain ⟨P5, hP5⟩ : ∃ A : ByteArray, (⟨(k : Bs).toArray⟩ : ByteArray) = A := ⟨_, rfl⟩
    have HP0 := Lib.hid hP0; have HP1 := Lib.hid hP1; have HP2 := Lib.hid hP2; have HP3 := Lib.hid hP3; have HP4 := Lib.hid hP4; have HP5 := Lib.hid hP5
    have d3 : P3.data.toList = sc :: s := by rw [← hP3]
    have d4 : P4.data.toList = nc :: n := by rw [← hP4]
    have d5 : P5.data.toList = k := by rw [← hP5]
    have s3 : 1 ≤ P3.size := by rw [← size_len, d3]; simp
    have s4 : 1 ≤ P4.size := by rw [← size_len, d4]; simp
    have s5 : P5.size ≤ 65535 := by rw [← size_len, d5]; omega
    have hll : l.length ≤ 1048576 := by have h1 := types_len hp.ty; omega
    have z3 : (1 : Int) ≤ (P3.size : Int) := by omega
    have z4 : (1 : Int) ≤ (P4.size : Int) := by omega
    obtain ⟨SS, hSS⟩ : ∃ A : ByteArray, P3.extract 1 P3.size = A := ⟨_, rfl⟩
    obtain ⟨NN, hNN⟩ : ∃ A : ByteArray, P4.extract 1 P4.size = A := ⟨_, rfl⟩
    have hSd : SS.data.toList = s := by rw [← hSS, ext_end, d3]; rfl
    have hNd : NN.data.toList = n := by rw [← hNN, ext_end, d4]; rfl
    have hSz : SS.size ≤ 255 := by rw [← size_len, hSd, hp.salt]; have := byte_lt sc; omega
    have hNz : NN.size ≤ 255 := by rw [← size_len, hNd, hp.nx]; have := byte_lt nc; omega
    have CT := Lib.hid (fun wx => typesR.rtypes_any P5 wx (by omega))
    rw [d5] at CT
    have CV := Lib.hid (fun wx => val.rvalue_any P2 wx (by rw [← size_len, show P2.data.toList = [c0, c1] by rw [← hP2]]; simp))
    rw [show P2.data.toList = [c0, c1] by rw [← hP2]] at CV
    obtain ⟨R, hR⟩ : ∃ R, val.valL [c0, c1] 0 = R := ⟨_, rfl⟩
    rw [hR] at CV HUA
    have CS := Lib.hid (fun wx => rsplit.split_any x.o wx (by omega))
    obtain ⟨PA, hPA⟩ : ∃ B : ByteArray, (⟨(parentS x.o.data.toList).toArray⟩ : ByteArray) = B := ⟨_, rfl⟩
    have CPA := Lib.hid (fun wx => refA.parent_any x.o wx (by omega))
    rw [hPA] at CPA
    have hPAs : PA.size ≤ 255 := by
      rw [← hPA]
      show (parentS x.o.data.toList).toArray.size ≤ 255
      rw [List.size_toArray]
      exact readH.parent_len _
    have CE := Lib.hid (fun wx => refA.equal_any PA ap wx (by omega) (by omega))
    rw [show PA.data.toList = parentS x.o.data.toList by rw [← hPA]] at CE
    obtain ⟨eq, heq⟩ : ∃ eq, equalS (parentS x.o.data.toList) ap.data.toList = eq := ⟨_, rfl⟩
    rw [heq] at CE HUA
    have HEQ := Lib.hid heq
    obtain ⟨nl, hnl⟩ : ∃ nl, l.length = nl := ⟨_, rfl⟩
    have HNL := Lib.hid hnl; have HTY := Lib.hid hp.ty; have HSS := Lib.hid hSS; have HNN := Lib.hid hNN; have HSD := Lib.hid hSd; have HND := Lib.hid hNd
    have hq0 : P0.toList = [a] := by rw [Lib.toList_data, ← hP0]
    have hq1 : P1.toList = [b] := by rw [Lib.toList_data, ← hP1]
    have HQ0 := Lib.hid hq0; have HQ1 := Lib.hid hq1
    have hnn : n.length = NN.size := by rw [← size_len, hNd]
    have HNZ := Lib.hid hnn
    clear hp hck hFB hP0 hP1 hP2 hP3 hP4 hP5 d3 d4 d5 s3 s4 s5 hSS hNN hSd hNd hPA heq hnl ht h50 hlen hds hR hq0 hq1 hnn
    trace "4"
    go_upto_region 4 with fail
    refine heldG.regionG (fun w' => Bx X Z G x (g0 x) w w') (fun _ => false) (by kernel_rfl) ?_
    have hS0 : Bx X Z G x (g0 x) w w5.drew := HB5.out.below ((Below.refl _ _).drew)
    clear x0 x1 x2 x3 x4
    refine takeD (i := 0) (d := 37) (v := .pointer (some ⟨X, 1, none⟩)) rfl rfl (by kernel_rfl) (by kernel_rfl) (by kernel_rfl) (fun c a w h => HPP.out c a _ _ w h) (by kernel_rfl) rfl (Or.inl ⟨by kernel_rfl, ?_⟩) hS0 ?_
    · intro wz hSw
      obtain ⟨s0, s1, s2, s3, s4⟩ := cells5 hSw.x
      rw [HXT.out] at s1
      go_simp
    try simp only [Act.put, List.setIfInBounds_toArray, List.set_cons_zero, List.set_cons_succ]
    refine takeD (i := 1) (d := 38) (v := .int .i64 50) rfl rfl (by kernel_rfl) (by kernel_rfl) (by kernel_rfl) (fun c a w h => HPP.out c a _ _ w h) (by kernel_rfl) rfl (Or.inl ⟨by kernel_rfl, ?_⟩) hS0 ?_
    · intro wz hSw
      obtain ⟨s0, s1, s2, s3, s4⟩ := cells5 hSw.x
      rw [HXT.out] at s1
      go_simp
    try simp only [Act.put, List.setIfInBounds_toArray, List.set_cons_zero, List.set_cons_succ]
    refine takeD (i := 3) (d := 40) (v := .pointer (some ⟨X, 4, none⟩)) rfl rfl (by kernel_rfl) (by kernel_rfl) (by kernel_rfl) (fun c a w h => HPP.out c a _ _ w h) (by kernel_rfl) rfl (Or.inl ⟨by kernel_rfl, ?_⟩) hS0 ?_
    · intro wz hSw
      obtain ⟨s0, s1, s2, s3, s4⟩ := cells5 hSw.x
      rw [HXT.out] at s1
      go_simp
    try simp only [Act.put, List.setIfInBounds_toArray, List.set_cons_zero, List.set_cons_succ]
    refine takeD (i := 4) (d := 41) (v := .string x.d) rfl rfl (by kernel_rfl) (by kernel_rfl) (by kernel_rfl) (fun c a w h => HPP.out c a _ _ w h) (by kernel_rfl) rfl (Or.inl ⟨by kernel_rfl, ?_⟩) hS0 ?_
    · intro wz hSw
      obtain ⟨s0, s1, s2, s3, s4⟩ := cells5 hSw.x
      rw [HXT.out] at s1
      go_simp
    try simp only [Act.put, List.setIfInBounds_toArray, List.set_cons_zero, List.set_cons_succ]
    refine heldG.readyG (rs := [2]) (by kernel_rfl) (by simp) ?_
    refine heldG.AllG.cons rfl (fun KK hKK => ?_) heldG.AllG.nil
    go_simp
    refine (CF.out _).mono ?_
    rintro en wq ⟨rfl, rfl⟩
    dsimp only
    refine hKK.out _ _ (fun _ => hS0) ?_; clear hKK KK
    try simp only [Act.put, List.setIfInBounds_toArray, List.set_cons_zero, List.set_cons_succ]
    refine heldG.readyG (rs := [5]) (by kernel_rfl) (by simp) ?_
    refine heldG.AllG.cons rfl (fun KK hKK => ?_) heldG.AllG.nil
    go_simp
    refine (CP.out _).mono ?_
    rintro en w6 ⟨gp, cp, rfl, hcp, hgb, hBz⟩
    have hgG : gp ≠ G := by have := blk_lt hS0.g; omega
    have hS1 := hS0.below hBz
    dsimp only
    refine hKK.out _ _ (fun _ => hS1) ?_; clear hKK KK hBz hS0 hgb
    try simp only [Act.put, List.setIfInBounds_toArray, List.set_cons_zero, List.set_cons_succ]
    refine takeD (i := 6) (d := 36) (v := .tuple #[.slice (some ⟨gp, 0, none⟩) 6 cp, .bool true]) rfl rfl (by kernel_rfl) (by kernel_rfl) (by kernel_rfl) (fun c a w h => HPP.out c a _ _ w h) (by kernel_rfl) rfl (Or.inl ⟨by kernel_rfl, ?_⟩) hS1 ?_
    · intro wz hSw
      obtain ⟨s0, s1, s2, s3, s4⟩ := cells5 hSw.x
      rw [HXT.out] at s1
      go_simp
    try simp only [Act.put, List.setIfInBounds_toArray, List.set_cons_zero, List.set_cons_succ]
    refine takeD (i := 7) (d := 43) (v := .slice (some ⟨gp, 0, none⟩) 6 cp) rfl rfl (by kernel_rfl) (by kernel_rfl) (by kernel_rfl) (fun c a w h => HPP.out c a _ _ w h) (by kernel_rfl) rfl (Or.inl ⟨by kernel_rfl, ?_⟩) hS1 ?_
    · intro wz hSw
      obtain ⟨s0, s1, s2, s3, s4⟩ := cells5 hSw.x
      rw [HXT.out] at s1
      go_simp
    try simp only [Act.put, List.setIfInBounds_toArray, List.set_cons_zero, List.set_cons_succ]
    refine takeD (i := 8) (d := 44) (v := .bool true) rfl rfl (by kernel_rfl) (by kernel_rfl) (by kernel_rfl) (fun c a w h => HPP.out c a _ _ w h) (by kernel_rfl) rfl (Or.inl ⟨by kernel_rfl, ?_⟩) hS1 ?_
    · intro wz hSw
      obtain ⟨s0, s1, s2, s3, s4⟩ := cells5 hSw.x
      rw [HXT.out] at s1
      go_simp
    try simp only [Act.put, List.setIfInBounds_toArray, List.set_cons_zero, List.set_cons_succ]
    refine takeD (i := 9) (d := 7) (v := .slice (some ⟨gp, 0, none⟩) 6 cp) rfl rfl (by kernel_rfl) (by kernel_rfl) (by kernel_rfl) (fun c a w h => HPP.out c a _ _ w h) (by kernel_rfl) rfl (Or.inl ⟨by kernel_rfl, ?_⟩) hS1 ?_
    · intro wz hSw
      obtain ⟨s0, s1, s2, s3, s4⟩ := cells5 hSw.x
      rw [HXT.out] at s1
      go_simp
    try simp only [Act.put, List.setIfInBounds_toArray, List.set_cons_zero, List.set_cons_succ]
    refine takeD (i := 10) (d := 8) (v := .bool true) rfl rfl (by kernel_rfl) (by kernel_rfl) (by kernel_rfl) (fun c a w h => HPP.out c a _ _ w h) (by kernel_rfl) rfl (Or.inl ⟨by kernel_rfl, ?_⟩) hS1 ?_
    · intro wz hSw
      obtain ⟨s0, s1, s2, s3, s4⟩ := cells5 hSw.x
      rw [HXT.out] at s1
      go_simp
    try simp only [Act.put, List.setIfInBounds_toArray, List.set_cons_zero, List.set_cons_succ]
    refine heldG.doneG (by kernel_rfl) ?_ _
    have HB6 := Lib.hid hS1
    clear hS1
    have hc0 : w6.cell? ⟨gp, 0, none⟩ = some (.string P0) := by rw [hcp 0 _ rfl, ← HP0.out]; rfl
    have hc1 : w6.cell? ⟨gp, 1, none⟩ = some (.string P1) := by rw [hcp 1 _ rfl, ← HP1.out]; rfl
    have hc2 : w6.cell? ⟨gp, 2, none⟩ = some (.string P2) := by rw [hcp 2 _ rfl, ← HP2.out]; rfl
    have hc3 : w6.cell? ⟨gp, 3, none⟩ = some (.string P3) := by rw [hcp 3 _ rfl, ← HP3.out]; rfl
    have hc4 : w6.cell? ⟨gp, 4, none⟩ = some (.string P4) := by rw [hcp 4 _ rfl, ← HP4.out]; rfl
    have hc5 : w6.cell? ⟨gp, 5, none⟩ = some (.string P5) := by rw [hcp 5 _ rfl, ← HP5.out]; rfl
    clear hcp
    obtain ⟨x0, x1, x2, x3, x4⟩ := cells5 HB6.out.x
    rw [HXT.out] at x1
    have z60 : (0 : Int) < ((6 : Nat) : Int) := by omega
    have z61 : (1 : Int) < ((6 : Nat) : Int) := by omega
    have z62 : (2 : Int) < ((6 : Nat) : Int) := by omega
    have z63 : (3 : Int) < ((6 : Nat) : Int) := by omega
    have z64 : (4 : Int) < ((6 : Nat) : Int) := by omega
    have z65 : (5 : Int) < ((6 : Nat) : Int) := by omega
    obtain ⟨y0, y1, y2, y3, y4, y5, y6, y7, y8, y9, y10⟩ := cells11 (g := (g0 x).g) (a := (g0 x).a) (n := (g0 x).n) (c := (g0 x).c) HB6.out.g
    have f5 := fzG HB6.out.g 5
    trace "9"
    go_upto_region 10 with fail
    have hset := HB6.out.set hXZ hZG hwX 5 (.bool true) (⟨{ (g0 x).g with hashed := true }, none, 0, 0⟩) rfl
    obtain ⟨w7, hww7⟩ : ∃ z, w6.setCell ⟨G, 5, none⟩ (.bool true) = z := ⟨_, rfl⟩
    rw [hww7] at hset ⊢
    have HB7 := Lib.hid hset
    have hc0 : w7.cell? ⟨gp, 0, none⟩ = some (.string P0) := by
      rw [← hww7, World.cell?_setCell_other _ _ _ _ (by intro h; injection h with h1 h2; exact hgG h1.symm)]; exact hc0
    have hc1 : w7.cell? ⟨gp, 1, none⟩ = some (.string P1) := by
      rw [← hww7, World.cell?_setCell_other _ _ _ _ (by intro h; injection h with h1 h2; exact hgG h1.symm)]; exact hc1
    have hc2 : w7.cell? ⟨gp, 2, none⟩ = some (.string P2) := by
      rw [← hww7, World.cell?_setCell_other _ _ _ _ (by intro h; injection h with h1 h2; exact hgG h1.symm)]; exact hc2
    have hc3 : w7.cell? ⟨gp, 3, none⟩ = some (.string P3) := by
      rw [← hww7, World.cell?_setCell_other _ _ _ _ (by intro h; injection h with h1 h2; exact hgG h1.symm)]; exact hc3
    have hc4 : w7.cell? ⟨gp, 4, none⟩ = some (.string P4) := by
      rw [← hww7, World.cell?_setCell_other _ _ _ _ (by intro h; injection h with h1 h2; exact hgG h1.symm)]; exact hc4
    have hc5 : w7.cell? ⟨gp, 5, none⟩ = some (.string P5) := by
      rw [← hww7, World.cell?_setCell_other _ _ _ _ (by intro h; injection h with h1 h2; exact hgG h1.symm)]; exact hc5
    clear hset hww7 y0 y1 y2 y3 y4 y5 y6 y7 y8 y9 y10 f5 x0 x1 x2 x3 x4
    trace "10"
    refine heldG.regionG (fun w' => ∃ r0, Px X Z G gp x r0 P0 P1 P2 P3 P4 P5 w w') (fun _ => false) (by kernel_rfl) ?_
    obtain ⟨wd, hwd⟩ : ∃ z, w7.drew = z := ⟨_, rfl⟩
    have hBd : Below w7.heap.size w7 wd := by rw [← hwd]; exact (Below.refl _ _).drew
    rw [hwd]
    have hP0' : Px X Z G gp x ⟨{ (g0 x).g with hashed := true }, none, 0, 0⟩ P0 P1 P2 P3 P4 P5 w wd := Px.below ⟨HB7.out, hc0, hc1, hc2, hc3, hc4, hc5⟩ hBd
    have hS0 : ∃ r0, Px X Z G gp x r0 P0 P1 P2 P3 P4 P5 w wd := ⟨_, hP0'⟩
    clear hwd hBd hc0 hc1 hc2 hc3 hc4 hc5
    refine takeD (i := 0) (d := 66) (v := .slice (some ⟨gp, 0, none⟩) 6 cp) rfl rfl (by kernel_rfl) (by kernel_rfl) (by kernel_rfl) (fun c a w h => HPP.out c a _ _ w h) (by kernel_rfl) rfl (Or.inl ⟨by kernel_rfl, ?_⟩) hS0 ?_
    · intro wz hSw
      obtain ⟨r0, hP⟩ := hSw
      have s0 := hP.c0; have s1 := hP.c1; have s2 := hP.c2; have s3 := hP.c3; have s4 := hP.c4; have s5 := hP.c5
      go_simp
    try simp only [Act.put, List.setIfInBounds_toArray, List.set_cons_zero, List.set_cons_succ]
    refine takeD (i := 1) (d := 67) (v := .pointer (some ⟨gp, 2, none⟩)) rfl rfl (by kernel_rfl) (by kernel_rfl) (by kernel_rfl) (fun c a w h => HPP.out c a _ _ w h) (by kernel_rfl) rfl (Or.inl ⟨by kernel_rfl, ?_⟩) hS0 ?_
    · intro wz hSw
      obtain ⟨r0, hP⟩ := hSw
      have s0 := hP.c0; have s1 := hP.c1; have s2 := hP.c2; have s3 := hP.c3; have s4 := hP.c4; have s5 := hP.c5
      go_simp
    try simp only [Act.put, List.setIfInBounds_toArray, List.set_cons_zero, List.set_cons_succ]
    refine takeD (i := 2) (d := 68) (v := .string P2) rfl rfl (by kernel_rfl) (by kernel_rfl) (by kernel_rfl) (fun c a w h => HPP.out c a _ _ w h) (by kernel_rfl) rfl (Or.inl ⟨by kernel_rfl, ?_⟩) hS0 ?_
    · intro wz hSw
      obtain ⟨r0, hP⟩ := hSw
      have s0 := hP.c0; have s1 := hP.c1; have s2 := hP.c2; have s3 := hP.c3; have s4 := hP.c4; have s5 := hP.c5
      go_simp
    try simp only [Act.put, List.setIfInBounds_toArray, List.set_cons_zero, List.set_cons_succ]
    refine takeD (i := 4) (d := 70) (v := .slice (some ⟨gp, 0, none⟩) 6 cp) rfl rfl (by kernel_rfl) (by kernel_rfl) (by kernel_rfl) (fun c a w h => HPP.out c a _ _ w h) (by kernel_rfl) rfl (Or.inl ⟨by kernel_rfl, ?_⟩) hS0 ?_
    · intro wz hSw
      obtain ⟨r0, hP⟩ := hSw
      have s0 := hP.c0; have s1 := hP.c1; have s2 := hP.c2; have s3 := hP.c3; have s4 := hP.c4; have s5 := hP.c5
      go_simp
    try simp only [Act.put, List.setIfInBounds_toArray, List.set_cons_zero, List.set_cons_succ]
    refine takeD (i := 5) (d := 71) (v := .pointer (some ⟨gp, 3, none⟩)) rfl rfl (by kernel_rfl) (by kernel_rfl) (by kernel_rfl) (fun c a w h => HPP.out c a _ _ w h) (by kernel_rfl) rfl (Or.inl ⟨by kernel_rfl, ?_⟩) hS0 ?_
    · intro wz hSw
      obtain ⟨r0, hP⟩ := hSw
      have s0 := hP.c0; have s1 := hP.c1; have s2 := hP.c2; have s3 := hP.c3; have s4 := hP.c4; have s5 := hP.c5
      go_simp
    try simp only [Act.put, List.setIfInBounds_toArray, List.set_cons_zero, List.set_cons_succ]
    refine takeD (i := 6) (d := 72) (v := .string P3) rfl rfl (by kernel_rfl) (by kernel_rfl) (by kernel_rfl) (fun c a w h => HPP.out c a _ _ w h) (by kernel_rfl) rfl (Or.inl ⟨by kernel_rfl, ?_⟩) hS0 ?_
    · intro wz hSw
      obtain ⟨r0, hP⟩ := hSw
      have s0 := hP.c0; have s1 := hP.c1; have s2 := hP.c2; have s3 := hP.c3; have s4 := hP.c4; have s5 := hP.c5
      go_simp
    try simp only [Act.put, List.setIfInBounds_toArray, List.set_cons_zero, List.set_cons_succ]
    refine takeD (i := 7) (d := 73) (v := .string SS) rfl rfl (by kernel_rfl) (by kernel_rfl) (by kernel_rfl) (fun c a w h => HPP.out c a _ _ w h) (by kernel_rfl) rfl (Or.inl ⟨by kernel_rfl, ?_⟩) hS0 ?_
    · intro wz hSw
      obtain ⟨r0, hP⟩ := hSw
      have s0 := hP.c0; have s1 := hP.c1; have s2 := hP.c2; have s3 := hP.c3; have s4 := hP.c4; have s5 := hP.c5
      go_simp; rw [HSS.out]
    try simp only [Act.put, List.setIfInBounds_toArray, List.set_cons_zero, List.set_cons_succ]
    refine takeD (i := 8) (d := 74) (v := .slice (some ⟨gp, 0, none⟩) 6 cp) rfl rfl (by kernel_rfl) (by kernel_rfl) (by kernel_rfl) (fun c a w h => HPP.out c a _ _ w h) (by kernel_rfl) rfl (Or.inl ⟨by kernel_rfl, ?_⟩) hS0 ?_
    · intro wz hSw
      obtain ⟨r0, hP⟩ := hSw
      have s0 := hP.c0; have s1 := hP.c1; have s2 := hP.c2; have s3 := hP.c3; have s4 := hP.c4; have s5 := hP.c5
      go_simp
    try simp only [Act.put, List.setIfInBounds_toArray, List.set_cons_zero, List.set_cons_succ]
    refine takeD (i := 9) (d := 75) (v := .pointer (some ⟨gp, 4, none⟩)) rfl rfl (by kernel_rfl) (by kernel_rfl) (by kernel_rfl) (fun c a w h => HPP.out c a _ _ w h) (by kernel_rfl) rfl (Or.inl ⟨by kernel_rfl, ?_⟩) hS0 ?_
    · intro wz hSw
      obtain ⟨r0, hP⟩ := hSw
      have s0 := hP.c0; have s1 := hP.c1; have s2 := hP.c2; have s3 := hP.c3; have s4 := hP.c4; have s5 := hP.c5
      go_simp
    try simp only [Act.put, List.setIfInBounds_toArray, List.set_cons_zero, List.set_cons_succ]
    refine takeD (i := 10) (d := 76) (v := .string P4) rfl rfl (by kernel_rfl) (by kernel_rfl) (by kernel_rfl) (fun c a w h => HPP.out c a _ _ w h) (by kernel_rfl) rfl (Or.inl ⟨by kernel_rfl, ?_⟩) hS0 ?_
    · intro wz hSw
      obtain ⟨r0, hP⟩ := hSw
      have s0 := hP.c0; have s1 := hP.c1; have s2 := hP.c2; have s3 := hP.c3; have s4 := hP.c4; have s5 := hP.c5
      go_simp
    try simp only [Act.put, List.setIfInBounds_toArray, List.set_cons_zero, List.set_cons_succ]
    refine takeD (i := 11) (d := 77) (v := .string NN) rfl rfl (by kernel_rfl) (by kernel_rfl) (by kernel_rfl) (fun c a w h => HPP.out c a _ _ w h) (by kernel_rfl) rfl (Or.inl ⟨by kernel_rfl, ?_⟩) hS0 ?_
    · intro wz hSw
      obtain ⟨r0, hP⟩ := hSw
      have s0 := hP.c0; have s1 := hP.c1; have s2 := hP.c2; have s3 := hP.c3; have s4 := hP.c4; have s5 := hP.c5
      go_simp; rw [HNN.out]
    try simp only [Act.put, List.setIfInBounds_toArray, List.set_cons_zero, List.set_cons_succ]
    refine heldG.readyG (rs := [3]) (by kernel_rfl) (by simp) ?_
    refine heldG.AllG.cons rfl (fun KK hKK => ?_) heldG.AllG.nil
    go_simp
    refine (CV.out _).mono ?_
    rintro en wq ⟨rfl, rfl⟩
    dsimp only
    refine hKK.out _ _ (fun _ => hS0) ?_; clear hKK KK
    try simp only [Act.put, List.setIfInBounds_toArray, List.set_cons_zero, List.set_cons_succ]
    have hS1 : ∃ r0, Px X Z G gp x r0 P0 P1 P2 P3 P4 P5 w wd := ⟨_, hP0'⟩
    refine takeD (i := 12) (d := 78) (v := .pointer (some ⟨G, 9, none⟩)) rfl rfl (by kernel_rfl) (by kernel_rfl) (by kernel_rfl) (fun c a w h => HPP.out c a _ _ w h) (by kernel_rfl) rfl (Or.inl ⟨by kernel_rfl, ?_⟩) hS1 ?_
    · intro wz hSw
      obtain ⟨r0, hP⟩ := hSw
      have s0 := hP.c0; have s1 := hP.c1; have s2 := hP.c2; have s3 := hP.c3; have s4 := hP.c4; have s5 := hP.c5
      go_simp
    try simp only [Act.put, List.setIfInBounds_toArray, List.set_cons_zero, List.set_cons_succ]
    have hz0 := hP0'.set hXZ hZG hwX hgG 9 (.int .i64 (R : Int)) (⟨{ (g0 x).g with hashed := true, rounds := (R : Int) }, none, 0, 0⟩) rfl
    obtain ⟨y0, y1, y2, y3, y4, y5, y6, y7, y8, y9, y10⟩ := cells11 (g := (⟨{ (g0 x).g with hashed := true }, none, 0, 0⟩ : Gr).g) (a := (⟨{ (g0 x).g with hashed := true }, none, 0, 0⟩ : Gr).a) (n := (⟨{ (g0 x).g with hashed := true }, none, 0, 0⟩ : Gr).n) (c := (⟨{ (g0 x).g with hashed := true }, none, 0, 0⟩ : Gr).c) hP0'.bx.g
    have f9 := fzG hP0'.bx.g 9
    refine heldG.readyG (rs := [13]) (by kernel_rfl) (by simp) ?_
    refine heldG.AllG.cons rfl (fun KK hKK => ?_) heldG.AllG.nil
    go_simp
    refine hKK.out _ _ (fun _ => ⟨_, hz0⟩) ?_; clear hKK KK y0 y1 y2 y3 y4 y5 y6 y7 y8 y9 y10 f9
    try simp only [Act.put, List.setIfInBounds_toArray, List.set_cons_zero, List.set_cons_succ]
    obtain ⟨v0, hv0⟩ : ∃ z, wd.setCell ⟨G, 9, none⟩ (.int .i64 (R : Int)) = z := ⟨_, rfl⟩
    rw [hv0] at hz0 ⊢
    clear hv0
    have hS2 : ∃ r0, Px X Z G gp x r0 P0 P1 P2 P3 P4 P5 w v0 := ⟨_, hz0⟩
    refine takeD (i := 14) (d := 79) (v := .pointer (some ⟨G, 8, none⟩)) rfl rfl (by kernel_rfl) (by kernel_rfl) (by kernel_rfl) (fun c a w h => HPP.out c a _ _ w h) (by kernel_rfl) rfl (Or.inl ⟨by kernel_rfl, ?_⟩) hS2 ?_
    · intro wz hSw
      obtain ⟨r0, hP⟩ := hSw
      have s0 := hP.c0; have s1 := hP.c1; have s2 := hP.c2; have s3 := hP.c3; have s4 := hP.c4; have s5 := hP.c5
      go_simp
    try simp only [Act.put, List.setIfInBounds_toArray, List.set_cons_zero, List.set_cons_succ]
    have hz1 := hz0.set hXZ hZG hwX hgG 8 (.string SS) (⟨{ (g0 x).g with hashed := true, rounds := (R : Int), salt := SS }, none, 0, 0⟩) rfl
    obtain ⟨y0, y1, y2, y3, y4, y5, y6, y7, y8, y9, y10⟩ := cells11 (g := (⟨{ (g0 x).g with hashed := true, rounds := (R : Int) }, none, 0, 0⟩ : Gr).g) (a := (⟨{ (g0 x).g with hashed := true, rounds := (R : Int) }, none, 0, 0⟩ : Gr).a) (n := (⟨{ (g0 x).g with hashed := true, rounds := (R : Int) }, none, 0, 0⟩ : Gr).n) (c := (⟨{ (g0 x).g with hashed := true, rounds := (R : Int) }, none, 0, 0⟩ : Gr).c) hz0.bx.g
    have f8 := fzG hz0.bx.g 8
    refine heldG.readyG (rs := [15]) (by kernel_rfl) (by simp) ?_
    refine heldG.AllG.cons rfl (fun KK hKK => ?_) heldG.AllG.nil
    go_simp
    refine hKK.out _ _ (fun _ => ⟨_, hz1⟩) ?_; clear hKK KK y0 y1 y2 y3 y4 y5 y6 y7 y8 y9 y10 f8
    try simp only [Act.put, List.setIfInBounds_toArray, List.set_cons_zero, List.set_cons_succ]
    obtain ⟨v1, hv1⟩ : ∃ z, v0.setCell ⟨G, 8, none⟩ (.string SS) = z := ⟨_, rfl⟩
    rw [hv1] at hz1 ⊢
    clear hv1
    have hS3 : ∃ r0, Px X Z G gp x r0 P0 P1 P2 P3 P4 P5 w v1 := ⟨_, hz1⟩
    refine takeD (i := 16) (d := 80) (v := .pointer (some ⟨G, 6, none⟩)) rfl rfl (by kernel_rfl) (by kernel_rfl) (by kernel_rfl) (fun c a w h => HPP.out c a _ _ w h) (by kernel_rfl) rfl (Or.inl ⟨by kernel_rfl, ?_⟩) hS3 ?_
    · intro wz hSw
      obtain ⟨r0, hP⟩ := hSw
      have s0 := hP.c0; have s1 := hP.c1; have s2 := hP.c2; have s3 := hP.c3; have s4 := hP.c4; have s5 := hP.c5
      go_simp
    try simp only [Act.put, List.setIfInBounds_toArray, List.set_cons_zero, List.set_cons_succ]
    have hz2 := hz1.set hXZ hZG hwX hgG 6 (.string NN) (⟨{ (g0 x).g with hashed := true, rounds := (R : Int), salt := SS, nx := NN }, none, 0, 0⟩) rfl
    obtain ⟨y0, y1, y2, y3, y4, y5, y6, y7, y8, y9, y10⟩ := cells11 (g := (⟨{ (g0 x).g with hashed := true, rounds := (R : Int), salt := SS }, none, 0, 0⟩ : Gr).g) (a := (⟨{ (g0 x).g with hashed := true, rounds := (R : Int), salt := SS }, none, 0, 0⟩ : Gr).a) (n := (⟨{ (g0 x).g with hashed := true, rounds := (R : Int), salt := SS }, none, 0, 0⟩ : Gr).n) (c := (⟨{ (g0 x).g with hashed := true, rounds := (R : Int), salt := SS }, none, 0, 0⟩ : Gr).c) hz1.bx.g
    have f6 := fzG hz1.bx.g 6
    refine heldG.readyG (rs := [17]) (by kernel_rfl) (by simp) ?_
    refine heldG.AllG.cons rfl (fun KK hKK => ?_) heldG.AllG.nil
    go_simp
    refine hKK.out _ _ (fun _ => ⟨_, hz2⟩) ?_; clear hKK KK y0 y1 y2 y3 y4 y5 y6 y7 y8 y9 y10 f6
    try simp only [Act.put, List.setIfInBounds_toArray, List.set_cons_zero, List.set_cons_succ]
    obtain ⟨v2, hv2⟩ : ∃ z, v1.setCell ⟨G, 6, none⟩ (.string NN) = z := ⟨_, rfl⟩
    rw [hv2] at hz2 ⊢
    clear hv2
    refine heldG.doneG (by kernel_rfl) ?_ _
    have HPX := Lib.hid hz2
    clear hz2
    have hc0 := HPX.out.c0; have hc1 := HPX.out.c1; have hc5 := HPX.out.c5
    have HB10 := Lib.hid HPX.out.bx
    clear hS0 hS1 hS2 hS3 hP0'
    trace "11"
    go_wp2_with fail
    refine (CT.out v2).mono ?_
    rintro e w8 ⟨hB8, ⟨v, l', hl', rfl, hown8⟩ | ⟨hno, _⟩⟩
    rotate_left
    · rw [HTY.out] at hno; cases hno
    rw [HTY.out] at hl'
    cases hl'
    rw [HNL.out] at hown8
    obtain ⟨a8, c8, rfl, _, _⟩ := own_slice hown8
    have hown8 := own_mono hown8 HB10.out.b.size
    have HP8 := Lib.hid (HPX.out.below hB8)
    clear hB8 hc0 hc1 hc5
    obtain ⟨y0, y1, y2, y3, y4, y5, y6, y7, y8, y9, y10⟩ := cells11 (g := (⟨{ (g0 x).g with hashed := true, rounds := (R : Int), salt := SS, nx := NN }, none, 0, 0⟩ : Gr).g) (a := (⟨{ (g0 x).g with hashed := true, rounds := (R : Int), salt := SS, nx := NN }, none, 0, 0⟩ : Gr).a) (n := (⟨{ (g0 x).g with hashed := true, rounds := (R : Int), salt := SS, nx := NN }, none, 0, 0⟩ : Gr).n) (c := (⟨{ (g0 x).g with hashed := true, rounds := (R : Int), salt := SS, nx := NN }, none, 0, 0⟩ : Gr).c) HP8.out.bx.g
    have f10 := fzG HP8.out.bx.g 10
    trace "11b"
    go_upto_region 12 with fail
    have hset := HP8.out.set hXZ hZG hwX hgG 10 (.slice a8 nl c8) ⟨⟨x, true, NN, ⟨#[]⟩, SS, (R : Int), l⟩, a8, nl, c8⟩ rfl
    have hown9 : (w8.setCell ⟨G, 10, none⟩ (.slice a8 nl c8)).ownsRow w.heap.size 3 1 (.slice a8 nl c8) nl (l.map bitV) := own_keptB hown8 (fun k hk => Below.heap_setCell w8 ⟨G, 10, none⟩ (.slice a8 nl c8) k (row_far hown8 HP8.out.bx.g k hk))
    obtain ⟨w9, hw9⟩ : ∃ z, w8.setCell ⟨G, 10, none⟩ (.slice a8 nl c8) = z := ⟨_, rfl⟩
    rw [hw9] at hset hown9 ⊢
    have HP9 := Lib.hid hset; have HO9 := Lib.hid hown9
    clear hset hw9 hown8 hown9 y0 y1 y2 y3 y4 y5 y6 y7 y8 y9 y10 f10 HP8 HPX HB10
    obtain ⟨x0, x1, x2, x3, x4⟩ := cells5 HP9.out.bx.x
    trace "12"
    go_upto_region 12 with fail
    go_wp2_with fail
    refine (CS.out w9).mono ?_
    rintro e wA ⟨hBA, ⟨v, ls, hls, rfl, hsv⟩ | ⟨hno, _⟩⟩
    rotate_left
    · exfalso
      obtain ⟨ls, hl⟩ := within_name (rgt_owner HRG.out).1
      rw [split_iff.2 hl] at hno; cases hno
    have HPA := Lib.hid (HP9.out.below hBA)
    have HOA := Lib.hid (own_keptB HO9.out (fun k hk => hBA.block k (HO9.out.lt k hk).2))
    have HLS := Lib.hid hls
    have HSV := Lib.hid hsv
    obtain ⟨av, nv, cv, hav⟩ : ∃ av nv cv, v = .slice av nv cv := by
      rcases hsv with ⟨_, rfl⟩ | ⟨_, g, c, rfl, _⟩
      · exact ⟨_, _, _, rfl⟩
      · exact ⟨_, _, _, rfl⟩
    subst hav
    have hnv : Hid (nv = ls.length) := Lib.hid (by
      rcases HSV.out with ⟨e1, e2⟩ | ⟨_, g, c, e2, _⟩
      · rw [e1]; simp only [Value.slice.injEq] at e2; simp [e2.2.1]
      · simp only [Value.slice.injEq] at e2; exact e2.2.1)
    have hc0 := HPA.out.c0; have hc1 := HPA.out.c1
    clear hBA hls hsv x0 x1 x2 x3 x4
    obtain ⟨x0, x1, x2, x3, x4⟩ := cells5 HPA.out.bx.x
    obtain ⟨y0, y1, y2, y3, y4, y5, y6, y7, y8, y9, y10⟩ := cells11 (g := (⟨⟨x, true, NN, ⟨#[]⟩, SS, (R : Int), l⟩, a8, nl, c8⟩ : Gr).g) (a := (⟨⟨x, true, NN, ⟨#[]⟩, SS, (R : Int), l⟩, a8, nl, c8⟩ : Gr).a) (n := (⟨⟨x, true, NN, ⟨#[]⟩, SS, (R : Int), l⟩, a8, nl, c8⟩ : Gr).n) (c := (⟨⟨x, true, NN, ⟨#[]⟩, SS, (R : Int), l⟩, a8, nl, c8⟩ : Gr).c) HPA.out.bx.g
    have hnvb : nv ≤ 255 := by
      rw [hnv.out]
      have := split_len (split_iff.1 HLS.out); omega
    have HUB : Hid (useG ap.data.toList x = if (a = 1 ∧ b = 0) ∧ eq = true ∧ (R : Int) ≤ 50 ∧ n.length = 10 then (match ownH x with | some o => if o.length = 10 then some ⟨x, true, ⟨n.toArray⟩, ⟨o.toArray⟩, ⟨s.toArray⟩, (R : Int), l⟩ else none | none => none) else none) := Lib.hid (HUG.out.trans HUA.out)
    trace "13"
    by_cases h0 : ¬ a = 1
    · have e0 : (P0.toList == [1]) = false := by rw [HQ0.out]; simpa using h0
      have n0 : (P0.toList != [1]) = true := by rw [HQ0.out]; simpa using h0
      have HNO : Hid (useG ap.data.toList x = none) := Lib.hid (by rw [HUB.out, if_neg (fun k => h0 k.1.1)])
      clear h0
      have hst := storeG (x := ⟨⟨x, true, NN, ⟨#[]⟩, SS, (R : Int), l⟩, a8, nl, c8⟩) HPA.out.bx.z
      have hg := HPA.out.bx.g
      go_upto_region 14 with fail
      go_wp2_with (refine wpList_load_row rfl 45 _ rfl G rfl 45 _ _ _ hg Tryz.underlying45 rfl (by rw [infoG]; rfl) ?_)
      rw [← HBP.out]
      exact finG (r := ⟨⟨x, true, NN, ⟨#[]⟩, SS, (R : Int), l⟩, a8, nl, c8⟩) _ rfl rfl (setRow_heap _ _ _ _ _ _ HPA.out.bx.z) ⟨⟨⟨⟨x, true, NN, ⟨#[]⟩, SS, (R : Int), l⟩, a8, nl, c8⟩, false, rfl, fun h => (by cases h), fun _ => HNO.out⟩, below_setRow HPA.out.bx.b (by have := HX.out; omega) _⟩
    have h0 : a = 1 := Classical.not_not.1 h0
    have H0 := Lib.hid h0
    have e0 : (P0.toList == [1]) = true := by rw [HQ0.out, h0]; rfl
    have n0 : (P0.toList != [1]) = false := by rw [HQ0.out, h0]; rfl
    clear h0
    by_cases h1 : ¬ b = 0
    · have e1 : (P1.toList == [0]) = false := by rw [HQ1.out]; simpa using h1
      have n1 : (P1.toList != [0]) = true := by rw [HQ1.out]; simpa using h1
      have HNO : Hid (useG ap.data.toList x = none) := Lib.hid (by rw [HUB.out, if_neg (fun k => h1 k.1.2)])
      clear h1
      have hst := storeG (x := ⟨⟨x, true, NN, ⟨#[]⟩, SS, (R : Int), l⟩, a8, nl, c8⟩) HPA.out.bx.z
      have hg := HPA.out.bx.g
      go_upto_region 14 with fail
      go_wp2_with (refine wpList_load_row rfl 45 _ rfl G rfl 45 _ _ _ hg Tryz.underlying45 rfl (by rw [infoG]; rfl) ?_)
      rw [← HBP.out]
      exact finG (r := ⟨⟨x, true, NN, ⟨#[]⟩, SS, (R : Int), l⟩, a8, nl, c8⟩) _ rfl rfl (setRow_heap _ _ _ _ _ _ HPA.out.bx.z) ⟨⟨⟨⟨x, true, NN, ⟨#[]⟩, SS, (R : Int), l⟩, a8, nl, c8⟩, false, rfl, fun h => (by cases h), fun _ => HNO.out⟩, below_setRow HPA.out.bx.b (by have := HX.out; omega) _⟩
    have h1 : b = 0 := Classical.not_not.1 h1
    have H1 := Lib.hid h1
    have e1 : (P1.toList == [0]) = true := by rw [HQ1.out, h1]; rfl
    have n1 : (P1.toList != [0]) = false := by rw [HQ1.out, h1]; rfl
    clear h1
    by_cases h2 : (50 : Int) < (R : Int)
    · have HNO : Hid (useG ap.data.toList x = none) := Lib.hid (by rw [HUB.out, if_neg (fun k => by have := k.2.2.1; omega)])
      have e2 : decide ((50 : Int) < (R : Int)) = true := decide_eq_true h2
      clear h2
      have hst := storeG (x := ⟨⟨x, true, NN, ⟨#[]⟩, SS, (R : Int), l⟩, a8, nl, c8⟩) HPA.out.bx.z
      have hg := HPA.out.bx.g
      go_upto_region 14 with fail
      go_wp2_with (refine wpList_load_row rfl 45 _ rfl G rfl 45 _ _ _ hg Tryz.underlying45 rfl (by rw [infoG]; rfl) ?_)
      rw [← HBP.out]
      exact finG (r := ⟨⟨x, true, NN, ⟨#[]⟩, SS, (R : Int), l⟩, a8, nl, c8⟩) _ rfl rfl (setRow_heap _ _ _ _ _ _ HPA.out.bx.z) ⟨⟨⟨⟨x, true, NN, ⟨#[]⟩, SS, (R : Int), l⟩, a8, nl, c8⟩, false, rfl, fun h => (by cases h), fun _ => HNO.out⟩, below_setRow HPA.out.bx.b (by have := HX.out; omega) _⟩
    have e2 : decide ((50 : Int) < (R : Int)) = false := decide_eq_false h2
    by_cases h3 : ¬ NN.size = 10
    · have HNO : Hid (useG ap.data.toList x = none) := Lib.hid (by rw [HUB.out, if_neg (fun k => h3 (HNZ.out.symm.trans k.2.2.2))])
      have e3 : ((NN.size : Int) != 10) = true := by rw [bne_iff_ne]; omega
      have e3b : ((NN.size : Int) == 10) = false := by rw [beq_eq_false_iff_ne]; omega
      clear h3
      have hst := storeG (x := ⟨⟨x, true, NN, ⟨#[]⟩, SS, (R : Int), l⟩, a8, nl, c8⟩) HPA.out.bx.z
      have hg := HPA.out.bx.g
      go_upto_region 14 with fail
      go_wp2_with (refine wpList_load_row rfl 45 _ rfl G rfl 45 _ _ _ hg Tryz.underlying45 rfl (by rw [infoG]; rfl) ?_)
      rw [← HBP.out]
      exact finG (r := ⟨⟨x, true, NN, ⟨#[]⟩, SS, (R : Int), l⟩, a8, nl, c8⟩) _ rfl rfl (setRow_heap _ _ _ _ _ _ HPA.out.bx.z) ⟨⟨⟨⟨x, true, NN, ⟨#[]⟩, SS, (R : Int), l⟩, a8, nl, c8⟩, false, rfl, fun h => (by cases h), fun _ => HNO.out⟩, below_setRow HPA.out.bx.b (by have := HX.out; omega) _⟩
    have h3 : NN.size = 10 := Classical.not_not.1 h3
    have H3 := Lib.hid h3
    have e3 : ((NN.size : Int) != 10) = false := by rw [h3]; rfl
    have e3b : ((NN.size : Int) == 10) = true := by rw [h3]; rfl
    clear h3
    cases ls with
    | nil =>
      have HNO : Hid (useG ap.data.toList x = none) := Lib.hid (by
        rw [HUB.out, if_neg]
        rintro ⟨_, k2, _⟩
        rw [← HEQ.out] at k2
        obtain ⟨u, v, hu⟩ := readH.parent_lab k2
        unfold nameL.labS at hu
        rw [HLS.out] at hu
        cases hu)
      have hz : nv = 0 := by rw [hnv.out]; rfl
      have e4 : ((nv : Int) == 0) = true := by rw [hz]; rfl
      clear hz
      have hst := storeG (x := ⟨⟨x, true, NN, ⟨#[]⟩, SS, (R : Int), l⟩, a8, nl, c8⟩) HPA.out.bx.z
      have hg := HPA.out.bx.g
      go_upto_region 14 with fail
      go_wp2_with (refine wpList_load_row rfl 45 _ rfl G rfl 45 _ _ _ hg Tryz.underlying45 rfl (by rw [infoG]; rfl) ?_)
      rw [← HBP.out]
      exact finG (r := ⟨⟨x, true, NN, ⟨#[]⟩, SS, (R : Int), l⟩, a8, nl, c8⟩) _ rfl rfl (setRow_heap _ _ _ _ _ _ HPA.out.bx.z) ⟨⟨⟨⟨x, true, NN, ⟨#[]⟩, SS, (R : Int), l⟩, a8, nl, c8⟩, false, rfl, fun h => (by cases h), fun _ => HNO.out⟩, below_setRow HPA.out.bx.b (by have := HX.out; omega) _⟩
    | cons lb lr =>
    have hz : 0 < nv := by rw [hnv.out]; simp
    have e4 : ((nv : Int) == 0) = false := by rw [beq_eq_false_iff_ne]; omega
    rcases HSV.out with ⟨e9, _⟩ | ⟨_, gl, cl, e9, _, _, _, hgl, hcl⟩
    · cases e9
    simp only [Value.slice.injEq] at e9
    obtain ⟨e9, _, _⟩ := e9
    subst e9
    obtain ⟨LB, hLB⟩ : ∃ B : ByteArray, (⟨lb.toArray⟩ : ByteArray) = B := ⟨_, rfl⟩
    have hcL : wA.cell? ⟨gl, 0, none⟩ = some (.string LB) := by rw [hcl 0 lb rfl, ← hLB]; rfl
    have hlab : nameL.labS x.o.data.toList = lb :: lr := by unfold nameL.labS; rw [HLS.out]
    have hlb63 := readH.lab_le hlab
    have hLBd : LB.data.toList = lb := by rw [← hLB]
    have CF3 := Lib.hid (fun wx => Go.Proofs.YtanoiiodnddkfaaGreat.whole.rfrom32_any LB wx (by rw [← size_len, hLBd]; omega))
    rw [hLBd] at CF3
    have HOW : Hid (ownH x = back.from32S lb) := Lib.hid (by unfold ownH; rw [hlab]; rfl)
    obtain ⟨O, ok, hO, hok⟩ := readH.two_is (back.from32S lb)
    have HOS : Hid (O.size ≤ 1048576) := Lib.hid (readH.own_size hO hok hlb63)
    rw [hO] at CF3
    have HOK := Lib.hid hok; have HCL := Lib.hid hcL
    clear hLB hlab hLBd hO hok hcl hgl hcL hlb63 HSV
    trace "14"
    go_wp2_with fail
    refine (CPA.out wA).mono ?_
    rintro e wB ⟨rfl, hBB⟩
    have HPB := Lib.hid (HPA.out.below hBB)
    have HOB := Lib.hid (own_keptB HOA.out (fun k hk => hBB.block k (HOA.out.lt k hk).2))
    have HCB := Lib.hid (ckb hBB HCL.out)
    clear hBB x0 x1 x2 x3 x4 y0 y1 y2 y3 y4 y5 y6 y7 y8 y9 y10 hc0 hc1
    trace "15"
    go_wp2_with fail
    refine (CE.out wB).mono ?_
    rintro e wC ⟨rfl, hBC⟩
    have HPC := Lib.hid (HPB.out.below hBC)
    have HOC := Lib.hid (own_keptB HOB.out (fun k hk => hBC.block k (HOB.out.lt k hk).2))
    have hcC := ckb hBC HCB.out
    have HCC := Lib.hid hcC
    clear hBC
    cases eq with
    | false =>
      have HNO : Hid (useG ap.data.toList x = none) := Lib.hid (by rw [HUB.out, if_neg (fun k => by cases k.2.1)])
      obtain ⟨y0, y1, y2, y3, y4, y5, y6, y7, y8, y9, y10⟩ := cells11 (g := (⟨⟨x, true, NN, ⟨#[]⟩, SS, (R : Int), l⟩, a8, nl, c8⟩ : Gr).g) (a := (⟨⟨x, true, NN, ⟨#[]⟩, SS, (R : Int), l⟩, a8, nl, c8⟩ : Gr).a) (n := (⟨⟨x, true, NN, ⟨#[]⟩, SS, (R : Int), l⟩, a8, nl, c8⟩ : Gr).n) (c := (⟨⟨x, true, NN, ⟨#[]⟩, SS, (R : Int), l⟩, a8, nl, c8⟩ : Gr).c) HPC.out.bx.g
      have hst := storeG (x := ⟨⟨x, true, NN, ⟨#[]⟩, SS, (R : Int), l⟩, a8, nl, c8⟩) HPC.out.bx.z
      have hg := HPC.out.bx.g
      go_upto_region 14 with fail
      go_wp2_with (refine wpList_load_row rfl 45 _ rfl G rfl 45 _ _ _ hg Tryz.underlying45 rfl (by rw [infoG]; rfl) ?_)
      rw [← HBP.out]
      exact finG (r := ⟨⟨x, true, NN, ⟨#[]⟩, SS, (R : Int), l⟩, a8, nl, c8⟩) _ rfl rfl (setRow_heap _ _ _ _ _ _ HPC.out.bx.z) ⟨⟨⟨⟨x, true, NN, ⟨#[]⟩, SS, (R : Int), l⟩, a8, nl, c8⟩, false, rfl, fun h => (by cases h), fun _ => HNO.out⟩, below_setRow HPC.out.bx.b (by have := HX.out; omega) _⟩
    | true =>
    have zl0 : (0 : Int) < (nv : Int) := by omega
    trace "16"
    go_wp2_with fail
    refine (CF3.out wC).mono ?_
    rintro e wD ⟨rfl, hBD⟩
    have HPD := Lib.hid (HPC.out.below hBD)
    have hownD := own_keptB HOC.out (fun k hk => hBD.block k (HOC.out.lt k hk).2)
    clear hBD hcC
    obtain ⟨y0, y1, y2, y3, y4, y5, y6, y7, y8, y9, y10⟩ := cells11 (g := (⟨⟨x, true, NN, ⟨#[]⟩, SS, (R : Int), l⟩, a8, nl, c8⟩ : Gr).g) (a := (⟨⟨x, true, NN, ⟨#[]⟩, SS, (R : Int), l⟩, a8, nl, c8⟩ : Gr).a) (n := (⟨⟨x, true, NN, ⟨#[]⟩, SS, (R : Int), l⟩, a8, nl, c8⟩ : Gr).n) (c := (⟨⟨x, true, NN, ⟨#[]⟩, SS, (R : Int), l⟩, a8, nl, c8⟩ : Gr).c) HPD.out.bx.g
    have f7 := fzG HPD.out.bx.g 7
    trace "17"
    go_upto_region 17 with fail
    have hset := HPD.out.bx.set hXZ hZG hwX 7 (.string O) ⟨⟨x, true, NN, O, SS, (R : Int), l⟩, a8, nl, c8⟩ rfl
    have hownE : (wD.setCell ⟨G, 7, none⟩ (.string O)).ownsRow w.heap.size 3 1 (.slice a8 nl c8) nl (l.map bitV) := own_keptB hownD (fun k hk => Below.heap_setCell wD ⟨G, 7, none⟩ (.string O) k (row_far hownD HPD.out.bx.g k hk))
    have hsx : Sx X Z G x ⟨⟨x, true, NN, O, SS, (R : Int), l⟩, a8, nl, c8⟩ w (wD.setCell ⟨G, 7, none⟩ (.string O)) := ⟨hset.x, ⟨_, hset.z⟩, hset.g, hownE, hset.b⟩
    obtain ⟨wE, hwE⟩ : ∃ z, wD.setCell ⟨G, 7, none⟩ (.string O) = z := ⟨_, rfl⟩
    rw [hwE] at hsx ⊢
    clear hset hwE hownD hownE y0 y1 y2 y3 y4 y5 y6 y7 y8 y9 y10 f7
    have HSX := Lib.hid hsx
    clear hsx
    have HOZ : Hid (IntKind.i64.wrap (O.size : Int) = (O.size : Int)) := Lib.hid (by rw [IntWalk.i64_in]; have := HOS.out; omega)
    have hR50 : ¬ (50 : Int) < (R : Int) := by intro h; rw [decide_eq_true h] at e2; cases e2
    have HUC : Hid (useG ap.data.toList x = (match ownH x with | some o => if o.length = 10 then some ⟨x, true, ⟨n.toArray⟩, ⟨o.toArray⟩, ⟨s.toArray⟩, (R : Int), l⟩ else none | none => none)) := Lib.hid (by
      rw [HUB.out, if_pos ⟨⟨H0.out, H1.out⟩, by trivial, by omega, HNZ.out.trans H3.out⟩])
    have HTF : Hid (∀ wz : World, wz.ownsRow w.heap.size 3 1 (.slice a8 nl c8) nl (l.map bitV) → O.size = 10 → TyO wz w.heap.size ⟨⟨x, true, NN, O, SS, (R : Int), l⟩, a8, nl, c8⟩) := Lib.hid (fun wz h1 h2 => ⟨HNL.out, by rw [← HNL.out]; exact hll, h1, ⟨ho, by show NN.size ≤ 1048576; omega, fun _ => h2, by show SS.size ≤ 1048576; omega⟩⟩)
    obtain ⟨y, hyz⟩ := HSX.out.z
    have hg := HSX.out.g
    have hst := storeG (x := ⟨⟨x, true, NN, O, SS, (R : Int), l⟩, a8, nl, c8⟩) hyz
    have HROW := Lib.hid (HSX.out.row hyz hXZ hZG hwX ⟨⟨x, true, NN, O, SS, (R : Int), l⟩, a8, nl, c8⟩)
    trace "18"
    cases ok with
    | false =>
      have HUR : Hid (useG ap.data.toList x = none) := Lib.hid (by
        have h := HOK.out
        simp only [Bool.false_eq_true, if_false] at h
        rw [HUC.out, HOW.out, h])
      go_wp2_with (refine wpList_load_row rfl 45 _ rfl G rfl 45 _ _ _ hg Tryz.underlying45 rfl (by rw [infoG]; rfl) ?_)
      rw [← HBP.out]
      exact finG (r := ⟨⟨x, true, NN, O, SS, (R : Int), l⟩, a8, nl, c8⟩) _ rfl rfl (setRow_heap _ _ _ _ _ _ hyz) ⟨⟨⟨⟨x, true, NN, O, SS, (R : Int), l⟩, a8, nl, c8⟩, false, rfl, fun h => (by cases h), fun _ => HUR.out⟩, HROW.out.b⟩
    | true =>
    have HOV : Hid (ownH x = some O.data.toList) := Lib.hid (by
      have h := HOK.out
      simp only [if_true] at h
      rw [HOW.out, h])
    by_cases h9 : ¬ O.size = 10
    · have e9 : ((O.size : Int) == 10) = false := by rw [beq_eq_false_iff_ne]; omega
      have HUR : Hid (useG ap.data.toList x = none) := Lib.hid (by
        rw [HUC.out, HOV.out]
        simp only [size_len]
        rw [if_neg h9])
      have hosz := HOS.out
      clear h9
      go_wp2_with (refine wpList_load_row rfl 45 _ rfl G rfl 45 _ _ _ hg Tryz.underlying45 rfl (by rw [infoG]; rfl) ?_)
      rw [← HBP.out]
      exact finG (r := ⟨⟨x, true, NN, O, SS, (R : Int), l⟩, a8, nl, c8⟩) _ rfl rfl (setRow_heap _ _ _ _ _ _ hyz) ⟨⟨⟨⟨x, true, NN, O, SS, (R : Int), l⟩, a8, nl, c8⟩, false, rfl, fun h => (by cases h), fun _ => HUR.out⟩, HROW.out.b⟩
    have HTEN : Hid (O.size = 10) := Lib.hid (Classical.not_not.1 h9)
    have e9 : ((O.size : Int) == 10) = true := by rw [beq_iff_eq]; omega
    clear h9
    have hosz := HOS.out
    have HUR : Hid (useG ap.data.toList x = some ⟨x, true, NN, O, SS, (R : Int), l⟩) := Lib.hid (by
      rw [HUC.out, HOV.out]
      simp only [size_len]
      rw [if_pos HTEN.out, ← HND.out, ← HSD.out])
    go_wp2_with (refine wpList_load_row rfl 45 _ rfl G rfl 45 _ _ _ hg Tryz.underlying45 rfl (by rw [infoG]; rfl) ?_)
    rw [← HBP.out]
    exact finG (r := ⟨⟨x, true, NN, O, SS, (R : Int), l⟩, a8, nl, c8⟩) _ rfl rfl (setRow_heap _ _ _ _ _ _ hyz) ⟨⟨⟨⟨x, true, NN, O, SS, (R : Int), l⟩, a8, nl, c8⟩, true, rfl, fun _ => ⟨HUR.out, HTF.out _ HROW.out.own HTEN.out⟩, fun h => (by cases h)⟩, HROW.out.b⟩
  have ht : x.t = 47 := Classical.not_not.1 h47
  have e47 : (x.t != 47) = false := by simpa using ht
  have f47 : (x.t == 47) = true := by simpa using ht
  have HXT := Lib.hid ht
  have hck := (rgt_owner HRG.out).2
  rw [ht] at hck
  obtain ⟨a, b, l, hp⟩ := ns_parts hck
  have HUA := Lib.hid (useN_at HRG.out ht hp)
  have HUG : Hid (useG ap.data.toList x = useN ap.data.toList x) := Lib.hid (by unfold useG; rw [if_pos ht])
  have hds : x.d.size ≤ 65535 := by rw [← size_len]; exact hp.small
  have CF := Lib.hid (fun wx => rform.rform_47 wx)
  have CP := Lib.hid (fun wx => parts_of (F := [110, 75]) (fs := [.host, .kinds]) (ps := [a, b]) (n := 2) (d := x.d) rfl (checkData.form_fair4 (t := 47) rfl) hds rfl rfl (by omega) (parts_split hck rfl hp.parts) wx)
  obtain ⟨FB, hFB⟩ : ∃ B : ByteArray, (⟨([110, 75] : Bs).toArray⟩ : ByteArray) = B := ⟨_, rfl⟩
  unfold rform.FormIs at CF
  rw [hFB] at CF CP
  obtain ⟨A, hA⟩ : ∃ A : ByteArray, (⟨a.toArray⟩ : ByteArray) = A := ⟨_, rfl⟩
  have hAd : a = A.data.toList := by rw [← hA]
  have hAs : A.size ≤ 255 := by obtain ⟨ls, hl⟩ := hp.name; rw [← size_len, ← hAd]; exact isN_size hl
  obtain ⟨BX, hBX⟩ : ∃ A : ByteArray, (⟨b.toArray⟩ : ByteArray) = A := ⟨_, rfl⟩
  have hBd : BX.data.toList = b := by rw [← hBX]
  have hBs : BX.size ≤ 65535 := by rw [← size_len, hBd]; have := hp.small; rw [hp.all, List.length_append] at this; omega
  have hll : l.length ≤ 1048576 := by have h1 := types_len hp.ty; rw [← hBd, size_len] at h1; omega
  have CT := Lib.hid (fun wx => typesR.rtypes_any BX wx (by omega))
  rw [hBd] at CT
  have CI := Lib.hid (fun wx => refB.within_any A ap wx (by omega) (by omega))
  rw [← hAd] at CI
  obtain ⟨wi, hwi2⟩ : ∃ wi, withinS a ap.data.toList = wi := ⟨_, rfl⟩
  rw [hwi2] at CI HUA
  obtain ⟨nl, hnl⟩ : ∃ nl, l.length = nl := ⟨_, rfl⟩
  have HNL := Lib.hid hnl; have HAA := Lib.hid hA; have HBA := Lib.hid hBX; have HTY := Lib.hid hp.ty
  have OKR : Hid (OkG ⟨x, false, A, ⟨#[]⟩, ⟨#[]⟩, 0, l⟩) := Lib.hid ⟨ho, by simp only; omega, fun h => (by cases h), by simp [ByteArray.size]⟩
  clear hp hck hFB hA hAd hBX hBd hBs hds hwi2 hnl ht h47
  trace "4"
  go_upto_region 4 with fail
  refine heldG.regionG (fun w' => Bx X Z G x (g0 x) w w') (fun _ => false) (by kernel_rfl) ?_
  have hS0 : Bx X Z G x (g0 x) w w5.drew := HB5.out.below ((Below.refl _ _).drew)
  clear x0 x1 x2 x3 x4
  refine takeD (i := 0) (d := 37) (v := .pointer (some ⟨X, 1, none⟩)) rfl rfl (by kernel_rfl) (by kernel_rfl) (by kernel_rfl) (fun c a w h => HPP.out c a _ _ w h) (by kernel_rfl) rfl (Or.inl ⟨by kernel_rfl, ?_⟩) hS0 ?_
  · intro wz hSw
    obtain ⟨s0, s1, s2, s3, s4⟩ := cells5 hSw.x
    rw [HXT.out] at s1
    go_simp
  try simp only [Act.put, List.setIfInBounds_toArray, List.set_cons_zero, List.set_cons_succ]
  refine takeD (i := 1) (d := 38) (v := .int .i64 47) rfl rfl (by kernel_rfl) (by kernel_rfl) (by kernel_rfl) (fun c a w h => HPP.out c a _ _ w h) (by kernel_rfl) rfl (Or.inl ⟨by kernel_rfl, ?_⟩) hS0 ?_
  · intro wz hSw
    obtain ⟨s0, s1, s2, s3, s4⟩ := cells5 hSw.x
    rw [HXT.out] at s1
    go_simp
  try simp only [Act.put, List.setIfInBounds_toArray, List.set_cons_zero, List.set_cons_succ]
  refine takeD (i := 3) (d := 40) (v := .pointer (some ⟨X, 4, none⟩)) rfl rfl (by kernel_rfl) (by kernel_rfl) (by kernel_rfl) (fun c a w h => HPP.out c a _ _ w h) (by kernel_rfl) rfl (Or.inl ⟨by kernel_rfl, ?_⟩) hS0 ?_
  · intro wz hSw
    obtain ⟨s0, s1, s2, s3, s4⟩ := cells5 hSw.x
    rw [HXT.out] at s1
    go_simp
  try simp only [Act.put, List.setIfInBounds_toArray, List.set_cons_zero, List.set_cons_succ]
  refine takeD (i := 4) (d := 41) (v := .string x.d) rfl rfl (by kernel_rfl) (by kernel_rfl) (by kernel_rfl) (fun c a w h => HPP.out c a _ _ w h) (by kernel_rfl) rfl (Or.inl ⟨by kernel_rfl, ?_⟩) hS0 ?_
  · intro wz hSw
    obtain ⟨s0, s1, s2, s3, s4⟩ := cells5 hSw.x
    rw [HXT.out] at s1
    go_simp
  try simp only [Act.put, List.setIfInBounds_toArray, List.set_cons_zero, List.set_cons_succ]
  refine heldG.readyG (rs := [2]) (by kernel_rfl) (by simp) ?_
  refine heldG.AllG.cons rfl (fun KK hKK => ?_) heldG.AllG.nil
  go_simp
  refine (CF.out _).mono ?_
  rintro en wq ⟨rfl, rfl⟩
  dsimp only
  refine hKK.out _ _ (fun _ => hS0) ?_; clear hKK KK
  try simp only [Act.put, List.setIfInBounds_toArray, List.set_cons_zero, List.set_cons_succ]
  refine heldG.readyG (rs := [5]) (by kernel_rfl) (by simp) ?_
  refine heldG.AllG.cons rfl (fun KK hKK => ?_) heldG.AllG.nil
  go_simp
  refine (CP.out _).mono ?_
  rintro en w6 ⟨gp, cp, rfl, hcp, hgb, hBz⟩
  have hgG : gp ≠ G := by have := blk_lt hS0.g; omega
  have hS1 := hS0.below hBz
  dsimp only
  refine hKK.out _ _ (fun _ => hS1) ?_; clear hKK KK hBz hS0 hgb
  try simp only [Act.put, List.setIfInBounds_toArray, List.set_cons_zero, List.set_cons_succ]
  refine takeD (i := 6) (d := 36) (v := .tuple #[.slice (some ⟨gp, 0, none⟩) 2 cp, .bool true]) rfl rfl (by kernel_rfl) (by kernel_rfl) (by kernel_rfl) (fun c a w h => HPP.out c a _ _ w h) (by kernel_rfl) rfl (Or.inl ⟨by kernel_rfl, ?_⟩) hS1 ?_
  · intro wz hSw
    obtain ⟨s0, s1, s2, s3, s4⟩ := cells5 hSw.x
    rw [HXT.out] at s1
    go_simp
  try simp only [Act.put, List.setIfInBounds_toArray, List.set_cons_zero, List.set_cons_succ]
  refine takeD (i := 7) (d := 43) (v := .slice (some ⟨gp, 0, none⟩) 2 cp) rfl rfl (by kernel_rfl) (by kernel_rfl) (by kernel_rfl) (fun c a w h => HPP.out c a _ _ w h) (by kernel_rfl) rfl (Or.inl ⟨by kernel_rfl, ?_⟩) hS1 ?_
  · intro wz hSw
    obtain ⟨s0, s1, s2, s3, s4⟩ := cells5 hSw.x
    rw [HXT.out] at s1
    go_simp
  try simp only [Act.put, List.setIfInBounds_toArray, List.set_cons_zero, List.set_cons_succ]
  refine takeD (i := 8) (d := 44) (v := .bool true) rfl rfl (by kernel_rfl) (by kernel_rfl) (by kernel_rfl) (fun c a w h => HPP.out c a _ _ w h) (by kernel_rfl) rfl (Or.inl ⟨by kernel_rfl, ?_⟩) hS1 ?_
  · intro wz hSw
    obtain ⟨s0, s1, s2, s3, s4⟩ := cells5 hSw.x
    rw [HXT.out] at s1
    go_simp
  try simp only [Act.put, List.setIfInBounds_toArray, List.set_cons_zero, List.set_cons_succ]
  refine takeD (i := 9) (d := 7) (v := .slice (some ⟨gp, 0, none⟩) 2 cp) rfl rfl (by kernel_rfl) (by kernel_rfl) (by kernel_rfl) (fun c a w h => HPP.out c a _ _ w h) (by kernel_rfl) rfl (Or.inl ⟨by kernel_rfl, ?_⟩) hS1 ?_
  · intro wz hSw
    obtain ⟨s0, s1, s2, s3, s4⟩ := cells5 hSw.x
    rw [HXT.out] at s1
    go_simp
  try simp only [Act.put, List.setIfInBounds_toArray, List.set_cons_zero, List.set_cons_succ]
  refine takeD (i := 10) (d := 8) (v := .bool true) rfl rfl (by kernel_rfl) (by kernel_rfl) (by kernel_rfl) (fun c a w h => HPP.out c a _ _ w h) (by kernel_rfl) rfl (Or.inl ⟨by kernel_rfl, ?_⟩) hS1 ?_
  · intro wz hSw
    obtain ⟨s0, s1, s2, s3, s4⟩ := cells5 hSw.x
    rw [HXT.out] at s1
    go_simp
  try simp only [Act.put, List.setIfInBounds_toArray, List.set_cons_zero, List.set_cons_succ]
  refine heldG.doneG (by kernel_rfl) ?_ _
  have HB6 := Lib.hid hS1
  clear hS1
  have hc0 : w6.cell? ⟨gp, 0, none⟩ = some (.string A) := by rw [hcp 0 _ rfl, ← HAA.out]; rfl
  have hc1 : w6.cell? ⟨gp, 1, none⟩ = some (.string BX) := by rw [hcp 1 _ rfl, ← HBA.out]; rfl
  clear hcp
  obtain ⟨x0, x1, x2, x3, x4⟩ := cells5 HB6.out.x
  rw [HXT.out] at x1
  have z2 : (0 : Int) < ((2 : Nat) : Int) := by omega
  have z3 : (1 : Int) < ((2 : Nat) : Int) := by omega
  obtain ⟨y0, y1, y2, y3, y4, y5, y6, y7, y8, y9, y10⟩ := cells11 (g := (g0 x).g) (a := (g0 x).a) (n := (g0 x).n) (c := (g0 x).c) HB6.out.g
  have f6 := fzG HB6.out.g 6
  trace "6"
  go_upto_region 7 with fail
  have hset := HB6.out.set hXZ hZG hwX 6 (.string A) (⟨{ (g0 x).g with nx := A }, none, 0, 0⟩) rfl
  obtain ⟨w7, hww7⟩ : ∃ z, w6.setCell ⟨G, 6, none⟩ (.string A) = z := ⟨_, rfl⟩
  rw [hww7] at hset ⊢
  have HB7 := Lib.hid hset
  have hc1 : w7.cell? ⟨gp, 1, none⟩ = some (.string BX) := by
    rw [← hww7, World.cell?_setCell_other _ _ _ _ (by intro h; injection h with h1 h2; exact hgG h1.symm)]; exact hc1
  clear hset hww7 hc0 y0 y1 y2 y3 y4 y5 y6 y7 y8 y9 y10 f6 x0 x1 x2 x3 x4
  trace "7"
  go_wp2_with fail
  refine (CT.out w7).mono ?_
  rintro e w8 ⟨hB8, ⟨v, l', hl', rfl, hown8⟩ | ⟨hno, _⟩⟩
  rotate_left
  · rw [HTY.out] at hno; cases hno
  rw [HTY.out] at hl'
  cases hl'
  rw [HNL.out] at hown8
  obtain ⟨a8, c8, rfl, _, _⟩ := own_slice hown8
  have hown8 := own_mono hown8 HB7.out.b.size
  have HB8 := Lib.hid (HB7.out.below hB8)
  clear hB8 hc1
  obtain ⟨y0, y1, y2, y3, y4, y5, y6, y7, y8, y9, y10⟩ := cells11 (g := (⟨{ (g0 x).g with nx := A }, none, 0, 0⟩ : Gr).g) (a := (⟨{ (g0 x).g with nx := A }, none, 0, 0⟩ : Gr).a) (n := (⟨{ (g0 x).g with nx := A }, none, 0, 0⟩ : Gr).n) (c := (⟨{ (g0 x).g with nx := A }, none, 0, 0⟩ : Gr).c) HB8.out.g
  have f10 := fzG HB8.out.g 10
  trace "7b"
  go_upto_region 8 with fail
  obtain ⟨r, hr⟩ : ∃ r : Gr, (⟨⟨x, false, A, ⟨#[]⟩, ⟨#[]⟩, 0, l⟩, a8, nl, c8⟩ : Gr) = r := ⟨_, rfl⟩
  have hset := HB8.out.set hXZ hZG hwX 10 (.slice a8 nl c8) ⟨⟨x, false, A, ⟨#[]⟩, ⟨#[]⟩, 0, l⟩, a8, nl, c8⟩ rfl
  have hso := Sx.of (r := ⟨⟨x, false, A, ⟨#[]⟩, ⟨#[]⟩, 0, l⟩, a8, nl, c8⟩) HB8.out hown8 hset hXZ hZG hwX
  obtain ⟨w9, hw9⟩ : ∃ z, w8.setCell ⟨G, 10, none⟩ (.slice a8 nl c8) = z := ⟨_, rfl⟩
  rw [hw9] at hso ⊢
  clear hset hw9 hown8 y0 y1 y2 y3 y4 y5 y6 y7 y8 y9 y10 f10
  have HSO := Lib.hid hso
  clear hso
  refine heldG.regionG (fun w' => Sx X Z G x ⟨⟨x, false, A, ⟨#[]⟩, ⟨#[]⟩, 0, l⟩, a8, nl, c8⟩ w w') (fun _ => false) (by kernel_rfl) ?_
  obtain ⟨wd, hwd⟩ : ∃ z, w9.drew = z := ⟨_, rfl⟩
  have hBd : Below w9.heap.size w9 wd := by rw [← hwd]; exact (Below.refl _ _).drew
  rw [hwd]
  have hS0 := HSO.out.below hBd
  clear hwd hBd
  trace "8"
  refine takeD (i := 0) (d := 60) (v := .agg #[.string x.o, .int .i64 x.t, .int .i64 x.c, .int .i64 x.l, .string x.d, .bool false, .string A, .string ⟨#[]⟩, .string ⟨#[]⟩, .int .i64 0, .slice a8 nl c8]) rfl rfl (by kernel_rfl) (by kernel_rfl) (by kernel_rfl) (fun c a w h => HPP.out c a _ _ w h) (by kernel_rfl) rfl (Or.inl ⟨by kernel_rfl, ?_⟩) hS0 ?_
  · intro wz hSw
    obtain ⟨s0, s1, s2, s3, s4, s5, s6, s7, s8, s9, s10⟩ := cells11 (g := ⟨x, false, A, ⟨#[]⟩, ⟨#[]⟩, 0, l⟩) (a := a8) (n := nl) (c := c8) hSw.g
    go_simp
  try simp only [Act.put, List.setIfInBounds_toArray, List.set_cons_zero, List.set_cons_succ]
  refine takeD (i := 1) (d := 61) (v := .pointer (some ⟨G, 6, none⟩)) rfl rfl (by kernel_rfl) (by kernel_rfl) (by kernel_rfl) (fun c a w h => HPP.out c a _ _ w h) (by kernel_rfl) rfl (Or.inl ⟨by kernel_rfl, ?_⟩) hS0 ?_
  · intro wz hSw
    obtain ⟨s0, s1, s2, s3, s4, s5, s6, s7, s8, s9, s10⟩ := cells11 (g := ⟨x, false, A, ⟨#[]⟩, ⟨#[]⟩, 0, l⟩) (a := a8) (n := nl) (c := c8) hSw.g
    go_simp
  try simp only [Act.put, List.setIfInBounds_toArray, List.set_cons_zero, List.set_cons_succ]
  refine takeD (i := 2) (d := 62) (v := .string A) rfl rfl (by kernel_rfl) (by kernel_rfl) (by kernel_rfl) (fun c a w h => HPP.out c a _ _ w h) (by kernel_rfl) rfl (Or.inl ⟨by kernel_rfl, ?_⟩) hS0 ?_
  · intro wz hSw
    obtain ⟨s0, s1, s2, s3, s4, s5, s6, s7, s8, s9, s10⟩ := cells11 (g := ⟨x, false, A, ⟨#[]⟩, ⟨#[]⟩, 0, l⟩) (a := a8) (n := nl) (c := c8) hSw.g
    go_simp
  try simp only [Act.put, List.setIfInBounds_toArray, List.set_cons_zero, List.set_cons_succ]
  refine takeD (i := 3) (d := 63) (v := .string ap) rfl rfl (by kernel_rfl) (by kernel_rfl) (by kernel_rfl) (fun c a w h => HPP.out c a _ _ w h) (by kernel_rfl) rfl (Or.inl ⟨by kernel_rfl, ?_⟩) hS0 ?_
  · intro wz hSw
    obtain ⟨s0, s1, s2, s3, s4, s5, s6, s7, s8, s9, s10⟩ := cells11 (g := ⟨x, false, A, ⟨#[]⟩, ⟨#[]⟩, 0, l⟩) (a := a8) (n := nl) (c := c8) hSw.g
    go_simp
  try simp only [Act.put, List.setIfInBounds_toArray, List.set_cons_zero, List.set_cons_succ]
  refine heldG.readyG (rs := [4]) (by kernel_rfl) (by simp) ?_
  refine heldG.AllG.cons rfl (fun KK hKK => ?_) heldG.AllG.nil
  go_simp
  refine (CI.out _).mono ?_
  rintro en wq ⟨rfl, hBz⟩
  have hS1 := hS0.below hBz
  dsimp only
  refine hKK.out _ _ (fun _ => hS1) ?_; clear hKK KK hBz
  try simp only [Act.put, List.setIfInBounds_toArray, List.set_cons_zero, List.set_cons_succ]
  refine heldG.readyG (rs := [5]) (by kernel_rfl) (by simp) ?_
  refine heldG.AllG.cons rfl (fun KK hKK => ?_) heldG.AllG.nil
  rw [if_pos (by kernel_rfl)]
  obtain ⟨y, hyz⟩ := hS1.z
  refine wp_store_row 45 _ _ rfl Z _ rfl rfl 45 _ hyz (by rw [infoG]; rfl) rfl (oneG ⟨⟨x, false, A, ⟨#[]⟩, ⟨#[]⟩, 0, l⟩, a8, nl, c8⟩) ?_
  have hS2 := hS1.row hyz hXZ hZG hwX ⟨⟨x, false, A, ⟨#[]⟩, ⟨#[]⟩, 0, l⟩, a8, nl, c8⟩
  refine hKK.out _ _ (fun _ => hS2) ?_; clear hKK KK
  try simp only [Act.put, List.setIfInBounds_toArray]
  refine takeD (i := 6) (d := 5) (v := .bool wi) rfl rfl (by kernel_rfl) (by kernel_rfl) (by kernel_rfl) (fun c a w h => HPP.out c a _ _ w h) (by kernel_rfl) rfl (Or.inl ⟨by kernel_rfl, ?_⟩) hS2 ?_
  · intro wz hSw
    obtain ⟨s0, s1, s2, s3, s4, s5, s6, s7, s8, s9, s10⟩ := cells11 (g := ⟨x, false, A, ⟨#[]⟩, ⟨#[]⟩, 0, l⟩) (a := a8) (n := nl) (c := c8) hSw.g
    go_simp
  try simp only [Act.put]
  refine heldG.doneG (by kernel_rfl) ?_ _
  go_wp2_with fail
  rw [← HBP.out]
  exact finG (r := ⟨⟨x, false, A, ⟨#[]⟩, ⟨#[]⟩, 0, l⟩, a8, nl, c8⟩) _ rfl rfl (setRow_heap _ _ _ _ _ _ hyz) ⟨⟨⟨⟨x, false, A, ⟨#[]⟩, ⟨#[]⟩, 0, l⟩, a8, nl, c8⟩, wi, rfl, fun h => ⟨by rw [HUG.out, HUA.out, h, if_pos rfl, HAA.out], ⟨HNL.out, by rw [← HNL.out]; exact hll, hS2.own, OKR.out⟩⟩, fun h => by rw [HUG.out, HUA.out, h]; rfl⟩, hS2.b⟩
end Go.Proofs.YtanoiiodnddkfaaGreat.useR
