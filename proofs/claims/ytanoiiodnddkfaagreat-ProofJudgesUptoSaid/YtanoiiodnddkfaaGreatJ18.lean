/- The program's byName and byHash: matches, covers, hash; between of strings by strings.Compare: walks (gen_gapn.py). Facts on cells, kept by what leaves all that was there. The program's byHash: matches, covers: walks (gen_gaph.py). The program's gap: types, has: walks. The program's cut, away, lacks: walks (gen_gapj.py). The program's byName: denies: walk (gen_gapk.py). wire.right, gazetteerref2.Right: walks (printed by gen_right.py). -/
import Derived.Test.YtanoiiodnddkfaaGreatJ17
import Derived.Test.YtanoiiodnddkfaaGreatJ1
import Derived.Deep.RegionHeld3
import Derived.Handy
namespace Go.Proofs.YtanoiiodnddkfaaGreat.gapN
open Go.RowKit Go.Proofs.YtanoiiodnddkfaaGreat.kit Go.Proofs.YtanoiiodnddkfaaGreat.nspec Go.Proofs.YtanoiiodnddkfaaGreat.refA Go.Proofs.YtanoiiodnddkfaaGreat.refB Go.Proofs.YtanoiiodnddkfaaGreat.fld Go.Proofs.YtanoiiodnddkfaaGreat.wireP Go.Proofs.YtanoiiodnddkfaaGreat.gapP Go.Proofs.YtanoiiodnddkfaaGreat.bits Go.Proofs.YtanoiiodnddkfaaGreat.ints Go.Proofs.YtanoiiodnddkfaaGreat.gapA Go.Proofs.YtanoiiodnddkfaaGreat.gapB Go.Proofs.YtanoiiodnddkfaaGreat.gapC
set_option linter.unusedVariables false

theorem cells8 {w : World} {X : Nat} {g : Gp} {a : Option Addr} {n c : Nat} {fr : Nat × Nat} (h : w.heap[X]? = some (.cells #[.slice a n c, .string g.x.o, .int .i64 g.x.t, .int .i64 g.x.c, .int .i64 g.x.l, .string g.x.d, .string g.x.o, .string g.nx] 58 fr)) : w.cell? ⟨X, 0, none⟩ = some (.slice a n c) ∧ w.cell? ⟨X, 1, none⟩ = some (.string g.x.o) ∧ w.cell? ⟨X, 2, none⟩ = some (.int .i64 g.x.t) ∧ w.cell? ⟨X, 3, none⟩ = some (.int .i64 g.x.c) ∧ w.cell? ⟨X, 4, none⟩ = some (.int .i64 g.x.l) ∧ w.cell? ⟨X, 5, none⟩ = some (.string g.x.d) ∧ w.cell? ⟨X, 6, none⟩ = some (.string g.x.o) ∧ w.cell? ⟨X, 7, none⟩ = some (.string g.nx) := by
  refine ⟨?_, ?_, ?_, ?_, ?_, ?_, ?_, ?_⟩ <;> (simp only [World.cell?, h]; rfl)
def nameC (g : Gp) (v : Value) : Array Value := #[v, .string g.x.o, .int .i64 g.x.t, .int .i64 g.x.c, .int .i64 g.x.l, .string g.x.d, .string g.x.o, .string g.nx]
theorem cells10 {w : World} {X : Nat} {g : Gp} {a : Option Addr} {n c : Nat} {fr : Nat × Nat} (h : w.heap[X]? = some (.cells #[.slice a n c, .string g.x.o, .int .i64 g.x.t, .int .i64 g.x.c, .int .i64 g.x.l, .string g.x.d, .string g.own, .string g.nx, .string g.salt, .int .i64 g.rounds] 63 fr)) : w.cell? ⟨X, 0, none⟩ = some (.slice a n c) ∧ w.cell? ⟨X, 1, none⟩ = some (.string g.x.o) ∧ w.cell? ⟨X, 2, none⟩ = some (.int .i64 g.x.t) ∧ w.cell? ⟨X, 3, none⟩ = some (.int .i64 g.x.c) ∧ w.cell? ⟨X, 4, none⟩ = some (.int .i64 g.x.l) ∧ w.cell? ⟨X, 5, none⟩ = some (.string g.x.d) ∧ w.cell? ⟨X, 6, none⟩ = some (.string g.own) ∧ w.cell? ⟨X, 7, none⟩ = some (.string g.nx) ∧ w.cell? ⟨X, 8, none⟩ = some (.string g.salt) ∧ w.cell? ⟨X, 9, none⟩ = some (.int .i64 g.rounds) := by
  refine ⟨?_, ?_, ?_, ?_, ?_, ?_, ?_, ?_, ?_, ?_⟩ <;> (simp only [World.cell?, h]; rfl)
def hashC (g : Gp) (v : Value) : Array Value := #[v, .string g.x.o, .int .i64 g.x.t, .int .i64 g.x.c, .int .i64 g.x.l, .string g.x.d, .string g.own, .string g.nx, .string g.salt, .int .i64 g.rounds]
set_option maxRecDepth 100000 in
set_option maxHeartbeats 2000000 in
theorem nmatches_any (g : Gp) (a : Option Addr) (n c : Nat) (N : ByteArray) (w : World) (hk : OkG g) (hN : N.size ≤ 1048576) :
    Calls Tryz.prog 42 #[.agg (nameC g (.slice a n c)), .string N] w fun e w' => e = .returned (.bool (equalS g.x.o.data.toList N.data.toList)) ∧ Below w.heap.size w w' := by
  have CC := Lib.hid (fun (wx : World) (hB : Below w.heap.size w wx) => nameB.nequal_any g.x.o N wx (by have := hk.o; omega) (by omega))
  dsimp only [nameC]
  have hB0 := (Below.refl w.heap.size w).alloc (Nat.le_refl _) (.cells #[.slice a n c, .string g.x.o, .int .i64 g.x.t, .int .i64 g.x.c, .int .i64 g.x.l, .string g.x.d, .string g.x.o, .string g.nx] 58)
  have hx := heap_alloc_new w (.cells #[.slice a n c, .string g.x.o, .int .i64 g.x.t, .int .i64 g.x.c, .int .i64 g.x.l, .string g.x.d, .string g.x.o, .string g.nx] 58)
  obtain ⟨X, hX⟩ : ∃ X, w.heap.size = X := ⟨_, rfl⟩
  obtain ⟨W, hW⟩ : ∃ W, w.alloc (.cells #[.slice a n c, .string g.x.o, .int .i64 g.x.t, .int .i64 g.x.c, .int .i64 g.x.l, .string g.x.d, .string g.x.o, .string g.nx] 58) = W := ⟨_, rfl⟩
  rw [hW] at hB0 hx
  rw [hX] at hx
  obtain ⟨d0, d1, d2, d3, d4, d5, d6, d7⟩ := cells8 hx
  have HX := Lib.hid hX; have HW := Lib.hid hW; have HB0 := Lib.hid hB0; have HXX := Lib.hid hx
  go_enter Tryz.func42, Tryz.ntmps42
  go_upto_region 1 with fail
  try rw [HW.out]
  try rw [HX.out]
  go_wp2_with fail
  refine (CC.out W HB0.out).mono ?_
  rintro e w1 ⟨rfl, hBz⟩
  have HBw1 := Lib.hid (HB0.out.trans (hBz.mono HB0.out.size))
  clear hBz
  go_wp2_with fail
  go_ret
  first | exact ⟨rfl, HBw1.out⟩ | exact ⟨rfl, HX.out ▸ HBw1.out⟩
set_option maxRecDepth 100000 in
set_option maxHeartbeats 2000000 in
theorem ncovers_any (g : Gp) (a : Option Addr) (n c : Nat) (N : ByteArray) (w : World) (hk : OkG g) (hN : N.size ≤ 1048576) :
    Calls Tryz.prog 58 #[.agg (nameC g (.slice a n c)), .string N] w fun e w' => e = .returned (.bool (cov.covS g.x.o.data.toList g.nx.data.toList N.data.toList)) ∧ Below w.heap.size w w' := by
  have CC := Lib.hid (fun (wx : World) (hB : Below w.heap.size w wx) => cov.ncovers_any g.x.o g.nx N wx hk.o hk.nx hN)
  dsimp only [nameC]
  have hB0 := (Below.refl w.heap.size w).alloc (Nat.le_refl _) (.cells #[.slice a n c, .string g.x.o, .int .i64 g.x.t, .int .i64 g.x.c, .int .i64 g.x.l, .string g.x.d, .string g.x.o, .string g.nx] 58)
  have hx := heap_alloc_new w (.cells #[.slice a n c, .string g.x.o, .int .i64 g.x.t, .int .i64 g.x.c, .int .i64 g.x.l, .string g.x.d, .string g.x.o, .string g.nx] 58)
  obtain ⟨X, hX⟩ : ∃ X, w.heap.size = X := ⟨_, rfl⟩
  obtain ⟨W, hW⟩ : ∃ W, w.alloc (.cells #[.slice a n c, .string g.x.o, .int .i64 g.x.t, .int .i64 g.x.c, .int .i64 g.x.l, .string g.x.d, .string g.x.o, .string g.nx] 58) = W := ⟨_, rfl⟩
  rw [hW] at hB0 hx
  rw [hX] at hx
  obtain ⟨d0, d1, d2, d3, d4, d5, d6, d7⟩ := cells8 hx
  have HX := Lib.hid hX; have HW := Lib.hid hW; have HB0 := Lib.hid hB0; have HXX := Lib.hid hx
  go_enter Tryz.func58, Tryz.ntmps58
  go_upto_region 1 with fail
  try rw [HW.out]
  try rw [HX.out]
  go_wp2_with fail
  refine (CC.out W HB0.out).mono ?_
  rintro e w1 ⟨rfl, hBz⟩
  have HBw1 := Lib.hid (HB0.out.trans (hBz.mono HB0.out.size))
  clear hBz
  go_wp2_with fail
  go_ret
  first | exact ⟨rfl, HBw1.out⟩ | exact ⟨rfl, HX.out ▸ HBw1.out⟩
set_option maxRecDepth 100000 in
set_option maxHeartbeats 2000000 in
theorem hhash_any (g : Gp) (a : Option Addr) (n c : Nat) (N : ByteArray) (w : World) (hk : OkG g) (hN : N.size ≤ 1048576) :
    Calls Tryz.prog 60 #[.agg (hashC g (.slice a n c)), .string N] w fun e w' => e = .returned (.string ⟨(hashOf g N.data.toList).toArray⟩) ∧ Below w.heap.size w w' := by
  have CC := Lib.hid (fun (wx : World) (hB : Below w.heap.size w wx) => hash.nhash_any N g.salt g.rounds wx (by omega) (by have := hk.salt; omega))
  dsimp only [hashC]
  unfold hash.Ret2 at CC
  have hB0 := (Below.refl w.heap.size w).alloc (Nat.le_refl _) (.cells #[.slice a n c, .string g.x.o, .int .i64 g.x.t, .int .i64 g.x.c, .int .i64 g.x.l, .string g.x.d, .string g.own, .string g.nx, .string g.salt, .int .i64 g.rounds] 63)
  have hx := heap_alloc_new w (.cells #[.slice a n c, .string g.x.o, .int .i64 g.x.t, .int .i64 g.x.c, .int .i64 g.x.l, .string g.x.d, .string g.own, .string g.nx, .string g.salt, .int .i64 g.rounds] 63)
  obtain ⟨X, hX⟩ : ∃ X, w.heap.size = X := ⟨_, rfl⟩
  obtain ⟨W, hW⟩ : ∃ W, w.alloc (.cells #[.slice a n c, .string g.x.o, .int .i64 g.x.t, .int .i64 g.x.c, .int .i64 g.x.l, .string g.x.d, .string g.own, .string g.nx, .string g.salt, .int .i64 g.rounds] 63) = W := ⟨_, rfl⟩
  rw [hW] at hB0 hx
  rw [hX] at hx
  obtain ⟨d0, d1, d2, d3, d4, d5, d6, d7, d8, d9⟩ := cells10 hx
  have HX := Lib.hid hX; have HW := Lib.hid hW; have HB0 := Lib.hid hB0; have HXX := Lib.hid hx
  go_enter Tryz.func60, Tryz.ntmps60
  go_upto_region 1 with fail
  try rw [HW.out]
  try rw [HX.out]
  go_wp2_with fail
  refine (CC.out W HB0.out).mono ?_
  rintro e w1 ⟨rfl, hBz⟩
  have HBw1 := Lib.hid (HB0.out.trans (hBz.mono HB0.out.size))
  clear hBz
  go_wp2_with fail
  go_ret
  first | exact ⟨rfl, HBw1.out⟩ | exact ⟨rfl, HX.out ▸ HBw1.out⟩
theorem cmp_any (a b : ByteArray) (w : World) : Calls Tryz.prog 61 #[.string a, .string b] w fun e w' => e = .returned (.int .i64 (Lib.compareBytes a.data.toList b.data.toList)) ∧ Below w.heap.size w w' :=
  (Tryz.strings_Compare a b w).mono fun e w' h => by
    obtain ⟨h1, h2⟩ := h
    subst h2
    exact ⟨by rw [h1], Below.refl _ _⟩
set_option maxRecDepth 100000 in
set_option maxHeartbeats 1000000 in
theorem hbetween_any (a b x : ByteArray) (w : World) (ha : a.size ≤ 1048576) (hb : b.size ≤ 1048576) (hx : x.size ≤ 1048576) :
    Calls Tryz.prog 59 #[.string a, .string b, .string x, .func (.func 61) #[] #[]] w fun e w' => e = .returned (.bool (betB a.data.toList b.data.toList x.data.toList)) ∧ Below w.heap.size w w' := by
  obtain ⟨ab, HAB⟩ : ∃ c, Hid (Lib.compareBytes a.data.toList b.data.toList = c) := ⟨_, Lib.hid rfl⟩
  obtain ⟨ax, HAX⟩ : ∃ c, Hid (Lib.compareBytes a.data.toList x.data.toList = c) := ⟨_, Lib.hid rfl⟩
  obtain ⟨xb, HXB⟩ : ∃ c, Hid (Lib.compareBytes x.data.toList b.data.toList = c) := ⟨_, Lib.hid rfl⟩
  obtain ⟨R, HR⟩ : ∃ R, Hid ((if decide (ab < 0) then decide (ax < 0) && decide (xb < 0) else decide (ax < 0) || decide (xb < 0)) = R) := ⟨_, Lib.hid rfl⟩
  have e : betB a.data.toList b.data.toList x.data.toList = R := by unfold betB ltB; rw [HAB.out, HAX.out, HXB.out]; exact HR.out
  rw [e]
  clear e
  go_enter Tryz.func59, Tryz.ntmps59
  go_wp2_with fail
  refine (cmp_any a b _).mono ?_
  rintro e w1 ⟨rfl, hB1⟩
  rw [HAB.out]
  have hC1 := hB1
  rcases cov.lt_cases ab with ⟨p1, d1⟩ | ⟨p1, d1⟩
  · have D1 := Lib.hid d1
    go_wp2_with fail
    refine (cmp_any a x _).mono ?_
    rintro e w2 ⟨rfl, hB2⟩
    rw [HAX.out]
    have hC2 := hC1.trans (hB2.mono hC1.size)
    rcases cov.lt_cases ax with ⟨p2, d2⟩ | ⟨p2, d2⟩
    · have D2 := Lib.hid d2
      go_wp2_with fail
      refine (cmp_any x b _).mono ?_
      rintro e w3 ⟨rfl, hB3⟩
      rw [HXB.out]
      have hC3 := hC2.trans (hB3.mono hC2.size)
      rcases cov.lt_cases xb with ⟨p3, d3⟩ | ⟨p3, d3⟩
      · have D3 := Lib.hid d3
        go_wp2
        go_ret
        exact ⟨ret_bool (by rw [← HR.out]; simp [D1.out, D2.out, D3.out]), hC3⟩
      · have D3 := Lib.hid d3
        go_wp2
        go_ret
        exact ⟨ret_bool (by rw [← HR.out]; simp [D1.out, D2.out, D3.out]), hC3⟩
    · have D2 := Lib.hid d2
      go_wp2
      go_ret
      exact ⟨ret_bool (by rw [← HR.out]; simp [D1.out, D2.out]), hC2⟩
  · have D1 := Lib.hid d1
    go_wp2_with fail
    refine (cmp_any a x _).mono ?_
    rintro e w2 ⟨rfl, hB2⟩
    rw [HAX.out]
    have hC2 := hC1.trans (hB2.mono hC1.size)
    rcases cov.lt_cases ax with ⟨p2, d2⟩ | ⟨p2, d2⟩
    · have D2 := Lib.hid d2
      go_wp2
      go_ret
      exact ⟨ret_bool (by rw [← HR.out]; simp [D1.out, D2.out]), hC2⟩
    · have D2 := Lib.hid d2
      go_wp2_with fail
      refine (cmp_any x b _).mono ?_
      rintro e w3 ⟨rfl, hB3⟩
      rw [HXB.out]
      have hC3 := hC2.trans (hB3.mono hC2.size)
      rcases cov.lt_cases xb with ⟨p3, d3⟩ | ⟨p3, d3⟩
      · have D3 := Lib.hid d3
        go_wp2
        go_ret
        exact ⟨ret_bool (by rw [← HR.out]; simp [D1.out, D2.out, D3.out]), hC3⟩
      · have D3 := Lib.hid d3
        go_wp2
        go_ret
        exact ⟨ret_bool (by rw [← HR.out]; simp [D1.out, D2.out, D3.out]), hC3⟩

end Go.Proofs.YtanoiiodnddkfaaGreat.gapN
namespace Go.Proofs.YtanoiiodnddkfaaGreat.keepN
open Go.RowKit
set_option linter.unusedVariables false

theorem ck {w w' : World} {a : Addr} {v : Value} (hB : Below w.heap.size w w') (ha : w.cell? a = some v) : w'.cell? a = some v := (hB.cell (p := a) (World.block_lt_of_cell? w _ ha)).trans ha
theorem k1 {W w w' : World} {a0 : Addr} {v0 : Value} (h : w.cell? a0 = some v0 ∧ Below W.heap.size W w) (hB : Below w.heap.size w w') :
    w'.cell? a0 = some v0 ∧ Below W.heap.size W w' := by
  obtain ⟨c0, h9⟩ := h
  exact ⟨ck hB c0, h9.trans (hB.mono h9.size)⟩
theorem k2 {W w w' : World} {a0 a1 : Addr} {v0 v1 : Value} (h : w.cell? a0 = some v0 ∧ w.cell? a1 = some v1 ∧ Below W.heap.size W w) (hB : Below w.heap.size w w') :
    w'.cell? a0 = some v0 ∧ w'.cell? a1 = some v1 ∧ Below W.heap.size W w' := by
  obtain ⟨c0, c1, h9⟩ := h
  exact ⟨ck hB c0, ck hB c1, h9.trans (hB.mono h9.size)⟩
theorem k3 {W w w' : World} {a0 a1 a2 : Addr} {v0 v1 v2 : Value} (h : w.cell? a0 = some v0 ∧ w.cell? a1 = some v1 ∧ w.cell? a2 = some v2 ∧ Below W.heap.size W w) (hB : Below w.heap.size w w') :
    w'.cell? a0 = some v0 ∧ w'.cell? a1 = some v1 ∧ w'.cell? a2 = some v2 ∧ Below W.heap.size W w' := by
  obtain ⟨c0, c1, c2, h9⟩ := h
  exact ⟨ck hB c0, ck hB c1, ck hB c2, h9.trans (hB.mono h9.size)⟩
theorem k4 {W w w' : World} {a0 a1 a2 a3 : Addr} {v0 v1 v2 v3 : Value} (h : w.cell? a0 = some v0 ∧ w.cell? a1 = some v1 ∧ w.cell? a2 = some v2 ∧ w.cell? a3 = some v3 ∧ Below W.heap.size W w) (hB : Below w.heap.size w w') :
    w'.cell? a0 = some v0 ∧ w'.cell? a1 = some v1 ∧ w'.cell? a2 = some v2 ∧ w'.cell? a3 = some v3 ∧ Below W.heap.size W w' := by
  obtain ⟨c0, c1, c2, c3, h9⟩ := h
  exact ⟨ck hB c0, ck hB c1, ck hB c2, ck hB c3, h9.trans (hB.mono h9.size)⟩
theorem k5 {W w w' : World} {a0 a1 a2 a3 a4 : Addr} {v0 v1 v2 v3 v4 : Value} (h : w.cell? a0 = some v0 ∧ w.cell? a1 = some v1 ∧ w.cell? a2 = some v2 ∧ w.cell? a3 = some v3 ∧ w.cell? a4 = some v4 ∧ Below W.heap.size W w) (hB : Below w.heap.size w w') :
    w'.cell? a0 = some v0 ∧ w'.cell? a1 = some v1 ∧ w'.cell? a2 = some v2 ∧ w'.cell? a3 = some v3 ∧ w'.cell? a4 = some v4 ∧ Below W.heap.size W w' := by
  obtain ⟨c0, c1, c2, c3, c4, h9⟩ := h
  exact ⟨ck hB c0, ck hB c1, ck hB c2, ck hB c3, ck hB c4, h9.trans (hB.mono h9.size)⟩
theorem k6 {W w w' : World} {a0 a1 a2 a3 a4 a5 : Addr} {v0 v1 v2 v3 v4 v5 : Value} (h : w.cell? a0 = some v0 ∧ w.cell? a1 = some v1 ∧ w.cell? a2 = some v2 ∧ w.cell? a3 = some v3 ∧ w.cell? a4 = some v4 ∧ w.cell? a5 = some v5 ∧ Below W.heap.size W w) (hB : Below w.heap.size w w') :
    w'.cell? a0 = some v0 ∧ w'.cell? a1 = some v1 ∧ w'.cell? a2 = some v2 ∧ w'.cell? a3 = some v3 ∧ w'.cell? a4 = some v4 ∧ w'.cell? a5 = some v5 ∧ Below W.heap.size W w' := by
  obtain ⟨c0, c1, c2, c3, c4, c5, h9⟩ := h
  exact ⟨ck hB c0, ck hB c1, ck hB c2, ck hB c3, ck hB c4, ck hB c5, h9.trans (hB.mono h9.size)⟩
theorem k7 {W w w' : World} {a0 a1 a2 a3 a4 a5 a6 : Addr} {v0 v1 v2 v3 v4 v5 v6 : Value} (h : w.cell? a0 = some v0 ∧ w.cell? a1 = some v1 ∧ w.cell? a2 = some v2 ∧ w.cell? a3 = some v3 ∧ w.cell? a4 = some v4 ∧ w.cell? a5 = some v5 ∧ w.cell? a6 = some v6 ∧ Below W.heap.size W w) (hB : Below w.heap.size w w') :
    w'.cell? a0 = some v0 ∧ w'.cell? a1 = some v1 ∧ w'.cell? a2 = some v2 ∧ w'.cell? a3 = some v3 ∧ w'.cell? a4 = some v4 ∧ w'.cell? a5 = some v5 ∧ w'.cell? a6 = some v6 ∧ Below W.heap.size W w' := by
  obtain ⟨c0, c1, c2, c3, c4, c5, c6, h9⟩ := h
  exact ⟨ck hB c0, ck hB c1, ck hB c2, ck hB c3, ck hB c4, ck hB c5, ck hB c6, h9.trans (hB.mono h9.size)⟩
theorem k8 {W w w' : World} {a0 a1 a2 a3 a4 a5 a6 a7 : Addr} {v0 v1 v2 v3 v4 v5 v6 v7 : Value} (h : w.cell? a0 = some v0 ∧ w.cell? a1 = some v1 ∧ w.cell? a2 = some v2 ∧ w.cell? a3 = some v3 ∧ w.cell? a4 = some v4 ∧ w.cell? a5 = some v5 ∧ w.cell? a6 = some v6 ∧ w.cell? a7 = some v7 ∧ Below W.heap.size W w) (hB : Below w.heap.size w w') :
    w'.cell? a0 = some v0 ∧ w'.cell? a1 = some v1 ∧ w'.cell? a2 = some v2 ∧ w'.cell? a3 = some v3 ∧ w'.cell? a4 = some v4 ∧ w'.cell? a5 = some v5 ∧ w'.cell? a6 = some v6 ∧ w'.cell? a7 = some v7 ∧ Below W.heap.size W w' := by
  obtain ⟨c0, c1, c2, c3, c4, c5, c6, c7, h9⟩ := h
  exact ⟨ck hB c0, ck hB c1, ck hB c2, ck hB c3, ck hB c4, ck hB c5, ck hB c6, ck hB c7, h9.trans (hB.mono h9.size)⟩
theorem k9 {W w w' : World} {a0 a1 a2 a3 a4 a5 a6 a7 a8 : Addr} {v0 v1 v2 v3 v4 v5 v6 v7 v8 : Value} (h : w.cell? a0 = some v0 ∧ w.cell? a1 = some v1 ∧ w.cell? a2 = some v2 ∧ w.cell? a3 = some v3 ∧ w.cell? a4 = some v4 ∧ w.cell? a5 = some v5 ∧ w.cell? a6 = some v6 ∧ w.cell? a7 = some v7 ∧ w.cell? a8 = some v8 ∧ Below W.heap.size W w) (hB : Below w.heap.size w w') :
    w'.cell? a0 = some v0 ∧ w'.cell? a1 = some v1 ∧ w'.cell? a2 = some v2 ∧ w'.cell? a3 = some v3 ∧ w'.cell? a4 = some v4 ∧ w'.cell? a5 = some v5 ∧ w'.cell? a6 = some v6 ∧ w'.cell? a7 = some v7 ∧ w'.cell? a8 = some v8 ∧ Below W.heap.size W w' := by
  obtain ⟨c0, c1, c2, c3, c4, c5, c6, c7, c8, h9⟩ := h
  exact ⟨ck hB c0, ck hB c1, ck hB c2, ck hB c3, ck hB c4, ck hB c5, ck hB c6, ck hB c7, ck hB c8, h9.trans (hB.mono h9.size)⟩
theorem k10 {W w w' : World} {a0 a1 a2 a3 a4 a5 a6 a7 a8 a9 : Addr} {v0 v1 v2 v3 v4 v5 v6 v7 v8 v9 : Value} (h : w.cell? a0 = some v0 ∧ w.cell? a1 = some v1 ∧ w.cell? a2 = some v2 ∧ w.cell? a3 = some v3 ∧ w.cell? a4 = some v4 ∧ w.cell? a5 = some v5 ∧ w.cell? a6 = some v6 ∧ w.cell? a7 = some v7 ∧ w.cell? a8 = some v8 ∧ w.cell? a9 = some v9 ∧ Below W.heap.size W w) (hB : Below w.heap.size w w') :
    w'.cell? a0 = some v0 ∧ w'.cell? a1 = some v1 ∧ w'.cell? a2 = some v2 ∧ w'.cell? a3 = some v3 ∧ w'.cell? a4 = some v4 ∧ w'.cell? a5 = some v5 ∧ w'.cell? a6 = some v6 ∧ w'.cell? a7 = some v7 ∧ w'.cell? a8 = some v8 ∧ w'.cell? a9 = some v9 ∧ Below W.heap.size W w' := by
  obtain ⟨c0, c1, c2, c3, c4, c5, c6, c7, c8, c9, h9⟩ := h
  exact ⟨ck hB c0, ck hB c1, ck hB c2, ck hB c3, ck hB c4, ck hB c5, ck hB c6, ck hB c7, ck hB c8, ck hB c9, h9.trans (hB.mono h9.size)⟩
theorem k11 {W w w' : World} {a0 a1 a2 a3 a4 a5 a6 a7 a8 a9 a10 : Addr} {v0 v1 v2 v3 v4 v5 v6 v7 v8 v9 v10 : Value} (h : w.cell? a0 = some v0 ∧ w.cell? a1 = some v1 ∧ w.cell? a2 = some v2 ∧ w.cell? a3 = some v3 ∧ w.cell? a4 = some v4 ∧ w.cell? a5 = some v5 ∧ w.cell? a6 = some v6 ∧ w.cell? a7 = some v7 ∧ w.cell? a8 = some v8 ∧ w.cell? a9 = some v9 ∧ w.cell? a10 = some v10 ∧ Below W.heap.size W w) (hB : Below w.heap.size w w') :
    w'.cell? a0 = some v0 ∧ w'.cell? a1 = some v1 ∧ w'.cell? a2 = some v2 ∧ w'.cell? a3 = some v3 ∧ w'.cell? a4 = some v4 ∧ w'.cell? a5 = some v5 ∧ w'.cell? a6 = some v6 ∧ w'.cell? a7 = some v7 ∧ w'.cell? a8 = some v8 ∧ w'.cell? a9 = some v9 ∧ w'.cell? a10 = some v10 ∧ Below W.heap.size W w' := by
  obtain ⟨c0, c1, c2, c3, c4, c5, c6, c7, c8, c9, c10, h9⟩ := h
  exact ⟨ck hB c0, ck hB c1, ck hB c2, ck hB c3, ck hB c4, ck hB c5, ck hB c6, ck hB c7, ck hB c8, ck hB c9, ck hB c10, h9.trans (hB.mono h9.size)⟩
theorem k12 {W w w' : World} {a0 a1 a2 a3 a4 a5 a6 a7 a8 a9 a10 a11 : Addr} {v0 v1 v2 v3 v4 v5 v6 v7 v8 v9 v10 v11 : Value} (h : w.cell? a0 = some v0 ∧ w.cell? a1 = some v1 ∧ w.cell? a2 = some v2 ∧ w.cell? a3 = some v3 ∧ w.cell? a4 = some v4 ∧ w.cell? a5 = some v5 ∧ w.cell? a6 = some v6 ∧ w.cell? a7 = some v7 ∧ w.cell? a8 = some v8 ∧ w.cell? a9 = some v9 ∧ w.cell? a10 = some v10 ∧ w.cell? a11 = some v11 ∧ Below W.heap.size W w) (hB : Below w.heap.size w w') :
    w'.cell? a0 = some v0 ∧ w'.cell? a1 = some v1 ∧ w'.cell? a2 = some v2 ∧ w'.cell? a3 = some v3 ∧ w'.cell? a4 = some v4 ∧ w'.cell? a5 = some v5 ∧ w'.cell? a6 = some v6 ∧ w'.cell? a7 = some v7 ∧ w'.cell? a8 = some v8 ∧ w'.cell? a9 = some v9 ∧ w'.cell? a10 = some v10 ∧ w'.cell? a11 = some v11 ∧ Below W.heap.size W w' := by
  obtain ⟨c0, c1, c2, c3, c4, c5, c6, c7, c8, c9, c10, c11, h9⟩ := h
  exact ⟨ck hB c0, ck hB c1, ck hB c2, ck hB c3, ck hB c4, ck hB c5, ck hB c6, ck hB c7, ck hB c8, ck hB c9, ck hB c10, ck hB c11, h9.trans (hB.mono h9.size)⟩
theorem k13 {W w w' : World} {a0 a1 a2 a3 a4 a5 a6 a7 a8 a9 a10 a11 a12 : Addr} {v0 v1 v2 v3 v4 v5 v6 v7 v8 v9 v10 v11 v12 : Value} (h : w.cell? a0 = some v0 ∧ w.cell? a1 = some v1 ∧ w.cell? a2 = some v2 ∧ w.cell? a3 = some v3 ∧ w.cell? a4 = some v4 ∧ w.cell? a5 = some v5 ∧ w.cell? a6 = some v6 ∧ w.cell? a7 = some v7 ∧ w.cell? a8 = some v8 ∧ w.cell? a9 = some v9 ∧ w.cell? a10 = some v10 ∧ w.cell? a11 = some v11 ∧ w.cell? a12 = some v12 ∧ Below W.heap.size W w) (hB : Below w.heap.size w w') :
    w'.cell? a0 = some v0 ∧ w'.cell? a1 = some v1 ∧ w'.cell? a2 = some v2 ∧ w'.cell? a3 = some v3 ∧ w'.cell? a4 = some v4 ∧ w'.cell? a5 = some v5 ∧ w'.cell? a6 = some v6 ∧ w'.cell? a7 = some v7 ∧ w'.cell? a8 = some v8 ∧ w'.cell? a9 = some v9 ∧ w'.cell? a10 = some v10 ∧ w'.cell? a11 = some v11 ∧ w'.cell? a12 = some v12 ∧ Below W.heap.size W w' := by
  obtain ⟨c0, c1, c2, c3, c4, c5, c6, c7, c8, c9, c10, c11, c12, h9⟩ := h
  exact ⟨ck hB c0, ck hB c1, ck hB c2, ck hB c3, ck hB c4, ck hB c5, ck hB c6, ck hB c7, ck hB c8, ck hB c9, ck hB c10, ck hB c11, ck hB c12, h9.trans (hB.mono h9.size)⟩
theorem k14 {W w w' : World} {a0 a1 a2 a3 a4 a5 a6 a7 a8 a9 a10 a11 a12 a13 : Addr} {v0 v1 v2 v3 v4 v5 v6 v7 v8 v9 v10 v11 v12 v13 : Value} (h : w.cell? a0 = some v0 ∧ w.cell? a1 = some v1 ∧ w.cell? a2 = some v2 ∧ w.cell? a3 = some v3 ∧ w.cell? a4 = some v4 ∧ w.cell? a5 = some v5 ∧ w.cell? a6 = some v6 ∧ w.cell? a7 = some v7 ∧ w.cell? a8 = some v8 ∧ w.cell? a9 = some v9 ∧ w.cell? a10 = some v10 ∧ w.cell? a11 = some v11 ∧ w.cell? a12 = some v12 ∧ w.cell? a13 = some v13 ∧ Below W.heap.size W w) (hB : Below w.heap.size w w') :
    w'.cell? a0 = some v0 ∧ w'.cell? a1 = some v1 ∧ w'.cell? a2 = some v2 ∧ w'.cell? a3 = some v3 ∧ w'.cell? a4 = some v4 ∧ w'.cell? a5 = some v5 ∧ w'.cell? a6 = some v6 ∧ w'.cell? a7 = some v7 ∧ w'.cell? a8 = some v8 ∧ w'.cell? a9 = some v9 ∧ w'.cell? a10 = some v10 ∧ w'.cell? a11 = some v11 ∧ w'.cell? a12 = some v12 ∧ w'.cell? a13 = some v13 ∧ Below W.heap.size W w' := by
  obtain ⟨c0, c1, c2, c3, c4, c5, c6, c7, c8, c9, c10, c11, c12, c13, h9⟩ := h
  exact ⟨ck hB c0, ck hB c1, ck hB c2, ck hB c3, ck hB c4, ck hB c5, ck hB c6, ck hB c7, ck hB c8, ck hB c9, ck hB c10, ck hB c11, ck hB c12, ck hB c13, h9.trans (hB.mono h9.size)⟩
theorem k15 {W w w' : World} {a0 a1 a2 a3 a4 a5 a6 a7 a8 a9 a10 a11 a12 a13 a14 : Addr} {v0 v1 v2 v3 v4 v5 v6 v7 v8 v9 v10 v11 v12 v13 v14 : Value} (h : w.cell? a0 = some v0 ∧ w.cell? a1 = some v1 ∧ w.cell? a2 = some v2 ∧ w.cell? a3 = some v3 ∧ w.cell? a4 = some v4 ∧ w.cell? a5 = some v5 ∧ w.cell? a6 = some v6 ∧ w.cell? a7 = some v7 ∧ w.cell? a8 = some v8 ∧ w.cell? a9 = some v9 ∧ w.cell? a10 = some v10 ∧ w.cell? a11 = some v11 ∧ w.cell? a12 = some v12 ∧ w.cell? a13 = some v13 ∧ w.cell? a14 = some v14 ∧ Below W.heap.size W w) (hB : Below w.heap.size w w') :
    w'.cell? a0 = some v0 ∧ w'.cell? a1 = some v1 ∧ w'.cell? a2 = some v2 ∧ w'.cell? a3 = some v3 ∧ w'.cell? a4 = some v4 ∧ w'.cell? a5 = some v5 ∧ w'.cell? a6 = some v6 ∧ w'.cell? a7 = some v7 ∧ w'.cell? a8 = some v8 ∧ w'.cell? a9 = some v9 ∧ w'.cell? a10 = some v10 ∧ w'.cell? a11 = some v11 ∧ w'.cell? a12 = some v12 ∧ w'.cell? a13 = some v13 ∧ w'.cell? a14 = some v14 ∧ Below W.heap.size W w' := by
  obtain ⟨c0, c1, c2, c3, c4, c5, c6, c7, c8, c9, c10, c11, c12, c13, c14, h9⟩ := h
  exact ⟨ck hB c0, ck hB c1, ck hB c2, ck hB c3, ck hB c4, ck hB c5, ck hB c6, ck hB c7, ck hB c8, ck hB c9, ck hB c10, ck hB c11, ck hB c12, ck hB c13, ck hB c14, h9.trans (hB.mono h9.size)⟩
theorem k16 {W w w' : World} {a0 a1 a2 a3 a4 a5 a6 a7 a8 a9 a10 a11 a12 a13 a14 a15 : Addr} {v0 v1 v2 v3 v4 v5 v6 v7 v8 v9 v10 v11 v12 v13 v14 v15 : Value} (h : w.cell? a0 = some v0 ∧ w.cell? a1 = some v1 ∧ w.cell? a2 = some v2 ∧ w.cell? a3 = some v3 ∧ w.cell? a4 = some v4 ∧ w.cell? a5 = some v5 ∧ w.cell? a6 = some v6 ∧ w.cell? a7 = some v7 ∧ w.cell? a8 = some v8 ∧ w.cell? a9 = some v9 ∧ w.cell? a10 = some v10 ∧ w.cell? a11 = some v11 ∧ w.cell? a12 = some v12 ∧ w.cell? a13 = some v13 ∧ w.cell? a14 = some v14 ∧ w.cell? a15 = some v15 ∧ Below W.heap.size W w) (hB : Below w.heap.size w w') :
    w'.cell? a0 = some v0 ∧ w'.cell? a1 = some v1 ∧ w'.cell? a2 = some v2 ∧ w'.cell? a3 = some v3 ∧ w'.cell? a4 = some v4 ∧ w'.cell? a5 = some v5 ∧ w'.cell? a6 = some v6 ∧ w'.cell? a7 = some v7 ∧ w'.cell? a8 = some v8 ∧ w'.cell? a9 = some v9 ∧ w'.cell? a10 = some v10 ∧ w'.cell? a11 = some v11 ∧ w'.cell? a12 = some v12 ∧ w'.cell? a13 = some v13 ∧ w'.cell? a14 = some v14 ∧ w'.cell? a15 = some v15 ∧ Below W.heap.size W w' := by
  obtain ⟨c0, c1, c2, c3, c4, c5, c6, c7, c8, c9, c10, c11, c12, c13, c14, c15, h9⟩ := h
  exact ⟨ck hB c0, ck hB c1, ck hB c2, ck hB c3, ck hB c4, ck hB c5, ck hB c6, ck hB c7, ck hB c8, ck hB c9, ck hB c10, ck hB c11, ck hB c12, ck hB c13, ck hB c14, ck hB c15, h9.trans (hB.mono h9.size)⟩
end Go.Proofs.YtanoiiodnddkfaaGreat.keepN
namespace Go.Proofs.YtanoiiodnddkfaaGreat.gapH
open Go.RowKit Go.Proofs.YtanoiiodnddkfaaGreat.kit Go.Proofs.YtanoiiodnddkfaaGreat.nspec Go.Proofs.YtanoiiodnddkfaaGreat.refA Go.Proofs.YtanoiiodnddkfaaGreat.refB Go.Proofs.YtanoiiodnddkfaaGreat.fld Go.Proofs.YtanoiiodnddkfaaGreat.wireP Go.Proofs.YtanoiiodnddkfaaGreat.gapP Go.Proofs.YtanoiiodnddkfaaGreat.bits Go.Proofs.YtanoiiodnddkfaaGreat.ints Go.Proofs.YtanoiiodnddkfaaGreat.gapA Go.Proofs.YtanoiiodnddkfaaGreat.gapB Go.Proofs.YtanoiiodnddkfaaGreat.gapC Go.Proofs.YtanoiiodnddkfaaGreat.gapN Go.Proofs.YtanoiiodnddkfaaGreat.keepN
set_option linter.unusedVariables false

theorem hash_len (g : Gp) (n : Bs) : (hashOf g n).length ≤ 10 := by
  unfold hashOf hash.hashS
  split
  · simp
  · split
    · simp
    · simp only; rw [hash.hI_len]; exact Nat.le_refl _
set_option maxRecDepth 100000 in
set_option maxHeartbeats 4000000 in
theorem hmatches_any (g : Gp) (a : Option Addr) (n c : Nat) (N : ByteArray) (w : World) (hk : OkG g) (hN : N.size ≤ 1048576) (hh : g.hashed = true) :
    Calls Tryz.prog 48 #[.agg (hashC g (.slice a n c)), .string N] w fun e w' => e = .returned (.bool (decide (hashOf g N.data.toList = g.own.data.toList))) ∧ Below w.heap.size w w' := by
  have CH := Lib.hid (fun (wx : World) => hhash_any g a n c N wx hk hN)
  dsimp only [hashC] at CH ⊢
  obtain ⟨H, hH⟩ : ∃ H : ByteArray, (⟨(hashOf g N.data.toList).toArray⟩ : ByteArray) = H := ⟨_, rfl⟩
  have hHd : hashOf g N.data.toList = H.data.toList := by rw [← hH]
  rw [hH] at CH
  rw [hHd]
  obtain ⟨b, hb⟩ : ∃ b, decide (H.data.toList = g.own.data.toList) = b := ⟨_, rfl⟩
  have hq := @str_eqB H g.own
  rw [hb] at hq ⊢
  clear hH hHd hb
  have hB0 := (Below.refl w.heap.size w).alloc (Nat.le_refl _) (.cells #[.slice a n c, .string g.x.o, .int .i64 g.x.t, .int .i64 g.x.c, .int .i64 g.x.l, .string g.x.d, .string g.own, .string g.nx, .string g.salt, .int .i64 g.rounds] 63)
  have hx := heap_alloc_new w (.cells #[.slice a n c, .string g.x.o, .int .i64 g.x.t, .int .i64 g.x.c, .int .i64 g.x.l, .string g.x.d, .string g.own, .string g.nx, .string g.salt, .int .i64 g.rounds] 63)
  obtain ⟨X, hX⟩ : ∃ X, w.heap.size = X := ⟨_, rfl⟩
  obtain ⟨W, hW⟩ : ∃ W, w.alloc (.cells #[.slice a n c, .string g.x.o, .int .i64 g.x.t, .int .i64 g.x.c, .int .i64 g.x.l, .string g.x.d, .string g.own, .string g.nx, .string g.salt, .int .i64 g.rounds] 63) = W := ⟨_, rfl⟩
  rw [hW] at hB0 hx
  rw [hX] at hx
  obtain ⟨d0, d1, d2, d3, d4, d5, d6, d7, d8, d9⟩ := cells10 hx
  have HX := Lib.hid hX; have HW := Lib.hid hW; have HB0 := Lib.hid hB0; have HXX := Lib.hid hx
  clear hB0 hx hX hW d0 d1 d2 d3 d4 d5 d6 d7 d8 d9
  go_enter Tryz.func48, Tryz.ntmps48
  go_upto_region 1 with fail
  try rw [HW.out]
  try rw [HX.out]
  obtain ⟨d0, d1, d2, d3, d4, d5, d6, d7, d8, d9⟩ := cells10 (show W.drew.heap[X]? = _ from HXX.out)
  have hS0 : W.drew.cell? ⟨X, 0, none⟩ = some (.slice a n c) ∧ W.drew.cell? ⟨X, 1, none⟩ = some (.string g.x.o) ∧ W.drew.cell? ⟨X, 2, none⟩ = some (.int .i64 g.x.t) ∧ W.drew.cell? ⟨X, 3, none⟩ = some (.int .i64 g.x.c) ∧ W.drew.cell? ⟨X, 4, none⟩ = some (.int .i64 g.x.l) ∧ W.drew.cell? ⟨X, 5, none⟩ = some (.string g.x.d) ∧ W.drew.cell? ⟨X, 6, none⟩ = some (.string g.own) ∧ W.drew.cell? ⟨X, 7, none⟩ = some (.string g.nx) ∧ W.drew.cell? ⟨X, 8, none⟩ = some (.string g.salt) ∧ W.drew.cell? ⟨X, 9, none⟩ = some (.int .i64 g.rounds) ∧ Below w.heap.size w W.drew := ⟨d0, d1, d2, d3, d4, d5, d6, d7, d8, d9, HB0.out.drew⟩
  clear d0 d1 d2 d3 d4 d5 d6 d7 d8 d9
  go_region_held3 (fun w' => w'.cell? ⟨X, 0, none⟩ = some (.slice a n c) ∧ w'.cell? ⟨X, 1, none⟩ = some (.string g.x.o) ∧ w'.cell? ⟨X, 2, none⟩ = some (.int .i64 g.x.t) ∧ w'.cell? ⟨X, 3, none⟩ = some (.int .i64 g.x.c) ∧ w'.cell? ⟨X, 4, none⟩ = some (.int .i64 g.x.l) ∧ w'.cell? ⟨X, 5, none⟩ = some (.string g.x.d) ∧ w'.cell? ⟨X, 6, none⟩ = some (.string g.own) ∧ w'.cell? ⟨X, 7, none⟩ = some (.string g.nx) ∧ w'.cell? ⟨X, 8, none⟩ = some (.string g.salt) ∧ w'.cell? ⟨X, 9, none⟩ = some (.int .i64 g.rounds) ∧ Below w.heap.size w w') (first | assumption | (refine ⟨?_, ?_, ?_, ?_, ?_, ?_, ?_, ?_, ?_, ?_, ?_⟩ <;> assumption))
    ((go_at_call 60; refine (CH.out _).mono ?_; rintro e w' ⟨rfl, hBz⟩; have hSz := k10 (by assumption) hBz; clear hBz))
  have HBF := Lib.hid hSz.2.2.2.2.2.2.2.2.2.2
  clear hSz hS0
  go_wp2_with fail
  go_ret
  exact ⟨rfl, HBF.out⟩
set_option maxRecDepth 100000 in
set_option maxHeartbeats 4000000 in
theorem hcovers_any (g : Gp) (a : Option Addr) (n c : Nat) (N : ByteArray) (w : World) (hk : OkG g) (hN : N.size ≤ 1048576) (hh : g.hashed = true) :
    Calls Tryz.prog 32 #[.agg (hashC g (.slice a n c)), .string N] w fun e w' => e = .returned (.bool (betB g.own.data.toList g.nx.data.toList (hashOf g N.data.toList))) ∧ Below w.heap.size w w' := by
  have CH := Lib.hid (fun (wx : World) => hhash_any g a n c N wx hk hN)
  dsimp only [hashC] at CH ⊢
  obtain ⟨H, hH⟩ : ∃ H : ByteArray, (⟨(hashOf g N.data.toList).toArray⟩ : ByteArray) = H := ⟨_, rfl⟩
  have hHd : hashOf g N.data.toList = H.data.toList := by rw [← hH]
  have hHs : H.size ≤ 1048576 := by
    have h1 : H.size = (hashOf g N.data.toList).length := by rw [hHd, size_len]
    have h2 := hash_len g N.data.toList
    omega
  rw [hH] at CH
  rw [hHd]
  have CB := Lib.hid (fun (wx : World) => hbetween_any g.own g.nx H wx (by have := hk.own hh; omega) hk.nx hHs)
  obtain ⟨b, hb⟩ : ∃ b, betB g.own.data.toList g.nx.data.toList H.data.toList = b := ⟨_, rfl⟩
  rw [hb] at CB ⊢
  clear hH hHd hb
  have hB0 := (Below.refl w.heap.size w).alloc (Nat.le_refl _) (.cells #[.slice a n c, .string g.x.o, .int .i64 g.x.t, .int .i64 g.x.c, .int .i64 g.x.l, .string g.x.d, .string g.own, .string g.nx, .string g.salt, .int .i64 g.rounds] 63)
  have hx := heap_alloc_new w (.cells #[.slice a n c, .string g.x.o, .int .i64 g.x.t, .int .i64 g.x.c, .int .i64 g.x.l, .string g.x.d, .string g.own, .string g.nx, .string g.salt, .int .i64 g.rounds] 63)
  obtain ⟨X, hX⟩ : ∃ X, w.heap.size = X := ⟨_, rfl⟩
  obtain ⟨W, hW⟩ : ∃ W, w.alloc (.cells #[.slice a n c, .string g.x.o, .int .i64 g.x.t, .int .i64 g.x.c, .int .i64 g.x.l, .string g.x.d, .string g.own, .string g.nx, .string g.salt, .int .i64 g.rounds] 63) = W := ⟨_, rfl⟩
  rw [hW] at hB0 hx
  rw [hX] at hx
  obtain ⟨d0, d1, d2, d3, d4, d5, d6, d7, d8, d9⟩ := cells10 hx
  have HX := Lib.hid hX; have HW := Lib.hid hW; have HB0 := Lib.hid hB0; have HXX := Lib.hid hx
  clear hB0 hx hX hW d0 d1 d2 d3 d4 d5 d6 d7 d8 d9
  go_enter Tryz.func32, Tryz.ntmps32
  go_upto_region 1 with fail
  try rw [HW.out]
  try rw [HX.out]
  obtain ⟨d0, d1, d2, d3, d4, d5, d6, d7, d8, d9⟩ := cells10 (show W.drew.heap[X]? = _ from HXX.out)
  have hS0 : W.drew.cell? ⟨X, 0, none⟩ = some (.slice a n c) ∧ W.drew.cell? ⟨X, 1, none⟩ = some (.string g.x.o) ∧ W.drew.cell? ⟨X, 2, none⟩ = some (.int .i64 g.x.t) ∧ W.drew.cell? ⟨X, 3, none⟩ = some (.int .i64 g.x.c) ∧ W.drew.cell? ⟨X, 4, none⟩ = some (.int .i64 g.x.l) ∧ W.drew.cell? ⟨X, 5, none⟩ = some (.string g.x.d) ∧ W.drew.cell? ⟨X, 6, none⟩ = some (.string g.own) ∧ W.drew.cell? ⟨X, 7, none⟩ = some (.string g.nx) ∧ W.drew.cell? ⟨X, 8, none⟩ = some (.string g.salt) ∧ W.drew.cell? ⟨X, 9, none⟩ = some (.int .i64 g.rounds) ∧ Below w.heap.size w W.drew := ⟨d0, d1, d2, d3, d4, d5, d6, d7, d8, d9, HB0.out.drew⟩
  clear d0 d1 d2 d3 d4 d5 d6 d7 d8 d9
  go_region_held3 (fun w' => w'.cell? ⟨X, 0, none⟩ = some (.slice a n c) ∧ w'.cell? ⟨X, 1, none⟩ = some (.string g.x.o) ∧ w'.cell? ⟨X, 2, none⟩ = some (.int .i64 g.x.t) ∧ w'.cell? ⟨X, 3, none⟩ = some (.int .i64 g.x.c) ∧ w'.cell? ⟨X, 4, none⟩ = some (.int .i64 g.x.l) ∧ w'.cell? ⟨X, 5, none⟩ = some (.string g.x.d) ∧ w'.cell? ⟨X, 6, none⟩ = some (.string g.own) ∧ w'.cell? ⟨X, 7, none⟩ = some (.string g.nx) ∧ w'.cell? ⟨X, 8, none⟩ = some (.string g.salt) ∧ w'.cell? ⟨X, 9, none⟩ = some (.int .i64 g.rounds) ∧ Below w.heap.size w w') (first | assumption | (refine ⟨?_, ?_, ?_, ?_, ?_, ?_, ?_, ?_, ?_, ?_, ?_⟩ <;> assumption))
    (first | (go_at_call 60; refine (CH.out _).mono ?_; rintro e w' ⟨rfl, hBz⟩; have hSz := k10 (by assumption) hBz; clear hBz) | (go_at_call 59; refine (CB.out _).mono ?_; rintro e w' ⟨rfl, hBz⟩; have hSz := k10 (by assumption) hBz; clear hBz))
  have HBF := Lib.hid hSz.2.2.2.2.2.2.2.2.2.2
  clear hSz hS0
  go_wp2_with fail
  go_ret
  exact ⟨rfl, HBF.out⟩
end Go.Proofs.YtanoiiodnddkfaaGreat.gapH
namespace Go.Proofs.YtanoiiodnddkfaaGreat.gapI
open Go.RowKit Go.Proofs.YtanoiiodnddkfaaGreat.kit Go.Proofs.YtanoiiodnddkfaaGreat.nspec Go.Proofs.YtanoiiodnddkfaaGreat.refA Go.Proofs.YtanoiiodnddkfaaGreat.refB Go.Proofs.YtanoiiodnddkfaaGreat.fld Go.Proofs.YtanoiiodnddkfaaGreat.wireP Go.Proofs.YtanoiiodnddkfaaGreat.gapP Go.Proofs.YtanoiiodnddkfaaGreat.bits Go.Proofs.YtanoiiodnddkfaaGreat.ints Go.Proofs.YtanoiiodnddkfaaGreat.gapA Go.Proofs.YtanoiiodnddkfaaGreat.gapN
set_option linter.unusedVariables false

set_option maxRecDepth 100000 in
set_option maxHeartbeats 2000000 in
theorem types_any (x : Rc) (a : Option Addr) (n c : Nat) (w : World) :
    Calls Tryz.prog 140 #[.agg #[.slice a n c, .string x.o, .int .i64 x.t, .int .i64 x.c, .int .i64 x.l, .string x.d]] w fun e w' => e = .returned (.slice a n c) ∧ Below w.heap.size w w' := by
  have hB0 := (Below.refl w.heap.size w).alloc (Nat.le_refl _) (.cells #[.slice a n c, .string x.o, .int .i64 x.t, .int .i64 x.c, .int .i64 x.l, .string x.d] 56)
  have hx := heap_alloc_new w (.cells #[.slice a n c, .string x.o, .int .i64 x.t, .int .i64 x.c, .int .i64 x.l, .string x.d] 56)
  obtain ⟨X, hX⟩ : ∃ X, w.heap.size = X := ⟨_, rfl⟩
  obtain ⟨W, hW⟩ : ∃ W, w.alloc (.cells #[.slice a n c, .string x.o, .int .i64 x.t, .int .i64 x.c, .int .i64 x.l, .string x.d] 56) = W := ⟨_, rfl⟩
  rw [hW] at hB0 hx
  rw [hX] at hx
  have d0 : W.cell? ⟨X, 0, none⟩ = some (.slice a n c) := by simp only [World.cell?, hx]; rfl
  have HX := Lib.hid hX; have HW := Lib.hid hW; have HB0 := Lib.hid hB0
  clear hX hW hB0 hx
  go_enter Tryz.func140, Tryz.ntmps140
  go_upto_region 1 with fail
  try rw [HW.out]
  try rw [HX.out]
  go_wp2_with fail
  go_ret
  first | exact ⟨rfl, HB0.out⟩ | exact ⟨rfl, HX.out ▸ HB0.out⟩
set_option maxRecDepth 100000 in
set_option maxHeartbeats 2000000 in
theorem index_any (ty : List Nat) (a : Option Addr) (n c : Nat) (t : Int) (w : World) (hn : ty.length = n) (hl : n ≤ 1048576) (hr : RdN w a ty) :
    Calls Tryz.prog 116 #[.slice a n c, .int .i64 t] w fun e w' => ∃ i : Int, e = .returned (.int .i64 i) ∧ decide (0 ≤ i) = ty.any (fun y => (y : Int) == t) ∧ Below w.heap.size w w' := by
  obtain ⟨R, HR⟩ : ∃ R, Hid (ty.any (fun y => (y : Int) == t) = R) := ⟨_, Lib.hid rfl⟩
  rw [HR.out]
  have HS : Hid ((ty.drop 0).any (fun y => (y : Int) == t) = R) := Lib.hid HR.out
  have HRD := Lib.hid hr; have HN := Lib.hid hn
  clear hr HR hn
  go_enter Tryz.func116, Tryz.ntmps116
  go_wp2_with fail
  go_loopg [5, 8] (n + 1) (fun gas _ kv wr => ∃ (k : Nat), kv = .int .i64 k ∧ k ≤ n ∧ k + gas = n + 1 ∧ Hid ((ty.drop k).any (fun y => (y : Int) == t) = R) ∧ Below w.heap.size w wr)
  case atStart => exact ⟨0, rfl, by omega, by omega, HS, Below.refl _ _⟩
  case round =>
    obtain ⟨k, rfl, hk, hkg, HW2, hB⟩ := hrel
    have HKG := Lib.hid hkg; clear hkg
    have HB := Lib.hid hB; clear hB
    by_cases hlt : k < n
    · obtain ⟨y, hy⟩ : ∃ y, ty[k]? = some y := ⟨_, List.getElem?_eq_getElem (by have := HN.out; omega)⟩
      obtain ⟨g, of, rfl, hg, hcy⟩ := HRD.out k y hy
      have hcw := (HB.out.cell (p := ⟨g, of + k, none⟩) hg).trans hcy
      unfold bitV at hcw
      have zk : (0 : Int) ≤ (k : Int) := by omega
      have zl : (k : Int) < (n : Int) := by omega
      have HSTEP := any_step hy HW2.out
      clear hg hcy
      by_cases he : t = (y : Int)
      · have he' : (t == (y : Int)) = true := by rw [beq_iff_eq]; exact he
        have he2 : ((y : Int) == t) = true := by rw [beq_iff_eq]; exact he.symm
        have HT : Hid (R = true) := Lib.hid (by rw [← HSTEP, he2]; rfl)
        clear he he2 hy HSTEP
        go_wp2_with fail
        go_ret
        exact ⟨(k : Int), rfl, by rw [HT.out]; exact decide_eq_true zk, HB.out⟩
      · have he' : (t == (y : Int)) = false := by rw [beq_eq_false_iff_ne]; exact he
        have he2 : ((y : Int) == t) = false := by rw [beq_eq_false_iff_ne]; exact fun h => he h.symm
        have HT := Lib.hid (show ((ty.drop (k + 1)).any (fun y => (y : Int) == t)) = R by rw [← HSTEP, he2]; rfl)
        clear he he2 hy HSTEP
        go_wp2_with fail
        have hkg := HKG.out
        go_roundg (gk - 1)
        case rel => exact ⟨k + 1, by go_num, by omega, by omega, HT, HB.out⟩
        case measure => omega
    · have hnl : ¬ (k : Int) < (n : Int) := by omega
      have HF : Hid (R = false) := Lib.hid (by rw [← HW2.out, List.drop_eq_nil_of_le (by have := HN.out; omega)]; rfl)
      go_wp2_with fail
      go_ret
      exact ⟨-1, rfl, by rw [HF.out]; rfl, HB.out⟩
set_option maxRecDepth 100000 in
set_option maxHeartbeats 1000000 in
theorem contains_any (ty : List Nat) (a : Option Addr) (n c : Nat) (t : Int) (w : World) (hn : ty.length = n) (hl : n ≤ 1048576) (hr : RdN w a ty) :
    Calls Tryz.prog 100 #[.slice a n c, .int .i64 t] w fun e w' => e = .returned (.bool (ty.any (fun y => (y : Int) == t))) ∧ Below w.heap.size w w' := by
  have CI := Lib.hid (index_any ty a n c t w hn hl hr)
  clear hn hr
  go_enter Tryz.func100, Tryz.ntmps100
  go_wp2_with fail
  refine CI.out.mono ?_
  rintro e w1 ⟨i, rfl, hi, hB1⟩
  have HI := Lib.hid hi; have HB := Lib.hid hB1
  clear hi hB1
  go_wp2_with fail
  go_ret
  exact ⟨by rw [← HI.out]; rfl, HB.out⟩
set_option maxRecDepth 100000 in
set_option maxHeartbeats 1000000 in
theorem nhas_any (g : Gp) (a : Option Addr) (n c : Nat) (t : Int) (w : World) (hn : g.ty.length = n) (hl : n ≤ 1048576) (hr : RdN w a g.ty) :
    Calls Tryz.prog 74 #[.iface 58 (.agg (nameC g (.slice a n c))), .int .i64 t] w fun e w' => e = .returned (.bool (says g t)) ∧ Below w.heap.size w w' := by
  have CT := Lib.hid (fun wx => types_any g.x a n c wx)
  have CC := Lib.hid (fun (wx : World) (hB : Below w.heap.size w wx) => contains_any g.ty a n c t wx hn hl (hr.below hB rfl))
  clear hn hr
  unfold says
  dsimp only [nameC]
  go_enter Tryz.func74, Tryz.ntmps74
  go_wp2_with fail
  refine (CT.out w).mono ?_
  rintro e w1 ⟨rfl, hB1⟩
  have HB1 := Lib.hid hB1
  clear hB1
  go_wp2_with fail
  refine (CC.out w1 HB1.out).mono ?_
  rintro e w2 ⟨rfl, hB2⟩
  have HB2 := Lib.hid (HB1.out.trans (hB2.mono HB1.out.size))
  clear hB2
  go_wp2_with fail
  go_ret
  exact ⟨rfl, HB2.out⟩
set_option maxRecDepth 100000 in
set_option maxHeartbeats 1000000 in
theorem hhas_any (g : Gp) (a : Option Addr) (n c : Nat) (t : Int) (w : World) (hn : g.ty.length = n) (hl : n ≤ 1048576) (hr : RdN w a g.ty) :
    Calls Tryz.prog 74 #[.iface 63 (.agg (hashC g (.slice a n c))), .int .i64 t] w fun e w' => e = .returned (.bool (says g t)) ∧ Below w.heap.size w w' := by
  have CT := Lib.hid (fun wx => types_any g.x a n c wx)
  have CC := Lib.hid (fun (wx : World) (hB : Below w.heap.size w wx) => contains_any g.ty a n c t wx hn hl (hr.below hB rfl))
  clear hn hr
  unfold says
  dsimp only [hashC]
  go_enter Tryz.func74, Tryz.ntmps74
  go_wp2_with fail
  refine (CT.out w).mono ?_
  rintro e w1 ⟨rfl, hB1⟩
  have HB1 := Lib.hid hB1
  clear hB1
  go_wp2_with fail
  refine (CC.out w1 HB1.out).mono ?_
  rintro e w2 ⟨rfl, hB2⟩
  have HB2 := Lib.hid (HB1.out.trans (hB2.mono HB1.out.size))
  clear hB2
  go_wp2_with fail
  go_ret
  exact ⟨rfl, HB2.out⟩
end Go.Proofs.YtanoiiodnddkfaaGreat.gapI
namespace Go.Proofs.YtanoiiodnddkfaaGreat.gapJ
open Go.RowKit Go.Proofs.YtanoiiodnddkfaaGreat.kit Go.Proofs.YtanoiiodnddkfaaGreat.nspec Go.Proofs.YtanoiiodnddkfaaGreat.refA Go.Proofs.YtanoiiodnddkfaaGreat.refB Go.Proofs.YtanoiiodnddkfaaGreat.fld Go.Proofs.YtanoiiodnddkfaaGreat.wireP Go.Proofs.YtanoiiodnddkfaaGreat.gapP Go.Proofs.YtanoiiodnddkfaaGreat.bits Go.Proofs.YtanoiiodnddkfaaGreat.ints Go.Proofs.YtanoiiodnddkfaaGreat.gapA Go.Proofs.YtanoiiodnddkfaaGreat.gapN Go.Proofs.YtanoiiodnddkfaaGreat.gapI
set_option linter.unusedVariables false

set_option maxRecDepth 100000 in
set_option maxHeartbeats 2000000 in
theorem ncut_any (g : Gp) (a : Option Addr) (n c : Nat) (w : World) (hn : g.ty.length = n) (hl : n ≤ 1048576) (hr : RdN w a g.ty) :
    Calls Tryz.prog 73 #[.iface 58 (.agg (nameC g (.slice a n c)))] w fun e w' => e = .returned (.bool (cutB g)) ∧ Below w.heap.size w w' := by
  have CS := Lib.hid (fun (t : Int) (wx : World) (hB : Below w.heap.size w wx) => nhas_any g a n c t wx hn hl (hr.below hB rfl))
  dsimp only [nameC] at CS ⊢
  obtain ⟨b2, h2⟩ : ∃ b, says g 2 = b := ⟨_, rfl⟩
  obtain ⟨b6, h6⟩ : ∃ b, says g 6 = b := ⟨_, rfl⟩
  have C2 := Lib.hid (CS.out 2); have C6 := Lib.hid (CS.out 6)
  rw [h2] at C2
  rw [h6] at C6
  unfold cutB
  rw [h2, h6]
  clear h2 h6 CS hr hn
  cases b2 with
  | false =>
    go_enter Tryz.func73, Tryz.ntmps73
    go_wp2_with fail
    refine (C2.out w (Below.refl _ _)).mono ?_
    rintro e w1 ⟨rfl, hBz⟩
    have HBw1 := Lib.hid (hBz)
    clear hBz
    go_wp2_with fail
    go_ret
    exact ⟨rfl, HBw1.out⟩
  | true =>
    cases b6 <;>
    · go_enter Tryz.func73, Tryz.ntmps73
      go_wp2_with fail
      refine (C2.out w (Below.refl _ _)).mono ?_
      rintro e w1 ⟨rfl, hBz⟩
      have HBw1 := Lib.hid (hBz)
      clear hBz
      go_wp2_with fail
      refine (C6.out w1 HBw1.out).mono ?_
      rintro e w2 ⟨rfl, hBz⟩
      have HBw2 := Lib.hid (HBw1.out.trans (hBz.mono HBw1.out.size))
      clear hBz
      go_wp2_with fail
      go_ret
      exact ⟨rfl, HBw2.out⟩
set_option maxRecDepth 100000 in
set_option maxHeartbeats 2000000 in
theorem naway_any (g : Gp) (a : Option Addr) (n c : Nat) (w : World) (hn : g.ty.length = n) (hl : n ≤ 1048576) (hr : RdN w a g.ty) :
    Calls Tryz.prog 49 #[.iface 58 (.agg (nameC g (.slice a n c)))] w fun e w' => e = .returned (.bool (awayB g)) ∧ Below w.heap.size w w' := by
  have CS := Lib.hid (fun (t : Int) (wx : World) (hB : Below w.heap.size w wx) => nhas_any g a n c t wx hn hl (hr.below hB rfl))
  have CA := Lib.hid (fun (wx : World) (hB : Below w.heap.size w wx) => ncut_any g a n c wx hn hl (hr.below hB rfl))
  dsimp only [nameC] at CS CA ⊢
  obtain ⟨b2, h2⟩ : ∃ b, cutB g = b := ⟨_, rfl⟩
  obtain ⟨b6, h6⟩ : ∃ b, says g 39 = b := ⟨_, rfl⟩
  have C6 := Lib.hid (CS.out 39)
  rw [h2] at CA
  rw [h6] at C6
  unfold awayB
  rw [h2, h6]
  clear h2 h6 CS hr hn
  cases b2 with
  | true =>
    go_enter Tryz.func49, Tryz.ntmps49
    go_wp2_with fail
    refine (CA.out w (Below.refl _ _)).mono ?_
    rintro e w1 ⟨rfl, hBz⟩
    have HBw1 := Lib.hid (hBz)
    clear hBz
    go_wp2_with fail
    go_ret
    exact ⟨rfl, HBw1.out⟩
  | false =>
    cases b6 <;>
    · go_enter Tryz.func49, Tryz.ntmps49
      go_wp2_with fail
      refine (CA.out w (Below.refl _ _)).mono ?_
      rintro e w1 ⟨rfl, hBz⟩
      have HBw1 := Lib.hid (hBz)
      clear hBz
      go_wp2_with fail
      refine (C6.out w1 HBw1.out).mono ?_
      rintro e w2 ⟨rfl, hBz⟩
      have HBw2 := Lib.hid (HBw1.out.trans (hBz.mono HBw1.out.size))
      clear hBz
      go_wp2_with fail
      go_ret
      exact ⟨rfl, HBw2.out⟩
set_option maxRecDepth 100000 in
set_option maxHeartbeats 2000000 in
theorem nlacks_any (g : Gp) (a : Option Addr) (n c : Nat) (t : Int) (w : World) (hn : g.ty.length = n) (hl : n ≤ 1048576) (hr : RdN w a g.ty) :
    Calls Tryz.prog 43 #[.iface 58 (.agg (nameC g (.slice a n c))), .int .i64 t] w fun e w' => e = .returned (.bool (lacksB g t)) ∧ Below w.heap.size w w' := by
  have CS := Lib.hid (fun (t : Int) (wx : World) (hB : Below w.heap.size w wx) => nhas_any g a n c t wx hn hl (hr.below hB rfl))
  have CA := Lib.hid (fun (wx : World) (hB : Below w.heap.size w wx) => ncut_any g a n c wx hn hl (hr.below hB rfl))
  have CT := Lib.hid (fun wx => types_any g.x a n c wx)
  dsimp only [nameC] at CS CA ⊢
  obtain ⟨b2, h2⟩ : ∃ b, cutB g = b := ⟨_, rfl⟩
  obtain ⟨bt, ht⟩ : ∃ b, says g t = b := ⟨_, rfl⟩
  obtain ⟨b5, h5⟩ : ∃ b, says g 5 = b := ⟨_, rfl⟩
  have C5 := Lib.hid (CS.out 5); have C7 := Lib.hid (CS.out t)
  rw [h2] at CA
  rw [h5] at C5
  rw [ht] at C7
  obtain ⟨R, HR⟩ : ∃ R, Hid ((if b2 && t != 43 then false else if t = 255 then g.ty.isEmpty else !bt && !b5) = R) := ⟨_, Lib.hid rfl⟩
  have e : lacksB g t = R := by unfold lacksB; rw [h2, ht, h5]; exact HR.out
  rw [e]
  have HN := Lib.hid hn
  clear h2 ht h5 CS hr hn e
  by_cases h43 : t = 43
  · subst h43
    cases b2 <;>
    · go_enter Tryz.func43, Tryz.ntmps43
      go_wp2_with fail
      refine (CA.out w (Below.refl _ _)).mono ?_
      rintro e w1 ⟨rfl, hBz⟩
      have HBw1 := Lib.hid (hBz)
      clear hBz
      cases bt with
      | true =>
        go_wp2_with fail
        refine (C7.out w1 HBw1.out).mono ?_
        rintro e w2 ⟨rfl, hBz⟩
        have HBw2 := Lib.hid (HBw1.out.trans (hBz.mono HBw1.out.size))
        clear hBz
        go_wp2_with fail
        go_ret
        exact ⟨by rw [← HR.out]; simp [], HBw2.out⟩
      | false =>
        cases b5 <;>
        · go_wp2_with fail
          refine (C7.out w1 HBw1.out).mono ?_
          rintro e w2 ⟨rfl, hBz⟩
          have HBw2 := Lib.hid (HBw1.out.trans (hBz.mono HBw1.out.size))
          clear hBz
          go_wp2_with fail
          refine (C5.out w2 HBw2.out).mono ?_
          rintro e w3 ⟨rfl, hBz⟩
          have HBw3 := Lib.hid (HBw2.out.trans (hBz.mono HBw2.out.size))
          clear hBz
          go_wp2_with fail
          go_ret
          exact ⟨by rw [← HR.out]; simp [], HBw3.out⟩
  · have n43 : (t != 43) = true := by rw [bne_iff_ne]; exact h43
    cases b2 with
    | true =>
      go_enter Tryz.func43, Tryz.ntmps43
      go_wp2_with fail
      refine (CA.out w (Below.refl _ _)).mono ?_
      rintro e w1 ⟨rfl, hBz⟩
      have HBw1 := Lib.hid (hBz)
      clear hBz
      go_wp2_with fail
      go_ret
      exact ⟨by rw [← HR.out]; simp [h43], HBw1.out⟩
    | false =>
      by_cases h255 : t = 255
      · subst h255
        go_enter Tryz.func43, Tryz.ntmps43
        go_wp2_with fail
        refine (CA.out w (Below.refl _ _)).mono ?_
        rintro e w1 ⟨rfl, hBz⟩
        have HBw1 := Lib.hid (hBz)
        clear hBz
        have hbw := HBw1.out
        rcases Nat.eq_zero_or_pos n with h0 | h0
        · have hi : ((n : Int) == 0) = true := by rw [beq_iff_eq]; omega
          have hem : g.ty.isEmpty = true := by rw [List.isEmpty_iff]; exact List.eq_nil_of_length_eq_zero (by rw [HN.out]; exact h0)
          have HF : Hid (R = true) := Lib.hid (by rw [← HR.out, hem]; rfl)
          clear hem h0 hbw
          go_wp2_with fail
          refine (CT.out w1).mono ?_
          rintro e w2 ⟨rfl, hB2⟩
          have HBw2 := Lib.hid (HBw1.out.trans (hB2.mono HBw1.out.size))
          clear hB2
          go_wp2_with fail
          go_ret
          exact ⟨by rw [HF.out]; rfl, HBw2.out⟩
        · have hi : ((n : Int) == 0) = false := by rw [beq_eq_false_iff_ne]; omega
          have hem : g.ty.isEmpty = false := by
            cases hq : g.ty with
            | nil => have := HN.out; rw [hq] at this; simp at this; omega
            | cons _ _ => rfl
          have HF : Hid (R = false) := Lib.hid (by rw [← HR.out, hem]; rfl)
          clear hem h0 hbw
          go_wp2_with fail
          refine (CT.out w1).mono ?_
          rintro e w2 ⟨rfl, hB2⟩
          have HBw2 := Lib.hid (HBw1.out.trans (hB2.mono HBw1.out.size))
          clear hB2
          go_wp2_with fail
          go_ret
          exact ⟨by rw [HF.out]; rfl, HBw2.out⟩
      · have n255 : (t == 255) = false := by rw [beq_eq_false_iff_ne]; exact h255
        go_enter Tryz.func43, Tryz.ntmps43
        go_wp2_with fail
        refine (CA.out w (Below.refl _ _)).mono ?_
        rintro e w1 ⟨rfl, hBz⟩
        have HBw1 := Lib.hid (hBz)
        clear hBz
        cases bt with
        | true =>
          go_wp2_with fail
          refine (C7.out w1 HBw1.out).mono ?_
          rintro e w2 ⟨rfl, hBz⟩
          have HBw2 := Lib.hid (HBw1.out.trans (hBz.mono HBw1.out.size))
          clear hBz
          go_wp2_with fail
          go_ret
          exact ⟨by rw [← HR.out]; simp [h255], HBw2.out⟩
        | false =>
          cases b5 <;>
          · go_wp2_with fail
            refine (C7.out w1 HBw1.out).mono ?_
            rintro e w2 ⟨rfl, hBz⟩
            have HBw2 := Lib.hid (HBw1.out.trans (hBz.mono HBw1.out.size))
            clear hBz
            go_wp2_with fail
            refine (C5.out w2 HBw2.out).mono ?_
            rintro e w3 ⟨rfl, hBz⟩
            have HBw3 := Lib.hid (HBw2.out.trans (hBz.mono HBw2.out.size))
            clear hBz
            go_wp2_with fail
            go_ret
            exact ⟨by rw [← HR.out]; simp [h255], HBw3.out⟩
set_option maxRecDepth 100000 in
set_option maxHeartbeats 2000000 in
theorem hcut_any (g : Gp) (a : Option Addr) (n c : Nat) (w : World) (hn : g.ty.length = n) (hl : n ≤ 1048576) (hr : RdN w a g.ty) :
    Calls Tryz.prog 73 #[.iface 63 (.agg (hashC g (.slice a n c)))] w fun e w' => e = .returned (.bool (cutB g)) ∧ Below w.heap.size w w' := by
  have CS := Lib.hid (fun (t : Int) (wx : World) (hB : Below w.heap.size w wx) => hhas_any g a n c t wx hn hl (hr.below hB rfl))
  dsimp only [hashC] at CS ⊢
  obtain ⟨b2, h2⟩ : ∃ b, says g 2 = b := ⟨_, rfl⟩
  obtain ⟨b6, h6⟩ : ∃ b, says g 6 = b := ⟨_, rfl⟩
  have C2 := Lib.hid (CS.out 2); have C6 := Lib.hid (CS.out 6)
  rw [h2] at C2
  rw [h6] at C6
  unfold cutB
  rw [h2, h6]
  clear h2 h6 CS hr hn
  cases b2 with
  | false =>
    go_enter Tryz.func73, Tryz.ntmps73
    go_wp2_with fail
    refine (C2.out w (Below.refl _ _)).mono ?_
    rintro e w1 ⟨rfl, hBz⟩
    have HBw1 := Lib.hid (hBz)
    clear hBz
    go_wp2_with fail
    go_ret
    exact ⟨rfl, HBw1.out⟩
  | true =>
    cases b6 <;>
    · go_enter Tryz.func73, Tryz.ntmps73
      go_wp2_with fail
      refine (C2.out w (Below.refl _ _)).mono ?_
      rintro e w1 ⟨rfl, hBz⟩
      have HBw1 := Lib.hid (hBz)
      clear hBz
      go_wp2_with fail
      refine (C6.out w1 HBw1.out).mono ?_
      rintro e w2 ⟨rfl, hBz⟩
      have HBw2 := Lib.hid (HBw1.out.trans (hBz.mono HBw1.out.size))
      clear hBz
      go_wp2_with fail
      go_ret
      exact ⟨rfl, HBw2.out⟩
set_option maxRecDepth 100000 in
set_option maxHeartbeats 2000000 in
theorem haway_any (g : Gp) (a : Option Addr) (n c : Nat) (w : World) (hn : g.ty.length = n) (hl : n ≤ 1048576) (hr : RdN w a g.ty) :
    Calls Tryz.prog 49 #[.iface 63 (.agg (hashC g (.slice a n c)))] w fun e w' => e = .returned (.bool (awayB g)) ∧ Below w.heap.size w w' := by
  have CS := Lib.hid (fun (t : Int) (wx : World) (hB : Below w.heap.size w wx) => hhas_any g a n c t wx hn hl (hr.below hB rfl))
  have CA := Lib.hid (fun (wx : World) (hB : Below w.heap.size w wx) => hcut_any g a n c wx hn hl (hr.below hB rfl))
  dsimp only [hashC] at CS CA ⊢
  obtain ⟨b2, h2⟩ : ∃ b, cutB g = b := ⟨_, rfl⟩
  obtain ⟨b6, h6⟩ : ∃ b, says g 39 = b := ⟨_, rfl⟩
  have C6 := Lib.hid (CS.out 39)
  rw [h2] at CA
  rw [h6] at C6
  unfold awayB
  rw [h2, h6]
  clear h2 h6 CS hr hn
  cases b2 with
  | true =>
    go_enter Tryz.func49, Tryz.ntmps49
    go_wp2_with fail
    refine (CA.out w (Below.refl _ _)).mono ?_
    rintro e w1 ⟨rfl, hBz⟩
    have HBw1 := Lib.hid (hBz)
    clear hBz
    go_wp2_with fail
    go_ret
    exact ⟨rfl, HBw1.out⟩
  | false =>
    cases b6 <;>
    · go_enter Tryz.func49, Tryz.ntmps49
      go_wp2_with fail
      refine (CA.out w (Below.refl _ _)).mono ?_
      rintro e w1 ⟨rfl, hBz⟩
      have HBw1 := Lib.hid (hBz)
      clear hBz
      go_wp2_with fail
      refine (C6.out w1 HBw1.out).mono ?_
      rintro e w2 ⟨rfl, hBz⟩
      have HBw2 := Lib.hid (HBw1.out.trans (hBz.mono HBw1.out.size))
      clear hBz
      go_wp2_with fail
      go_ret
      exact ⟨rfl, HBw2.out⟩
set_option maxRecDepth 100000 in
set_option maxHeartbeats 2000000 in
theorem hlacks_any (g : Gp) (a : Option Addr) (n c : Nat) (t : Int) (w : World) (hn : g.ty.length = n) (hl : n ≤ 1048576) (hr : RdN w a g.ty) :
    Calls Tryz.prog 43 #[.iface 63 (.agg (hashC g (.slice a n c))), .int .i64 t] w fun e w' => e = .returned (.bool (lacksB g t)) ∧ Below w.heap.size w w' := by
  have CS := Lib.hid (fun (t : Int) (wx : World) (hB : Below w.heap.size w wx) => hhas_any g a n c t wx hn hl (hr.below hB rfl))
  have CA := Lib.hid (fun (wx : World) (hB : Below w.heap.size w wx) => hcut_any g a n c wx hn hl (hr.below hB rfl))
  have CT := Lib.hid (fun wx => types_any g.x a n c wx)
  dsimp only [hashC] at CS CA ⊢
  obtain ⟨b2, h2⟩ : ∃ b, cutB g = b := ⟨_, rfl⟩
  obtain ⟨bt, ht⟩ : ∃ b, says g t = b := ⟨_, rfl⟩
  obtain ⟨b5, h5⟩ : ∃ b, says g 5 = b := ⟨_, rfl⟩
  have C5 := Lib.hid (CS.out 5); have C7 := Lib.hid (CS.out t)
  rw [h2] at CA
  rw [h5] at C5
  rw [ht] at C7
  obtain ⟨R, HR⟩ : ∃ R, Hid ((if b2 && t != 43 then false else if t = 255 then g.ty.isEmpty else !bt && !b5) = R) := ⟨_, Lib.hid rfl⟩
  have e : lacksB g t = R := by unfold lacksB; rw [h2, ht, h5]; exact HR.out
  rw [e]
  have HN := Lib.hid hn
  clear h2 ht h5 CS hr hn e
  by_cases h43 : t = 43
  · subst h43
    cases b2 <;>
    · go_enter Tryz.func43, Tryz.ntmps43
      go_wp2_with fail
      refine (CA.out w (Below.refl _ _)).mono ?_
      rintro e w1 ⟨rfl, hBz⟩
      have HBw1 := Lib.hid (hBz)
      clear hBz
      cases bt with
      | true =>
        go_wp2_with fail
        refine (C7.out w1 HBw1.out).mono ?_
        rintro e w2 ⟨rfl, hBz⟩
        have HBw2 := Lib.hid (HBw1.out.trans (hBz.mono HBw1.out.size))
        clear hBz
        go_wp2_with fail
        go_ret
        exact ⟨by rw [← HR.out]; simp [], HBw2.out⟩
      | false =>
        cases b5 <;>
        · go_wp2_with fail
          refine (C7.out w1 HBw1.out).mono ?_
          rintro e w2 ⟨rfl, hBz⟩
          have HBw2 := Lib.hid (HBw1.out.trans (hBz.mono HBw1.out.size))
          clear hBz
          go_wp2_with fail
          refine (C5.out w2 HBw2.out).mono ?_
          rintro e w3 ⟨rfl, hBz⟩
          have HBw3 := Lib.hid (HBw2.out.trans (hBz.mono HBw2.out.size))
          clear hBz
          go_wp2_with fail
          go_ret
          exact ⟨by rw [← HR.out]; simp [], HBw3.out⟩
  · have n43 : (t != 43) = true := by rw [bne_iff_ne]; exact h43
    cases b2 with
    | true =>
      go_enter Tryz.func43, Tryz.ntmps43
      go_wp2_with fail
      refine (CA.out w (Below.refl _ _)).mono ?_
      rintro e w1 ⟨rfl, hBz⟩
      have HBw1 := Lib.hid (hBz)
      clear hBz
      go_wp2_with fail
      go_ret
      exact ⟨by rw [← HR.out]; simp [h43], HBw1.out⟩
    | false =>
      by_cases h255 : t = 255
      · subst h255
        go_enter Tryz.func43, Tryz.ntmps43
        go_wp2_with fail
        refine (CA.out w (Below.refl _ _)).mono ?_
        rintro e w1 ⟨rfl, hBz⟩
        have HBw1 := Lib.hid (hBz)
        clear hBz
        have hbw := HBw1.out
        rcases Nat.eq_zero_or_pos n with h0 | h0
        · have hi : ((n : Int) == 0) = true := by rw [beq_iff_eq]; omega
          have hem : g.ty.isEmpty = true := by rw [List.isEmpty_iff]; exact List.eq_nil_of_length_eq_zero (by rw [HN.out]; exact h0)
          have HF : Hid (R = true) := Lib.hid (by rw [← HR.out, hem]; rfl)
          clear hem h0 hbw
          go_wp2_with fail
          refine (CT.out w1).mono ?_
          rintro e w2 ⟨rfl, hB2⟩
          have HBw2 := Lib.hid (HBw1.out.trans (hB2.mono HBw1.out.size))
          clear hB2
          go_wp2_with fail
          go_ret
          exact ⟨by rw [HF.out]; rfl, HBw2.out⟩
        · have hi : ((n : Int) == 0) = false := by rw [beq_eq_false_iff_ne]; omega
          have hem : g.ty.isEmpty = false := by
            cases hq : g.ty with
            | nil => have := HN.out; rw [hq] at this; simp at this; omega
            | cons _ _ => rfl
          have HF : Hid (R = false) := Lib.hid (by rw [← HR.out, hem]; rfl)
          clear hem h0 hbw
          go_wp2_with fail
          refine (CT.out w1).mono ?_
          rintro e w2 ⟨rfl, hB2⟩
          have HBw2 := Lib.hid (HBw1.out.trans (hB2.mono HBw1.out.size))
          clear hB2
          go_wp2_with fail
          go_ret
          exact ⟨by rw [HF.out]; rfl, HBw2.out⟩
      · have n255 : (t == 255) = false := by rw [beq_eq_false_iff_ne]; exact h255
        go_enter Tryz.func43, Tryz.ntmps43
        go_wp2_with fail
        refine (CA.out w (Below.refl _ _)).mono ?_
        rintro e w1 ⟨rfl, hBz⟩
        have HBw1 := Lib.hid (hBz)
        clear hBz
        cases bt with
        | true =>
          go_wp2_with fail
          refine (C7.out w1 HBw1.out).mono ?_
          rintro e w2 ⟨rfl, hBz⟩
          have HBw2 := Lib.hid (HBw1.out.trans (hBz.mono HBw1.out.size))
          clear hBz
          go_wp2_with fail
          go_ret
          exact ⟨by rw [← HR.out]; simp [h255], HBw2.out⟩
        | false =>
          cases b5 <;>
          · go_wp2_with fail
            refine (C7.out w1 HBw1.out).mono ?_
            rintro e w2 ⟨rfl, hBz⟩
            have HBw2 := Lib.hid (HBw1.out.trans (hBz.mono HBw1.out.size))
            clear hBz
            go_wp2_with fail
            refine (C5.out w2 HBw2.out).mono ?_
            rintro e w3 ⟨rfl, hBz⟩
            have HBw3 := Lib.hid (HBw2.out.trans (hBz.mono HBw2.out.size))
            clear hBz
            go_wp2_with fail
            go_ret
            exact ⟨by rw [← HR.out]; simp [h255], HBw3.out⟩
end Go.Proofs.YtanoiiodnddkfaaGreat.gapJ
namespace Go.Proofs.YtanoiiodnddkfaaGreat.gapK
open Go.RowKit Go.Proofs.YtanoiiodnddkfaaGreat.kit Go.Proofs.YtanoiiodnddkfaaGreat.nspec Go.Proofs.YtanoiiodnddkfaaGreat.refA Go.Proofs.YtanoiiodnddkfaaGreat.refB Go.Proofs.YtanoiiodnddkfaaGreat.fld Go.Proofs.YtanoiiodnddkfaaGreat.wireP Go.Proofs.YtanoiiodnddkfaaGreat.gapP Go.Proofs.YtanoiiodnddkfaaGreat.bits Go.Proofs.YtanoiiodnddkfaaGreat.ints Go.Proofs.YtanoiiodnddkfaaGreat.gapA Go.Proofs.YtanoiiodnddkfaaGreat.gapC Go.Proofs.YtanoiiodnddkfaaGreat.gapN Go.Proofs.YtanoiiodnddkfaaGreat.gapI Go.Proofs.YtanoiiodnddkfaaGreat.gapJ
set_option linter.unusedVariables false

set_option maxRecDepth 100000 in
set_option maxHeartbeats 2000000 in
theorem ndenies_any (g : Gp) (a : Option Addr) (n c : Nat) (N : ByteArray) (w : World) (hk : OkG g) (hN : N.size ≤ 1048576) (hh : g.hashed = false) (hn : g.ty.length = n) (hl : n ≤ 1048576) (hr : RdN w a g.ty) :
    Calls Tryz.prog 29 #[.agg (nameC g (.slice a n c)), .string N] w fun e w' => e = .returned (.bool (denyB g N.data.toList)) ∧ Below w.heap.size w w' := by
  have CS := Lib.hid (fun (wx : World) (hB : Below w.heap.size w wx) => ncovers_any g a n c N wx hk hN)
  have CA := Lib.hid (fun (wx : World) (hB : Below w.heap.size w wx) => naway_any g a n c wx hn hl (hr.below hB rfl))
  have CW := Lib.hid (fun (wx : World) (hB : Below w.heap.size w wx) => nameB.nwithin_any N g.x.o wx (by omega) (by have := hk.o; omega))
  simp only [Go.Proofs.YtanoiiodnddkfaaGreat.nameC.within_same] at CW
  dsimp only [gapN.nameC] at CS CA ⊢
  have e : denyB g N.data.toList = (cov.covS g.x.o.data.toList g.nx.data.toList N.data.toList && !(awayB g && withinS N.data.toList g.x.o.data.toList)) := by unfold denyB spanB; rw [hh]; rfl
  rw [e]
  obtain ⟨b1, h1⟩ : ∃ b, cov.covS g.x.o.data.toList g.nx.data.toList N.data.toList = b := ⟨_, rfl⟩
  obtain ⟨b2, h2⟩ : ∃ b, awayB g = b := ⟨_, rfl⟩
  obtain ⟨b3, h3⟩ : ∃ b, withinS N.data.toList g.x.o.data.toList = b := ⟨_, rfl⟩
  rw [h1] at CS ⊢
  rw [h2] at CA ⊢
  rw [h3] at CW ⊢
  clear h1 h2 h3 hr hh e
  have hB0 := (Below.refl w.heap.size w).alloc (Nat.le_refl _) (.cells #[.slice a n c, .string g.x.o, .int .i64 g.x.t, .int .i64 g.x.c, .int .i64 g.x.l, .string g.x.d, .string g.x.o, .string g.nx] 58)
  have hx := heap_alloc_new w (.cells #[.slice a n c, .string g.x.o, .int .i64 g.x.t, .int .i64 g.x.c, .int .i64 g.x.l, .string g.x.d, .string g.x.o, .string g.nx] 58)
  obtain ⟨X, hX⟩ : ∃ X, w.heap.size = X := ⟨_, rfl⟩
  obtain ⟨W, hW⟩ : ∃ W, w.alloc (.cells #[.slice a n c, .string g.x.o, .int .i64 g.x.t, .int .i64 g.x.c, .int .i64 g.x.l, .string g.x.d, .string g.x.o, .string g.nx] 58) = W := ⟨_, rfl⟩
  rw [hW] at hB0 hx
  rw [hX] at hx
  obtain ⟨d0, d1, d2, d3, d4, d5, d6, d7⟩ := cells8 hx
  have HX := Lib.hid hX; have HW := Lib.hid hW; have HB0 := Lib.hid hB0; have HXX := Lib.hid hx
  cases b1 with
  | false =>
    go_enter Tryz.func29, Tryz.ntmps29
    go_upto_region 1 with fail
    try rw [HW.out]
    try rw [HX.out]
    go_wp2_with fail
    refine (CS.out W HB0.out).mono ?_
    rintro e w1 ⟨rfl, hBz⟩
    have HBw1 := Lib.hid (HB0.out.trans (hBz.mono HB0.out.size))
    clear hBz
    go_wp2_with fail
    go_ret
    first | exact ⟨rfl, HBw1.out⟩ | exact ⟨rfl, HX.out ▸ HBw1.out⟩
  | true =>
    cases b2 with
    | false =>
      go_enter Tryz.func29, Tryz.ntmps29
      go_upto_region 1 with fail
      try rw [HW.out]
      try rw [HX.out]
      go_wp2_with fail
      refine (CS.out W HB0.out).mono ?_
      rintro e w1 ⟨rfl, hBz⟩
      have HBw1 := Lib.hid (HB0.out.trans (hBz.mono HB0.out.size))
      have HXw1 := Lib.hid ((hBz.block X (Array.getElem?_eq_some_iff.1 HXX.out).1).trans HXX.out)
      clear d0 d1 d2 d3 d4 d5 d6 d7 hBz
      obtain ⟨d0, d1, d2, d3, d4, d5, d6, d7⟩ := cells8 HXw1.out
      go_wp2_with fail
      refine (CA.out w1 HBw1.out).mono ?_
      rintro e w2 ⟨rfl, hBz⟩
      have HBw2 := Lib.hid (HBw1.out.trans (hBz.mono HBw1.out.size))
      clear hBz
      go_wp2_with fail
      go_ret
      first | exact ⟨rfl, HBw2.out⟩ | exact ⟨rfl, HX.out ▸ HBw2.out⟩
    | true =>
      cases b3 <;>
      · skip
        go_enter Tryz.func29, Tryz.ntmps29
        go_upto_region 1 with fail
        try rw [HW.out]
        try rw [HX.out]
        go_wp2_with fail
        refine (CS.out W HB0.out).mono ?_
        rintro e w1 ⟨rfl, hBz⟩
        have HBw1 := Lib.hid (HB0.out.trans (hBz.mono HB0.out.size))
        have HXw1 := Lib.hid ((hBz.block X (Array.getElem?_eq_some_iff.1 HXX.out).1).trans HXX.out)
        clear d0 d1 d2 d3 d4 d5 d6 d7 hBz
        obtain ⟨d0, d1, d2, d3, d4, d5, d6, d7⟩ := cells8 HXw1.out
        go_wp2_with fail
        refine (CA.out w1 HBw1.out).mono ?_
        rintro e w2 ⟨rfl, hBz⟩
        have HBw2 := Lib.hid (HBw1.out.trans (hBz.mono HBw1.out.size))
        have HXw2 := Lib.hid ((hBz.block X (Array.getElem?_eq_some_iff.1 HXw1.out).1).trans HXw1.out)
        clear d0 d1 d2 d3 d4 d5 d6 d7 hBz
        obtain ⟨d0, d1, d2, d3, d4, d5, d6, d7⟩ := cells8 HXw2.out
        go_wp2_with fail
        refine (CW.out w2 HBw2.out).mono ?_
        rintro e w3 ⟨rfl, hBz⟩
        have HBw3 := Lib.hid (HBw2.out.trans (hBz.mono HBw2.out.size))
        clear hBz
        go_wp2_with fail
        go_ret
        first | exact ⟨rfl, HBw3.out⟩ | exact ⟨rfl, HX.out ▸ HBw3.out⟩
end Go.Proofs.YtanoiiodnddkfaaGreat.gapK
namespace Go.Proofs.YtanoiiodnddkfaaGreat.wireR
open Go.RowKit Go.Proofs.YtanoiiodnddkfaaGreat.kit Go.Proofs.YtanoiiodnddkfaaGreat.takes Go.Proofs.YtanoiiodnddkfaaGreat.nspec Go.Proofs.YtanoiiodnddkfaaGreat.rsplit Go.Proofs.YtanoiiodnddkfaaGreat.check Go.Proofs.YtanoiiodnddkfaaGreat.checkAll Go.Proofs.YtanoiiodnddkfaaGreat.dcheck Go.Proofs.YtanoiiodnddkfaaGreat.checkData Go.Proofs.YtanoiiodnddkfaaGreat.fld Go.Proofs.YtanoiiodnddkfaaGreat.wireP
set_option linter.unusedVariables false

/-- the record's box behind a call -/
theorem box_cells {w w1 : World} {x : Rc} {t : TypeId} (hB : Below (w.alloc (.cells #[.string x.o, .int .i64 x.t, .int .i64 x.c, .int .i64 x.l, .string x.d] t)).heap.size (w.alloc (.cells #[.string x.o, .int .i64 x.t, .int .i64 x.c, .int .i64 x.l, .string x.d] t)) w1) :
    w1.cell? ⟨w.heap.size, 0, none⟩ = some (.string x.o) ∧ w1.cell? ⟨w.heap.size, 1, none⟩ = some (.int .i64 x.t) ∧ w1.cell? ⟨w.heap.size, 2, none⟩ = some (.int .i64 x.c) ∧ w1.cell? ⟨w.heap.size, 3, none⟩ = some (.int .i64 x.l) ∧ w1.cell? ⟨w.heap.size, 4, none⟩ = some (.string x.d) := by
  have hl : w.heap.size < (w.alloc (.cells #[.string x.o, .int .i64 x.t, .int .i64 x.c, .int .i64 x.l, .string x.d] t)).heap.size := by simp
  have hb : (w.alloc (.cells #[.string x.o, .int .i64 x.t, .int .i64 x.c, .int .i64 x.l, .string x.d] t)).heap[w.heap.size]? = some (.cells #[.string x.o, .int .i64 x.t, .int .i64 x.c, .int .i64 x.l, .string x.d] t (0, 0)) := heap_alloc_new _ _
  refine ⟨(hB.cell (p := ⟨w.heap.size, 0, none⟩) hl).trans ?_, (hB.cell (p := ⟨w.heap.size, 1, none⟩) hl).trans ?_, (hB.cell (p := ⟨w.heap.size, 2, none⟩) hl).trans ?_, (hB.cell (p := ⟨w.heap.size, 3, none⟩) hl).trans ?_, (hB.cell (p := ⟨w.heap.size, 4, none⟩) hl).trans ?_⟩ <;> (simp only [World.cell?, hb]; rfl)

end Go.Proofs.YtanoiiodnddkfaaGreat.wireR
