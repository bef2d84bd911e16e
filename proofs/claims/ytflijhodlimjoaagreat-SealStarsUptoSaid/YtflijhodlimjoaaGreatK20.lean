/- slices.IndexFunc, ContainsFunc of records, over whatever function: walks. Facts on cells, kept by what leaves all that was there. The closure of seal.Sign: another age: walk. gazetteerref1.NamesIn: walk. gazetteerref1.FoldData: walk. -/
import Derived.Test.YtflijhodlimjoaaGreatK19
import Derived.Test.YtflijhodlimjoaaGreatK1
import Derived.Test.YtflijhodlimjoaaGreatK17
import Derived.OwnWalk
import Derived.Shelf.RegionOpenPlain
import Derived.BigQuiet
namespace Go.Proofs.YtflijhodlimjoaaGreat.containsR
open Go.RowKit Go.Proofs.YtflijhodlimjoaaGreat.kit Go.Proofs.YtflijhodlimjoaaGreat.timed Go.Proofs.YtflijhodlimjoaaGreat.wireP Go.Proofs.YtflijhodlimjoaaGreat.wireM Go.Proofs.YtflijhodlimjoaaGreat.rows
set_option linter.unusedVariables false

/-- what a function says of a record -/
def Says (g : FuncId) (lb : Array Value) (pr : Rc → Bool) (L : List Rc) (w : World) : Prop :=
  ∀ t ∈ L, ∀ wx, Below w.heap.size w wx → Calls Tryz.prog g (#[.agg #[.string t.o, .int .i64 t.t, .int .i64 t.c, .int .i64 t.l, .string t.d]] ++ lb) wx fun e w' => e = .returned (.bool (pr t)) ∧ Below wx.heap.size wx w'
theorem any_step {L : List Rc} {k : Nat} {t : Rc} (h : L[k]? = some t) (pr : Rc → Bool) : (L.drop k).any pr = (pr t || (L.drop (k + 1)).any pr) := by
  obtain ⟨hk, he⟩ := List.getElem?_eq_some_iff.1 h
  rw [List.drop_eq_getElem_cons hk, he]
  rfl
set_option maxRecDepth 100000 in
set_option maxHeartbeats 4000000 in
theorem index_any (g : FuncId) (lb : Array Value) (pr : Rc → Bool) (a : Option Addr) (n c : Nat) (L : List Rc) (w : World) (eg : ∀ args w, (callFunc g args).run Tryz.prog w = .ok (.enter g args) w) (hn : n = L.length) (hr : RdC w a 5 (L.map Rc.cells)) (hbig : n ≤ 1099511627776) (hp : Says g lb pr L w) :
    Calls Tryz.prog 126 #[.slice a n c, .func (.func g) #[] lb] w fun e w' => (∃ i : Int, e = .returned (.int .i64 i) ∧ -1 ≤ i ∧ i ≤ 1099511627776 ∧ decide (0 ≤ i) = L.any pr) ∧ Below w.heap.size w w' := by
  obtain ⟨R, hR⟩ : ∃ R, L.any pr = R := ⟨_, rfl⟩
  rw [hR]
  have HR := Lib.hid hR
  have HN := Lib.hid hn; have HRD := Lib.hid hr; have HP := Lib.hid hp
  clear hn hr hR hp
  go_enter Tryz.func126, Tryz.ntmps126
  go_wp2_with fail
  go_loopg [5, 8] (n + 1) (fun gas _ kv wr => ∃ (k : Nat), kv = .int .i64 k ∧ k ≤ n ∧ k + gas = n + 1 ∧ Hid ((L.drop k).any pr = R) ∧ Hid (Below w.heap.size w wr))
  case atStart => exact ⟨0, rfl, by omega, by omega, Lib.hid (by rw [List.drop_zero]; exact HR.out), Lib.hid (Below.refl _ _)⟩
  case round =>
    obtain ⟨k, rfl, hk, hkg, HW, HB⟩ := hrel
    have HK := Lib.hid hkg; clear hkg
    by_cases hlt : k < n
    · obtain ⟨t, hx⟩ : ∃ t, L[k]? = some t := ⟨_, List.getElem?_eq_getElem (by have := HN.out; omega)⟩
      obtain ⟨g1, o1, rfl, hg1, hcl1⟩ := at_r HRD.out hx
      obtain ⟨x0, x1, x2, x3, x4⟩ := hcl1.below HB.out hg1
      have HST := Lib.hid ((any_step hx pr).symm.trans HW.out)
      have CG := Lib.hid (HP.out t (List.mem_of_getElem? hx) wr HB.out)
      have zk : (0 : Int) ≤ (k : Int) := by omega
      have zl : (k : Int) < (n : Int) := by omega
      clear hx hcl1 hlt
      cases hq : pr t with
      | true =>
        rw [hq] at CG
        have HRT : Hid (R = true) := Lib.hid (by rw [← HST.out, hq]; rfl)
        go_wp2_with (go_at_fn g; refine CG.out.mono ?_; rintro e w1 ⟨rfl, hB1⟩)
        go_ret
        exact ⟨⟨(k : Int), rfl, by omega, by omega, by rw [HRT.out]; exact decide_eq_true zk⟩, HB.out.trans (hB1.mono HB.out.size)⟩
      | false =>
        rw [hq] at CG
        have HRN : Hid ((L.drop (k + 1)).any pr = R) := Lib.hid (by rw [← HST.out, hq]; rfl)
        go_wp2_with (go_at_fn g; refine CG.out.mono ?_; rintro e w1 ⟨rfl, hB1⟩)
        have HB1 := Lib.hid (HB.out.trans (hB1.mono HB.out.size))
        have hkg := HK.out
        go_roundg (gk - 1)
        case rel => exact ⟨k + 1, by go_num, by omega, by omega, HRN, HB1⟩
        case measure => omega
    · have hke : k = n := by omega
      subst hke
      have HRF : Hid (R = false) := Lib.hid (by rw [← HW.out, List.drop_of_length_le (by rw [← HN.out]; exact Nat.le_refl _)]; rfl)
      have hz : ¬ (k : Int) < (k : Int) := by omega
      go_wp2_with fail
      go_ret
      exact ⟨⟨-1, rfl, by omega, by omega, by rw [HRF.out]; rfl⟩, HB.out⟩
set_option maxRecDepth 100000 in
set_option maxHeartbeats 4000000 in
theorem contains_any (g : FuncId) (lb : Array Value) (pr : Rc → Bool) (a : Option Addr) (n c : Nat) (L : List Rc) (w : World) (eg : ∀ args w, (callFunc g args).run Tryz.prog w = .ok (.enter g args) w) (hn : n = L.length) (hr : RdC w a 5 (L.map Rc.cells)) (hbig : n ≤ 1099511627776) (hp : Says g lb pr L w) :
    Calls Tryz.prog 52 #[.slice a n c, .func (.func g) #[] lb] w fun e w' => e = .returned (.bool (L.any pr)) ∧ Below w.heap.size w w' := by
  have CI := Lib.hid (index_any g lb pr a n c L w eg hn hr hbig hp)
  clear eg hn hr hbig hp
  go_enter Tryz.func52, Tryz.ntmps52
  go_wp2_with fail
  refine CI.out.mono ?_
  rintro e w1 ⟨⟨i, rfl, h1, h2, h3⟩, hB⟩
  have HB := Lib.hid hB
  clear hB
  go_wp2_with fail
  go_ret
  exact ⟨by rw [← h3]; rfl, HB.out⟩
end Go.Proofs.YtflijhodlimjoaaGreat.containsR
namespace Go.Proofs.YtflijhodlimjoaaGreat.keepN
open Go.RowKit
set_option linter.unusedVariables false

theorem ck {w w' : World} {a : Addr} {v : Value} (hB : Below w.heap.size w w') (ha : w.cell? a = some v) : w'.cell? a = some v := (hB.cell (p := a) (World.block_lt_of_cell? w _ ha)).trans ha
theorem k1 {W w w' : World} {a0 : Addr} {v0 : Value} (h : w.cell? a0 = some v0 ∧ Below W.heap.size W w) (hB : Below w.heap.size w w') :
    w'.cell? a0 = some v0 ∧ Below W.heap.size W w' := by
  obtain ⟨c0, h9⟩ := h
  exact ⟨ck hB c0, h9.trans (hB.mono h9.size)⟩
theorem k2 {W w w' : World} {a0 a1 : Addr} {v0 v1 : Value} (h : w.cell? a0 = some v0 ∧ w.cell? a1 = some v1 ∧ Below W.heap.size W w) (hB : Below w.heap.size w w') :
    w'.cell? a0 = some v0 ∧ w'.cell? a1 = some v1 ∧ Below W.heap.size W w' := by
  obtain ⟨c0, c1, h9⟩ := h
  exact ⟨ck hB c0, ck hB c1, h9.trans (hB.mono h9.size)⟩
theorem k3 {W w w' : World} {a0 a1 a2 : Addr} {v0 v1 v2 : Value} (h : w.cell? a0 = some v0 ∧ w.cell? a1 = some v1 ∧ w.cell? a2 = some v2 ∧ Below W.heap.size W w) (hB : Below w.heap.size w w') :
    w'.cell? a0 = some v0 ∧ w'.cell? a1 = some v1 ∧ w'.cell? a2 = some v2 ∧ Below W.heap.size W w' := by
  obtain ⟨c0, c1, c2, h9⟩ := h
  exact ⟨ck hB c0, ck hB c1, ck hB c2, h9.trans (hB.mono h9.size)⟩
theorem k4 {W w w' : World} {a0 a1 a2 a3 : Addr} {v0 v1 v2 v3 : Value} (h : w.cell? a0 = some v0 ∧ w.cell? a1 = some v1 ∧ w.cell? a2 = some v2 ∧ w.cell? a3 = some v3 ∧ Below W.heap.size W w) (hB : Below w.heap.size w w') :
    w'.cell? a0 = some v0 ∧ w'.cell? a1 = some v1 ∧ w'.cell? a2 = some v2 ∧ w'.cell? a3 = some v3 ∧ Below W.heap.size W w' := by
  obtain ⟨c0, c1, c2, c3, h9⟩ := h
  exact ⟨ck hB c0, ck hB c1, ck hB c2, ck hB c3, h9.trans (hB.mono h9.size)⟩
theorem k5 {W w w' : World} {a0 a1 a2 a3 a4 : Addr} {v0 v1 v2 v3 v4 : Value} (h : w.cell? a0 = some v0 ∧ w.cell? a1 = some v1 ∧ w.cell? a2 = some v2 ∧ w.cell? a3 = some v3 ∧ w.cell? a4 = some v4 ∧ Below W.heap.size W w) (hB : Below w.heap.size w w') :
    w'.cell? a0 = some v0 ∧ w'.cell? a1 = some v1 ∧ w'.cell? a2 = some v2 ∧ w'.cell? a3 = some v3 ∧ w'.cell? a4 = some v4 ∧ Below W.heap.size W w' := by
  obtain ⟨c0, c1, c2, c3, c4, h9⟩ := h
  exact ⟨ck hB c0, ck hB c1, ck hB c2, ck hB c3, ck hB c4, h9.trans (hB.mono h9.size)⟩
theorem k6 {W w w' : World} {a0 a1 a2 a3 a4 a5 : Addr} {v0 v1 v2 v3 v4 v5 : Value} (h : w.cell? a0 = some v0 ∧ w.cell? a1 = some v1 ∧ w.cell? a2 = some v2 ∧ w.cell? a3 = some v3 ∧ w.cell? a4 = some v4 ∧ w.cell? a5 = some v5 ∧ Below W.heap.size W w) (hB : Below w.heap.size w w') :
    w'.cell? a0 = some v0 ∧ w'.cell? a1 = some v1 ∧ w'.cell? a2 = some v2 ∧ w'.cell? a3 = some v3 ∧ w'.cell? a4 = some v4 ∧ w'.cell? a5 = some v5 ∧ Below W.heap.size W w' := by
  obtain ⟨c0, c1, c2, c3, c4, c5, h9⟩ := h
  exact ⟨ck hB c0, ck hB c1, ck hB c2, ck hB c3, ck hB c4, ck hB c5, h9.trans (hB.mono h9.size)⟩
theorem k7 {W w w' : World} {a0 a1 a2 a3 a4 a5 a6 : Addr} {v0 v1 v2 v3 v4 v5 v6 : Value} (h : w.cell? a0 = some v0 ∧ w.cell? a1 = some v1 ∧ w.cell? a2 = some v2 ∧ w.cell? a3 = some v3 ∧ w.cell? a4 = some v4 ∧ w.cell? a5 = some v5 ∧ w.cell? a6 = some v6 ∧ Below W.heap.size W w) (hB : Below w.heap.size w w') :
    w'.cell? a0 = some v0 ∧ w'.cell? a1 = some v1 ∧ w'.cell? a2 = some v2 ∧ w'.cell? a3 = some v3 ∧ w'.cell? a4 = some v4 ∧ w'.cell? a5 = some v5 ∧ w'.cell? a6 = some v6 ∧ Below W.heap.size W w' := by
  obtain ⟨c0, c1, c2, c3, c4, c5, c6, h9⟩ := h
  exact ⟨ck hB c0, ck hB c1, ck hB c2, ck hB c3, ck hB c4, ck hB c5, ck hB c6, h9.trans (hB.mono h9.size)⟩
theorem k8 {W w w' : World} {a0 a1 a2 a3 a4 a5 a6 a7 : Addr} {v0 v1 v2 v3 v4 v5 v6 v7 : Value} (h : w.cell? a0 = some v0 ∧ w.cell? a1 = some v1 ∧ w.cell? a2 = some v2 ∧ w.cell? a3 = some v3 ∧ w.cell? a4 = some v4 ∧ w.cell? a5 = some v5 ∧ w.cell? a6 = some v6 ∧ w.cell? a7 = some v7 ∧ Below W.heap.size W w) (hB : Below w.heap.size w w') :
    w'.cell? a0 = some v0 ∧ w'.cell? a1 = some v1 ∧ w'.cell? a2 = some v2 ∧ w'.cell? a3 = some v3 ∧ w'.cell? a4 = some v4 ∧ w'.cell? a5 = some v5 ∧ w'.cell? a6 = some v6 ∧ w'.cell? a7 = some v7 ∧ Below W.heap.size W w' := by
  obtain ⟨c0, c1, c2, c3, c4, c5, c6, c7, h9⟩ := h
  exact ⟨ck hB c0, ck hB c1, ck hB c2, ck hB c3, ck hB c4, ck hB c5, ck hB c6, ck hB c7, h9.trans (hB.mono h9.size)⟩
theorem k9 {W w w' : World} {a0 a1 a2 a3 a4 a5 a6 a7 a8 : Addr} {v0 v1 v2 v3 v4 v5 v6 v7 v8 : Value} (h : w.cell? a0 = some v0 ∧ w.cell? a1 = some v1 ∧ w.cell? a2 = some v2 ∧ w.cell? a3 = some v3 ∧ w.cell? a4 = some v4 ∧ w.cell? a5 = some v5 ∧ w.cell? a6 = some v6 ∧ w.cell? a7 = some v7 ∧ w.cell? a8 = some v8 ∧ Below W.heap.size W w) (hB : Below w.heap.size w w') :
    w'.cell? a0 = some v0 ∧ w'.cell? a1 = some v1 ∧ w'.cell? a2 = some v2 ∧ w'.cell? a3 = some v3 ∧ w'.cell? a4 = some v4 ∧ w'.cell? a5 = some v5 ∧ w'.cell? a6 = some v6 ∧ w'.cell? a7 = some v7 ∧ w'.cell? a8 = some v8 ∧ Below W.heap.size W w' := by
  obtain ⟨c0, c1, c2, c3, c4, c5, c6, c7, c8, h9⟩ := h
  exact ⟨ck hB c0, ck hB c1, ck hB c2, ck hB c3, ck hB c4, ck hB c5, ck hB c6, ck hB c7, ck hB c8, h9.trans (hB.mono h9.size)⟩
theorem k10 {W w w' : World} {a0 a1 a2 a3 a4 a5 a6 a7 a8 a9 : Addr} {v0 v1 v2 v3 v4 v5 v6 v7 v8 v9 : Value} (h : w.cell? a0 = some v0 ∧ w.cell? a1 = some v1 ∧ w.cell? a2 = some v2 ∧ w.cell? a3 = some v3 ∧ w.cell? a4 = some v4 ∧ w.cell? a5 = some v5 ∧ w.cell? a6 = some v6 ∧ w.cell? a7 = some v7 ∧ w.cell? a8 = some v8 ∧ w.cell? a9 = some v9 ∧ Below W.heap.size W w) (hB : Below w.heap.size w w') :
    w'.cell? a0 = some v0 ∧ w'.cell? a1 = some v1 ∧ w'.cell? a2 = some v2 ∧ w'.cell? a3 = some v3 ∧ w'.cell? a4 = some v4 ∧ w'.cell? a5 = some v5 ∧ w'.cell? a6 = some v6 ∧ w'.cell? a7 = some v7 ∧ w'.cell? a8 = some v8 ∧ w'.cell? a9 = some v9 ∧ Below W.heap.size W w' := by
  obtain ⟨c0, c1, c2, c3, c4, c5, c6, c7, c8, c9, h9⟩ := h
  exact ⟨ck hB c0, ck hB c1, ck hB c2, ck hB c3, ck hB c4, ck hB c5, ck hB c6, ck hB c7, ck hB c8, ck hB c9, h9.trans (hB.mono h9.size)⟩
theorem k11 {W w w' : World} {a0 a1 a2 a3 a4 a5 a6 a7 a8 a9 a10 : Addr} {v0 v1 v2 v3 v4 v5 v6 v7 v8 v9 v10 : Value} (h : w.cell? a0 = some v0 ∧ w.cell? a1 = some v1 ∧ w.cell? a2 = some v2 ∧ w.cell? a3 = some v3 ∧ w.cell? a4 = some v4 ∧ w.cell? a5 = some v5 ∧ w.cell? a6 = some v6 ∧ w.cell? a7 = some v7 ∧ w.cell? a8 = some v8 ∧ w.cell? a9 = some v9 ∧ w.cell? a10 = some v10 ∧ Below W.heap.size W w) (hB : Below w.heap.size w w') :
    w'.cell? a0 = some v0 ∧ w'.cell? a1 = some v1 ∧ w'.cell? a2 = some v2 ∧ w'.cell? a3 = some v3 ∧ w'.cell? a4 = some v4 ∧ w'.cell? a5 = some v5 ∧ w'.cell? a6 = some v6 ∧ w'.cell? a7 = some v7 ∧ w'.cell? a8 = some v8 ∧ w'.cell? a9 = some v9 ∧ w'.cell? a10 = some v10 ∧ Below W.heap.size W w' := by
  obtain ⟨c0, c1, c2, c3, c4, c5, c6, c7, c8, c9, c10, h9⟩ := h
  exact ⟨ck hB c0, ck hB c1, ck hB c2, ck hB c3, ck hB c4, ck hB c5, ck hB c6, ck hB c7, ck hB c8, ck hB c9, ck hB c10, h9.trans (hB.mono h9.size)⟩
theorem k12 {W w w' : World} {a0 a1 a2 a3 a4 a5 a6 a7 a8 a9 a10 a11 : Addr} {v0 v1 v2 v3 v4 v5 v6 v7 v8 v9 v10 v11 : Value} (h : w.cell? a0 = some v0 ∧ w.cell? a1 = some v1 ∧ w.cell? a2 = some v2 ∧ w.cell? a3 = some v3 ∧ w.cell? a4 = some v4 ∧ w.cell? a5 = some v5 ∧ w.cell? a6 = some v6 ∧ w.cell? a7 = some v7 ∧ w.cell? a8 = some v8 ∧ w.cell? a9 = some v9 ∧ w.cell? a10 = some v10 ∧ w.cell? a11 = some v11 ∧ Below W.heap.size W w) (hB : Below w.heap.size w w') :
    w'.cell? a0 = some v0 ∧ w'.cell? a1 = some v1 ∧ w'.cell? a2 = some v2 ∧ w'.cell? a3 = some v3 ∧ w'.cell? a4 = some v4 ∧ w'.cell? a5 = some v5 ∧ w'.cell? a6 = some v6 ∧ w'.cell? a7 = some v7 ∧ w'.cell? a8 = some v8 ∧ w'.cell? a9 = some v9 ∧ w'.cell? a10 = some v10 ∧ w'.cell? a11 = some v11 ∧ Below W.heap.size W w' := by
  obtain ⟨c0, c1, c2, c3, c4, c5, c6, c7, c8, c9, c10, c11, h9⟩ := h
  exact ⟨ck hB c0, ck hB c1, ck hB c2, ck hB c3, ck hB c4, ck hB c5, ck hB c6, ck hB c7, ck hB c8, ck hB c9, ck hB c10, ck hB c11, h9.trans (hB.mono h9.size)⟩
theorem k13 {W w w' : World} {a0 a1 a2 a3 a4 a5 a6 a7 a8 a9 a10 a11 a12 : Addr} {v0 v1 v2 v3 v4 v5 v6 v7 v8 v9 v10 v11 v12 : Value} (h : w.cell? a0 = some v0 ∧ w.cell? a1 = some v1 ∧ w.cell? a2 = some v2 ∧ w.cell? a3 = some v3 ∧ w.cell? a4 = some v4 ∧ w.cell? a5 = some v5 ∧ w.cell? a6 = some v6 ∧ w.cell? a7 = some v7 ∧ w.cell? a8 = some v8 ∧ w.cell? a9 = some v9 ∧ w.cell? a10 = some v10 ∧ w.cell? a11 = some v11 ∧ w.cell? a12 = some v12 ∧ Below W.heap.size W w) (hB : Below w.heap.size w w') :
    w'.cell? a0 = some v0 ∧ w'.cell? a1 = some v1 ∧ w'.cell? a2 = some v2 ∧ w'.cell? a3 = some v3 ∧ w'.cell? a4 = some v4 ∧ w'.cell? a5 = some v5 ∧ w'.cell? a6 = some v6 ∧ w'.cell? a7 = some v7 ∧ w'.cell? a8 = some v8 ∧ w'.cell? a9 = some v9 ∧ w'.cell? a10 = some v10 ∧ w'.cell? a11 = some v11 ∧ w'.cell? a12 = some v12 ∧ Below W.heap.size W w' := by
  obtain ⟨c0, c1, c2, c3, c4, c5, c6, c7, c8, c9, c10, c11, c12, h9⟩ := h
  exact ⟨ck hB c0, ck hB c1, ck hB c2, ck hB c3, ck hB c4, ck hB c5, ck hB c6, ck hB c7, ck hB c8, ck hB c9, ck hB c10, ck hB c11, ck hB c12, h9.trans (hB.mono h9.size)⟩
theorem k14 {W w w' : World} {a0 a1 a2 a3 a4 a5 a6 a7 a8 a9 a10 a11 a12 a13 : Addr} {v0 v1 v2 v3 v4 v5 v6 v7 v8 v9 v10 v11 v12 v13 : Value} (h : w.cell? a0 = some v0 ∧ w.cell? a1 = some v1 ∧ w.cell? a2 = some v2 ∧ w.cell? a3 = some v3 ∧ w.cell? a4 = some v4 ∧ w.cell? a5 = some v5 ∧ w.cell? a6 = some v6 ∧ w.cell? a7 = some v7 ∧ w.cell? a8 = some v8 ∧ w.cell? a9 = some v9 ∧ w.cell? a10 = some v10 ∧ w.cell? a11 = some v11 ∧ w.cell? a12 = some v12 ∧ w.cell? a13 = some v13 ∧ Below W.heap.size W w) (hB : Below w.heap.size w w') :
    w'.cell? a0 = some v0 ∧ w'.cell? a1 = some v1 ∧ w'.cell? a2 = some v2 ∧ w'.cell? a3 = some v3 ∧ w'.cell? a4 = some v4 ∧ w'.cell? a5 = some v5 ∧ w'.cell? a6 = some v6 ∧ w'.cell? a7 = some v7 ∧ w'.cell? a8 = some v8 ∧ w'.cell? a9 = some v9 ∧ w'.cell? a10 = some v10 ∧ w'.cell? a11 = some v11 ∧ w'.cell? a12 = some v12 ∧ w'.cell? a13 = some v13 ∧ Below W.heap.size W w' := by
  obtain ⟨c0, c1, c2, c3, c4, c5, c6, c7, c8, c9, c10, c11, c12, c13, h9⟩ := h
  exact ⟨ck hB c0, ck hB c1, ck hB c2, ck hB c3, ck hB c4, ck hB c5, ck hB c6, ck hB c7, ck hB c8, ck hB c9, ck hB c10, ck hB c11, ck hB c12, ck hB c13, h9.trans (hB.mono h9.size)⟩
theorem k15 {W w w' : World} {a0 a1 a2 a3 a4 a5 a6 a7 a8 a9 a10 a11 a12 a13 a14 : Addr} {v0 v1 v2 v3 v4 v5 v6 v7 v8 v9 v10 v11 v12 v13 v14 : Value} (h : w.cell? a0 = some v0 ∧ w.cell? a1 = some v1 ∧ w.cell? a2 = some v2 ∧ w.cell? a3 = some v3 ∧ w.cell? a4 = some v4 ∧ w.cell? a5 = some v5 ∧ w.cell? a6 = some v6 ∧ w.cell? a7 = some v7 ∧ w.cell? a8 = some v8 ∧ w.cell? a9 = some v9 ∧ w.cell? a10 = some v10 ∧ w.cell? a11 = some v11 ∧ w.cell? a12 = some v12 ∧ w.cell? a13 = some v13 ∧ w.cell? a14 = some v14 ∧ Below W.heap.size W w) (hB : Below w.heap.size w w') :
    w'.cell? a0 = some v0 ∧ w'.cell? a1 = some v1 ∧ w'.cell? a2 = some v2 ∧ w'.cell? a3 = some v3 ∧ w'.cell? a4 = some v4 ∧ w'.cell? a5 = some v5 ∧ w'.cell? a6 = some v6 ∧ w'.cell? a7 = some v7 ∧ w'.cell? a8 = some v8 ∧ w'.cell? a9 = some v9 ∧ w'.cell? a10 = some v10 ∧ w'.cell? a11 = some v11 ∧ w'.cell? a12 = some v12 ∧ w'.cell? a13 = some v13 ∧ w'.cell? a14 = some v14 ∧ Below W.heap.size W w' := by
  obtain ⟨c0, c1, c2, c3, c4, c5, c6, c7, c8, c9, c10, c11, c12, c13, c14, h9⟩ := h
  exact ⟨ck hB c0, ck hB c1, ck hB c2, ck hB c3, ck hB c4, ck hB c5, ck hB c6, ck hB c7, ck hB c8, ck hB c9, ck hB c10, ck hB c11, ck hB c12, ck hB c13, ck hB c14, h9.trans (hB.mono h9.size)⟩
theorem k16 {W w w' : World} {a0 a1 a2 a3 a4 a5 a6 a7 a8 a9 a10 a11 a12 a13 a14 a15 : Addr} {v0 v1 v2 v3 v4 v5 v6 v7 v8 v9 v10 v11 v12 v13 v14 v15 : Value} (h : w.cell? a0 = some v0 ∧ w.cell? a1 = some v1 ∧ w.cell? a2 = some v2 ∧ w.cell? a3 = some v3 ∧ w.cell? a4 = some v4 ∧ w.cell? a5 = some v5 ∧ w.cell? a6 = some v6 ∧ w.cell? a7 = some v7 ∧ w.cell? a8 = some v8 ∧ w.cell? a9 = some v9 ∧ w.cell? a10 = some v10 ∧ w.cell? a11 = some v11 ∧ w.cell? a12 = some v12 ∧ w.cell? a13 = some v13 ∧ w.cell? a14 = some v14 ∧ w.cell? a15 = some v15 ∧ Below W.heap.size W w) (hB : Below w.heap.size w w') :
    w'.cell? a0 = some v0 ∧ w'.cell? a1 = some v1 ∧ w'.cell? a2 = some v2 ∧ w'.cell? a3 = some v3 ∧ w'.cell? a4 = some v4 ∧ w'.cell? a5 = some v5 ∧ w'.cell? a6 = some v6 ∧ w'.cell? a7 = some v7 ∧ w'.cell? a8 = some v8 ∧ w'.cell? a9 = some v9 ∧ w'.cell? a10 = some v10 ∧ w'.cell? a11 = some v11 ∧ w'.cell? a12 = some v12 ∧ w'.cell? a13 = some v13 ∧ w'.cell? a14 = some v14 ∧ w'.cell? a15 = some v15 ∧ Below W.heap.size W w' := by
  obtain ⟨c0, c1, c2, c3, c4, c5, c6, c7, c8, c9, c10, c11, c12, c13, c14, c15, h9⟩ := h
  exact ⟨ck hB c0, ck hB c1, ck hB c2, ck hB c3, ck hB c4, ck hB c5, ck hB c6, ck hB c7, ck hB c8, ck hB c9, ck hB c10, ck hB c11, ck hB c12, ck hB c13, ck hB c14, ck hB c15, h9.trans (hB.mono h9.size)⟩
end Go.Proofs.YtflijhodlimjoaaGreat.keepN
namespace Go.Proofs.YtflijhodlimjoaaGreat.signF
open Go.RowKit Go.Proofs.YtflijhodlimjoaaGreat.kit Go.Proofs.YtflijhodlimjoaaGreat.timed Go.Proofs.YtflijhodlimjoaaGreat.wireP Go.Proofs.YtflijhodlimjoaaGreat.wireM Go.Proofs.YtflijhodlimjoaaGreat.signP Go.Proofs.YtflijhodlimjoaaGreat.keepN
set_option linter.unusedVariables false

set_option maxRecDepth 100000 in
set_option maxHeartbeats 2000000 in
theorem ttl_any (x h : Rc) (B g o n c : Nat) (w : World) (hp : w.cell? ⟨B, 0, none⟩ = some (.slice (some ⟨g, o, none⟩) n c)) (hn : 0 < n) (hh : w.cell? ⟨g, o + 3, none⟩ = some (.int .i64 h.l)) :
    Calls Tryz.prog 53 #[.agg #[.string x.o, .int .i64 x.t, .int .i64 x.c, .int .i64 x.l, .string x.d], .pointer (some ⟨B, 0, none⟩)] w fun e w' => e = .returned (.bool (x.l != h.l)) ∧ Below w.heap.size w w' := by
  have hB4 := (Below.refl w.heap.size w).alloc (Nat.le_refl _) (.cells #[.string x.o, .int .i64 x.t, .int .i64 x.c, .int .i64 x.l, .string x.d] 34)
  have hy := heap_alloc_new w (.cells #[.string x.o, .int .i64 x.t, .int .i64 x.c, .int .i64 x.l, .string x.d] 34)
  have hp1 := ck hB4 hp
  have hh1 := ck hB4 hh
  obtain ⟨X, hX⟩ : ∃ X, w.heap.size = X := ⟨_, rfl⟩
  obtain ⟨w4, hw4⟩ : ∃ w4, w.alloc (.cells #[.string x.o, .int .i64 x.t, .int .i64 x.c, .int .i64 x.l, .string x.d] 34) = w4 := ⟨_, rfl⟩
  rw [hw4] at hB4 hy hp1 hh1
  rw [hX] at hy
  have y3 : w4.cell? ⟨X, 3, none⟩ = some (.int .i64 x.l) := by simp only [World.cell?, hy]; rfl
  have HB4 := Lib.hid hB4; have HW4 := Lib.hid hw4; have HXX := Lib.hid hX
  have zn : (0 : Int) < (n : Int) := by omega
  have zn0 : ¬ n = 0 := by omega
  obtain ⟨xl, hxl⟩ : ∃ z, x.l = z := ⟨_, rfl⟩
  obtain ⟨hl, hhl⟩ : ∃ z, h.l = z := ⟨_, rfl⟩
  rw [hxl] at y3; rw [hhl] at hh1
  have HXL := Lib.hid hxl; have HHL := Lib.hid hhl
  clear hy hB4 hw4 hX hp hh hxl hhl
  by_cases he : xl = hl
  · have HR : Hid ((x.l != h.l) = false) := Lib.hid (by rw [HXL.out, HHL.out, he]; simp)
    subst he
    go_enter Tryz.func53, Tryz.ntmps53
    go_upto_region 1 with fail
    rw [HW4.out]
    try rw [HXX.out]
    go_quiet (fail)
    go_wp2_with fail
    go_ret
    exact ⟨by rw [HR.out]; rfl, Go.Proofs.YtflijhodlimjoaaGreat.timed.bel_drewN HB4.out _⟩
  · have HR : Hid ((x.l != h.l) = true) := Lib.hid (by rw [HXL.out, HHL.out]; exact bne_iff_ne.2 he)
    have e1 : (xl != hl) = true := bne_iff_ne.2 he
    have e2 : (xl == hl) = false := beq_eq_false_iff_ne.2 he
    go_enter Tryz.func53, Tryz.ntmps53
    go_upto_region 1 with fail
    rw [HW4.out]
    try rw [HXX.out]
    go_quiet (fail)
    go_wp2_with fail
    go_ret
    exact ⟨by rw [HR.out]; rfl, Go.Proofs.YtflijhodlimjoaaGreat.timed.bel_drewN HB4.out _⟩
end Go.Proofs.YtflijhodlimjoaaGreat.signF
namespace Go.Proofs.YtflijhodlimjoaaGreat.rnames
open Go.RowKit Go.Proofs.YtflijhodlimjoaaGreat.kit Go.Proofs.YtflijhodlimjoaaGreat.nspec Go.Proofs.YtflijhodlimjoaaGreat.rsplit Go.Proofs.YtflijhodlimjoaaGreat.fld Go.Proofs.YtflijhodlimjoaaGreat.takes Go.Proofs.YtflijhodlimjoaaGreat.hostT Go.Proofs.YtflijhodlimjoaaGreat.splitD Go.Proofs.YtflijhodlimjoaaGreat.rsize Go.Proofs.YtflijhodlimjoaaGreat.rform Go.Proofs.YtflijhodlimjoaaGreat.parts Go.Proofs.YtflijhodlimjoaaGreat.checkData Go.Proofs.YtflijhodlimjoaaGreat.dnames
set_option linter.unusedVariables false

theorem check_holds {t : Int} {d : Bs} (hc : checkS t d = 0) : holdsB t = true := by
  unfold checkS at hc
  split at hc
  · simp at hc
  · rename_i h; cases hb : holdsB t with
    | true => rfl
    | false => exact absurd hb h
/-- the letter of a field, in the form's text -/
theorem letter_at {fs : List Fld} {F : ByteArray} (hF : F.data.toList = lettersB fs) (h4 : Fair4 fs) {k : Nat} {f : Fld} (hf : fs[k]? = some f) : ∃ (h : k < F.size), ((F[k].toNat : Int) == 110) = isHost f := by
  have hk : k < F.size := by
    have := (List.getElem?_eq_some_iff.1 hf).1
    rw [← size_len, hF]; simp [lettersB]; exact this
  refine ⟨hk, ?_⟩
  have h1 : F.data.toList[k]? = some (UInt8.ofNat (letterOf f)) := by rw [hF]; simp [lettersB, hf]
  have h2 := at_some hk (rfl : F[k] = F[k])
  rw [h1] at h2
  have h3 : UInt8.ofNat (letterOf f) = F[k] := by simpa using h2
  rw [← h3]
  cases f with
  | num j => rcases h4.2 j (List.mem_of_getElem? hf) with h | h | h <;> subst h <;> decide
  | _ => decide

end Go.Proofs.YtflijhodlimjoaaGreat.rnames
namespace Go.Proofs.YtflijhodlimjoaaGreat.rfold
open Go.RowKit Go.Proofs.YtflijhodlimjoaaGreat.kit Go.Proofs.YtflijhodlimjoaaGreat.nspec Go.Proofs.YtflijhodlimjoaaGreat.rsplit Go.Proofs.YtflijhodlimjoaaGreat.fld Go.Proofs.YtflijhodlimjoaaGreat.splitD Go.Proofs.YtflijhodlimjoaaGreat.rsize Go.Proofs.YtflijhodlimjoaaGreat.rform Go.Proofs.YtflijhodlimjoaaGreat.parts Go.Proofs.YtflijhodlimjoaaGreat.checkData Go.Proofs.YtflijhodlimjoaaGreat.dnames Go.Proofs.YtflijhodlimjoaaGreat.rnames Go.Proofs.YtflijhodlimjoaaGreat.dfold Go.Proofs.YtflijhodlimjoaaGreat.refA
set_option linter.unusedVariables false

set_option maxRecDepth 100000 in
set_option maxHeartbeats 8000000 in
theorem rfold_any (t : Int) (s : ByteArray) (w : World) (hs : s.size ≤ maxLen) :
    Calls Tryz.prog 131 #[.int .i64 t, .string s] w fun e w' => e = .returned (.string ⟨(foldDS t s.data.toList).toArray⟩) ∧ Below w.heap.size w w' := by
  obtain ⟨R, HR⟩ : ∃ R, Hid (foldDS t s.data.toList = R) := ⟨_, Lib.hid rfl⟩
  rw [HR.out]
  have CC := Lib.hid (fun w => rdcheck_any t s w hs)
  obtain ⟨C, hC⟩ : ∃ C, checkS t s.data.toList = C := ⟨_, rfl⟩
  rw [hC] at CC
  by_cases hc0 : C = 0
  · subst hc0
    have hls : s.size ≤ 65535 := by have := check_len hC; rwa [size_len] at this
    have CF := Lib.hid (fun w => rform_any t w)
    unfold FormIs at CF
    obtain ⟨F, hF⟩ : ∃ F : ByteArray, (⟨(formB t).toArray⟩ : ByteArray) = F := ⟨_, rfl⟩
    have hFd : F.data.toList = formB t := by rw [← hF]
    rw [hF] at CF
    cases hf : formS t with
    | none =>
      have HN : Hid ((⟨R.toArray⟩ : ByteArray) = s) := Lib.hid (by rw [← HR.out, foldDS, if_pos hC, hf])
      have h45 : (F.toList == [45]) = true := by rw [Lib.toList_data, hFd]; unfold formB; rw [hf, check_holds hC]; rfl
      clear hf hC hF hFd
      go_enter Tryz.func131, Tryz.ntmps131
      go_wp2_with fail
      refine (CC.out _).mono ?_
      rintro e w1 ⟨rfl, hB1⟩
      have HB1 := Lib.hid hB1; clear hB1
      go_wp2_with fail
      refine (CF.out _).mono ?_
      rintro e w2 ⟨rfl, rfl⟩
      go_wp2_with fail
      refine (CC.out _).mono ?_
      rintro e w3 ⟨rfl, hB3⟩
      have HB3 := Lib.hid (HB1.out.trans (hB3.mono HB1.out.size)); clear hB3
      go_wp2_with fail
      go_ret
      exact ⟨by rw [HN.out]; rfl, HB3.out⟩
    | some fs =>
      obtain ⟨c1, c2⟩ := form_cons hf
      have hFl : F.data.toList = lettersB fs := by rw [hFd]; unfold formB; rw [hf]
      have h45 : (F.toList == [45]) = false := not45 (by rw [hFl]; exact c2)
      obtain ⟨p, hp1, hp2, hp3⟩ := parts_ok hC hf
      have HN : Hid (R = foldL fs p) := Lib.hid (by rw [← HR.out, foldDS, if_pos hC, hf, hp1])
      obtain ⟨n, hn⟩ : ∃ n, fs.length = n := ⟨_, rfl⟩
      obtain ⟨hpl, hpx⟩ := parts_len _ _ _ _ hp2
      have hfa := form_fair4 hf
      have hn20 : n ≤ 20 := by rw [← hn]; exact hfa.1
      have CP := Lib.hid (fun w => parts_any fs F s w hFl hfa hls n hn)
      have HLE := Lib.hid (fun k f (h : fs[k]? = some f) => letter_at hFl hfa h)
      have HSP := Lib.hid hp2; have HNN := Lib.hid hn
      have HPL : Hid (p.length = n) := Lib.hid (by rw [hpl, hn])
      have HPX := Lib.hid hpx
      clear hf hC hp1 hp2 hp3 hpl hpx hfa hn hF hFd hFl c1 c2
      go_enter Tryz.func131, Tryz.ntmps131
      go_wp2_with fail
      refine (CC.out _).mono ?_
      rintro e w1 ⟨rfl, hB1⟩
      have HB1 := Lib.hid hB1; clear hB1
      go_wp2_with fail
      refine (CF.out _).mono ?_
      rintro e w2 ⟨rfl, rfl⟩
      go_wp2_with fail
      refine (CF.out _).mono ?_
      rintro e w2 ⟨rfl, rfl⟩
      go_wp2_with fail
      refine (CP.out _).mono ?_
      rintro e w3 ⟨hB3, ⟨v, p', r', hsp, rfl, hown⟩ | ⟨hsp, _⟩⟩
      case inr => rw [HSP.out] at hsp; simp at hsp
      rw [HSP.out] at hsp
      simp only [Option.some.injEq, Prod.mk.injEq] at hsp
      obtain ⟨rfl, rfl⟩ := hsp
      obtain ⟨a, c, rfl, hrd⟩ := Rd.of_own hown
      rw [HPL.out]
      have HRD := Lib.hid hrd
      have HBW : Hid (Below w.heap.size w w3) := Lib.hid (HB1.out.trans (hB3.mono HB1.out.size))
      clear hB3 hown hrd
      go_wp2_with fail
      go_loopg [8, 9, 34] (n + 1) (fun gas sv _ kv wr => ∃ (k : Nat) (S : ByteArray), kv = .int .i64 k ∧ sv = .string S ∧ k ≤ n ∧ n + 1 ≤ k + gas ∧ S.size ≤ 65535 * k ∧ Hid (S.data.toList ++ foldL (fs.drop k) (p.drop k) = R) ∧ Below w3.heap.size w3 wr)
      case atStart => exact ⟨0, ⟨#[]⟩, rfl, rfl, by omega, by omega, Nat.zero_le _, Lib.hid (by rw [HN.out, List.drop_zero, List.drop_zero]; rfl), Below.refl _ _⟩
      case round =>
        obtain ⟨k, S, rfl, rfl, hk, hkg, hA, HW, hB⟩ := hrel
        have HKG := Lib.hid hkg; clear hkg
        have HB := Lib.hid hB; clear hB
        by_cases hlt : k < n
        · obtain ⟨f, hfk⟩ : ∃ f, fs[k]? = some f := ⟨_, List.getElem?_eq_getElem (by have := HNN.out; omega)⟩
          obtain ⟨x, hxk⟩ : ∃ x, p[k]? = some x := ⟨_, List.getElem?_eq_getElem (by have := HPL.out; omega)⟩
          have hxs := HPX.out x (List.mem_of_getElem? hxk)
          rw [size_len] at hxs
          have hx65 : x.length ≤ 65535 := by omega
          have HST := Lib.hid (fold_go HW.out hfk hxk)
          obtain ⟨hkF, hlet⟩ := HLE.out k f hfk
          obtain ⟨g, o, rfl, _, hg, hcP0⟩ := HRD.out k x hxk
          have hcP := (HB.out.cell (p := ⟨g, o + k, none⟩) hg).trans hcP0
          unfold strV at hcP
          obtain ⟨X, hX⟩ : ∃ X : ByteArray, (⟨x.toArray⟩ : ByteArray) = X := ⟨_, rfl⟩
          have hXd : X.data.toList = x := by rw [← hX]
          have hXs : X.size ≤ 65535 := by rw [← size_len, hXd]; exact hx65
          rw [hX] at hcP
          obtain ⟨b, hb⟩ : ∃ b, isHost f = b := ⟨_, rfl⟩
          have HON : Hid (foldOne f x = if b then foldS x else x) := Lib.hid (by unfold foldOne; rw [hb])
          rw [hb] at hlet
          have hgw : g < wr.heap.size := Nat.lt_of_lt_of_le hg HB.out.size
          have hokF : (k : Int) < (F.size : Int) := by omega
          have hok : 0 ≤ (k : Int) := by omega
          clear hcP0 hfk hxk hb hxs hX
          cases b with
          | false =>
            have HST2 : Hid ((S ++ X).data.toList ++ foldL (fs.drop (k + 1)) (p.drop (k + 1)) = R) := Lib.hid (by have h := HST.out; rw [HON.out] at h; simpa [hXd] using h)
            have hsum : (S ++ X).size ≤ 65535 * (k + 1) := by rw [ByteArray.size_append]; omega
            have HSUM := Lib.hid hsum
            clear hXd hsum
            go_wp2_with fail
            have hkg := HKG.out
            go_roundg (gk - 1)
            case rel => exact ⟨k + 1, S ++ X, by go_num, rfl, by omega, by omega, HSUM.out, HST2, HB.out⟩
            case measure => omega
          | true =>
            have CN := Lib.hid (fun w => fold_any X w (by omega))
            rw [hXd] at CN
            have hfl := fold_short x
            obtain ⟨D, hD⟩ : ∃ D : ByteArray, (⟨(foldS x).toArray⟩ : ByteArray) = D := ⟨_, rfl⟩
            have hDd : D.data.toList = foldS x := by rw [← hD]
            have hDs : D.size ≤ 255 := by rw [← size_len, hDd]; exact hfl
            rw [hD] at CN
            have HST2 : Hid ((S ++ D).data.toList ++ foldL (fs.drop (k + 1)) (p.drop (k + 1)) = R) := Lib.hid (by have h := HST.out; rw [HON.out] at h; simpa [hDd] using h)
            have hsum : (S ++ D).size ≤ 65535 * (k + 1) := by rw [ByteArray.size_append]; omega
            have HSUM := Lib.hid hsum
            clear hXd hD hDd hfl hsum
            go_wp2_with fail
            refine (CN.out _).mono ?_
            rintro e w5 ⟨rfl, hB5⟩
            have HB5 := Lib.hid (HB.out.trans (hB5.mono HB.out.size))
            clear hB5 hcP
            go_wp2_with fail
            have hkg := HKG.out
            go_roundg (gk - 1)
            case rel => exact ⟨k + 1, S ++ D, by go_num, rfl, by omega, by omega, HSUM.out, HST2, HB5.out⟩
            case measure => omega
        · have hke : k = n := by omega
          have HE : Hid ((⟨R.toArray⟩ : ByteArray) = S) := Lib.hid (by
            have h := HW.out
            rw [List.drop_eq_nil_iff.2 (show fs.length ≤ k by have := HNN.out; omega)] at h
            have e : S.data.toList = R := by simpa [foldL] using h
            rw [← e])
          subst hke
          go_wp2_with fail
          go_ret
          exact ⟨by rw [HE.out]; rfl, HBW.out.trans (HB.out.mono HBW.out.size)⟩
  · have HN : Hid (R = []) := Lib.hid (by rw [← HR.out, foldDS, if_neg (by rw [hC]; exact hc0)])
    have hb : (C != 0) = true := by rw [bne_iff_ne]; exact hc0
    have hb2 : (C == 0) = false := by rw [beq_eq_false_iff_ne]; exact hc0
    clear hC hc0
    go_enter Tryz.func131, Tryz.ntmps131
    go_wp2_with fail
    refine (CC.out _).mono ?_
    rintro e w1 ⟨rfl, hB1⟩
    have HB1 := Lib.hid hB1; clear hB1
    go_wp2_with fail
    refine (CC.out _).mono ?_
    rintro e w2 ⟨rfl, hB2⟩
    have HB2 := Lib.hid (HB1.out.trans (hB2.mono HB1.out.size)); clear hB2
    go_wp2_with fail
    go_ret
    exact ⟨by first | (rw [HN.out]; done) | (rw [HN.out]; rfl), HB2.out⟩
end Go.Proofs.YtflijhodlimjoaaGreat.rfold
