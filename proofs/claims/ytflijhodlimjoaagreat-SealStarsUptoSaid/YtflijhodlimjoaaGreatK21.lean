/- A region that draws its order: loads taken first though the region's last operations write their cells. gazetteerref4.IsSet: walk. -/
import Derived.Test.YtflijhodlimjoaaGreatK1
import Derived.Test.YtflijhodlimjoaaGreatK18
import Derived.Test.YtflijhodlimjoaaGreatK20
import Derived.Test.YtflijhodlimjoaaGreatK19
import Derived.StillTail
import Derived.Deep.RegionHeld3
namespace Go.Proofs.YtflijhodlimjoaaGreat.heldG
open Go.RowKit
set_option linter.unusedVariables false

section
variable {P : Program} {ops : Array Oper} {Q : Exit → Act → World → Prop} {md : Region.Mode} {S : World → Prop} {T : Nat → Bool}
/-- S is owed behind each operation that is none of T's -/
def wpAnyG (P : Program) (md : Region.Mode) (ops : Array Oper) (Q : Exit → Act → World → Prop) (S : World → Prop) (T : Nat → Bool) : Nat → Array Bool → Act → World → Prop
  | 0, listed, a, w => Region.ready md ops listed = [] ∧ Q .normal a w
  | fuel + 1, listed, a, w =>
    (Region.ready md ops listed = [] → Q .normal a w) ∧
    ∀ i ∈ Region.ready md ops listed, wpOp P ops Q i (fun a' w' => (T i = false → S w') ∧ wpAnyG P md ops Q S T fuel (listed.setIfInBounds i true) a' w') a w
theorem any_of_G : ∀ (fuel : Nat) (listed : Array Bool) (a : Act) (w : World), wpAnyG P md ops Q S T fuel listed a w → wpAny P md ops Q fuel listed a w
  | 0, _, _, _, h => h
  | fuel + 1, _, _, _, h => ⟨h.1, fun i hi => wpOp_mono (fun a' w' h' => any_of_G fuel _ a' w' h'.2) (h.2 i hi)⟩
/-- each of T's waits for i -/
def waitB (md : Region.Mode) (ops : Array Oper) (T : Nat → Bool) (i : Nat) : Bool := (List.range ops.size).all fun t => !T t || Region.waitsFor md ops t i
theorem firstG {i : Nat} {oi : Oper} {v : Value} (hi : ops[i]? = some oi) (hsel : ∀ (j : Nat) (o : Oper) cs b, ops[j]? = some o → o.op ≠ .select cs b)
    (hQ : ∀ c a w, Q (.panic c) (a.put oi.dst v) w → Q (.panic c) a w) (hT : waitB md ops T i = true) (hTi : T i = false) :
    ∀ (fuel : Nat) (listed : Array Bool) (a : Act) (w : World),
      (∀ j oj, ops[j]? = some oj → j ≠ i → listed.getD j true = false → (∀ e ∈ oj.after, Region.binds md e = true → e.on ≠ i) → oi.apart ops oj = true) →
      i ∈ Region.ready md ops listed → YieldsIf P ops S oi v a → S w →
      wpAnyG P md ops Q S T fuel (listed.setIfInBounds i true) (a.put oi.dst v) w → wpAnyG P md ops Q S T (fuel + 1) listed a w := by
  intro fuel
  induction fuel with
  | zero =>
    intro listed a w _ hr hy hS H
    refine ⟨fun h => (by rw [h] at hr; cases hr), fun j hj => ?_⟩
    by_cases hji : j = i
    · subst hji; exact hy.wpOp hi hS ⟨fun _ => hS, H⟩
    · have := ready_mono hj hji
      rw [H.1] at this
      cases this
  | succ fuel ih =>
    intro listed a w hfree hr hy hS H
    refine ⟨fun h => (by rw [h] at hr; cases hr), fun j hj => ?_⟩
    by_cases hji : j = i
    · subst hji; exact hy.wpOp hi hS ⟨fun _ => hS, H⟩
    · have h1 := H.2 j (ready_mono hj hji)
      obtain ⟨hjun, oj, hoj, hall⟩ := mem_ready.1 hj
      have hnot : ∀ e ∈ oj.after, Region.binds md e = true → e.on ≠ i := fun e he hb heq => by
        have h1 := hall e he hb
        have h0 := (mem_ready.1 hr).1
        rw [heq] at h1
        rcases Nat.lt_or_ge i listed.size with h' | h'
        · simp [h'] at h0 h1; rw [h0] at h1; cases h1
        · simp [Array.getElem?_eq_none h'] at h1
      have hTj : T j = false := by
        cases hq : T j with
        | false => rfl
        | true =>
          have hlt : j < ops.size := (Array.getElem?_eq_some_iff.1 hoj).1
          have h2 := List.all_eq_true.1 hT j (List.mem_range.2 hlt)
          rw [hq] at h2
          simp only [Bool.not_true, Bool.false_or] at h2
          obtain ⟨o', ho', e, he, hb, hon⟩ := Region.waitsFor_spec h2
          have : o' = oj := Option.some.inj (ho'.symm.trans hoj)
          subst this
          exact absurd hon (hnot e he hb)
      have h2 := wpOp_putIf hoj (hfree j oj hoj hji hjun hnot) (fun cs b => hsel i oi cs b hi) (fun cs b => hsel j oj cs b hoj) hQ hy h1
      have hfree' : ∀ k ok, ops[k]? = some ok → k ≠ i → (listed.setIfInBounds j true).getD k true = false →
          (∀ e ∈ ok.after, Region.binds md e = true → e.on ≠ i) → oi.apart ops ok = true := fun k ok hk hki hun hno => by
        refine hfree k ok hk hki ?_ hno
        by_cases hjk : j = k
        · subst hjk; exact hjun
        · rw [getD_set_ne true hjk] at hun; exact hun
      refine wpOp_mono (fun a' w' h3 => ⟨h3.2.1, ih (listed.setIfInBounds j true) a' w' hfree' (ready_mono hr (Ne.symm hji)) h3.1 (h3.2.1 hTj) ?_⟩) h2
      rw [Array.setIfInBounds_comm _ _ hji]
      exact h3.2.2
theorem takeG {i : Nat} {oi : Oper} {v : Value} {fuel : Nat} {listed : Array Bool} {a : Act} {w : World} (hi : ops[i]? = some oi)
    (hs : Region.noSelect ops = true) (hf : Region.free md ops listed i = true) (hr : (Region.ready md ops listed).contains i = true)
    (hQ : ∀ c a w, Q (.panic c) (a.put oi.dst v) w → Q (.panic c) a w) (hT : waitB md ops T i = true) (hTi : T i = false) (hy : YieldsIf P ops S oi v a) (hS : S w)
    (h : wpAnyG P md ops Q S T fuel (listed.setIfInBounds i true) (a.put oi.dst v) w) : wpAnyG P md ops Q S T (fuel + 1) listed a w :=
  firstG hi (Region.noSelect_spec hs) hQ hT hTi fuel listed a w (Region.free_spec hi hf) (by simpa using hr) hy hS h
def AllG (P : Program) (md : Region.Mode) (ops : Array Oper) (Q : Exit → Act → World → Prop) (S : World → Prop) (T : Nat → Bool) (fuel : Nat) (listed : Array Bool) (a : Act) (w : World) (rs : List Nat) : Prop :=
  ∀ i ∈ rs, wpOp P ops Q i (fun a' w' => (T i = false → S w') ∧ wpAnyG P md ops Q S T fuel (listed.setIfInBounds i true) a' w') a w
theorem AllG.nil {fuel : Nat} {listed : Array Bool} {a : Act} {w : World} : AllG P md ops Q S T fuel listed a w [] := fun _ h => by cases h
theorem AllG.cons {fuel : Nat} {listed : Array Bool} {a : Act} {w : World} {i : Nat} {o : Oper} {rs : List Nat} (ho : ops[i]? = some o)
    (h : ∀ K' : Act → World → Prop, Shut (∀ a w, (T i = false → S w) → wpAnyG P md ops Q S T fuel (listed.setIfInBounds i true) a w → K' a w) → if Region.wanted o (yielded ops a.tmps) = true then Oper.wp P o a w K' Q else K' (a.put o.dst undef) w)
    (hs : AllG P md ops Q S T fuel listed a w rs) : AllG P md ops Q S T fuel listed a w (i :: rs) := fun j hj => by
  rcases List.mem_cons.1 hj with rfl | hj
  · exact wpOp_step ho (fun K' hK => h K' (fun a w hS hW => hK a w ⟨hS, hW⟩))
  · exact hs j hj
theorem readyG {rs : List Nat} {fuel : Nat} {listed : Array Bool} {a : Act} {w : World} (hr : Region.ready md ops listed = rs) (hne : rs ≠ [])
    (h : AllG P md ops Q S T fuel listed a w rs) : wpAnyG P md ops Q S T (fuel + 1) listed a w :=
  ⟨fun h0 => absurd (hr ▸ h0) hne, hr ▸ h⟩
theorem doneG {listed : Array Bool} {a : Act} {w : World} (hr : Region.ready md ops listed = []) (h : Q .normal a w) :
    ∀ fuel, wpAnyG P md ops Q S T fuel listed a w
  | 0 => ⟨hr, h⟩
  | _ + 1 => ⟨fun _ => h, by rw [hr]; simp⟩
theorem regionG {id : Nat} {a : Act} {w : World} (S : World → Prop) (T : Nat → Bool) (hm : P.follows .mixedOrders = true)
    (h : wpAnyG P .any ops Q S T ops.size (Array.replicate ops.size false) a w.drew) : (Code.region id ops true).wp P Q a w :=
  wp_region_any hm (any_of_G _ _ _ _ h)
end
end Go.Proofs.YtflijhodlimjoaaGreat.heldG
namespace Go.Proofs.YtflijhodlimjoaaGreat.isSet
open Go.RowKit Go.Proofs.YtflijhodlimjoaaGreat.kit Go.Proofs.YtflijhodlimjoaaGreat.timed Go.Proofs.YtflijhodlimjoaaGreat.nspec Go.Proofs.YtflijhodlimjoaaGreat.fld Go.Proofs.YtflijhodlimjoaaGreat.dfold Go.Proofs.YtflijhodlimjoaaGreat.refA Go.Proofs.YtflijhodlimjoaaGreat.wireP Go.Proofs.YtflijhodlimjoaaGreat.wireM Go.Proofs.YtflijhodlimjoaaGreat.rows Go.Proofs.YtflijhodlimjoaaGreat.sealA Go.Proofs.YtflijhodlimjoaaGreat.sealS
set_option linter.unusedVariables false

theorem takeD {P : Program} {ops : Array Oper} {Q : Exit → Act → World → Prop} {md : Region.Mode} {S : World → Prop} {T : Nat → Bool} {i d : Nat} {oi : Oper} {v : Value} {fuel : Nat} {listed : Array Bool} {a : Act} {w : World} (hi : ops[i]? = some oi) (hd : oi.dst = some d)
    (hs : Region.noSelect ops = true) (hf : Region.free md ops listed i = true) (hr : (Region.ready md ops listed).contains i = true)
    (hQ : ∀ c a w, Q (.panic c) (a.put oi.dst v) w → Q (.panic c) a w) (hT : heldG.waitB md ops T i = true) (hTi : T i = false) (hy : YieldsIf P ops S oi v a) (hS : S w)
    (h : heldG.wpAnyG P md ops Q S T fuel (listed.setIfInBounds i true) (a.put (some d) v) w) : heldG.wpAnyG P md ops Q S T (fuel + 1) listed a w :=
  heldG.takeG hi hs hf hr hQ hT hTi hy hS (by rw [hd]; exact h)
theorem cell_kept {w w' : World} {a : Addr} {v : Value} (hB : Below w.heap.size w w') (ha : w.cell? a = some v) : w'.cell? a = some v := (hB.cell (p := a) (World.block_lt_of_cell? w _ ha)).trans ha
theorem keepX {W w w' : World} {X g o : Nat} {v0 v1 v2 v3 v4 u0 u1 : Value} (h : w.cell? ⟨X, 0, none⟩ = some v0 ∧ w.cell? ⟨X, 1, none⟩ = some v1 ∧ w.cell? ⟨X, 2, none⟩ = some v2 ∧ w.cell? ⟨X, 3, none⟩ = some v3 ∧ w.cell? ⟨X, 4, none⟩ = some v4 ∧ w.cell? ⟨g, o, none⟩ = some u0 ∧ w.cell? ⟨g, o + 1, none⟩ = some u1 ∧ Below W.heap.size W w) (hB : Below w.heap.size w w') :
    w'.cell? ⟨X, 0, none⟩ = some v0 ∧ w'.cell? ⟨X, 1, none⟩ = some v1 ∧ w'.cell? ⟨X, 2, none⟩ = some v2 ∧ w'.cell? ⟨X, 3, none⟩ = some v3 ∧ w'.cell? ⟨X, 4, none⟩ = some v4 ∧ w'.cell? ⟨g, o, none⟩ = some u0 ∧ w'.cell? ⟨g, o + 1, none⟩ = some u1 ∧ Below W.heap.size W w' := by
  obtain ⟨a0, a1, a2, a3, a4, b0, b1, h9⟩ := h
  exact ⟨cell_kept hB a0, cell_kept hB a1, cell_kept hB a2, cell_kept hB a3, cell_kept hB a4, cell_kept hB b0, cell_kept hB b1, h9.trans (hB.mono h9.size)⟩
theorem keepY {W w w' : World} {X g o : Nat} {v1 v4 u : Value} (h : w.cell? ⟨X, 1, none⟩ = some v1 ∧ w.cell? ⟨X, 4, none⟩ = some v4 ∧ w.cell? ⟨g, o, none⟩ = some u ∧ Below W.heap.size W w) (hB : Below w.heap.size w w') :
    w'.cell? ⟨X, 1, none⟩ = some v1 ∧ w'.cell? ⟨X, 4, none⟩ = some v4 ∧ w'.cell? ⟨g, o, none⟩ = some u ∧ Below W.heap.size W w' := by
  obtain ⟨a1, a4, b0, h9⟩ := h
  exact ⟨cell_kept hB a1, cell_kept hB a4, cell_kept hB b0, h9.trans (hB.mono h9.size)⟩
set_option maxRecDepth 100000 in
set_option maxHeartbeats 16000000 in
theorem isset_any (a : Option Addr) (n c : Nat) (L : List Rc) (w : World) (hn : n = L.length) (hr : RdC w a 5 (L.map Rc.cells)) (ho : ∀ x ∈ L, OkR x) (hbig : n ≤ 1099511627776) :
    Calls Tryz.prog 63 #[.slice a n c] w fun e w' => e = .returned (.bool (setB L)) ∧ Below w.heap.size w w' := by
  obtain ⟨R, hR⟩ : ∃ R, setB L = R := ⟨_, rfl⟩
  rw [hR]
  have HR := Lib.hid hR; have HN := Lib.hid hn; have HRD := Lib.hid hr; have HO := Lib.hid ho
  clear hR hn hr ho
  go_enter Tryz.func63, Tryz.ntmps63
  go_wp2_with fail
  go_loopg [8] (n + 1) (fun gas kv wr => ∃ k : Nat, kv = .int .i64 (k : Int) ∧ k ≤ n ∧ k + gas = n + 1 ∧ Hid (∀ h, L[0]? = some h → Upto L h k) ∧ Hid (Below w.heap.size w wr))
  case atStart => exact ⟨0, rfl, by omega, by omega, Lib.hid (fun h _ => ⟨fun j x hj => by omega, fun i j x y _ hj => by omega⟩), Lib.hid (Below.refl _ _)⟩
  case round =>
    obtain ⟨k, rfl, hk, hkg, HU, HB⟩ := hrel
    have HK := Lib.hid hkg; clear hkg
    obtain ⟨gk', hgk'⟩ : ∃ g, g = gk := ⟨_, rfl⟩
    rw [← hgk'] at HK
    have hbz : w.heap.size ≤ wr.heap.size := HB.out.size
    by_cases hlt : k < n
    · obtain ⟨x, hx⟩ : ∃ x, L[k]? = some x := ⟨_, List.getElem?_eq_getElem (by have := HN.out; omega)⟩
      obtain ⟨h, h0⟩ : ∃ h, L[0]? = some h := ⟨_, List.getElem?_eq_getElem (by have := HN.out; omega)⟩
      have HX := Lib.hid hx; have H0 := Lib.hid h0
      have hox := HO.out x (List.mem_of_getElem? hx); have hoh := HO.out h (List.mem_of_getElem? h0)
      obtain ⟨g1, o1, rfl, hg1, hc1⟩ := at_r HRD.out hx
      obtain ⟨g2, o2, ha2, hg2, hc2⟩ := at_r HRD.out h0
      cases ha2
      obtain ⟨x0, x1, x2, x3, x4⟩ := hc1.below HB.out hg1
      have hh := hc2.below HB.out hg2
      have hB4 := (Below.refl wr.heap.size wr).alloc (Nat.le_refl _) (.cells #[.string x.o, .int .i64 x.t, .int .i64 x.c, .int .i64 x.l, .string x.d] 34)
      have hy := heap_alloc_new wr (.cells #[.string x.o, .int .i64 x.t, .int .i64 x.c, .int .i64 x.l, .string x.d] 34)
      have h0c : (wr.alloc (.cells #[.string x.o, .int .i64 x.t, .int .i64 x.c, .int .i64 x.l, .string x.d] 34)).cell? ⟨g1, o1, none⟩ = some (.string h.o) := by
        have h := cell_kept hB4 hh.1
        simpa using h
      have h1c : (wr.alloc (.cells #[.string x.o, .int .i64 x.t, .int .i64 x.c, .int .i64 x.l, .string x.d] 34)).cell? ⟨g1, o1 + 1, none⟩ = some (.int .i64 h.t) := by
        have h := cell_kept hB4 hh.2.1
        simpa using h
      have CZ := Lib.hid (fun wx => zonal_any x wx hox.o (Nat.le_trans hox.d (by unfold maxLen; omega)))
      have CE := Lib.hid (fun wx => refA.equal_any x.o h.o wx hox.o hoh.o)
      have CF := Lib.hid (fun (y : Rc) (hy : y ∈ L) wx => rfold.rfold_any x.t y.d wx (Nat.le_trans (HO.out y hy).d (by unfold maxLen; omega)))
      obtain ⟨X, hX⟩ : ∃ X, wr.heap.size = X := ⟨_, rfl⟩
      obtain ⟨w4, hw4⟩ : ∃ w4, wr.alloc (.cells #[.string x.o, .int .i64 x.t, .int .i64 x.c, .int .i64 x.l, .string x.d] 34) = w4 := ⟨_, rfl⟩
      rw [hw4] at hB4 hy h0c h1c
      rw [hX] at hy
      have HB4 := Lib.hid (HB.out.trans (hB4.mono hbz))
      have HW4 := Lib.hid hw4; have HXX := Lib.hid hX
      have hbz4 : w.heap.size ≤ w4.heap.size := HB4.out.size
      have y0 : w4.cell? ⟨X, 0, none⟩ = some (.string x.o) := by simp only [World.cell?, hy]; rfl
      have y1 : w4.cell? ⟨X, 1, none⟩ = some (.int .i64 x.t) := by simp only [World.cell?, hy]; rfl
      have y2 : w4.cell? ⟨X, 2, none⟩ = some (.int .i64 x.c) := by simp only [World.cell?, hy]; rfl
      have y3 : w4.cell? ⟨X, 3, none⟩ = some (.int .i64 x.l) := by simp only [World.cell?, hy]; rfl
      have y4 : w4.cell? ⟨X, 4, none⟩ = some (.string x.d) := by simp only [World.cell?, hy]; rfl
      have zk : (0 : Int) ≤ (k : Int) := by omega
      have zl : (k : Int) < (n : Int) := by omega
      have zn : (0 : Int) < (n : Int) := by omega
      have HOX := Lib.hid (show oneX h x = (zonB x && (!(x.t == 46) && (x.t == h.t && equalS x.o.data.toList h.o.data.toList))) from rfl)
      have hBd : Below w4.heap.size w4 w4.drew := (Below.refl _ _).drew
      obtain ⟨eq, heq⟩ : ∃ eq, equalS x.o.data.toList h.o.data.toList = eq := ⟨_, rfl⟩
      rw [heq] at CE HOX
      obtain ⟨zo, hzo⟩ : ∃ zo, zonB x = zo := ⟨_, rfl⟩
      rw [hzo] at CZ HOX
      clear hx h0 hc1 hc2 hh hB4 hy hX hw4 hlt hox hoh heq hzo HB
      trace "1"
      go_upto_region 4 with fail
      rw [HW4.out]
      try rw [HXX.out]
      clear x0 x1 x2 x3 x4
      obtain ⟨xo, hxo⟩ : ∃ z, x.o = z := ⟨_, rfl⟩
      obtain ⟨xt, hxt⟩ : ∃ z, x.t = z := ⟨_, rfl⟩
      obtain ⟨xc, hxc⟩ : ∃ z, x.c = z := ⟨_, rfl⟩
      obtain ⟨xl, hxl⟩ : ∃ z, x.l = z := ⟨_, rfl⟩
      obtain ⟨xd, hxd⟩ : ∃ z, x.d = z := ⟨_, rfl⟩
      rw [hxo] at y0 CZ CE; rw [hxt] at y1 CZ HOX CF; rw [hxc] at y2 CZ; rw [hxl] at y3 CZ; rw [hxd] at y4 CZ
      have HXT := Lib.hid hxt; have HXD := Lib.hid hxd
      clear hxo hxt hxc hxl hxd
      cases zo with
      | false =>
        have HRF : Hid (R = false) := Lib.hid (by rw [← HR.out]; exact set_one H0.out HX.out HOX.out)
        trace "2"
        refine heldG.regionG (fun w' => w'.cell? ⟨X, 0, none⟩ = some (.string xo) ∧ w'.cell? ⟨X, 1, none⟩ = some (.int .i64 xt) ∧ w'.cell? ⟨X, 2, none⟩ = some (.int .i64 xc) ∧ w'.cell? ⟨X, 3, none⟩ = some (.int .i64 xl) ∧ w'.cell? ⟨X, 4, none⟩ = some (.string xd) ∧ w'.cell? ⟨g1, o1, none⟩ = some (.string h.o) ∧ w'.cell? ⟨g1, o1 + 1, none⟩ = some (.int .i64 h.t) ∧ Below w4.heap.size w4 w') (fun _ => false) (by kernel_rfl) ?_
        have hS0 := keepX (W := w4) ⟨y0, y1, y2, y3, y4, h0c, h1c, Below.refl _ _⟩ hBd
        refine takeD (i := 0) (d := 13) (v := .agg #[.string xo, .int .i64 xt, .int .i64 xc, .int .i64 xl, .string xd]) rfl rfl (by kernel_rfl) (by kernel_rfl) (by kernel_rfl) (fun _ _ _ h => h) (by kernel_rfl) rfl (Or.inl ⟨by kernel_rfl, ?_⟩) hS0 ?_
        · intro wz hSw
          obtain ⟨s0, s1, s2, s3, s4, s5, s6, s7⟩ := hSw
          go_simp
        try simp only [Act.put, List.setIfInBounds_toArray, List.set_cons_zero, List.set_cons_succ]
        refine heldG.readyG (rs := [1]) (by kernel_rfl) (by simp) ?_
        refine heldG.AllG.cons rfl (fun KK hKK => ?_) heldG.AllG.nil
        go_simp
        refine (CZ.out _).mono ?_
        rintro en wa ⟨rfl, hBz⟩
        have hS1 := keepX hS0 hBz
        dsimp only
        refine hKK.out _ _ (fun _ => hS1) ?_; clear hKK KK hBz
        try simp only [Act.put, List.setIfInBounds_toArray, List.set_cons_zero, List.set_cons_succ]
        refine takeD (i := 2) (d := 15) (v := .bool true) rfl rfl (by kernel_rfl) (by kernel_rfl) (by kernel_rfl) (fun _ _ _ h => h) (by kernel_rfl) rfl (Or.inl ⟨by kernel_rfl, ?_⟩) hS1 ?_
        · intro wz hSw
          obtain ⟨s0, s1, s2, s3, s4, s5, s6, s7⟩ := hSw
          go_simp
        try simp only [Act.put, List.setIfInBounds_toArray, List.set_cons_zero, List.set_cons_succ]
        refine takeD (i := 3) (d := 16) (v := .bool true) rfl rfl (by kernel_rfl) (by kernel_rfl) (by kernel_rfl) (fun _ _ _ h => h) (by kernel_rfl) rfl (Or.inl ⟨by kernel_rfl, ?_⟩) hS1 ?_
        · intro wz hSw
          obtain ⟨s0, s1, s2, s3, s4, s5, s6, s7⟩ := hSw
          go_simp
        try simp only [Act.put, List.setIfInBounds_toArray, List.set_cons_zero, List.set_cons_succ]
        refine takeD (i := 4) (d := 17) (v := undef) rfl rfl (by kernel_rfl) (by kernel_rfl) (by kernel_rfl) (fun _ _ _ h => h) (by kernel_rfl) rfl (Or.inr ⟨by kernel_rfl, rfl⟩) hS1 ?_
        try simp only [Act.put, List.setIfInBounds_toArray, List.set_cons_zero, List.set_cons_succ]
        refine takeD (i := 5) (d := 18) (v := undef) rfl rfl (by kernel_rfl) (by kernel_rfl) (by kernel_rfl) (fun _ _ _ h => h) (by kernel_rfl) rfl (Or.inr ⟨by kernel_rfl, rfl⟩) hS1 ?_
        try simp only [Act.put, List.setIfInBounds_toArray, List.set_cons_zero, List.set_cons_succ]
        refine takeD (i := 6) (d := 19) (v := undef) rfl rfl (by kernel_rfl) (by kernel_rfl) (by kernel_rfl) (fun _ _ _ h => h) (by kernel_rfl) rfl (Or.inr ⟨by kernel_rfl, rfl⟩) hS1 ?_
        try simp only [Act.put, List.setIfInBounds_toArray, List.set_cons_zero, List.set_cons_succ]
        refine takeD (i := 7) (d := 20) (v := .bool true) rfl rfl (by kernel_rfl) (by kernel_rfl) (by kernel_rfl) (fun _ _ _ h => h) (by kernel_rfl) rfl (Or.inl ⟨by kernel_rfl, ?_⟩) hS1 ?_
        · intro wz hSw
          obtain ⟨s0, s1, s2, s3, s4, s5, s6, s7⟩ := hSw
          go_simp
        try simp only [Act.put, List.setIfInBounds_toArray, List.set_cons_zero, List.set_cons_succ]
        refine takeD (i := 8) (d := 21) (v := .bool true) rfl rfl (by kernel_rfl) (by kernel_rfl) (by kernel_rfl) (fun _ _ _ h => h) (by kernel_rfl) rfl (Or.inl ⟨by kernel_rfl, ?_⟩) hS1 ?_
        · intro wz hSw
          obtain ⟨s0, s1, s2, s3, s4, s5, s6, s7⟩ := hSw
          go_simp
        try simp only [Act.put, List.setIfInBounds_toArray, List.set_cons_zero, List.set_cons_succ]
        refine takeD (i := 9) (d := 22) (v := undef) rfl rfl (by kernel_rfl) (by kernel_rfl) (by kernel_rfl) (fun _ _ _ h => h) (by kernel_rfl) rfl (Or.inr ⟨by kernel_rfl, rfl⟩) hS1 ?_
        try simp only [Act.put, List.setIfInBounds_toArray, List.set_cons_zero, List.set_cons_succ]
        refine takeD (i := 10) (d := 23) (v := undef) rfl rfl (by kernel_rfl) (by kernel_rfl) (by kernel_rfl) (fun _ _ _ h => h) (by kernel_rfl) rfl (Or.inr ⟨by kernel_rfl, rfl⟩) hS1 ?_
        try simp only [Act.put, List.setIfInBounds_toArray, List.set_cons_zero, List.set_cons_succ]
        refine takeD (i := 11) (d := 24) (v := undef) rfl rfl (by kernel_rfl) (by kernel_rfl) (by kernel_rfl) (fun _ _ _ h => h) (by kernel_rfl) rfl (Or.inr ⟨by kernel_rfl, rfl⟩) hS1 ?_
        try simp only [Act.put, List.setIfInBounds_toArray, List.set_cons_zero, List.set_cons_succ]
        refine takeD (i := 12) (d := 25) (v := undef) rfl rfl (by kernel_rfl) (by kernel_rfl) (by kernel_rfl) (fun _ _ _ h => h) (by kernel_rfl) rfl (Or.inr ⟨by kernel_rfl, rfl⟩) hS1 ?_
        try simp only [Act.put, List.setIfInBounds_toArray, List.set_cons_zero, List.set_cons_succ]
        refine takeD (i := 13) (d := 26) (v := undef) rfl rfl (by kernel_rfl) (by kernel_rfl) (by kernel_rfl) (fun _ _ _ h => h) (by kernel_rfl) rfl (Or.inr ⟨by kernel_rfl, rfl⟩) hS1 ?_
        try simp only [Act.put, List.setIfInBounds_toArray, List.set_cons_zero, List.set_cons_succ]
        refine takeD (i := 14) (d := 27) (v := undef) rfl rfl (by kernel_rfl) (by kernel_rfl) (by kernel_rfl) (fun _ _ _ h => h) (by kernel_rfl) rfl (Or.inr ⟨by kernel_rfl, rfl⟩) hS1 ?_
        try simp only [Act.put, List.setIfInBounds_toArray, List.set_cons_zero, List.set_cons_succ]
        refine takeD (i := 15) (d := 28) (v := undef) rfl rfl (by kernel_rfl) (by kernel_rfl) (by kernel_rfl) (fun _ _ _ h => h) (by kernel_rfl) rfl (Or.inr ⟨by kernel_rfl, rfl⟩) hS1 ?_
        try simp only [Act.put, List.setIfInBounds_toArray, List.set_cons_zero, List.set_cons_succ]
        refine takeD (i := 16) (d := 29) (v := .bool true) rfl rfl (by kernel_rfl) (by kernel_rfl) (by kernel_rfl) (fun _ _ _ h => h) (by kernel_rfl) rfl (Or.inl ⟨by kernel_rfl, ?_⟩) hS1 ?_
        · intro wz hSw
          obtain ⟨s0, s1, s2, s3, s4, s5, s6, s7⟩ := hSw
          go_simp
        try simp only [Act.put, List.setIfInBounds_toArray, List.set_cons_zero, List.set_cons_succ]
        refine takeD (i := 17) (d := 30) (v := .bool true) rfl rfl (by kernel_rfl) (by kernel_rfl) (by kernel_rfl) (fun _ _ _ h => h) (by kernel_rfl) rfl (Or.inl ⟨by kernel_rfl, ?_⟩) hS1 ?_
        · intro wz hSw
          obtain ⟨s0, s1, s2, s3, s4, s5, s6, s7⟩ := hSw
          go_simp
        try simp only [Act.put, List.setIfInBounds_toArray, List.set_cons_zero, List.set_cons_succ]
        refine takeD (i := 18) (d := 31) (v := undef) rfl rfl (by kernel_rfl) (by kernel_rfl) (by kernel_rfl) (fun _ _ _ h => h) (by kernel_rfl) rfl (Or.inr ⟨by kernel_rfl, rfl⟩) hS1 ?_
        try simp only [Act.put, List.setIfInBounds_toArray, List.set_cons_zero, List.set_cons_succ]
        refine takeD (i := 19) (d := 32) (v := undef) rfl rfl (by kernel_rfl) (by kernel_rfl) (by kernel_rfl) (fun _ _ _ h => h) (by kernel_rfl) rfl (Or.inr ⟨by kernel_rfl, rfl⟩) hS1 ?_
        try simp only [Act.put, List.setIfInBounds_toArray, List.set_cons_zero, List.set_cons_succ]
        refine takeD (i := 20) (d := 33) (v := undef) rfl rfl (by kernel_rfl) (by kernel_rfl) (by kernel_rfl) (fun _ _ _ h => h) (by kernel_rfl) rfl (Or.inr ⟨by kernel_rfl, rfl⟩) hS1 ?_
        try simp only [Act.put, List.setIfInBounds_toArray, List.set_cons_zero, List.set_cons_succ]
        refine takeD (i := 21) (d := 34) (v := undef) rfl rfl (by kernel_rfl) (by kernel_rfl) (by kernel_rfl) (fun _ _ _ h => h) (by kernel_rfl) rfl (Or.inr ⟨by kernel_rfl, rfl⟩) hS1 ?_
        try simp only [Act.put, List.setIfInBounds_toArray, List.set_cons_zero, List.set_cons_succ]
        refine takeD (i := 22) (d := 35) (v := undef) rfl rfl (by kernel_rfl) (by kernel_rfl) (by kernel_rfl) (fun _ _ _ h => h) (by kernel_rfl) rfl (Or.inr ⟨by kernel_rfl, rfl⟩) hS1 ?_
        try simp only [Act.put, List.setIfInBounds_toArray, List.set_cons_zero, List.set_cons_succ]
        refine takeD (i := 23) (d := 36) (v := undef) rfl rfl (by kernel_rfl) (by kernel_rfl) (by kernel_rfl) (fun _ _ _ h => h) (by kernel_rfl) rfl (Or.inr ⟨by kernel_rfl, rfl⟩) hS1 ?_
        try simp only [Act.put, List.setIfInBounds_toArray, List.set_cons_zero, List.set_cons_succ]
        refine takeD (i := 24) (d := 37) (v := undef) rfl rfl (by kernel_rfl) (by kernel_rfl) (by kernel_rfl) (fun _ _ _ h => h) (by kernel_rfl) rfl (Or.inr ⟨by kernel_rfl, rfl⟩) hS1 ?_
        try simp only [Act.put, List.setIfInBounds_toArray, List.set_cons_zero, List.set_cons_succ]
        refine takeD (i := 25) (d := 38) (v := undef) rfl rfl (by kernel_rfl) (by kernel_rfl) (by kernel_rfl) (fun _ _ _ h => h) (by kernel_rfl) rfl (Or.inr ⟨by kernel_rfl, rfl⟩) hS1 ?_
        try simp only [Act.put, List.setIfInBounds_toArray, List.set_cons_zero, List.set_cons_succ]
        refine takeD (i := 26) (d := 39) (v := .bool true) rfl rfl (by kernel_rfl) (by kernel_rfl) (by kernel_rfl) (fun _ _ _ h => h) (by kernel_rfl) rfl (Or.inl ⟨by kernel_rfl, ?_⟩) hS1 ?_
        · intro wz hSw
          obtain ⟨s0, s1, s2, s3, s4, s5, s6, s7⟩ := hSw
          go_simp
        try simp only [Act.put, List.setIfInBounds_toArray, List.set_cons_zero, List.set_cons_succ]
        have hSF := hS1
        refine heldG.doneG (by kernel_rfl) ?_ _
        go_wp2_with fail; go_ret; exact ⟨by rw [HRF.out]; rfl, HB4.out.trans (hSF.2.2.2.2.2.2.2.mono hbz4)⟩
      | true =>
      by_cases h46 : xt = 46
      · have HRF : Hid (R = false) := Lib.hid (by rw [← HR.out]; refine set_one H0.out HX.out (HOX.out.trans ?_); rw [h46]; rfl)
        have HH46 := Lib.hid h46; clear h46
        trace "3"
        refine heldG.regionG (fun w' => w'.cell? ⟨X, 0, none⟩ = some (.string xo) ∧ w'.cell? ⟨X, 1, none⟩ = some (.int .i64 xt) ∧ w'.cell? ⟨X, 2, none⟩ = some (.int .i64 xc) ∧ w'.cell? ⟨X, 3, none⟩ = some (.int .i64 xl) ∧ w'.cell? ⟨X, 4, none⟩ = some (.string xd) ∧ w'.cell? ⟨g1, o1, none⟩ = some (.string h.o) ∧ w'.cell? ⟨g1, o1 + 1, none⟩ = some (.int .i64 h.t) ∧ Below w4.heap.size w4 w') (fun _ => false) (by kernel_rfl) ?_
        have hS0 := keepX (W := w4) ⟨y0, y1, y2, y3, y4, h0c, h1c, Below.refl _ _⟩ hBd
        refine takeD (i := 0) (d := 13) (v := .agg #[.string xo, .int .i64 xt, .int .i64 xc, .int .i64 xl, .string xd]) rfl rfl (by kernel_rfl) (by kernel_rfl) (by kernel_rfl) (fun _ _ _ h => h) (by kernel_rfl) rfl (Or.inl ⟨by kernel_rfl, ?_⟩) hS0 ?_
        · intro wz hSw
          obtain ⟨s0, s1, s2, s3, s4, s5, s6, s7⟩ := hSw
          go_simp
        try simp only [Act.put, List.setIfInBounds_toArray, List.set_cons_zero, List.set_cons_succ]
        refine heldG.readyG (rs := [1]) (by kernel_rfl) (by simp) ?_
        refine heldG.AllG.cons rfl (fun KK hKK => ?_) heldG.AllG.nil
        go_simp
        refine (CZ.out _).mono ?_
        rintro en wa ⟨rfl, hBz⟩
        have hS1 := keepX hS0 hBz
        dsimp only
        refine hKK.out _ _ (fun _ => hS1) ?_; clear hKK KK hBz
        try simp only [Act.put, List.setIfInBounds_toArray, List.set_cons_zero, List.set_cons_succ]
        refine takeD (i := 2) (d := 15) (v := .bool false) rfl rfl (by kernel_rfl) (by kernel_rfl) (by kernel_rfl) (fun _ _ _ h => h) (by kernel_rfl) rfl (Or.inl ⟨by kernel_rfl, ?_⟩) hS1 ?_
        · intro wz hSw
          obtain ⟨s0, s1, s2, s3, s4, s5, s6, s7⟩ := hSw
          go_simp
        try simp only [Act.put, List.setIfInBounds_toArray, List.set_cons_zero, List.set_cons_succ]
        refine takeD (i := 3) (d := 16) (v := .bool false) rfl rfl (by kernel_rfl) (by kernel_rfl) (by kernel_rfl) (fun _ _ _ h => h) (by kernel_rfl) rfl (Or.inl ⟨by kernel_rfl, ?_⟩) hS1 ?_
        · intro wz hSw
          obtain ⟨s0, s1, s2, s3, s4, s5, s6, s7⟩ := hSw
          go_simp
        try simp only [Act.put, List.setIfInBounds_toArray, List.set_cons_zero, List.set_cons_succ]
        refine takeD (i := 4) (d := 17) (v := .pointer (some ⟨X, 1, none⟩)) rfl rfl (by kernel_rfl) (by kernel_rfl) (by kernel_rfl) (fun _ _ _ h => h) (by kernel_rfl) rfl (Or.inl ⟨by kernel_rfl, ?_⟩) hS1 ?_
        · intro wz hSw
          obtain ⟨s0, s1, s2, s3, s4, s5, s6, s7⟩ := hSw
          go_simp
        try simp only [Act.put, List.setIfInBounds_toArray, List.set_cons_zero, List.set_cons_succ]
        refine takeD (i := 5) (d := 18) (v := .int .i64 xt) rfl rfl (by kernel_rfl) (by kernel_rfl) (by kernel_rfl) (fun _ _ _ h => h) (by kernel_rfl) rfl (Or.inl ⟨by kernel_rfl, ?_⟩) hS1 ?_
        · intro wz hSw
          obtain ⟨s0, s1, s2, s3, s4, s5, s6, s7⟩ := hSw
          go_simp
        try simp only [Act.put, List.setIfInBounds_toArray, List.set_cons_zero, List.set_cons_succ]
        refine takeD (i := 6) (d := 19) (v := .bool true) rfl rfl (by kernel_rfl) (by kernel_rfl) (by kernel_rfl) (fun _ _ _ h => h) (by kernel_rfl) rfl (Or.inl ⟨by kernel_rfl, ?_⟩) hS1 ?_
        · intro wz hSw
          obtain ⟨s0, s1, s2, s3, s4, s5, s6, s7⟩ := hSw
          go_simp; first | done | exact HH46.out | simp [HH46.out]
        try simp only [Act.put, List.setIfInBounds_toArray, List.set_cons_zero, List.set_cons_succ]
        refine takeD (i := 7) (d := 20) (v := .bool true) rfl rfl (by kernel_rfl) (by kernel_rfl) (by kernel_rfl) (fun _ _ _ h => h) (by kernel_rfl) rfl (Or.inl ⟨by kernel_rfl, ?_⟩) hS1 ?_
        · intro wz hSw
          obtain ⟨s0, s1, s2, s3, s4, s5, s6, s7⟩ := hSw
          go_simp
        try simp only [Act.put, List.setIfInBounds_toArray, List.set_cons_zero, List.set_cons_succ]
        refine takeD (i := 8) (d := 21) (v := .bool true) rfl rfl (by kernel_rfl) (by kernel_rfl) (by kernel_rfl) (fun _ _ _ h => h) (by kernel_rfl) rfl (Or.inl ⟨by kernel_rfl, ?_⟩) hS1 ?_
        · intro wz hSw
          obtain ⟨s0, s1, s2, s3, s4, s5, s6, s7⟩ := hSw
          go_simp
        try simp only [Act.put, List.setIfInBounds_toArray, List.set_cons_zero, List.set_cons_succ]
        refine takeD (i := 9) (d := 22) (v := undef) rfl rfl (by kernel_rfl) (by kernel_rfl) (by kernel_rfl) (fun _ _ _ h => h) (by kernel_rfl) rfl (Or.inr ⟨by kernel_rfl, rfl⟩) hS1 ?_
        try simp only [Act.put, List.setIfInBounds_toArray, List.set_cons_zero, List.set_cons_succ]
        refine takeD (i := 10) (d := 23) (v := undef) rfl rfl (by kernel_rfl) (by kernel_rfl) (by kernel_rfl) (fun _ _ _ h => h) (by kernel_rfl) rfl (Or.inr ⟨by kernel_rfl, rfl⟩) hS1 ?_
        try simp only [Act.put, List.setIfInBounds_toArray, List.set_cons_zero, List.set_cons_succ]
        refine takeD (i := 11) (d := 24) (v := undef) rfl rfl (by kernel_rfl) (by kernel_rfl) (by kernel_rfl) (fun _ _ _ h => h) (by kernel_rfl) rfl (Or.inr ⟨by kernel_rfl, rfl⟩) hS1 ?_
        try simp only [Act.put, List.setIfInBounds_toArray, List.set_cons_zero, List.set_cons_succ]
        refine takeD (i := 12) (d := 25) (v := undef) rfl rfl (by kernel_rfl) (by kernel_rfl) (by kernel_rfl) (fun _ _ _ h => h) (by kernel_rfl) rfl (Or.inr ⟨by kernel_rfl, rfl⟩) hS1 ?_
        try simp only [Act.put, List.setIfInBounds_toArray, List.set_cons_zero, List.set_cons_succ]
        refine takeD (i := 13) (d := 26) (v := undef) rfl rfl (by kernel_rfl) (by kernel_rfl) (by kernel_rfl) (fun _ _ _ h => h) (by kernel_rfl) rfl (Or.inr ⟨by kernel_rfl, rfl⟩) hS1 ?_
        try simp only [Act.put, List.setIfInBounds_toArray, List.set_cons_zero, List.set_cons_succ]
        refine takeD (i := 14) (d := 27) (v := undef) rfl rfl (by kernel_rfl) (by kernel_rfl) (by kernel_rfl) (fun _ _ _ h => h) (by kernel_rfl) rfl (Or.inr ⟨by kernel_rfl, rfl⟩) hS1 ?_
        try simp only [Act.put, List.setIfInBounds_toArray, List.set_cons_zero, List.set_cons_succ]
        refine takeD (i := 15) (d := 28) (v := undef) rfl rfl (by kernel_rfl) (by kernel_rfl) (by kernel_rfl) (fun _ _ _ h => h) (by kernel_rfl) rfl (Or.inr ⟨by kernel_rfl, rfl⟩) hS1 ?_
        try simp only [Act.put, List.setIfInBounds_toArray, List.set_cons_zero, List.set_cons_succ]
        refine takeD (i := 16) (d := 29) (v := .bool true) rfl rfl (by kernel_rfl) (by kernel_rfl) (by kernel_rfl) (fun _ _ _ h => h) (by kernel_rfl) rfl (Or.inl ⟨by kernel_rfl, ?_⟩) hS1 ?_
        · intro wz hSw
          obtain ⟨s0, s1, s2, s3, s4, s5, s6, s7⟩ := hSw
          go_simp
        try simp only [Act.put, List.setIfInBounds_toArray, List.set_cons_zero, List.set_cons_succ]
        refine takeD (i := 17) (d := 30) (v := .bool true) rfl rfl (by kernel_rfl) (by kernel_rfl) (by kernel_rfl) (fun _ _ _ h => h) (by kernel_rfl) rfl (Or.inl ⟨by kernel_rfl, ?_⟩) hS1 ?_
        · intro wz hSw
          obtain ⟨s0, s1, s2, s3, s4, s5, s6, s7⟩ := hSw
          go_simp
        try simp only [Act.put, List.setIfInBounds_toArray, List.set_cons_zero, List.set_cons_succ]
        refine takeD (i := 18) (d := 31) (v := undef) rfl rfl (by kernel_rfl) (by kernel_rfl) (by kernel_rfl) (fun _ _ _ h => h) (by kernel_rfl) rfl (Or.inr ⟨by kernel_rfl, rfl⟩) hS1 ?_
        try simp only [Act.put, List.setIfInBounds_toArray, List.set_cons_zero, List.set_cons_succ]
        refine takeD (i := 19) (d := 32) (v := undef) rfl rfl (by kernel_rfl) (by kernel_rfl) (by kernel_rfl) (fun _ _ _ h => h) (by kernel_rfl) rfl (Or.inr ⟨by kernel_rfl, rfl⟩) hS1 ?_
        try simp only [Act.put, List.setIfInBounds_toArray, List.set_cons_zero, List.set_cons_succ]
        refine takeD (i := 20) (d := 33) (v := undef) rfl rfl (by kernel_rfl) (by kernel_rfl) (by kernel_rfl) (fun _ _ _ h => h) (by kernel_rfl) rfl (Or.inr ⟨by kernel_rfl, rfl⟩) hS1 ?_
        try simp only [Act.put, List.setIfInBounds_toArray, List.set_cons_zero, List.set_cons_succ]
        refine takeD (i := 21) (d := 34) (v := undef) rfl rfl (by kernel_rfl) (by kernel_rfl) (by kernel_rfl) (fun _ _ _ h => h) (by kernel_rfl) rfl (Or.inr ⟨by kernel_rfl, rfl⟩) hS1 ?_
        try simp only [Act.put, List.setIfInBounds_toArray, List.set_cons_zero, List.set_cons_succ]
        refine takeD (i := 22) (d := 35) (v := undef) rfl rfl (by kernel_rfl) (by kernel_rfl) (by kernel_rfl) (fun _ _ _ h => h) (by kernel_rfl) rfl (Or.inr ⟨by kernel_rfl, rfl⟩) hS1 ?_
        try simp only [Act.put, List.setIfInBounds_toArray, List.set_cons_zero, List.set_cons_succ]
        refine takeD (i := 23) (d := 36) (v := undef) rfl rfl (by kernel_rfl) (by kernel_rfl) (by kernel_rfl) (fun _ _ _ h => h) (by kernel_rfl) rfl (Or.inr ⟨by kernel_rfl, rfl⟩) hS1 ?_
        try simp only [Act.put, List.setIfInBounds_toArray, List.set_cons_zero, List.set_cons_succ]
        refine takeD (i := 24) (d := 37) (v := undef) rfl rfl (by kernel_rfl) (by kernel_rfl) (by kernel_rfl) (fun _ _ _ h => h) (by kernel_rfl) rfl (Or.inr ⟨by kernel_rfl, rfl⟩) hS1 ?_
        try simp only [Act.put, List.setIfInBounds_toArray, List.set_cons_zero, List.set_cons_succ]
        refine takeD (i := 25) (d := 38) (v := undef) rfl rfl (by kernel_rfl) (by kernel_rfl) (by kernel_rfl) (fun _ _ _ h => h) (by kernel_rfl) rfl (Or.inr ⟨by kernel_rfl, rfl⟩) hS1 ?_
        try simp only [Act.put, List.setIfInBounds_toArray, List.set_cons_zero, List.set_cons_succ]
        refine takeD (i := 26) (d := 39) (v := .bool true) rfl rfl (by kernel_rfl) (by kernel_rfl) (by kernel_rfl) (fun _ _ _ h => h) (by kernel_rfl) rfl (Or.inl ⟨by kernel_rfl, ?_⟩) hS1 ?_
        · intro wz hSw
          obtain ⟨s0, s1, s2, s3, s4, s5, s6, s7⟩ := hSw
          go_simp
        try simp only [Act.put, List.setIfInBounds_toArray, List.set_cons_zero, List.set_cons_succ]
        have hSF := hS1
        refine heldG.doneG (by kernel_rfl) ?_ _
        go_wp2_with fail; go_ret; exact ⟨by rw [HRF.out]; rfl, HB4.out.trans (hSF.2.2.2.2.2.2.2.mono hbz4)⟩
      have HH46 := Lib.hid h46
      by_cases hth : xt = h.t
      case neg =>
        have HRF : Hid (R = false) := Lib.hid (by rw [← HR.out]; refine set_one H0.out HX.out (HOX.out.trans ?_); rw [show (xt == h.t) = false from beq_eq_false_iff_ne.2 hth]; simp)
        have HTH := Lib.hid hth
        clear hth h46
        trace "4"
        refine heldG.regionG (fun w' => w'.cell? ⟨X, 0, none⟩ = some (.string xo) ∧ w'.cell? ⟨X, 1, none⟩ = some (.int .i64 xt) ∧ w'.cell? ⟨X, 2, none⟩ = some (.int .i64 xc) ∧ w'.cell? ⟨X, 3, none⟩ = some (.int .i64 xl) ∧ w'.cell? ⟨X, 4, none⟩ = some (.string xd) ∧ w'.cell? ⟨g1, o1, none⟩ = some (.string h.o) ∧ w'.cell? ⟨g1, o1 + 1, none⟩ = some (.int .i64 h.t) ∧ Below w4.heap.size w4 w') (fun _ => false) (by kernel_rfl) ?_
        have hS0 := keepX (W := w4) ⟨y0, y1, y2, y3, y4, h0c, h1c, Below.refl _ _⟩ hBd
        refine takeD (i := 0) (d := 13) (v := .agg #[.string xo, .int .i64 xt, .int .i64 xc, .int .i64 xl, .string xd]) rfl rfl (by kernel_rfl) (by kernel_rfl) (by kernel_rfl) (fun _ _ _ h => h) (by kernel_rfl) rfl (Or.inl ⟨by kernel_rfl, ?_⟩) hS0 ?_
        · intro wz hSw
          obtain ⟨s0, s1, s2, s3, s4, s5, s6, s7⟩ := hSw
          go_simp
        try simp only [Act.put, List.setIfInBounds_toArray, List.set_cons_zero, List.set_cons_succ]
        refine heldG.readyG (rs := [1]) (by kernel_rfl) (by simp) ?_
        refine heldG.AllG.cons rfl (fun KK hKK => ?_) heldG.AllG.nil
        go_simp
        refine (CZ.out _).mono ?_
        rintro en wa ⟨rfl, hBz⟩
        have hS1 := keepX hS0 hBz
        dsimp only
        refine hKK.out _ _ (fun _ => hS1) ?_; clear hKK KK hBz
        try simp only [Act.put, List.setIfInBounds_toArray, List.set_cons_zero, List.set_cons_succ]
        refine takeD (i := 2) (d := 15) (v := .bool false) rfl rfl (by kernel_rfl) (by kernel_rfl) (by kernel_rfl) (fun _ _ _ h => h) (by kernel_rfl) rfl (Or.inl ⟨by kernel_rfl, ?_⟩) hS1 ?_
        · intro wz hSw
          obtain ⟨s0, s1, s2, s3, s4, s5, s6, s7⟩ := hSw
          go_simp
        try simp only [Act.put, List.setIfInBounds_toArray, List.set_cons_zero, List.set_cons_succ]
        refine takeD (i := 3) (d := 16) (v := .bool false) rfl rfl (by kernel_rfl) (by kernel_rfl) (by kernel_rfl) (fun _ _ _ h => h) (by kernel_rfl) rfl (Or.inl ⟨by kernel_rfl, ?_⟩) hS1 ?_
        · intro wz hSw
          obtain ⟨s0, s1, s2, s3, s4, s5, s6, s7⟩ := hSw
          go_simp
        try simp only [Act.put, List.setIfInBounds_toArray, List.set_cons_zero, List.set_cons_succ]
        refine takeD (i := 4) (d := 17) (v := .pointer (some ⟨X, 1, none⟩)) rfl rfl (by kernel_rfl) (by kernel_rfl) (by kernel_rfl) (fun _ _ _ h => h) (by kernel_rfl) rfl (Or.inl ⟨by kernel_rfl, ?_⟩) hS1 ?_
        · intro wz hSw
          obtain ⟨s0, s1, s2, s3, s4, s5, s6, s7⟩ := hSw
          go_simp
        try simp only [Act.put, List.setIfInBounds_toArray, List.set_cons_zero, List.set_cons_succ]
        refine takeD (i := 5) (d := 18) (v := .int .i64 xt) rfl rfl (by kernel_rfl) (by kernel_rfl) (by kernel_rfl) (fun _ _ _ h => h) (by kernel_rfl) rfl (Or.inl ⟨by kernel_rfl, ?_⟩) hS1 ?_
        · intro wz hSw
          obtain ⟨s0, s1, s2, s3, s4, s5, s6, s7⟩ := hSw
          go_simp
        try simp only [Act.put, List.setIfInBounds_toArray, List.set_cons_zero, List.set_cons_succ]
        refine takeD (i := 6) (d := 19) (v := .bool false) rfl rfl (by kernel_rfl) (by kernel_rfl) (by kernel_rfl) (fun _ _ _ h => h) (by kernel_rfl) rfl (Or.inl ⟨by kernel_rfl, ?_⟩) hS1 ?_
        · intro wz hSw
          obtain ⟨s0, s1, s2, s3, s4, s5, s6, s7⟩ := hSw
          go_simp; first | done | exact HH46.out | simp [HH46.out]
        try simp only [Act.put, List.setIfInBounds_toArray, List.set_cons_zero, List.set_cons_succ]
        refine takeD (i := 7) (d := 20) (v := .bool false) rfl rfl (by kernel_rfl) (by kernel_rfl) (by kernel_rfl) (fun _ _ _ h => h) (by kernel_rfl) rfl (Or.inl ⟨by kernel_rfl, ?_⟩) hS1 ?_
        · intro wz hSw
          obtain ⟨s0, s1, s2, s3, s4, s5, s6, s7⟩ := hSw
          go_simp
        try simp only [Act.put, List.setIfInBounds_toArray, List.set_cons_zero, List.set_cons_succ]
        refine takeD (i := 8) (d := 21) (v := .bool false) rfl rfl (by kernel_rfl) (by kernel_rfl) (by kernel_rfl) (fun _ _ _ h => h) (by kernel_rfl) rfl (Or.inl ⟨by kernel_rfl, ?_⟩) hS1 ?_
        · intro wz hSw
          obtain ⟨s0, s1, s2, s3, s4, s5, s6, s7⟩ := hSw
          go_simp
        try simp only [Act.put, List.setIfInBounds_toArray, List.set_cons_zero, List.set_cons_succ]
        refine takeD (i := 9) (d := 22) (v := .pointer (some ⟨X, 1, none⟩)) rfl rfl (by kernel_rfl) (by kernel_rfl) (by kernel_rfl) (fun _ _ _ h => h) (by kernel_rfl) rfl (Or.inl ⟨by kernel_rfl, ?_⟩) hS1 ?_
        · intro wz hSw
          obtain ⟨s0, s1, s2, s3, s4, s5, s6, s7⟩ := hSw
          go_simp
        try simp only [Act.put, List.setIfInBounds_toArray, List.set_cons_zero, List.set_cons_succ]
        refine takeD (i := 10) (d := 23) (v := .int .i64 xt) rfl rfl (by kernel_rfl) (by kernel_rfl) (by kernel_rfl) (fun _ _ _ h => h) (by kernel_rfl) rfl (Or.inl ⟨by kernel_rfl, ?_⟩) hS1 ?_
        · intro wz hSw
          obtain ⟨s0, s1, s2, s3, s4, s5, s6, s7⟩ := hSw
          go_simp
        try simp only [Act.put, List.setIfInBounds_toArray, List.set_cons_zero, List.set_cons_succ]
        refine takeD (i := 11) (d := 24) (v := .slice (some ⟨g1, o1, none⟩) n c) rfl rfl (by kernel_rfl) (by kernel_rfl) (by kernel_rfl) (fun _ _ _ h => h) (by kernel_rfl) rfl (Or.inl ⟨by kernel_rfl, ?_⟩) hS1 ?_
        · intro wz hSw
          obtain ⟨s0, s1, s2, s3, s4, s5, s6, s7⟩ := hSw
          go_simp
        try simp only [Act.put, List.setIfInBounds_toArray, List.set_cons_zero, List.set_cons_succ]
        refine takeD (i := 12) (d := 25) (v := .pointer (some ⟨g1, o1, none⟩)) rfl rfl (by kernel_rfl) (by kernel_rfl) (by kernel_rfl) (fun _ _ _ h => h) (by kernel_rfl) rfl (Or.inl ⟨by kernel_rfl, ?_⟩) hS1 ?_
        · intro wz hSw
          obtain ⟨s0, s1, s2, s3, s4, s5, s6, s7⟩ := hSw
          go_simp; try (intro h0; exfalso; omega)
        try simp only [Act.put, List.setIfInBounds_toArray, List.set_cons_zero, List.set_cons_succ]
        refine takeD (i := 13) (d := 26) (v := .pointer (some ⟨g1, o1 + 1, none⟩)) rfl rfl (by kernel_rfl) (by kernel_rfl) (by kernel_rfl) (fun _ _ _ h => h) (by kernel_rfl) rfl (Or.inl ⟨by kernel_rfl, ?_⟩) hS1 ?_
        · intro wz hSw
          obtain ⟨s0, s1, s2, s3, s4, s5, s6, s7⟩ := hSw
          go_simp
        try simp only [Act.put, List.setIfInBounds_toArray, List.set_cons_zero, List.set_cons_succ]
        refine takeD (i := 14) (d := 27) (v := .int .i64 h.t) rfl rfl (by kernel_rfl) (by kernel_rfl) (by kernel_rfl) (fun _ _ _ h => h) (by kernel_rfl) rfl (Or.inl ⟨by kernel_rfl, ?_⟩) hS1 ?_
        · intro wz hSw
          obtain ⟨s0, s1, s2, s3, s4, s5, s6, s7⟩ := hSw
          go_simp
        try simp only [Act.put, List.setIfInBounds_toArray, List.set_cons_zero, List.set_cons_succ]
        refine takeD (i := 15) (d := 28) (v := .bool true) rfl rfl (by kernel_rfl) (by kernel_rfl) (by kernel_rfl) (fun _ _ _ h => h) (by kernel_rfl) rfl (Or.inl ⟨by kernel_rfl, ?_⟩) hS1 ?_
        · intro wz hSw
          obtain ⟨s0, s1, s2, s3, s4, s5, s6, s7⟩ := hSw
          go_simp; first | done | exact HTH.out | simp [HTH.out]
        try simp only [Act.put, List.setIfInBounds_toArray, List.set_cons_zero, List.set_cons_succ]
        refine takeD (i := 16) (d := 29) (v := .bool true) rfl rfl (by kernel_rfl) (by kernel_rfl) (by kernel_rfl) (fun _ _ _ h => h) (by kernel_rfl) rfl (Or.inl ⟨by kernel_rfl, ?_⟩) hS1 ?_
        · intro wz hSw
          obtain ⟨s0, s1, s2, s3, s4, s5, s6, s7⟩ := hSw
          go_simp
        try simp only [Act.put, List.setIfInBounds_toArray, List.set_cons_zero, List.set_cons_succ]
        refine takeD (i := 17) (d := 30) (v := .bool true) rfl rfl (by kernel_rfl) (by kernel_rfl) (by kernel_rfl) (fun _ _ _ h => h) (by kernel_rfl) rfl (Or.inl ⟨by kernel_rfl, ?_⟩) hS1 ?_
        · intro wz hSw
          obtain ⟨s0, s1, s2, s3, s4, s5, s6, s7⟩ := hSw
          go_simp
        try simp only [Act.put, List.setIfInBounds_toArray, List.set_cons_zero, List.set_cons_succ]
        refine takeD (i := 18) (d := 31) (v := undef) rfl rfl (by kernel_rfl) (by kernel_rfl) (by kernel_rfl) (fun _ _ _ h => h) (by kernel_rfl) rfl (Or.inr ⟨by kernel_rfl, rfl⟩) hS1 ?_
        try simp only [Act.put, List.setIfInBounds_toArray, List.set_cons_zero, List.set_cons_succ]
        refine takeD (i := 19) (d := 32) (v := undef) rfl rfl (by kernel_rfl) (by kernel_rfl) (by kernel_rfl) (fun _ _ _ h => h) (by kernel_rfl) rfl (Or.inr ⟨by kernel_rfl, rfl⟩) hS1 ?_
        try simp only [Act.put, List.setIfInBounds_toArray, List.set_cons_zero, List.set_cons_succ]
        refine takeD (i := 20) (d := 33) (v := undef) rfl rfl (by kernel_rfl) (by kernel_rfl) (by kernel_rfl) (fun _ _ _ h => h) (by kernel_rfl) rfl (Or.inr ⟨by kernel_rfl, rfl⟩) hS1 ?_
        try simp only [Act.put, List.setIfInBounds_toArray, List.set_cons_zero, List.set_cons_succ]
        refine takeD (i := 21) (d := 34) (v := undef) rfl rfl (by kernel_rfl) (by kernel_rfl) (by kernel_rfl) (fun _ _ _ h => h) (by kernel_rfl) rfl (Or.inr ⟨by kernel_rfl, rfl⟩) hS1 ?_
        try simp only [Act.put, List.setIfInBounds_toArray, List.set_cons_zero, List.set_cons_succ]
        refine takeD (i := 22) (d := 35) (v := undef) rfl rfl (by kernel_rfl) (by kernel_rfl) (by kernel_rfl) (fun _ _ _ h => h) (by kernel_rfl) rfl (Or.inr ⟨by kernel_rfl, rfl⟩) hS1 ?_
        try simp only [Act.put, List.setIfInBounds_toArray, List.set_cons_zero, List.set_cons_succ]
        refine takeD (i := 23) (d := 36) (v := undef) rfl rfl (by kernel_rfl) (by kernel_rfl) (by kernel_rfl) (fun _ _ _ h => h) (by kernel_rfl) rfl (Or.inr ⟨by kernel_rfl, rfl⟩) hS1 ?_
        try simp only [Act.put, List.setIfInBounds_toArray, List.set_cons_zero, List.set_cons_succ]
        refine takeD (i := 24) (d := 37) (v := undef) rfl rfl (by kernel_rfl) (by kernel_rfl) (by kernel_rfl) (fun _ _ _ h => h) (by kernel_rfl) rfl (Or.inr ⟨by kernel_rfl, rfl⟩) hS1 ?_
        try simp only [Act.put, List.setIfInBounds_toArray, List.set_cons_zero, List.set_cons_succ]
        refine takeD (i := 25) (d := 38) (v := undef) rfl rfl (by kernel_rfl) (by kernel_rfl) (by kernel_rfl) (fun _ _ _ h => h) (by kernel_rfl) rfl (Or.inr ⟨by kernel_rfl, rfl⟩) hS1 ?_
        try simp only [Act.put, List.setIfInBounds_toArray, List.set_cons_zero, List.set_cons_succ]
        refine takeD (i := 26) (d := 39) (v := .bool true) rfl rfl (by kernel_rfl) (by kernel_rfl) (by kernel_rfl) (fun _ _ _ h => h) (by kernel_rfl) rfl (Or.inl ⟨by kernel_rfl, ?_⟩) hS1 ?_
        · intro wz hSw
          obtain ⟨s0, s1, s2, s3, s4, s5, s6, s7⟩ := hSw
          go_simp
        try simp only [Act.put, List.setIfInBounds_toArray, List.set_cons_zero, List.set_cons_succ]
        have hSF := hS1
        refine heldG.doneG (by kernel_rfl) ?_ _
        go_wp2_with fail; go_ret; exact ⟨by rw [HRF.out]; rfl, HB4.out.trans (hSF.2.2.2.2.2.2.2.mono hbz4)⟩
      have HTH := Lib.hid hth
      clear h46 hth
      trace "5"
      refine heldG.regionG (fun w' => w'.cell? ⟨X, 0, none⟩ = some (.string xo) ∧ w'.cell? ⟨X, 1, none⟩ = some (.int .i64 xt) ∧ w'.cell? ⟨X, 2, none⟩ = some (.int .i64 xc) ∧ w'.cell? ⟨X, 3, none⟩ = some (.int .i64 xl) ∧ w'.cell? ⟨X, 4, none⟩ = some (.string xd) ∧ w'.cell? ⟨g1, o1, none⟩ = some (.string h.o) ∧ w'.cell? ⟨g1, o1 + 1, none⟩ = some (.int .i64 h.t) ∧ Below w4.heap.size w4 w') (fun _ => false) (by kernel_rfl) ?_
      have hS0 := keepX (W := w4) ⟨y0, y1, y2, y3, y4, h0c, h1c, Below.refl _ _⟩ hBd
      refine takeD (i := 0) (d := 13) (v := .agg #[.string xo, .int .i64 xt, .int .i64 xc, .int .i64 xl, .string xd]) rfl rfl (by kernel_rfl) (by kernel_rfl) (by kernel_rfl) (fun _ _ _ h => h) (by kernel_rfl) rfl (Or.inl ⟨by kernel_rfl, ?_⟩) hS0 ?_
      · intro wz hSw
        obtain ⟨s0, s1, s2, s3, s4, s5, s6, s7⟩ := hSw
        go_simp
      try simp only [Act.put, List.setIfInBounds_toArray, List.set_cons_zero, List.set_cons_succ]
      refine heldG.readyG (rs := [1]) (by kernel_rfl) (by simp) ?_
      refine heldG.AllG.cons rfl (fun KK hKK => ?_) heldG.AllG.nil
      go_simp
      refine (CZ.out _).mono ?_
      rintro en wa ⟨rfl, hBz⟩
      have hS1 := keepX hS0 hBz
      dsimp only
      refine hKK.out _ _ (fun _ => hS1) ?_; clear hKK KK hBz
      try simp only [Act.put, List.setIfInBounds_toArray, List.set_cons_zero, List.set_cons_succ]
      refine takeD (i := 2) (d := 15) (v := .bool false) rfl rfl (by kernel_rfl) (by kernel_rfl) (by kernel_rfl) (fun _ _ _ h => h) (by kernel_rfl) rfl (Or.inl ⟨by kernel_rfl, ?_⟩) hS1 ?_
      · intro wz hSw
        obtain ⟨s0, s1, s2, s3, s4, s5, s6, s7⟩ := hSw
        go_simp
      try simp only [Act.put, List.setIfInBounds_toArray, List.set_cons_zero, List.set_cons_succ]
      refine takeD (i := 3) (d := 16) (v := .bool false) rfl rfl (by kernel_rfl) (by kernel_rfl) (by kernel_rfl) (fun _ _ _ h => h) (by kernel_rfl) rfl (Or.inl ⟨by kernel_rfl, ?_⟩) hS1 ?_
      · intro wz hSw
        obtain ⟨s0, s1, s2, s3, s4, s5, s6, s7⟩ := hSw
        go_simp
      try simp only [Act.put, List.setIfInBounds_toArray, List.set_cons_zero, List.set_cons_succ]
      refine takeD (i := 4) (d := 17) (v := .pointer (some ⟨X, 1, none⟩)) rfl rfl (by kernel_rfl) (by kernel_rfl) (by kernel_rfl) (fun _ _ _ h => h) (by kernel_rfl) rfl (Or.inl ⟨by kernel_rfl, ?_⟩) hS1 ?_
      · intro wz hSw
        obtain ⟨s0, s1, s2, s3, s4, s5, s6, s7⟩ := hSw
        go_simp
      try simp only [Act.put, List.setIfInBounds_toArray, List.set_cons_zero, List.set_cons_succ]
      refine takeD (i := 5) (d := 18) (v := .int .i64 xt) rfl rfl (by kernel_rfl) (by kernel_rfl) (by kernel_rfl) (fun _ _ _ h => h) (by kernel_rfl) rfl (Or.inl ⟨by kernel_rfl, ?_⟩) hS1 ?_
      · intro wz hSw
        obtain ⟨s0, s1, s2, s3, s4, s5, s6, s7⟩ := hSw
        go_simp
      try simp only [Act.put, List.setIfInBounds_toArray, List.set_cons_zero, List.set_cons_succ]
      refine takeD (i := 6) (d := 19) (v := .bool false) rfl rfl (by kernel_rfl) (by kernel_rfl) (by kernel_rfl) (fun _ _ _ h => h) (by kernel_rfl) rfl (Or.inl ⟨by kernel_rfl, ?_⟩) hS1 ?_
      · intro wz hSw
        obtain ⟨s0, s1, s2, s3, s4, s5, s6, s7⟩ := hSw
        go_simp; first | done | exact HH46.out | simp [HH46.out]
      try simp only [Act.put, List.setIfInBounds_toArray, List.set_cons_zero, List.set_cons_succ]
      refine takeD (i := 7) (d := 20) (v := .bool false) rfl rfl (by kernel_rfl) (by kernel_rfl) (by kernel_rfl) (fun _ _ _ h => h) (by kernel_rfl) rfl (Or.inl ⟨by kernel_rfl, ?_⟩) hS1 ?_
      · intro wz hSw
        obtain ⟨s0, s1, s2, s3, s4, s5, s6, s7⟩ := hSw
        go_simp
      try simp only [Act.put, List.setIfInBounds_toArray, List.set_cons_zero, List.set_cons_succ]
      refine takeD (i := 8) (d := 21) (v := .bool false) rfl rfl (by kernel_rfl) (by kernel_rfl) (by kernel_rfl) (fun _ _ _ h => h) (by kernel_rfl) rfl (Or.inl ⟨by kernel_rfl, ?_⟩) hS1 ?_
      · intro wz hSw
        obtain ⟨s0, s1, s2, s3, s4, s5, s6, s7⟩ := hSw
        go_simp
      try simp only [Act.put, List.setIfInBounds_toArray, List.set_cons_zero, List.set_cons_succ]
      refine takeD (i := 9) (d := 22) (v := .pointer (some ⟨X, 1, none⟩)) rfl rfl (by kernel_rfl) (by kernel_rfl) (by kernel_rfl) (fun _ _ _ h => h) (by kernel_rfl) rfl (Or.inl ⟨by kernel_rfl, ?_⟩) hS1 ?_
      · intro wz hSw
        obtain ⟨s0, s1, s2, s3, s4, s5, s6, s7⟩ := hSw
        go_simp
      try simp only [Act.put, List.setIfInBounds_toArray, List.set_cons_zero, List.set_cons_succ]
      refine takeD (i := 10) (d := 23) (v := .int .i64 xt) rfl rfl (by kernel_rfl) (by kernel_rfl) (by kernel_rfl) (fun _ _ _ h => h) (by kernel_rfl) rfl (Or.inl ⟨by kernel_rfl, ?_⟩) hS1 ?_
      · intro wz hSw
        obtain ⟨s0, s1, s2, s3, s4, s5, s6, s7⟩ := hSw
        go_simp
      try simp only [Act.put, List.setIfInBounds_toArray, List.set_cons_zero, List.set_cons_succ]
      refine takeD (i := 11) (d := 24) (v := .slice (some ⟨g1, o1, none⟩) n c) rfl rfl (by kernel_rfl) (by kernel_rfl) (by kernel_rfl) (fun _ _ _ h => h) (by kernel_rfl) rfl (Or.inl ⟨by kernel_rfl, ?_⟩) hS1 ?_
      · intro wz hSw
        obtain ⟨s0, s1, s2, s3, s4, s5, s6, s7⟩ := hSw
        go_simp
      try simp only [Act.put, List.setIfInBounds_toArray, List.set_cons_zero, List.set_cons_succ]
      refine takeD (i := 12) (d := 25) (v := .pointer (some ⟨g1, o1, none⟩)) rfl rfl (by kernel_rfl) (by kernel_rfl) (by kernel_rfl) (fun _ _ _ h => h) (by kernel_rfl) rfl (Or.inl ⟨by kernel_rfl, ?_⟩) hS1 ?_
      · intro wz hSw
        obtain ⟨s0, s1, s2, s3, s4, s5, s6, s7⟩ := hSw
        go_simp; try (intro h0; exfalso; omega)
      try simp only [Act.put, List.setIfInBounds_toArray, List.set_cons_zero, List.set_cons_succ]
      refine takeD (i := 13) (d := 26) (v := .pointer (some ⟨g1, o1 + 1, none⟩)) rfl rfl (by kernel_rfl) (by kernel_rfl) (by kernel_rfl) (fun _ _ _ h => h) (by kernel_rfl) rfl (Or.inl ⟨by kernel_rfl, ?_⟩) hS1 ?_
      · intro wz hSw
        obtain ⟨s0, s1, s2, s3, s4, s5, s6, s7⟩ := hSw
        go_simp
      try simp only [Act.put, List.setIfInBounds_toArray, List.set_cons_zero, List.set_cons_succ]
      refine takeD (i := 14) (d := 27) (v := .int .i64 h.t) rfl rfl (by kernel_rfl) (by kernel_rfl) (by kernel_rfl) (fun _ _ _ h => h) (by kernel_rfl) rfl (Or.inl ⟨by kernel_rfl, ?_⟩) hS1 ?_
      · intro wz hSw
        obtain ⟨s0, s1, s2, s3, s4, s5, s6, s7⟩ := hSw
        go_simp
      try simp only [Act.put, List.setIfInBounds_toArray, List.set_cons_zero, List.set_cons_succ]
      refine takeD (i := 15) (d := 28) (v := .bool false) rfl rfl (by kernel_rfl) (by kernel_rfl) (by kernel_rfl) (fun _ _ _ h => h) (by kernel_rfl) rfl (Or.inl ⟨by kernel_rfl, ?_⟩) hS1 ?_
      · intro wz hSw
        obtain ⟨s0, s1, s2, s3, s4, s5, s6, s7⟩ := hSw
        go_simp; first | done | exact HTH.out | simp [HTH.out]
      try simp only [Act.put, List.setIfInBounds_toArray, List.set_cons_zero, List.set_cons_succ]
      refine takeD (i := 16) (d := 29) (v := .bool false) rfl rfl (by kernel_rfl) (by kernel_rfl) (by kernel_rfl) (fun _ _ _ h => h) (by kernel_rfl) rfl (Or.inl ⟨by kernel_rfl, ?_⟩) hS1 ?_
      · intro wz hSw
        obtain ⟨s0, s1, s2, s3, s4, s5, s6, s7⟩ := hSw
        go_simp
      try simp only [Act.put, List.setIfInBounds_toArray, List.set_cons_zero, List.set_cons_succ]
      refine takeD (i := 17) (d := 30) (v := .bool false) rfl rfl (by kernel_rfl) (by kernel_rfl) (by kernel_rfl) (fun _ _ _ h => h) (by kernel_rfl) rfl (Or.inl ⟨by kernel_rfl, ?_⟩) hS1 ?_
      · intro wz hSw
        obtain ⟨s0, s1, s2, s3, s4, s5, s6, s7⟩ := hSw
        go_simp
      try simp only [Act.put, List.setIfInBounds_toArray, List.set_cons_zero, List.set_cons_succ]
      refine takeD (i := 18) (d := 31) (v := .pointer (some ⟨X, 0, none⟩)) rfl rfl (by kernel_rfl) (by kernel_rfl) (by kernel_rfl) (fun _ _ _ h => h) (by kernel_rfl) rfl (Or.inl ⟨by kernel_rfl, ?_⟩) hS1 ?_
      · intro wz hSw
        obtain ⟨s0, s1, s2, s3, s4, s5, s6, s7⟩ := hSw
        go_simp
      try simp only [Act.put, List.setIfInBounds_toArray, List.set_cons_zero, List.set_cons_succ]
      refine takeD (i := 19) (d := 32) (v := .string xo) rfl rfl (by kernel_rfl) (by kernel_rfl) (by kernel_rfl) (fun _ _ _ h => h) (by kernel_rfl) rfl (Or.inl ⟨by kernel_rfl, ?_⟩) hS1 ?_
      · intro wz hSw
        obtain ⟨s0, s1, s2, s3, s4, s5, s6, s7⟩ := hSw
        go_simp
      try simp only [Act.put, List.setIfInBounds_toArray, List.set_cons_zero, List.set_cons_succ]
      refine takeD (i := 20) (d := 33) (v := .slice (some ⟨g1, o1, none⟩) n c) rfl rfl (by kernel_rfl) (by kernel_rfl) (by kernel_rfl) (fun _ _ _ h => h) (by kernel_rfl) rfl (Or.inl ⟨by kernel_rfl, ?_⟩) hS1 ?_
      · intro wz hSw
        obtain ⟨s0, s1, s2, s3, s4, s5, s6, s7⟩ := hSw
        go_simp
      try simp only [Act.put, List.setIfInBounds_toArray, List.set_cons_zero, List.set_cons_succ]
      refine takeD (i := 21) (d := 34) (v := .pointer (some ⟨g1, o1, none⟩)) rfl rfl (by kernel_rfl) (by kernel_rfl) (by kernel_rfl) (fun _ _ _ h => h) (by kernel_rfl) rfl (Or.inl ⟨by kernel_rfl, ?_⟩) hS1 ?_
      · intro wz hSw
        obtain ⟨s0, s1, s2, s3, s4, s5, s6, s7⟩ := hSw
        go_simp; try (intro h0; exfalso; omega)
      try simp only [Act.put, List.setIfInBounds_toArray, List.set_cons_zero, List.set_cons_succ]
      refine takeD (i := 22) (d := 35) (v := .pointer (some ⟨g1, o1, none⟩)) rfl rfl (by kernel_rfl) (by kernel_rfl) (by kernel_rfl) (fun _ _ _ h => h) (by kernel_rfl) rfl (Or.inl ⟨by kernel_rfl, ?_⟩) hS1 ?_
      · intro wz hSw
        obtain ⟨s0, s1, s2, s3, s4, s5, s6, s7⟩ := hSw
        go_simp
      try simp only [Act.put, List.setIfInBounds_toArray, List.set_cons_zero, List.set_cons_succ]
      refine takeD (i := 23) (d := 36) (v := .string h.o) rfl rfl (by kernel_rfl) (by kernel_rfl) (by kernel_rfl) (fun _ _ _ h => h) (by kernel_rfl) rfl (Or.inl ⟨by kernel_rfl, ?_⟩) hS1 ?_
      · intro wz hSw
        obtain ⟨s0, s1, s2, s3, s4, s5, s6, s7⟩ := hSw
        go_simp
      try simp only [Act.put, List.setIfInBounds_toArray, List.set_cons_zero, List.set_cons_succ]
      refine heldG.readyG (rs := [24]) (by kernel_rfl) (by simp) ?_
      refine heldG.AllG.cons rfl (fun KK hKK => ?_) heldG.AllG.nil
      go_simp
      refine (CE.out _).mono ?_
      rintro en wb ⟨rfl, hBz⟩
      have hS2 := keepX hS1 hBz
      dsimp only
      refine hKK.out _ _ (fun _ => hS2) ?_; clear hKK KK hBz
      try simp only [Act.put, List.setIfInBounds_toArray, List.set_cons_zero, List.set_cons_succ]
      refine takeD (i := 25) (d := 38) (v := .bool !eq) rfl rfl (by kernel_rfl) (by kernel_rfl) (by kernel_rfl) (fun _ _ _ h => h) (by kernel_rfl) rfl (Or.inl ⟨by kernel_rfl, ?_⟩) hS2 ?_
      · intro wz hSw
        obtain ⟨s0, s1, s2, s3, s4, s5, s6, s7⟩ := hSw
        go_simp
      try simp only [Act.put, List.setIfInBounds_toArray, List.set_cons_zero, List.set_cons_succ]
      refine takeD (i := 26) (d := 39) (v := .bool !eq) rfl rfl (by kernel_rfl) (by kernel_rfl) (by kernel_rfl) (fun _ _ _ h => h) (by kernel_rfl) rfl (Or.inl ⟨by kernel_rfl, ?_⟩) hS2 ?_
      · intro wz hSw
        obtain ⟨s0, s1, s2, s3, s4, s5, s6, s7⟩ := hSw
        go_simp
      try simp only [Act.put, List.setIfInBounds_toArray, List.set_cons_zero, List.set_cons_succ]
      have hSF := hS2
      refine heldG.doneG (by kernel_rfl) ?_ _
      cases eq with
      | false =>
        have HRF : Hid (R = false) := Lib.hid (by rw [← HR.out]; refine set_one H0.out HX.out (HOX.out.trans ?_); simp)
        go_wp2_with fail; go_ret; exact ⟨by rw [HRF.out]; rfl, HB4.out.trans (hSF.2.2.2.2.2.2.2.mono hbz4)⟩
      | true =>
      have HONE : Hid (oneX h x = true) := Lib.hid (by rw [HOX.out, HTH.out]; have h1 := HH46.out; rw [HTH.out] at h1; simp [h1])
      have HBb : Hid (Below w.heap.size w wb) := Lib.hid (HB4.out.trans (hSF.2.2.2.2.2.2.2.mono hbz4))
      have HC1 := Lib.hid hSF.2.1
      have HC4 := Lib.hid hSF.2.2.2.2.1
      have hXb : X < wb.heap.size := World.block_lt_of_cell? wb _ hSF.2.1
      have HFD : Hid (foldX x = foldDS xt xd.data.toList) := Lib.hid (by rw [← HXT.out, ← HXD.out]; rfl)
      clear hSF hS0 hS1 hS2 y0 y1 y2 y3 y4 h0c h1c CZ CE HOX hBd
      trace "6"
      go_wp2_with fail
      go_loopg [5] (k + 1) (fun gas jv wy => ∃ j : Nat, jv = .int .i64 (j : Int) ∧ j ≤ k ∧ j + gas = k + 1 ∧ Hid (∀ i y, i < j → L[i]? = some y → foldX x ≠ foldX y) ∧ Hid (Below wb.heap.size wb wy))
      case atStart => exact ⟨0, rfl, by omega, by omega, Lib.hid (fun i y hi => by omega), Lib.hid (Below.refl _ _)⟩
      case round =>
        obtain ⟨j, rfl, hj, hjg, HNE, HBI⟩ := hrel
        have HJ := Lib.hid hjg; clear hjg
        by_cases hjk : j < k
        · obtain ⟨y, hy⟩ : ∃ y, L[j]? = some y := ⟨_, List.getElem?_eq_getElem (by have := HN.out; omega)⟩
          obtain ⟨g3, o3, ha3, hg3, hc3⟩ := at_r HRD.out hy
          cases ha3
          have HBw : Hid (Below w.heap.size w wr) := Lib.hid (HBb.out.trans (HBI.out.mono HBb.out.size))
          obtain ⟨_, _, _, _, d4⟩ := hc3.below HBw.out hg3
          have c1 := cell_kept HBI.out HC1.out
          have c4 := cell_kept HBI.out HC4.out
          have CFX := CF.out x (List.mem_of_getElem? HX.out)
          rw [HXD.out] at CFX
          have CFY := CF.out y (List.mem_of_getElem? hy)
          obtain ⟨yd, hyd⟩ : ∃ z, y.d = z := ⟨_, rfl⟩
          rw [hyd] at d4 CFY
          have hbd := refA.beq_dec (foldDS xt xd.data.toList) (foldDS xt yd.data.toList)
          obtain ⟨FX, hFX⟩ : ∃ FX : ByteArray, (⟨(foldDS xt xd.data.toList).toArray⟩ : ByteArray) = FX := ⟨_, rfl⟩
          obtain ⟨FY, hFY⟩ : ∃ FY : ByteArray, (⟨(foldDS xt yd.data.toList).toArray⟩ : ByteArray) = FY := ⟨_, rfl⟩
          rw [hFX] at CFX hbd; rw [hFY] at CFY hbd
          have C1 := Lib.hid CFX; have C2 := Lib.hid CFY
          have zj : (0 : Int) ≤ (j : Int) := by omega
          have zjn : (j : Int) < (n : Int) := by omega
          have zjk : (j : Int) < (k : Int) := by omega
          have hgr : g1 < wr.heap.size := World.block_lt_of_cell? wr _ d4
          have hXr : X < wr.heap.size := World.block_lt_of_cell? wr _ c1
          have hS0 : wr.drew.cell? ⟨X, 1, none⟩ = some (.int .i64 xt) ∧ wr.drew.cell? ⟨X, 4, none⟩ = some (.string xd) ∧ wr.drew.cell? ⟨g1, o1 + j * 5 + 4, none⟩ = some (.string yd) ∧ Below wr.heap.size wr wr.drew := ⟨c1, c4, d4, (Below.refl _ _).drew⟩
          have HYJ := Lib.hid hy
          have HTYP : y.t = xt := by
            have h1 := (HU.out h H0.out).one j y (by omega) hy
            unfold oneX at h1
            simp only [Bool.and_eq_true, beq_iff_eq] at h1
            rw [h1.2.2.1, HTH.out]
          by_cases hfe : foldDS xt xd.data.toList = foldDS xt yd.data.toList
          · have HRF : Hid (R = false) := Lib.hid (by rw [← HR.out]; exact set_dup HX.out HYJ.out hjk (by rw [HFD.out, hfe]; unfold foldX; rw [hyd, HTYP]))
            rw [decide_eq_true hfe] at hbd
            clear hy hyd hc3 c1 c4 d4 CFX CFY hFX hFY hfe HYJ
            trace "7"
            go_upto_region 9 with fail
            go_region_held3 (fun w' => w'.cell? ⟨X, 1, none⟩ = some (.int .i64 xt) ∧ w'.cell? ⟨X, 4, none⟩ = some (.string xd) ∧ w'.cell? ⟨g1, o1 + j * 5 + 4, none⟩ = some (.string yd) ∧ Below wr.heap.size wr w') (first | assumption | (refine ⟨?_, ?_, ?_, ?_⟩ <;> assumption))
              (first
                | (go_at_call_of 131 (Value.string xd); refine (C1.out _).mono ?_; rintro e w' ⟨rfl, hBz⟩; have hSz := keepY (by assumption) hBz; clear hBz)
                | (go_at_call_of 131 (Value.string yd); refine (C2.out _).mono ?_; rintro e w' ⟨rfl, hBz⟩; have hSz := keepY (by assumption) hBz; clear hBz))
            trace "8"
            go_wp2_with fail
            go_ret
            exact ⟨by rw [HRF.out]; rfl, HBw.out.trans (hSz.2.2.2.mono HBw.out.size)⟩
          · have HNE2 : Hid (∀ i y, i < j + 1 → L[i]? = some y → foldX x ≠ foldX y) := Lib.hid (by
              intro i z hi hz
              by_cases e : i = j
              · subst e
                rw [HYJ.out] at hz
                cases hz
                rw [HFD.out]
                unfold foldX
                rw [hyd, HTYP]
                exact hfe
              · exact HNE.out i z (by omega) hz)
            rw [decide_eq_false hfe] at hbd
            clear hy hyd hc3 c1 c4 d4 CFX CFY hFX hFY hfe HYJ
            trace "9"
            go_upto_region 9 with fail
            go_region_held3 (fun w' => w'.cell? ⟨X, 1, none⟩ = some (.int .i64 xt) ∧ w'.cell? ⟨X, 4, none⟩ = some (.string xd) ∧ w'.cell? ⟨g1, o1 + j * 5 + 4, none⟩ = some (.string yd) ∧ Below wr.heap.size wr w') (first | assumption | (refine ⟨?_, ?_, ?_, ?_⟩ <;> assumption))
              (first
                | (go_at_call_of 131 (Value.string xd); refine (C1.out _).mono ?_; rintro e w' ⟨rfl, hBz⟩; have hSz := keepY (by assumption) hBz; clear hBz)
                | (go_at_call_of 131 (Value.string yd); refine (C2.out _).mono ?_; rintro e w' ⟨rfl, hBz⟩; have hSz := keepY (by assumption) hBz; clear hBz))
            have HBI2 : Hid (Below wb.heap.size wb w') := Lib.hid (HBI.out.trans (hSz.2.2.2.mono HBI.out.size))
            clear hSz hS0
            go_wp2_with fail
            have hjg := HJ.out
            go_roundg (gk - 1)
            case rel => exact ⟨j + 1, by go_num, by omega, by omega, HNE2, HBI2⟩
            case measure => omega
        · have hje : j = k := by omega
          subst hje
          have HU2 : Hid (∀ h, L[0]? = some h → Upto L h (j + 1)) := Lib.hid (by
            intro h' h0'
            rw [H0.out] at h0'
            cases h0'
            exact (HU.out h H0.out).step HX.out HONE.out (fun i y hi hy => HNE.out i y hi hy))
          have HB2 : Hid (Below w.heap.size w wr) := Lib.hid (HBb.out.trans (HBI.out.mono HBb.out.size))
          have zz : ¬ (j : Int) < (j : Int) := by omega
          trace "10"
          go_wp2_with fail
          have hkg := HK.out
          go_roundg (gk' - 1)
          case rel => exact ⟨j + 1, by go_num, by omega, by omega, HU2, HB2⟩
          case measure => omega
    · have hke : k = n := by omega
      have HRN : Hid (R = decide (0 < n)) := Lib.hid (by
        rw [← HR.out]
        have hn := HN.out
        cases hL : L with
        | nil => rw [hL] at hn; simp only [List.length_nil] at hn; subst hn; rfl
        | cons h' r =>
          have h0 : L[0]? = some h' := by rw [hL]; rfl
          have := (HU.out h' h0)
          rw [hke, hn] at this
          rw [← hL, this.all h0, decide_eq_true]
          rw [hn, hL]; simp)
      have zz : ¬ (k : Int) < (n : Int) := by omega
      subst hke
      trace "11"
      go_wp2_with fail
      go_ret
      exact ⟨by rw [HRN.out]; rfl, HB.out⟩
end Go.Proofs.YtflijhodlimjoaaGreat.isSet
