/- A message handed in: opened. The law gazetteerlaw2.WirePacks: walk. -/
import Derived.Test.YtabhiangjomaeaaWP22
import Derived.Test.YtabhiangjomaeaaWP23
import Derived.Deep.Slices
import Derived.Deep.Fields
import Derived.ChangeSame
import Derived.Carry
import Derived.ChangeOld
import Derived.ProofKit
import Derived.BigRegion
namespace Go.Proofs.Ytabhiangjomaeaa.msgArg
open Go.ChangeShapes Go.WideShapes Go.RowKit Go.Deep Go.Proofs.Ytabhiangjomaeaa.kit Go.Proofs.Ytabhiangjomaeaa.timed Go.Proofs.Ytabhiangjomaeaa.wireP Go.Proofs.Ytabhiangjomaeaa.wireM Go.Proofs.Ytabhiangjomaeaa.rows Go.Proofs.Ytabhiangjomaeaa.rpack
set_option linter.unusedVariables false

theorem got {α : Type} {l : List α} {i n : Nat} (h : l.length = n) (hi : i < n) : ∃ y, l[i]? = some y := ⟨_, List.getElem?_eq_getElem (by omega)⟩
theorem one_at {cs : List Value} {o : Nat} {v : Value} (h : (cs.drop o).take 1 = [v]) : cs[o]? = some v := by
  have : ((cs.drop o).take 1)[0]? = some v := by rw [h]; rfl
  rw [List.getElem?_take_of_lt (by omega), List.getElem?_drop] at this; simpa using this
theorem choose_list {α : Type} (p : Nat → α → Prop) : ∀ n, (∀ i, i < n → ∃ x, p i x) → ∃ l : List α, l.length = n ∧ ∀ i x, l[i]? = some x → p i x
  | 0, _ => ⟨[], rfl, by simp⟩
  | n + 1, h => by
    obtain ⟨l, hl, hp⟩ := choose_list p n (fun i hi => h i (by omega))
    obtain ⟨x, hx⟩ := h n (by omega)
    refine ⟨l ++ [x], by simp [hl], fun i y hy => ?_⟩
    by_cases hi : i < n
    · rw [List.getElem?_append_left (by omega)] at hy; exact hp i y hy
    · have hlt := (List.getElem?_eq_some_iff.1 hy).1
      have : i = n := by simp [hl] at hlt; omega
      subst this
      rw [List.getElem?_append_right (by omega), hl, Nat.sub_self] at hy
      simp at hy; subst hy; exact hx
theorem cell_lt {w : World} {a : Addr} {v : Value} (h : w.cell? a = some v) : a.block < w.heap.size := by
  rcases Nat.lt_or_ge a.block w.heap.size with h' | h'
  · exact h'
  · simp [World.cell?, Array.getElem?_eq_none h'] at h
set_option maxRecDepth 100000 in
theorem bulk_len {H : Type} : ∀ l : List (DataW H), (∀ x ∈ l, 1 ≤ Rows.uptoBulk x) → l.length ≤ Rows.uptoBulkAll l
  | [], _ => Nat.zero_le _
  | x :: l, h => by
    have h1 := bulk_len l (fun y hy => h y (List.mem_cons_of_mem _ hy))
    have h2 := h x List.mem_cons_self
    have e : Rows.uptoBulkAll (x :: l) = Rows.uptoBulk x + Rows.uptoBulkAll l := rfl
    rw [e, List.length_cons]; omega
set_option maxRecDepth 100000 in
theorem bulk_mem {H : Type} : ∀ (l : List (DataW H)) (x : DataW H), x ∈ l → Rows.uptoBulk x ≤ Rows.uptoBulkAll l
  | y :: l, x, h => by
    have e : Rows.uptoBulkAll (y :: l) = Rows.uptoBulk y + Rows.uptoBulkAll l := rfl
    rw [e]
    rcases List.mem_cons.1 h with rfl | h
    · omega
    · have := bulk_mem l x h; omega
set_option maxRecDepth 100000 in
/-- a list of rows handed in -/
theorem open_rows {α : Type} (f : α → List Value) (m : Nat) (hm0 : 0 < m) (hf : ∀ x, (f x).length = m) (G : α → Nat → Prop) {H : Type} {enc : TypeId × Value → H} {w : World} {fuel : Nat} {a : Option Addr} {len cap : Nat} {d : DataW H} {p : List MemPlace} {T E : TypeId}
    (hT : Try.prog.underlying T = some (.slice E)) (hE : Try.prog.cellsOf E = m) (hG : ∀ t x y, G t x → x ≤ y → G t y)
    (hc : ∀ (n : Nat) (cs : List Value) (x : DataW H × List MemPlace), DataW.trod enc Try.prog w 0 (fun _ => true) true n E cs = some x → ∃ t, cs = f t ∧ G t (Rows.uptoBulk x.1) ∧ 1 ≤ Rows.uptoBulk x.1)
    (h : DataW.trod enc Try.prog w 0 (fun _ => true) true fuel T (Value.slice a len cap).cells.toList = some (d, p)) :
    ∃ ls : List α, len = ls.length ∧ RdC w a m (ls.map f) ∧ (a = none → ls.length = 0 ∧ cap = 0) ∧ len ≤ Rows.uptoBulk d ∧ ∀ t ∈ ls, G t (Rows.uptoBulk d) := by
  rcases open_slice hT h with ⟨hcs, hx⟩ | ⟨ad, len', cap', m', n, D, Pl, hcs, hb, hl, hm, hmm, hx, hi⟩
  · simp [Value.cells] at hcs
    obtain ⟨rfl, rfl, rfl⟩ := hcs
    exact ⟨[], rfl, RdC.nil _ _ _, fun _ => ⟨rfl, rfl⟩, Nat.zero_le _, by simp⟩
  · simp [Value.cells] at hcs
    obtain ⟨rfl, rfl, rfl⟩ := hcs
    simp only [if_true] at hmm
    subst hmm
    simp only [Prod.mk.injEq] at hx
    obtain ⟨rfl, rfl⟩ := hx
    rw [hE] at hi
    have e : ∀ (l1 l2 : List (DataW H)), Rows.uptoBulk (DataW.slice l1 l2) = Rows.uptoBulkAll l1 + Rows.uptoBulkAll l2 + 1 := fun _ _ => rfl
    obtain ⟨ls, hll, hls⟩ := choose_list (fun i (t : α) => w.cells? 0 (ad.add (i * m)) m = some (f t) ∧ G t (Rows.uptoBulk (D i))) len (fun i hi2 => by
      obtain ⟨cs', h1, h2⟩ := hi i (by omega)
      obtain ⟨t, rfl, hg, _⟩ := hc _ _ _ h2
      exact ⟨t, h1, hg⟩)
    refine ⟨ls, hll.symm, ?_, (fun h => by cases h), ?_, ?_⟩
    · intro j row hrow
      rw [List.getElem?_map] at hrow
      obtain ⟨t, ht, rfl⟩ := Option.map_eq_some_iff.1 hrow
      have hc' := (hls j t ht).1
      obtain ⟨_, hlen, hcell⟩ := World.cells?_some hc'
      obtain ⟨u1, hu1⟩ : ∃ u1, (f t)[0]? = some u1 := ⟨_, List.getElem?_eq_getElem (by rw [hf]; exact hm0)⟩
      have hc0 := hcell 0 hm0
      rw [hu1] at hc0
      obtain ⟨g, o, sp⟩ := ad
      have hspot : sp = none := by
        obtain ⟨t0, ht0⟩ : ∃ t0, ls[0]? = some t0 := ⟨_, List.getElem?_eq_getElem (by have := (List.getElem?_eq_some_iff.1 ht).1; omega)⟩
        obtain ⟨_, _, hcell00⟩ := World.cells?_some (hls 0 t0 ht0).1
        obtain ⟨u0, hu0⟩ : ∃ u0, (f t0)[0]? = some u0 := ⟨_, List.getElem?_eq_getElem (by rw [hf]; exact hm0)⟩
        have h00 := hcell00 0 hm0
        rw [hu0] at h00
        simpa [Addr.add] using World.cell?_spot h00
      subst hspot
      have hadd : ∀ (o k : Nat), (⟨g, o, none⟩ : Addr).add k = ⟨g, o + k, none⟩ := fun o k => by unfold Addr.add; split <;> simp_all
      refine ⟨hf t, g, o, rfl, ?_, fun i u hu => ?_⟩
      · have := cell_lt hc0; simpa [hadd] using this
      · have hi8 : i < m := by have := (List.getElem?_eq_some_iff.1 hu).1; rw [hf] at this; exact this
        have := hcell i hi8
        rw [hadd, hadd] at this
        rw [this]
        exact hu
    · have hbl := bulk_len ((List.range len).map D) (fun x hx => by
        obtain ⟨i, hi3, rfl⟩ := List.mem_map.1 hx
        obtain ⟨cs', _, h2⟩ := hi i (by have := List.mem_range.1 hi3; omega)
        obtain ⟨_, _, _, h3⟩ := hc _ _ _ h2
        exact h3)
      rw [e]
      rw [List.length_map, List.length_range] at hbl
      omega
    · intro t ht
      obtain ⟨i, hi1, hi2⟩ := List.getElem_of_mem ht
      have hti : ls[i]? = some t := by rw [List.getElem?_eq_getElem hi1, hi2]
      refine hG _ _ _ (hls i t hti).2 ?_
      rw [e]
      have := bulk_mem ((List.range len).map D) (D i) (List.mem_map.2 ⟨i, List.mem_range.2 (by omega), rfl⟩)
      omega

section
variable {H : Type} {enc : TypeId × Value → H} {w : World} {base : Nat} {spare : Nat → Bool} {held : Bool}
theorem cellsInt : Try.prog.cellsOf 3 = 1 := by kernel_rfl
theorem cellsBool : Try.prog.cellsOf 4 = 1 := by kernel_rfl
theorem cellsString : Try.prog.cellsOf 9 = 1 := by kernel_rfl
theorem cellsRecs : Try.prog.cellsOf 35 = 1 := by kernel_rfl
theorem cellsQns : Try.prog.cellsOf 34 = 1 := by kernel_rfl
theorem cellsRec : Try.prog.cellsOf 52 = 5 := by kernel_rfl
theorem cellsQn : Try.prog.cellsOf 50 = 3 := by kernel_rfl
theorem cellsMsg : Try.prog.cellsOf 37 = 14 := by kernel_rfl
theorem int_at {n : Nat} {cs : List Value} {o : Nat} {y : DataW H × List MemPlace} (h : DataW.trod enc Try.prog w base spare held n 3 ((cs.drop o).take (Try.prog.cellsOf 3)) = some y) : ∃ z, cs[o]? = some (.int .i64 z) := by
  rw [cellsInt] at h
  obtain ⟨z, hz, _⟩ := DataW.trod_int Try.underlying3 h
  exact ⟨z, one_at hz⟩
theorem bool_at {n : Nat} {cs : List Value} {o : Nat} {y : DataW H × List MemPlace} (h : DataW.trod enc Try.prog w base spare held n 4 ((cs.drop o).take (Try.prog.cellsOf 4)) = some y) : ∃ z, cs[o]? = some (.bool z) := by
  rw [cellsBool] at h
  obtain ⟨z, hz, _⟩ := DataW.trod_bool Try.underlying4 h
  exact ⟨z, one_at hz⟩
theorem str_at {n : Nat} {cs : List Value} {o : Nat} {y : DataW H × List MemPlace} (h : DataW.trod enc Try.prog w base spare held n 9 ((cs.drop o).take (Try.prog.cellsOf 9)) = some y) : ∃ z : ByteArray, cs[o]? = some (.string z) ∧ z.size ≤ Rows.uptoBulk y.1 ∧ z.size ≤ maxLen := by
  rw [cellsString] at h
  obtain ⟨z, hz, hy, hm⟩ := DataW.trod_string Try.underlying9 h
  subst hy
  have e : Rows.uptoBulk (DataW.lit (H := H) (.string z.data.toList)) = z.data.toList.length + 1 := rfl
  refine ⟨z, one_at hz, ?_, hm⟩
  rw [e, size_len]; omega
theorem bulk_agg (xs : List (DataW H × List MemPlace)) {i : Nat} {y : DataW H × List MemPlace} (hy : xs[i]? = some y) : Rows.uptoBulk y.1 ≤ Rows.uptoBulk (DataW.agg (xs.map (·.1))) := by
  have e : Rows.uptoBulk (DataW.agg (xs.map (·.1))) = Rows.uptoBulkAll (xs.map (·.1)) + 1 := rfl
  have := bulk_mem (xs.map (·.1)) y.1 (List.mem_map.2 ⟨y, List.mem_of_getElem? hy, rfl⟩)
  omega
set_option maxRecDepth 100000 in
theorem rec_cells {n : Nat} {cs : List Value} {x : DataW H × List MemPlace} (h : DataW.trod enc Try.prog w base spare held n 52 cs = some x) : ∃ t : Rc, cs = t.cells ∧ (t.o.size ≤ Rows.uptoBulk x.1 ∧ t.d.size ≤ Rows.uptoBulk x.1) ∧ 1 ≤ Rows.uptoBulk x.1 := by
  obtain ⟨xs, n', _, rfl, hlen, hxl, hf⟩ := DataW.trod_struct Try.underlying52 h
  rw [cellsRec] at hlen
  obtain ⟨y0, e0⟩ := got hxl (i := 0) (by decide)
  obtain ⟨y1, e1⟩ := got hxl (i := 1) (by decide)
  obtain ⟨y2, e2⟩ := got hxl (i := 2) (by decide)
  obtain ⟨y3, e3⟩ := got hxl (i := 3) (by decide)
  obtain ⟨y4, e4⟩ := got hxl (i := 4) (by decide)
  obtain ⟨z0, q0, s0, _⟩ := str_at (o := 0) ((hf 0 _ rfl).trans e0)
  obtain ⟨z1, q1⟩ := int_at (o := 1) ((hf 1 _ rfl).trans e1)
  obtain ⟨z2, q2⟩ := int_at (o := 2) ((hf 2 _ rfl).trans e2)
  obtain ⟨z3, q3⟩ := int_at (o := 3) ((hf 3 _ rfl).trans e3)
  obtain ⟨z4, q4, s4, _⟩ := str_at (o := 4) ((hf 4 _ rfl).trans e4)
  refine ⟨⟨z0, z1, z2, z3, z4⟩, ?_, ⟨Nat.le_trans s0 (bulk_agg xs e0), Nat.le_trans s4 (bulk_agg xs e4)⟩, ?_⟩
  · apply List.ext_getElem?
    intro i
    match i with
    | 0 => simpa [Rc.cells] using q0
    | 1 => simpa [Rc.cells] using q1
    | 2 => simpa [Rc.cells] using q2
    | 3 => simpa [Rc.cells] using q3
    | 4 => simpa [Rc.cells] using q4
    | i + 5 => rw [List.getElem?_eq_none (by omega), List.getElem?_eq_none (by simp [Rc.cells])]
  · show 1 ≤ Rows.uptoBulkAll (xs.map (·.1)) + 1
    omega
set_option maxRecDepth 100000 in
theorem qn_cells {n : Nat} {cs : List Value} {x : DataW H × List MemPlace} (h : DataW.trod enc Try.prog w base spare held n 50 cs = some x) : ∃ t : Qn, cs = t.cells ∧ (t.n.size ≤ Rows.uptoBulk x.1) ∧ 1 ≤ Rows.uptoBulk x.1 := by
  obtain ⟨xs, n', _, rfl, hlen, hxl, hf⟩ := DataW.trod_struct Try.underlying50 h
  rw [cellsQn] at hlen
  obtain ⟨y0, e0⟩ := got hxl (i := 0) (by decide)
  obtain ⟨y1, e1⟩ := got hxl (i := 1) (by decide)
  obtain ⟨y2, e2⟩ := got hxl (i := 2) (by decide)
  obtain ⟨z0, q0, s0, _⟩ := str_at (o := 0) ((hf 0 _ rfl).trans e0)
  obtain ⟨z1, q1⟩ := int_at (o := 1) ((hf 1 _ rfl).trans e1)
  obtain ⟨z2, q2⟩ := int_at (o := 2) ((hf 2 _ rfl).trans e2)
  refine ⟨⟨z0, z1, z2⟩, ?_, Nat.le_trans s0 (bulk_agg xs e0), ?_⟩
  · apply List.ext_getElem?
    intro i
    match i with
    | 0 => simpa [Qn.cells] using q0
    | 1 => simpa [Qn.cells] using q1
    | 2 => simpa [Qn.cells] using q2
    | i + 3 => rw [List.getElem?_eq_none (by omega), List.getElem?_eq_none (by simp [Qn.cells])]
  · show 1 ≤ Rows.uptoBulkAll (xs.map (·.1)) + 1
    omega
end
section
variable {H : Type} {enc : TypeId × Value → H} {w : World}
theorem slice_form {n : Nat} {cs : List Value} {o : Nat} {T E : TypeId} {y : DataW H × List MemPlace} (hT : Try.prog.underlying T = some (.slice E)) (hc : Try.prog.cellsOf T = 1) (h : DataW.trod enc Try.prog w 0 (fun _ => true) true n T ((cs.drop o).take (Try.prog.cellsOf T)) = some y) :
    ∃ a l c, cs[o]? = some (.slice a l c) ∧ DataW.trod enc Try.prog w 0 (fun _ => true) true n T (Value.slice a l c).cells.toList = some y := by
  rw [hc] at h
  have hs : ∃ (a : Option Addr) (l c : Nat), (cs.drop o).take 1 = [.slice a l c] := by
    rcases open_slice hT h with ⟨g0, _⟩ | ⟨ad, len, cap, _, _, _, _, g0, _⟩
    · exact ⟨none, 0, 0, g0⟩
    · exact ⟨some ad, len, cap, g0⟩
  obtain ⟨a, l, c, q0⟩ := hs
  rw [q0] at h
  exact ⟨a, l, c, one_at q0, h⟩
/-- what is known of a message handed in -/
structure InM (w : World) (p : Pl) (m : Mg) (b : Nat) : Prop where
  rd : RdM w p m
  nil : NilM p m
  qnil : p.qa = none → m.qs.length = 0 ∧ p.qc = 0
  lens : m.qs.length ≤ b ∧ m.an.length ≤ b ∧ m.au.length ≤ b ∧ m.ar.length ≤ b
  sq : ∀ x ∈ m.qs, x.n.size ≤ b
  sn : ∀ x ∈ m.an, x.o.size ≤ b ∧ x.d.size ≤ b
  su : ∀ x ∈ m.au, x.o.size ≤ b ∧ x.d.size ≤ b
  sr : ∀ x ∈ m.ar, x.o.size ≤ b ∧ x.d.size ≤ b
theorem InM.ok {p : Pl} {m : Mg} {b : Nat} (h : InM w p m b) (hb : b ≤ 1099511627776) : OkM m :=
  ⟨fun x hx => Nat.le_trans (h.sq x hx) hb, fun x hx => ⟨Nat.le_trans (h.sn x hx).1 hb, Nat.le_trans (h.sn x hx).2 hb⟩, fun x hx => ⟨Nat.le_trans (h.su x hx).1 hb, Nat.le_trans (h.su x hx).2 hb⟩, fun x hx => ⟨Nat.le_trans (h.sr x hx).1 hb, Nat.le_trans (h.sr x hx).2 hb⟩, Nat.le_trans h.lens.1 hb, Nat.le_trans h.lens.2.1 hb, Nat.le_trans h.lens.2.2.1 hb, Nat.le_trans h.lens.2.2.2 hb⟩
set_option maxRecDepth 100000 in
theorem open_msg {r : Reach} {b0 : Nat} {v : Value} {d : DataW H} {p : List MemPlace}
    (hv : Value.okWide Try.prog w r b0 37 v) (h : DataW.Trod enc Try.prog w 0 (fun _ => true) true 37 v d p) :
    ∃ (P : Pl) (m : Mg), v = .agg (cellsM P m) ∧ InM w P m (Rows.uptoBulk d) := by
  obtain ⟨cs, rfl, hsz⟩ := okWide_struct Try.underlying37 hv
  rw [cellsMsg] at hsz
  obtain ⟨fuel, hf⟩ := h
  have e : (Value.agg cs).cells.toList = cs.toList := rfl
  rw [e] at hf
  obtain ⟨xs, n', _, hx, hlen, hxl, hg⟩ := DataW.trod_struct Try.underlying37 hf
  simp only [Prod.mk.injEq] at hx
  obtain ⟨rfl, rfl⟩ := hx
  obtain ⟨y0, e0⟩ := got hxl (i := 0) (by decide)
  obtain ⟨y1, e1⟩ := got hxl (i := 1) (by decide)
  obtain ⟨y2, e2⟩ := got hxl (i := 2) (by decide)
  obtain ⟨y3, e3⟩ := got hxl (i := 3) (by decide)
  obtain ⟨y4, e4⟩ := got hxl (i := 4) (by decide)
  obtain ⟨y5, e5⟩ := got hxl (i := 5) (by decide)
  obtain ⟨y6, e6⟩ := got hxl (i := 6) (by decide)
  obtain ⟨y7, e7⟩ := got hxl (i := 7) (by decide)
  obtain ⟨y8, e8⟩ := got hxl (i := 8) (by decide)
  obtain ⟨y9, e9⟩ := got hxl (i := 9) (by decide)
  obtain ⟨y10, e10⟩ := got hxl (i := 10) (by decide)
  obtain ⟨y11, e11⟩ := got hxl (i := 11) (by decide)
  obtain ⟨y12, e12⟩ := got hxl (i := 12) (by decide)
  obtain ⟨y13, e13⟩ := got hxl (i := 13) (by decide)
  obtain ⟨z0, q0⟩ := int_at (o := 0) ((hg 0 _ rfl).trans e0)
  obtain ⟨z1, q1⟩ := bool_at (o := 1) ((hg 1 _ rfl).trans e1)
  obtain ⟨z2, q2⟩ := int_at (o := 2) ((hg 2 _ rfl).trans e2)
  obtain ⟨z3, q3⟩ := bool_at (o := 3) ((hg 3 _ rfl).trans e3)
  obtain ⟨z4, q4⟩ := bool_at (o := 4) ((hg 4 _ rfl).trans e4)
  obtain ⟨z5, q5⟩ := bool_at (o := 5) ((hg 5 _ rfl).trans e5)
  obtain ⟨z6, q6⟩ := bool_at (o := 6) ((hg 6 _ rfl).trans e6)
  obtain ⟨z7, q7⟩ := bool_at (o := 7) ((hg 7 _ rfl).trans e7)
  obtain ⟨z8, q8⟩ := bool_at (o := 8) ((hg 8 _ rfl).trans e8)
  obtain ⟨z9, q9⟩ := int_at (o := 9) ((hg 9 _ rfl).trans e9)
  obtain ⟨a10, l10, c10, q10, g10⟩ := slice_form (o := 10) Try.underlying34 cellsQns ((hg 10 _ rfl).trans e10)
  obtain ⟨a11, l11, c11, q11, g11⟩ := slice_form (o := 11) Try.underlying35 cellsRecs ((hg 11 _ rfl).trans e11)
  obtain ⟨a12, l12, c12, q12, g12⟩ := slice_form (o := 12) Try.underlying35 cellsRecs ((hg 12 _ rfl).trans e12)
  obtain ⟨a13, l13, c13, q13, g13⟩ := slice_form (o := 13) Try.underlying35 cellsRecs ((hg 13 _ rfl).trans e13)
  obtain ⟨L10, rfl, r10, t10, u10, s10⟩ := open_rows Qn.cells 3 (by decide) (fun _ => rfl) (fun t b => t.n.size ≤ b) Try.underlying34 cellsQn (fun t x y h1 h2 => Nat.le_trans h1 h2) (fun n cs x h => qn_cells h) g10
  obtain ⟨L11, rfl, r11, t11, u11, s11⟩ := open_rows Rc.cells 5 (by decide) (fun _ => rfl) (fun t b => t.o.size ≤ b ∧ t.d.size ≤ b) Try.underlying35 cellsRec (fun t x y h1 h2 => ⟨Nat.le_trans h1.1 h2, Nat.le_trans h1.2 h2⟩) (fun n cs x h => rec_cells h) g11
  obtain ⟨L12, rfl, r12, t12, u12, s12⟩ := open_rows Rc.cells 5 (by decide) (fun _ => rfl) (fun t b => t.o.size ≤ b ∧ t.d.size ≤ b) Try.underlying35 cellsRec (fun t x y h1 h2 => ⟨Nat.le_trans h1.1 h2, Nat.le_trans h1.2 h2⟩) (fun n cs x h => rec_cells h) g12
  obtain ⟨L13, rfl, r13, t13, u13, s13⟩ := open_rows Rc.cells 5 (by decide) (fun _ => rfl) (fun t b => t.o.size ≤ b ∧ t.d.size ≤ b) Try.underlying35 cellsRec (fun t x y h1 h2 => ⟨Nat.le_trans h1.1 h2, Nat.le_trans h1.2 h2⟩) (fun n cs x h => rec_cells h) g13
  have w10 := bulk_agg xs e10
  have w11 := bulk_agg xs e11
  have w12 := bulk_agg xs e12
  have w13 := bulk_agg xs e13
  refine ⟨⟨a10, c10, a11, c11, a12, c12, a13, c13⟩, ⟨z0, z1, z2, z3, z4, z5, z6, z7, z8, z9, L10, L11, L12, L13⟩, ?_, ⟨r10, r11, r12, r13⟩, ⟨t11, t12, t13⟩, t10, ⟨Nat.le_trans u10 w10, Nat.le_trans u11 w11, Nat.le_trans u12 w12, Nat.le_trans u13 w13⟩, fun x hx => Nat.le_trans (s10 x hx) w10, fun x hx => ⟨Nat.le_trans (s11 x hx).1 w11, Nat.le_trans (s11 x hx).2 w11⟩, fun x hx => ⟨Nat.le_trans (s12 x hx).1 w12, Nat.le_trans (s12 x hx).2 w12⟩, fun x hx => ⟨Nat.le_trans (s13 x hx).1 w13, Nat.le_trans (s13 x hx).2 w13⟩⟩
  congr 1
  apply Array.ext'
  apply List.ext_getElem?
  intro i
  have hl : cs.toList.length = 14 := by simpa using hsz
  match i with
  | 0 => simpa [cellsM] using q0
  | 1 => simpa [cellsM] using q1
  | 2 => simpa [cellsM] using q2
  | 3 => simpa [cellsM] using q3
  | 4 => simpa [cellsM] using q4
  | 5 => simpa [cellsM] using q5
  | 6 => simpa [cellsM] using q6
  | 7 => simpa [cellsM] using q7
  | 8 => simpa [cellsM] using q8
  | 9 => simpa [cellsM] using q9
  | 10 => simpa [cellsM] using q10
  | 11 => simpa [cellsM] using q11
  | 12 => simpa [cellsM] using q12
  | 13 => simpa [cellsM] using q13
  | i + 14 => rw [List.getElem?_eq_none (by omega), List.getElem?_eq_none (by simp [cellsM])]
end
end Go.Proofs.Ytabhiangjomaeaa.msgArg
namespace Go.Proofs.Ytabhiangjomaeaa.wirePacks
open Go.RowKit Go.Proofs.Ytabhiangjomaeaa.kit Go.Proofs.Ytabhiangjomaeaa.timed Go.Proofs.Ytabhiangjomaeaa.nspec Go.Proofs.Ytabhiangjomaeaa.coded Go.Proofs.Ytabhiangjomaeaa.wireP Go.Proofs.Ytabhiangjomaeaa.wireM Go.Proofs.Ytabhiangjomaeaa.packP Go.Proofs.Ytabhiangjomaeaa.wpack Go.Proofs.Ytabhiangjomaeaa.rows Go.Proofs.Ytabhiangjomaeaa.same Go.Proofs.Ytabhiangjomaeaa.rpack Go.Proofs.Ytabhiangjomaeaa.twinM Go.Proofs.Ytabhiangjomaeaa.wholeM Go.Proofs.Ytabhiangjomaeaa.msgArg
set_option linter.unusedVariables false

theorem two_keep {w w' : World} {a b : Nat} {P p : Pl} {m : Mg} (h1 : MsgAt w a P m) (h2 : MsgAt w b p m) (hB : Below w.heap.size w w') :
    w'.cell? ⟨a, 0, none⟩ = some (.int .i64 m.id) ∧ w'.cell? ⟨a, 1, none⟩ = some (.bool m.rs) ∧ w'.cell? ⟨a, 2, none⟩ = some (.int .i64 m.op) ∧ w'.cell? ⟨a, 3, none⟩ = some (.bool m.aa) ∧ w'.cell? ⟨a, 4, none⟩ = some (.bool m.tc) ∧ w'.cell? ⟨a, 5, none⟩ = some (.bool m.rd) ∧ w'.cell? ⟨a, 6, none⟩ = some (.bool m.ra) ∧ w'.cell? ⟨a, 7, none⟩ = some (.bool m.ad) ∧ w'.cell? ⟨a, 8, none⟩ = some (.bool m.cd) ∧ w'.cell? ⟨a, 9, none⟩ = some (.int .i64 m.rc) ∧ w'.cell? ⟨a, 10, none⟩ = some (.slice P.qa m.qs.length P.qc) ∧ w'.cell? ⟨a, 11, none⟩ = some (.slice P.na m.an.length P.nc) ∧ w'.cell? ⟨a, 12, none⟩ = some (.slice P.ua m.au.length P.uc) ∧ w'.cell? ⟨a, 13, none⟩ = some (.slice P.ra m.ar.length P.rc) ∧ w'.cell? ⟨b, 0, none⟩ = some (.int .i64 m.id) ∧ w'.cell? ⟨b, 1, none⟩ = some (.bool m.rs) ∧ w'.cell? ⟨b, 2, none⟩ = some (.int .i64 m.op) ∧ w'.cell? ⟨b, 3, none⟩ = some (.bool m.aa) ∧ w'.cell? ⟨b, 4, none⟩ = some (.bool m.tc) ∧ w'.cell? ⟨b, 5, none⟩ = some (.bool m.rd) ∧ w'.cell? ⟨b, 6, none⟩ = some (.bool m.ra) ∧ w'.cell? ⟨b, 7, none⟩ = some (.bool m.ad) ∧ w'.cell? ⟨b, 8, none⟩ = some (.bool m.cd) ∧ w'.cell? ⟨b, 9, none⟩ = some (.int .i64 m.rc) ∧ w'.cell? ⟨b, 10, none⟩ = some (.slice p.qa m.qs.length p.qc) ∧ w'.cell? ⟨b, 11, none⟩ = some (.slice p.na m.an.length p.nc) ∧ w'.cell? ⟨b, 12, none⟩ = some (.slice p.ua m.au.length p.uc) ∧ w'.cell? ⟨b, 13, none⟩ = some (.slice p.ra m.ar.length p.rc) ∧ Below w.heap.size w w' := by
  have x := (msg_cells h1 hB).box
  have y := (msg_cells h2 hB).box
  exact ⟨x.c0, x.c1, x.c2, x.c3, x.c4, x.c5, x.c6, x.c7, x.c8, x.c9, x.c10, x.c11, x.c12, x.c13, y.c0, y.c1, y.c2, y.c3, y.c4, y.c5, y.c6, y.c7, y.c8, y.c9, y.c10, y.c11, y.c12, y.c13, hB⟩
theorem recs_len : ∀ (L : List Rc) (q p : Pp), recsP L q = some p → p.out.length ≤ 65535
  | [], q, p, h => by
    simp only [recsP] at h
    split at h
    · cases h
    · cases h; omega
  | x :: L, q, p, h => by
    simp only [recsP] at h
    split at h
    · cases h
    · exact recs_len L _ p h
theorem pack_len (m : Mg) : (packS m).1.length ≤ 65535 := by
  unfold packS
  split
  · simp
  · cases h : packP m with
    | none => simp
    | some b =>
      unfold packP at h
      obtain ⟨q, hq, rfl⟩ := Option.map_eq_some_iff.1 h
      exact recs_len _ _ _ hq
/-- what stays while the bytes are turned -/
structure Rest (w wr : World) (B base b2 n : Nat) (P p : Pl) (m : Mg) (v2 : Value) (out : Bs) : Prop where
  m1 : MsgAt wr B P m
  m2 : MsgAt wr w.heap.size p m
  tw : TwM wr base P m
  o2 : wr.ownsRow b2 5 1 v2 n (Lib.byteCells out)
  below : Below w.heap.size w wr
theorem Rest.moved {w wr w1 : World} {B base b2 n : Nat} {P p : Pl} {m : Mg} {v2 : Value} {out : Bs} (h : Rest w wr B base b2 n P p m v2 out) (hB : Below wr.heap.size wr w1) : Rest w w1 B base b2 n P p m v2 out :=
  ⟨msg_cells h.m1 hB, msg_cells h.m2 hB, h.tw.below hB, own_keptG h.o2 (fun k cu hk => (hB.block k (Array.getElem?_eq_some_iff.1 hk).1).trans hk), h.below.trans (hB.mono h.below.size)⟩
theorem Rest.set {w wr : World} {B base b2 n g k : Nat} {P p : Pl} {m : Mg} {v2 u : Value} {out : Bs} {cu : Array Value} (h : Rest w wr B base b2 n P p m v2 out) (hg : wr.heap[g]? = some (.cells cu 5 (0, 0))) (hgl : w.heap.size ≤ g) (h2 : v2.ownBlock ≠ some g) : Rest w (wr.setCell ⟨g, k, none⟩ u) B base b2 n P p m v2 out := by
  have hk : ∀ (j : Nat) (o : Obj), j ≠ g → wr.heap[j]? = some o → (wr.setCell ⟨g, k, none⟩ u).heap[j]? = some o := fun j o hj ho => (Below.heap_setCell _ ⟨g, k, none⟩ _ j hj).trans ho
  have hne : ∀ (j : Nat) (c : Array Value) (e : TypeId) (f : Nat × Nat), wr.heap[j]? = some (.cells c e f) → e ≠ 5 → j ≠ g := by
    intro j c e f hj he e2
    subst e2
    rw [hg] at hj; injection hj with hj; injection hj with _ h2 _; exact he h2.symm
  refine ⟨hk _ _ (hne _ _ _ _ h.m1 (by decide)) h.m1, hk _ _ (hne _ _ _ _ h.m2 (by decide)) h.m2, ?_, ?_, h.below.setCell (p := ⟨g, k, none⟩) hgl _⟩
  · exact ⟨own_keptG h.tw.q (fun j c hj => hk _ _ (hne _ _ _ _ hj (by decide)) hj), h.tw.n.move (fun j c hj => hk _ _ (hne _ _ _ _ hj (by decide)) hj), h.tw.u.move (fun j c hj => hk _ _ (hne _ _ _ _ hj (by decide)) hj), h.tw.r.move (fun j c hj => hk _ _ (hne _ _ _ _ hj (by decide)) hj)⟩
  · refine ⟨h.o2.1, ?_⟩
    rcases h.o2.2 with h1 | ⟨g2, c2, u2, rfl, h3, h4, h5⟩
    · exact .inl h1
    · exact .inr ⟨g2, c2, u2, rfl, h3, hk _ _ (fun e => h2 (by rw [e]; rfl)) h4, h5⟩
theorem byte_len (l : List UInt8) : (Lib.byteCells l).length = l.length := by simp [Lib.byteCells]

set_option maxRecDepth 100000 in
set_option maxHeartbeats 8000000 in
theorem law (p : Pl) (m : Mg) (w : World) {b : Nat} (hin : InM w p m b) (hb : b ≤ 1048576) :
    Calls Try.prog 4 #[.agg (cellsM p m)] w fun e w' => e = .returned (.bool true) ∧ Below w.heap.size w w' := by
  have ho := hin.ok (by omega)
  have hbel := (Below.refl w.heap.size w).alloc (Nat.le_refl _) (.cells (cellsM p m) 37)
  have hm0 : MsgAt (w.alloc (.cells (cellsM p m) 37)) w.heap.size p m := heap_alloc_new _ _
  have hcm : ∀ p m, cellsM p m = #[.int .i64 m.id, .bool m.rs, .int .i64 m.op, .bool m.aa, .bool m.tc, .bool m.rd, .bool m.ra, .bool m.ad, .bool m.cd, .int .i64 m.rc, .slice p.qa m.qs.length p.qc, .slice p.na m.an.length p.nc, .slice p.ua m.au.length p.uc, .slice p.ra m.ar.length p.rc] := fun p m => rfl
  rw [hcm] at hbel hm0
  rw [hcm]
  have HIN := Lib.hid hin; have HO := Lib.hid ho; have HBEL := Lib.hid hbel; have HM0 := Lib.hid hm0
  have CT := Lib.hid (fun (wx : World) (hB : Below w.heap.size w wx) => twinM_any p m wx (hin.rd.below hB rfl) hin.nil hin.qnil ho)
  have CP := Lib.hid (fun (P : Pl) (wx : World) (h : RdM wx P m) => wpack_any P m wx h ho.w)
  have CR := Lib.hid (fun (wx : World) (hB : Below w.heap.size w wx) => rpack_any p m wx (hin.rd.below hB rfl) ho hin.nil)
  obtain ⟨out, code, hpk⟩ : ∃ out code, packS m = (out, code) := ⟨_, _, rfl⟩
  simp only [hpk] at CP CR
  obtain ⟨n, hn⟩ : ∃ n, out.length = n := ⟨_, rfl⟩
  have HN := Lib.hid hn
  have hnb : n ≤ 65535 := by
    have h := pack_len m
    rw [hpk] at h
    have h2 : out.length ≤ 65535 := h
    omega
  rw [hn] at CP CR
  clear hin ho hbel hm0 hcm hpk hn
  go_enter Try.func4, Try.ntmps4
  go_upto_region 1 with (fail)
  obtain ⟨w0, hw0⟩ : ∃ w0, w.alloc (.cells #[.int .i64 m.id, .bool m.rs, .int .i64 m.op, .bool m.aa, .bool m.tc, .bool m.rd, .bool m.ra, .bool m.ad, .bool m.cd, .int .i64 m.rc, .slice p.qa m.qs.length p.qc, .slice p.na m.an.length p.nc, .slice p.ua m.au.length p.uc, .slice p.ra m.ar.length p.rc] 37) = w0 := ⟨_, rfl⟩
  rw [hw0] at HBEL HM0 ⊢
  have hx := HM0.out.box

  have b0 := hx.c0; have b1 := hx.c1; have b2 := hx.c2; have b3 := hx.c3; have b4 := hx.c4; have b5 := hx.c5; have b6 := hx.c6; have b7 := hx.c7; have b8 := hx.c8; have b9 := hx.c9; have b10 := hx.c10; have b11 := hx.c11; have b12 := hx.c12; have b13 := hx.c13
  clear hx hw0
  go_wp2_with fail
  refine (CT.out w0 HBEL.out).mono ?_
  rintro e w1 ⟨P, rfl, hT1, hB1⟩
  have hcP : cellsM P m = #[.int .i64 m.id, .bool m.rs, .int .i64 m.op, .bool m.aa, .bool m.tc, .bool m.rd, .bool m.ra, .bool m.ad, .bool m.cd, .int .i64 m.rc, .slice P.qa m.qs.length P.qc, .slice P.na m.an.length P.nc, .slice P.ua m.au.length P.uc, .slice P.ra m.ar.length P.rc] := rfl
  rw [hcP]
  have HT1 := Lib.hid hT1; have HM1 := Lib.hid (msg_cells HM0.out hB1)
  have HB1 := Lib.hid (HBEL.out.trans (hB1.mono HBEL.out.size))
  clear hT1 hB1 hcP b0 b1 b2 b3 b4 b5 b6 b7 b8 b9 b10 b11 b12 b13
  go_upto_region 2 with fail
  have hs1 := heap_alloc_new w1 (.cells #[.int .i64 m.id, .bool m.rs, .int .i64 m.op, .bool m.aa, .bool m.tc, .bool m.rd, .bool m.ra, .bool m.ad, .bool m.cd, .int .i64 m.rc, .slice P.qa m.qs.length P.qc, .slice P.na m.an.length P.nc, .slice P.ua m.au.length P.uc, .slice P.ra m.ar.length P.rc] 37)
  have HM2 : Hid (MsgAt (w1.alloc (.cells #[.int .i64 m.id, .bool m.rs, .int .i64 m.op, .bool m.aa, .bool m.tc, .bool m.rd, .bool m.ra, .bool m.ad, .bool m.cd, .int .i64 m.rc, .slice P.qa m.qs.length P.qc, .slice P.na m.an.length P.nc, .slice P.ua m.au.length P.uc, .slice P.ra m.ar.length P.rc] 37)) w1.heap.size P m) := Lib.hid hs1
  have hB2 := (Below.refl w1.heap.size w1).alloc (Nat.le_refl _) (.cells #[.int .i64 m.id, .bool m.rs, .int .i64 m.op, .bool m.aa, .bool m.tc, .bool m.rd, .bool m.ra, .bool m.ad, .bool m.cd, .int .i64 m.rc, .slice P.qa m.qs.length P.qc, .slice P.na m.an.length P.nc, .slice P.ua m.au.length P.uc, .slice P.ra m.ar.length P.rc] 37)
  have HM1' := Lib.hid (msg_cells HM1.out hB2); have HT2 := Lib.hid (HT1.out.below hB2); have HB2 := Lib.hid (HB1.out.trans (hB2.mono HB1.out.size))
  have hne0 : w.heap.size < w1.heap.size := HM1.out.box.lt
  obtain ⟨w2, hw2⟩ : ∃ w2, w1.alloc (.cells #[.int .i64 m.id, .bool m.rs, .int .i64 m.op, .bool m.aa, .bool m.tc, .bool m.rd, .bool m.ra, .bool m.ad, .bool m.cd, .int .i64 m.rc, .slice P.qa m.qs.length P.qc, .slice P.na m.an.length P.nc, .slice P.ua m.au.length P.uc, .slice P.ra m.ar.length P.rc] 37) = w2 := ⟨_, rfl⟩
  rw [hw2] at HM2 HM1' HT2 HB2 ⊢
  obtain ⟨B, hB⟩ : ∃ B, w1.heap.size = B := ⟨_, rfl⟩
  rw [hB] at HM2 ⊢
  have hx := HM2.out.box
  have b0 := hx.c0; have b1 := hx.c1; have b2 := hx.c2; have b3 := hx.c3; have b4 := hx.c4; have b5 := hx.c5; have b6 := hx.c6; have b7 := hx.c7; have b8 := hx.c8; have b9 := hx.c9; have b10 := hx.c10; have b11 := hx.c11; have b12 := hx.c12; have b13 := hx.c13
  clear hx hs1 hB2 hw2
  go_wp2_with fail
  refine (CP.out P w2 HT2.out.rd).mono ?_
  rintro e w3 ⟨v1, rfl, ho1, hB3⟩
  have HM3 := Lib.hid (msg_cells HM2.out hB3); have HM3' := Lib.hid (msg_cells HM1'.out hB3); have HT3 := Lib.hid (HT2.out.below hB3); have HB3 := Lib.hid (HB2.out.trans (hB3.mono HB2.out.size))
  have HO1 := Lib.hid ho1
  have hx := HM3'.out.box
  clear ho1 hB3 b0 b1 b2 b3 b4 b5 b6 b7 b8 b9 b10 b11 b12 b13
  have b0 := hx.c0; have b1 := hx.c1; have b2 := hx.c2; have b3 := hx.c3; have b4 := hx.c4; have b5 := hx.c5; have b6 := hx.c6; have b7 := hx.c7; have b8 := hx.c8; have b9 := hx.c9; have b10 := hx.c10; have b11 := hx.c11; have b12 := hx.c12; have b13 := hx.c13
  clear hx
  go_wp2_with fail
  refine (CR.out w3 HB3.out).mono ?_
  rintro e w4 ⟨v2, rfl, ho2, hB4⟩
  have HM4 := Lib.hid (msg_cells HM3.out hB4); have HM4' := Lib.hid (msg_cells HM3'.out hB4); have HT4 := Lib.hid (HT3.out.below hB4); have HB4 := Lib.hid (HB3.out.trans (hB4.mono HB3.out.size))
  have HO1b : Hid (w4.ownsRow w2.heap.size 5 1 v1 n (Lib.byteCells out)) := Lib.hid (own_keptG HO1.out (fun k cu hk => (hB4.block k (Array.getElem?_eq_some_iff.1 hk).1).trans hk))
  have HO2 := Lib.hid ho2
  have HV12 : Hid (∀ g, v1.ownBlock = some g → v2.ownBlock ≠ some g) := Lib.hid (by
    intro g h1 h2
    rcases HO1.out.2 with ⟨rfl, _⟩ | ⟨g1, c1, u1, rfl, _, hh1, _⟩
    · cases h1
    · rcases HO2.out.2 with ⟨rfl, _⟩ | ⟨g2, c2, u2, rfl, hh2, _⟩
      · cases h2
      · cases h1; cases h2
        have := (Array.getElem?_eq_some_iff.1 hh1).1
        omega)
  obtain ⟨a1, c1, rfl⟩ := buf.own_slice1 HO1b.out
  obtain ⟨a2, c2, rfl⟩ := buf.own_slice1 HO2.out
  clear ho2 hB4 b0 b1 b2 b3 b4 b5 b6 b7 b8 b9 b10 b11 b12 b13
  go_upto_region 4 with fail
  have hBd : Below w4.heap.size w4 w4.drew := (Below.refl _ _).drew
  have hS0 := two_keep HM4.out HM4'.out hBd
  have CW := Lib.hid (fun (wx : World) (hB : Below w4.heap.size w4 wx) => wholeM_any P p m _ wx (HT4.out.below hB) (HIN.out.rd.below (HB4.out.trans (hB.mono HB4.out.size)) rfl) HO.out)
  have CB := Lib.hid (fun (wx : World) (hB : Below w4.heap.size w4 wx) => bytes_same w2.heap.size w3.heap.size (.slice a1 n c1) (.slice a2 n c2) out wx (by rw [HN.out]; exact own_keptG HO1b.out (fun k cu hk => (hB.block k (Array.getElem?_eq_some_iff.1 hk).1).trans hk)) (by rw [HN.out]; exact own_keptG HO2.out (fun k cu hk => (hB.block k (Array.getElem?_eq_some_iff.1 hk).1).trans hk)))
  obtain ⟨K, hK⟩ : ∃ K : Int, (if checkB m then (0 : Int) else 8) = K := ⟨_, rfl⟩
  have C1 := Lib.hid (fun (wx : World) (hB : Below w4.heap.size w4 wx) => wireC.wcheck_any P m wx (HT4.out.rd.below hB rfl) HO.out.w)
  have C2 := Lib.hid (fun (wx : World) (hB : Below w4.heap.size w4 wx) => wireD.rcheck_any p m wx (HIN.out.rd.below (HB4.out.trans (hB.mono HB4.out.size)) rfl) HO.out)
  rw [hK] at C1 C2
  clear hK
  go_region_held3 (fun w' => w'.cell? ⟨B, 0, none⟩ = some (.int .i64 m.id) ∧ w'.cell? ⟨B, 1, none⟩ = some (.bool m.rs) ∧ w'.cell? ⟨B, 2, none⟩ = some (.int .i64 m.op) ∧ w'.cell? ⟨B, 3, none⟩ = some (.bool m.aa) ∧ w'.cell? ⟨B, 4, none⟩ = some (.bool m.tc) ∧ w'.cell? ⟨B, 5, none⟩ = some (.bool m.rd) ∧ w'.cell? ⟨B, 6, none⟩ = some (.bool m.ra) ∧ w'.cell? ⟨B, 7, none⟩ = some (.bool m.ad) ∧ w'.cell? ⟨B, 8, none⟩ = some (.bool m.cd) ∧ w'.cell? ⟨B, 9, none⟩ = some (.int .i64 m.rc) ∧ w'.cell? ⟨B, 10, none⟩ = some (.slice P.qa m.qs.length P.qc) ∧ w'.cell? ⟨B, 11, none⟩ = some (.slice P.na m.an.length P.nc) ∧ w'.cell? ⟨B, 12, none⟩ = some (.slice P.ua m.au.length P.uc) ∧ w'.cell? ⟨B, 13, none⟩ = some (.slice P.ra m.ar.length P.rc) ∧ w'.cell? ⟨w.heap.size, 0, none⟩ = some (.int .i64 m.id) ∧ w'.cell? ⟨w.heap.size, 1, none⟩ = some (.bool m.rs) ∧ w'.cell? ⟨w.heap.size, 2, none⟩ = some (.int .i64 m.op) ∧ w'.cell? ⟨w.heap.size, 3, none⟩ = some (.bool m.aa) ∧ w'.cell? ⟨w.heap.size, 4, none⟩ = some (.bool m.tc) ∧ w'.cell? ⟨w.heap.size, 5, none⟩ = some (.bool m.rd) ∧ w'.cell? ⟨w.heap.size, 6, none⟩ = some (.bool m.ra) ∧ w'.cell? ⟨w.heap.size, 7, none⟩ = some (.bool m.ad) ∧ w'.cell? ⟨w.heap.size, 8, none⟩ = some (.bool m.cd) ∧ w'.cell? ⟨w.heap.size, 9, none⟩ = some (.int .i64 m.rc) ∧ w'.cell? ⟨w.heap.size, 10, none⟩ = some (.slice p.qa m.qs.length p.qc) ∧ w'.cell? ⟨w.heap.size, 11, none⟩ = some (.slice p.na m.an.length p.nc) ∧ w'.cell? ⟨w.heap.size, 12, none⟩ = some (.slice p.ua m.au.length p.uc) ∧ w'.cell? ⟨w.heap.size, 13, none⟩ = some (.slice p.ra m.ar.length p.rc) ∧ Below w4.heap.size w4 w') (first | assumption | (refine ⟨?_, ?_, ?_, ?_, ?_, ?_, ?_, ?_, ?_, ?_, ?_, ?_, ?_, ?_, ?_, ?_, ?_, ?_, ?_, ?_, ?_, ?_, ?_, ?_, ?_, ?_, ?_, ?_, ?_⟩ <;> assumption))
    (first
      | (go_at_call 20; refine (CW.out _ (by assumption)).mono ?_; rintro e w' ⟨rfl, hBz⟩; have hBy := Below.trans (by assumption) (hBz.mono (Below.size (by assumption))); have hSz := two_keep HM4.out HM4'.out hBy; clear hBz)
      | (go_at_call 21; refine (CB.out _ (by assumption)).mono ?_; rintro e w' ⟨rfl, rfl⟩)
      | (go_at_call 22; refine (C1.out _ (by assumption)).mono ?_; rintro e w' ⟨rfl, hBz⟩; have hBy := Below.trans (by assumption) (hBz.mono (Below.size (by assumption))); have hSz := two_keep HM4.out HM4'.out hBy; clear hBz)
      | (go_at_call 23; refine (C2.out _ (by assumption)).mono ?_; rintro e w' ⟨rfl, hBz⟩; have hBy := Below.trans (by assumption) (hBz.mono (Below.size (by assumption))); have hSz := two_keep HM4.out HM4'.out hBy; clear hBz))
  have HRE : Hid (Rest w w' B _ _ n P p m (.slice a2 n c2) out) := Lib.hid (Rest.moved ⟨HM4.out, HM4'.out, HT4.out, HO2.out, HB4.out⟩ hBy)
  have HOX : Hid (w'.ownsRow w2.heap.size 5 1 (.slice a1 n c1) n (Lib.byteCells out)) := Lib.hid (own_keptG HO1b.out (fun k cu hk => (hBy.block k (Array.getElem?_eq_some_iff.1 hk).1).trans hk))
  obtain ⟨wX, hwX⟩ : ∃ wX, w' = wX := ⟨_, rfl⟩
  subst hwX
  have HLW : Hid (w.heap.size ≤ w2.heap.size) := Lib.hid HB2.out.size
  clear hBd hS0 hSz hBy
  clear CW CB C1 C2
  go_wp2_with fail
  go_loopg [8, 45] (n + 1) (fun gas _ kv wr => ∃ (k : Nat) (xs : List Value), kv = .int .i64 (k : Int) ∧ k ≤ n ∧ k + gas = n + 1 ∧ Hid (wr.ownsRow w2.heap.size 5 1 (.slice a1 n c1) n xs) ∧ Hid (∀ j, k ≤ j → xs[j]? = (Lib.byteCells out)[j]?) ∧ Hid (Rest w wr B w0.heap.size w3.heap.size n P p m (.slice a2 n c2) out))
  case atStart => exact ⟨0, _, rfl, by omega, by omega, HOX, Lib.hid (fun _ _ => rfl), HRE⟩
  case round =>
    clear HOX HRE
    obtain ⟨k, xs, rfl, hk, hkg, HOX, HXS, HRE⟩ := hrel
    have HK := Lib.hid hkg; clear hkg
    by_cases hlt : k < n
    · obtain ⟨g, cap, hv, hgb, hgl, _, hgf, cur, hgh⟩ := own_at HOX.out (by omega)
      cases hv
      obtain ⟨c, hc⟩ : ∃ c, out[k]? = some c := ⟨_, List.getElem?_eq_getElem (by have := HN.out; omega)⟩
      have e1 := HOX.out.cells (g := g) rfl k (.int .u8 (c.toNat : Int)) (by rw [HXS.out k (Nat.le_refl _)]; simp [Lib.byteCells, hc])
      rw [addr_at, Nat.zero_add] at e1
      have f1 := hgf k
      have hset : ∀ u, Hid (Rest w (wr.setCell ⟨g, k, none⟩ u) B w0.heap.size w3.heap.size n P p m (.slice a2 n c2) out) := fun u => Lib.hid (HRE.out.set hgh (Nat.le_trans HLW.out hgb) (HV12.out g rfl))
      have hown : ∀ u, Hid ((wr.setCell ⟨g, k, none⟩ u).ownsRow w2.heap.size 5 1 (.slice (some ⟨g, 0, none⟩) n c1) n (xs.set k u)) := fun u => Lib.hid (pdata.own_set HOX.out k (by omega) u)
      have hxs : ∀ u, Hid (∀ j, k + 1 ≤ j → (xs.set k u)[j]? = (Lib.byteCells out)[j]?) := fun u => Lib.hid (fun j hj => by rw [List.getElem?_set_ne (by omega)]; exact HXS.out j (by omega))
      have HSET := Lib.hid hset; have HOWN := Lib.hid hown; have HXS2 := Lib.hid hxs
      have zl : (k : Int) < (n : Int) := by omega
      have hb255 := byte_lt c
      clear hset hown hxs hc hgh hgf
      go_wp2_with fail
      have hkg := HK.out
      go_roundg (gk - 1)
      case rel => exact ⟨k + 1, xs.set k _, by go_num, by omega, by omega, HOWN.out _, HXS2.out _, HSET.out _⟩
      case measure => omega
    · have hx := HRE.out.m1.box
      have b0 := hx.c0; have b1 := hx.c1; have b2 := hx.c2; have b3 := hx.c3; have b4 := hx.c4; have b5 := hx.c5; have b6 := hx.c6; have b7 := hx.c7; have b8 := hx.c8; have b9 := hx.c9; have b10 := hx.c10; have b11 := hx.c11; have b12 := hx.c12; have b13 := hx.c13
      clear hx
      go_wp2_with fail
      refine (CP.out P wr HRE.out.tw.rd).mono ?_
      rintro e w5 ⟨v3, rfl, ho3, hB5⟩
      have HRE5 := Lib.hid (HRE.out.moved hB5)
      have CB := Lib.hid (bytes_same wr.heap.size w3.heap.size v3 (.slice a2 n c2) out w5 (by rw [HN.out]; exact ho3) (by rw [HN.out]; exact HRE5.out.o2))
      obtain ⟨a3, c3, rfl⟩ := buf.own_slice1 ho3
      clear ho3 hB5 b0 b1 b2 b3 b4 b5 b6 b7 b8 b9 b10 b11 b12 b13
      go_wp2_with fail
      refine CB.out.mono ?_
      rintro e w6 ⟨rfl, rfl⟩
      go_wp2_with fail
      go_ret
      exact ⟨rfl, HRE5.out.below⟩
end Go.Proofs.Ytabhiangjomaeaa.wirePacks
