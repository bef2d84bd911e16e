/- A message handed in: opened. A []byte handed in: opened. wire.Fit in plain words. wire.Fit's closure: walk. slices.Clone of records and of questions: walks. -/
import Derived.Test.YtabhiangjomaeaaU15
import Derived.Test.YtabhiangjomaeaaU26
import Derived.Test.YtabhiangjomaeaaU14
import Derived.Deep.Slices
import Derived.Deep.Fields
import Derived.ChangeSame
import Derived.Carry
import Derived.ChangeOld
import Derived.ProofKit
namespace Go.Proofs.Ytabhiangjomaeaa.msgArg
open Go.ChangeShapes Go.WideShapes Go.RowKit Go.Deep Go.Proofs.Ytabhiangjomaeaa.kit Go.Proofs.Ytabhiangjomaeaa.timed Go.Proofs.Ytabhiangjomaeaa.wireP Go.Proofs.Ytabhiangjomaeaa.wireM Go.Proofs.Ytabhiangjomaeaa.rows
set_option linter.unusedVariables false

theorem got {α : Type} {l : List α} {i n : Nat} (h : l.length = n) (hi : i < n) : ∃ y, l[i]? = some y := ⟨_, List.getElem?_eq_getElem (by omega)⟩
theorem one_at {cs : List Value} {o : Nat} {v : Value} (h : (cs.drop o).take 1 = [v]) : cs[o]? = some v := by
  have : ((cs.drop o).take 1)[0]? = some v := by rw [h]; rfl
  rw [List.getElem?_take_of_lt (by omega), List.getElem?_drop] at this; simpa using this
theorem choose_list {α : Type} (p : Nat → α → Prop) : ∀ n, (∀ i, i < n → ∃ x, p i x) → ∃ l : List α, l.length = n ∧ ∀ i x, l[i]? = some x → p i x
  | 0, _ => ⟨[], rfl, by simp⟩
  | n + 1, h => by
    obtain ⟨l, hl, hp⟩ := choose_list p n (fun i hi => h i (by omega))
    obtain ⟨x, hx⟩ := h n (by omega)
    refine ⟨l ++ [x], by simp [hl], fun i y hy => ?_⟩
    by_cases hi : i < n
    · rw [List.getElem?_append_left (by omega)] at hy; exact hp i y hy
    · have hlt := (List.getElem?_eq_some_iff.1 hy).1
      have : i = n := by simp [hl] at hlt; omega
      subst this
      rw [List.getElem?_append_right (by omega), hl, Nat.sub_self] at hy
      simp at hy; subst hy; exact hx
theorem cell_lt {w : World} {a : Addr} {v : Value} (h : w.cell? a = some v) : a.block < w.heap.size := by
  rcases Nat.lt_or_ge a.block w.heap.size with h' | h'
  · exact h'
  · simp [World.cell?, Array.getElem?_eq_none h'] at h
set_option maxRecDepth 100000 in
theorem bulk_len {H : Type} : ∀ l : List (DataW H), (∀ x ∈ l, 1 ≤ Rows.uptoBulk x) → l.length ≤ Rows.uptoBulkAll l
  | [], _ => Nat.zero_le _
  | x :: l, h => by
    have h1 := bulk_len l (fun y hy => h y (List.mem_cons_of_mem _ hy))
    have h2 := h x List.mem_cons_self
    have e : Rows.uptoBulkAll (x :: l) = Rows.uptoBulk x + Rows.uptoBulkAll l := rfl
    rw [e, List.length_cons]; omega
set_option maxRecDepth 100000 in
theorem bulk_mem {H : Type} : ∀ (l : List (DataW H)) (x : DataW H), x ∈ l → Rows.uptoBulk x ≤ Rows.uptoBulkAll l
  | y :: l, x, h => by
    have e : Rows.uptoBulkAll (y :: l) = Rows.uptoBulk y + Rows.uptoBulkAll l := rfl
    rw [e]
    rcases List.mem_cons.1 h with rfl | h
    · omega
    · have := bulk_mem l x h; omega
set_option maxRecDepth 100000 in
/-- a list of rows handed in -/
theorem open_rows {α : Type} (f : α → List Value) (m : Nat) (hm0 : 0 < m) (hf : ∀ x, (f x).length = m) (G : α → Nat → Prop) {H : Type} {enc : TypeId × Value → H} {w : World} {fuel : Nat} {a : Option Addr} {len cap : Nat} {d : DataW H} {p : List MemPlace} {T E : TypeId}
    (hT : Try.prog.underlying T = some (.slice E)) (hE : Try.prog.cellsOf E = m) (hG : ∀ t x y, G t x → x ≤ y → G t y)
    (hc : ∀ (n : Nat) (cs : List Value) (x : DataW H × List MemPlace), DataW.trod enc Try.prog w 0 (fun _ => true) true n E cs = some x → ∃ t, cs = f t ∧ G t (Rows.uptoBulk x.1) ∧ 1 ≤ Rows.uptoBulk x.1)
    (h : DataW.trod enc Try.prog w 0 (fun _ => true) true fuel T (Value.slice a len cap).cells.toList = some (d, p)) :
    ∃ ls : List α, len = ls.length ∧ RdC w a m (ls.map f) ∧ (a = none → ls.length = 0 ∧ cap = 0) ∧ len ≤ Rows.uptoBulk d ∧ len ≤ maxLen ∧ ∀ t ∈ ls, G t (Rows.uptoBulk d) := by
  rcases open_slice hT h with ⟨hcs, hx⟩ | ⟨ad, len', cap', m', n, D, Pl, hcs, hb, hl, hm, hmm, hx, hi⟩
  · simp [Value.cells] at hcs
    obtain ⟨rfl, rfl, rfl⟩ := hcs
    exact ⟨[], rfl, RdC.nil _ _ _, fun _ => ⟨rfl, rfl⟩, Nat.zero_le _, Nat.zero_le _, by simp⟩
  · simp [Value.cells] at hcs
    obtain ⟨rfl, rfl, rfl⟩ := hcs
    simp only [if_true] at hmm
    subst hmm
    simp only [Prod.mk.injEq] at hx
    obtain ⟨rfl, rfl⟩ := hx
    rw [hE] at hi
    have e : ∀ (l1 l2 : List (DataW H)), Rows.uptoBulk (DataW.slice l1 l2) = Rows.uptoBulkAll l1 + Rows.uptoBulkAll l2 + 1 := fun _ _ => rfl
    obtain ⟨ls, hll, hls⟩ := choose_list (fun i (t : α) => w.cells? 0 (ad.add (i * m)) m = some (f t) ∧ G t (Rows.uptoBulk (D i))) len (fun i hi2 => by
      obtain ⟨cs', h1, h2⟩ := hi i (by omega)
      obtain ⟨t, rfl, hg, _⟩ := hc _ _ _ h2
      exact ⟨t, h1, hg⟩)
    refine ⟨ls, hll.symm, ?_, (fun h => by cases h), ?_, Nat.le_trans hl hm, ?_⟩
    · intro j row hrow
      rw [List.getElem?_map] at hrow
      obtain ⟨t, ht, rfl⟩ := Option.map_eq_some_iff.1 hrow
      have hc' := (hls j t ht).1
      obtain ⟨_, hlen, hcell⟩ := World.cells?_some hc'
      obtain ⟨u1, hu1⟩ : ∃ u1, (f t)[0]? = some u1 := ⟨_, List.getElem?_eq_getElem (by rw [hf]; exact hm0)⟩
      have hc0 := hcell 0 hm0
      rw [hu1] at hc0
      obtain ⟨g, o, sp⟩ := ad
      have hspot : sp = none := by
        obtain ⟨t0, ht0⟩ : ∃ t0, ls[0]? = some t0 := ⟨_, List.getElem?_eq_getElem (by have := (List.getElem?_eq_some_iff.1 ht).1; omega)⟩
        obtain ⟨_, _, hcell00⟩ := World.cells?_some (hls 0 t0 ht0).1
        obtain ⟨u0, hu0⟩ : ∃ u0, (f t0)[0]? = some u0 := ⟨_, List.getElem?_eq_getElem (by rw [hf]; exact hm0)⟩
        have h00 := hcell00 0 hm0
        rw [hu0] at h00
        simpa [Addr.add] using World.cell?_spot h00
      subst hspot
      have hadd : ∀ (o k : Nat), (⟨g, o, none⟩ : Addr).add k = ⟨g, o + k, none⟩ := fun o k => by unfold Addr.add; split <;> simp_all
      refine ⟨hf t, g, o, rfl, ?_, fun i u hu => ?_⟩
      · have := cell_lt hc0; simpa [hadd] using this
      · have hi8 : i < m := by have := (List.getElem?_eq_some_iff.1 hu).1; rw [hf] at this; exact this
        have := hcell i hi8
        rw [hadd, hadd] at this
        rw [this]
        exact hu
    · have hbl := bulk_len ((List.range len).map D) (fun x hx => by
        obtain ⟨i, hi3, rfl⟩ := List.mem_map.1 hx
        obtain ⟨cs', _, h2⟩ := hi i (by have := List.mem_range.1 hi3; omega)
        obtain ⟨_, _, _, h3⟩ := hc _ _ _ h2
        exact h3)
      rw [e]
      rw [List.length_map, List.length_range] at hbl
      omega
    · intro t ht
      obtain ⟨i, hi1, hi2⟩ := List.getElem_of_mem ht
      have hti : ls[i]? = some t := by rw [List.getElem?_eq_getElem hi1, hi2]
      refine hG _ _ _ (hls i t hti).2 ?_
      rw [e]
      have := bulk_mem ((List.range len).map D) (D i) (List.mem_map.2 ⟨i, List.mem_range.2 (by omega), rfl⟩)
      omega

section
variable {H : Type} {enc : TypeId × Value → H} {w : World} {base : Nat} {spare : Nat → Bool} {held : Bool}
theorem cellsInt : Try.prog.cellsOf 3 = 1 := by kernel_rfl
theorem cellsBool : Try.prog.cellsOf 4 = 1 := by kernel_rfl
theorem cellsString : Try.prog.cellsOf 9 = 1 := by kernel_rfl
theorem cellsRecs : Try.prog.cellsOf 35 = 1 := by kernel_rfl
theorem cellsQns : Try.prog.cellsOf 34 = 1 := by kernel_rfl
theorem cellsRec : Try.prog.cellsOf 52 = 5 := by kernel_rfl
theorem cellsQn : Try.prog.cellsOf 50 = 3 := by kernel_rfl
theorem cellsMsg : Try.prog.cellsOf 37 = 14 := by kernel_rfl
theorem int_at {n : Nat} {cs : List Value} {o : Nat} {y : DataW H × List MemPlace} (h : DataW.trod enc Try.prog w base spare held n 3 ((cs.drop o).take (Try.prog.cellsOf 3)) = some y) : ∃ z, cs[o]? = some (.int .i64 z) := by
  rw [cellsInt] at h
  obtain ⟨z, hz, _⟩ := DataW.trod_int Try.underlying3 h
  exact ⟨z, one_at hz⟩
theorem bool_at {n : Nat} {cs : List Value} {o : Nat} {y : DataW H × List MemPlace} (h : DataW.trod enc Try.prog w base spare held n 4 ((cs.drop o).take (Try.prog.cellsOf 4)) = some y) : ∃ z, cs[o]? = some (.bool z) := by
  rw [cellsBool] at h
  obtain ⟨z, hz, _⟩ := DataW.trod_bool Try.underlying4 h
  exact ⟨z, one_at hz⟩
theorem str_at {n : Nat} {cs : List Value} {o : Nat} {y : DataW H × List MemPlace} (h : DataW.trod enc Try.prog w base spare held n 9 ((cs.drop o).take (Try.prog.cellsOf 9)) = some y) : ∃ z : ByteArray, cs[o]? = some (.string z) ∧ z.size ≤ Rows.uptoBulk y.1 ∧ z.size ≤ maxLen := by
  rw [cellsString] at h
  obtain ⟨z, hz, hy, hm⟩ := DataW.trod_string Try.underlying9 h
  subst hy
  have e : Rows.uptoBulk (DataW.lit (H := H) (.string z.data.toList)) = z.data.toList.length + 1 := rfl
  refine ⟨z, one_at hz, ?_, hm⟩
  rw [e, size_len]; omega
theorem bulk_agg (xs : List (DataW H × List MemPlace)) {i : Nat} {y : DataW H × List MemPlace} (hy : xs[i]? = some y) : Rows.uptoBulk y.1 ≤ Rows.uptoBulk (DataW.agg (xs.map (·.1))) := by
  have e : Rows.uptoBulk (DataW.agg (xs.map (·.1))) = Rows.uptoBulkAll (xs.map (·.1)) + 1 := rfl
  have := bulk_mem (xs.map (·.1)) y.1 (List.mem_map.2 ⟨y, List.mem_of_getElem? hy, rfl⟩)
  omega
set_option maxRecDepth 100000 in
theorem rec_cells {n : Nat} {cs : List Value} {x : DataW H × List MemPlace} (h : DataW.trod enc Try.prog w base spare held n 52 cs = some x) : ∃ t : Rc, cs = t.cells ∧ ((t.o.size ≤ Rows.uptoBulk x.1 ∧ t.d.size ≤ Rows.uptoBulk x.1) ∧ t.d.size ≤ maxLen) ∧ 1 ≤ Rows.uptoBulk x.1 := by
  obtain ⟨xs, n', _, rfl, hlen, hxl, hf⟩ := DataW.trod_struct Try.underlying52 h
  rw [cellsRec] at hlen
  obtain ⟨y0, e0⟩ := got hxl (i := 0) (by decide)
  obtain ⟨y1, e1⟩ := got hxl (i := 1) (by decide)
  obtain ⟨y2, e2⟩ := got hxl (i := 2) (by decide)
  obtain ⟨y3, e3⟩ := got hxl (i := 3) (by decide)
  obtain ⟨y4, e4⟩ := got hxl (i := 4) (by decide)
  obtain ⟨z0, q0, s0, _⟩ := str_at (o := 0) ((hf 0 _ rfl).trans e0)
  obtain ⟨z1, q1⟩ := int_at (o := 1) ((hf 1 _ rfl).trans e1)
  obtain ⟨z2, q2⟩ := int_at (o := 2) ((hf 2 _ rfl).trans e2)
  obtain ⟨z3, q3⟩ := int_at (o := 3) ((hf 3 _ rfl).trans e3)
  obtain ⟨z4, q4, s4, m4⟩ := str_at (o := 4) ((hf 4 _ rfl).trans e4)
  refine ⟨⟨z0, z1, z2, z3, z4⟩, ?_, ⟨⟨Nat.le_trans s0 (bulk_agg xs e0), Nat.le_trans s4 (bulk_agg xs e4)⟩, m4⟩, ?_⟩
  · apply List.ext_getElem?
    intro i
    match i with
    | 0 => simpa [Rc.cells] using q0
    | 1 => simpa [Rc.cells] using q1
    | 2 => simpa [Rc.cells] using q2
    | 3 => simpa [Rc.cells] using q3
    | 4 => simpa [Rc.cells] using q4
    | i + 5 => rw [List.getElem?_eq_none (by omega), List.getElem?_eq_none (by simp [Rc.cells])]
  · show 1 ≤ Rows.uptoBulkAll (xs.map (·.1)) + 1
    omega
set_option maxRecDepth 100000 in
theorem qn_cells {n : Nat} {cs : List Value} {x : DataW H × List MemPlace} (h : DataW.trod enc Try.prog w base spare held n 50 cs = some x) : ∃ t : Qn, cs = t.cells ∧ (t.n.size ≤ Rows.uptoBulk x.1) ∧ 1 ≤ Rows.uptoBulk x.1 := by
  obtain ⟨xs, n', _, rfl, hlen, hxl, hf⟩ := DataW.trod_struct Try.underlying50 h
  rw [cellsQn] at hlen
  obtain ⟨y0, e0⟩ := got hxl (i := 0) (by decide)
  obtain ⟨y1, e1⟩ := got hxl (i := 1) (by decide)
  obtain ⟨y2, e2⟩ := got hxl (i := 2) (by decide)
  obtain ⟨z0, q0, s0, _⟩ := str_at (o := 0) ((hf 0 _ rfl).trans e0)
  obtain ⟨z1, q1⟩ := int_at (o := 1) ((hf 1 _ rfl).trans e1)
  obtain ⟨z2, q2⟩ := int_at (o := 2) ((hf 2 _ rfl).trans e2)
  refine ⟨⟨z0, z1, z2⟩, ?_, Nat.le_trans s0 (bulk_agg xs e0), ?_⟩
  · apply List.ext_getElem?
    intro i
    match i with
    | 0 => simpa [Qn.cells] using q0
    | 1 => simpa [Qn.cells] using q1
    | 2 => simpa [Qn.cells] using q2
    | i + 3 => rw [List.getElem?_eq_none (by omega), List.getElem?_eq_none (by simp [Qn.cells])]
  · show 1 ≤ Rows.uptoBulkAll (xs.map (·.1)) + 1
    omega
end
section
variable {H : Type} {enc : TypeId × Value → H} {w : World}
theorem slice_form {n : Nat} {cs : List Value} {o : Nat} {T E : TypeId} {y : DataW H × List MemPlace} (hT : Try.prog.underlying T = some (.slice E)) (hc : Try.prog.cellsOf T = 1) (h : DataW.trod enc Try.prog w 0 (fun _ => true) true n T ((cs.drop o).take (Try.prog.cellsOf T)) = some y) :
    ∃ a l c, cs[o]? = some (.slice a l c) ∧ DataW.trod enc Try.prog w 0 (fun _ => true) true n T (Value.slice a l c).cells.toList = some y := by
  rw [hc] at h
  have hs : ∃ (a : Option Addr) (l c : Nat), (cs.drop o).take 1 = [.slice a l c] := by
    rcases open_slice hT h with ⟨g0, _⟩ | ⟨ad, len, cap, _, _, _, _, g0, _⟩
    · exact ⟨none, 0, 0, g0⟩
    · exact ⟨some ad, len, cap, g0⟩
  obtain ⟨a, l, c, q0⟩ := hs
  rw [q0] at h
  exact ⟨a, l, c, one_at q0, h⟩
/-- what is known of a message handed in -/
structure InM (w : World) (p : Pl) (m : Mg) (b : Nat) : Prop where
  rd : RdM w p m
  nil : NilM p m
  qnil : p.qa = none → m.qs.length = 0 ∧ p.qc = 0
  lens : m.qs.length ≤ b ∧ m.an.length ≤ b ∧ m.au.length ≤ b ∧ m.ar.length ≤ b
  sq : ∀ x ∈ m.qs, x.n.size ≤ b
  sn : ∀ x ∈ m.an, x.o.size ≤ b ∧ x.d.size ≤ b
  su : ∀ x ∈ m.au, x.o.size ≤ b ∧ x.d.size ≤ b
  sr : ∀ x ∈ m.ar, x.o.size ≤ b ∧ x.d.size ≤ b
  w : OkW m
theorem InM.ok {p : Pl} {m : Mg} {b : Nat} (h : InM w p m b) (hb : b ≤ 1099511627776) : OkM m :=
  ⟨fun x hx => Nat.le_trans (h.sq x hx) hb, fun x hx => ⟨Nat.le_trans (h.sn x hx).1 hb, Nat.le_trans (h.sn x hx).2 hb⟩, fun x hx => ⟨Nat.le_trans (h.su x hx).1 hb, Nat.le_trans (h.su x hx).2 hb⟩, fun x hx => ⟨Nat.le_trans (h.sr x hx).1 hb, Nat.le_trans (h.sr x hx).2 hb⟩, Nat.le_trans h.lens.1 hb, Nat.le_trans h.lens.2.1 hb, Nat.le_trans h.lens.2.2.1 hb, Nat.le_trans h.lens.2.2.2 hb⟩
set_option maxRecDepth 100000 in
theorem open_msg {r : Reach} {b0 : Nat} {v : Value} {d : DataW H} {p : List MemPlace}
    (hv : Value.okWide Try.prog w r b0 37 v) (h : DataW.Trod enc Try.prog w 0 (fun _ => true) true 37 v d p) :
    ∃ (P : Pl) (m : Mg), v = .agg (cellsM P m) ∧ InM w P m (Rows.uptoBulk d) := by
  obtain ⟨cs, rfl, hsz⟩ := okWide_struct Try.underlying37 hv
  rw [cellsMsg] at hsz
  obtain ⟨fuel, hf⟩ := h
  have e : (Value.agg cs).cells.toList = cs.toList := rfl
  rw [e] at hf
  obtain ⟨xs, n', _, hx, hlen, hxl, hg⟩ := DataW.trod_struct Try.underlying37 hf
  simp only [Prod.mk.injEq] at hx
  obtain ⟨rfl, rfl⟩ := hx
  obtain ⟨y0, e0⟩ := got hxl (i := 0) (by decide)
  obtain ⟨y1, e1⟩ := got hxl (i := 1) (by decide)
  obtain ⟨y2, e2⟩ := got hxl (i := 2) (by decide)
  obtain ⟨y3, e3⟩ := got hxl (i := 3) (by decide)
  obtain ⟨y4, e4⟩ := got hxl (i := 4) (by decide)
  obtain ⟨y5, e5⟩ := got hxl (i := 5) (by decide)
  obtain ⟨y6, e6⟩ := got hxl (i := 6) (by decide)
  obtain ⟨y7, e7⟩ := got hxl (i := 7) (by decide)
  obtain ⟨y8, e8⟩ := got hxl (i := 8) (by decide)
  obtain ⟨y9, e9⟩ := got hxl (i := 9) (by decide)
  obtain ⟨y10, e10⟩ := got hxl (i := 10) (by decide)
  obtain ⟨y11, e11⟩ := got hxl (i := 11) (by decide)
  obtain ⟨y12, e12⟩ := got hxl (i := 12) (by decide)
  obtain ⟨y13, e13⟩ := got hxl (i := 13) (by decide)
  obtain ⟨z0, q0⟩ := int_at (o := 0) ((hg 0 _ rfl).trans e0)
  obtain ⟨z1, q1⟩ := bool_at (o := 1) ((hg 1 _ rfl).trans e1)
  obtain ⟨z2, q2⟩ := int_at (o := 2) ((hg 2 _ rfl).trans e2)
  obtain ⟨z3, q3⟩ := bool_at (o := 3) ((hg 3 _ rfl).trans e3)
  obtain ⟨z4, q4⟩ := bool_at (o := 4) ((hg 4 _ rfl).trans e4)
  obtain ⟨z5, q5⟩ := bool_at (o := 5) ((hg 5 _ rfl).trans e5)
  obtain ⟨z6, q6⟩ := bool_at (o := 6) ((hg 6 _ rfl).trans e6)
  obtain ⟨z7, q7⟩ := bool_at (o := 7) ((hg 7 _ rfl).trans e7)
  obtain ⟨z8, q8⟩ := bool_at (o := 8) ((hg 8 _ rfl).trans e8)
  obtain ⟨z9, q9⟩ := int_at (o := 9) ((hg 9 _ rfl).trans e9)
  obtain ⟨a10, l10, c10, q10, g10⟩ := slice_form (o := 10) Try.underlying34 cellsQns ((hg 10 _ rfl).trans e10)
  obtain ⟨a11, l11, c11, q11, g11⟩ := slice_form (o := 11) Try.underlying35 cellsRecs ((hg 11 _ rfl).trans e11)
  obtain ⟨a12, l12, c12, q12, g12⟩ := slice_form (o := 12) Try.underlying35 cellsRecs ((hg 12 _ rfl).trans e12)
  obtain ⟨a13, l13, c13, q13, g13⟩ := slice_form (o := 13) Try.underlying35 cellsRecs ((hg 13 _ rfl).trans e13)
  obtain ⟨L10, rfl, r10, t10, u10, v10, s10⟩ := open_rows Qn.cells 3 (by decide) (fun _ => rfl) (fun t b => t.n.size ≤ b) Try.underlying34 cellsQn (fun t x y h1 h2 => Nat.le_trans h1 h2) (fun n cs x h => qn_cells h) g10
  obtain ⟨L11, rfl, r11, t11, u11, v11, s11⟩ := open_rows Rc.cells 5 (by decide) (fun _ => rfl) (fun t b => (t.o.size ≤ b ∧ t.d.size ≤ b) ∧ t.d.size ≤ maxLen) Try.underlying35 cellsRec (fun t x y h1 h2 => ⟨⟨Nat.le_trans h1.1.1 h2, Nat.le_trans h1.1.2 h2⟩, h1.2⟩) (fun n cs x h => rec_cells h) g11
  obtain ⟨L12, rfl, r12, t12, u12, v12, s12⟩ := open_rows Rc.cells 5 (by decide) (fun _ => rfl) (fun t b => (t.o.size ≤ b ∧ t.d.size ≤ b) ∧ t.d.size ≤ maxLen) Try.underlying35 cellsRec (fun t x y h1 h2 => ⟨⟨Nat.le_trans h1.1.1 h2, Nat.le_trans h1.1.2 h2⟩, h1.2⟩) (fun n cs x h => rec_cells h) g12
  obtain ⟨L13, rfl, r13, t13, u13, v13, s13⟩ := open_rows Rc.cells 5 (by decide) (fun _ => rfl) (fun t b => (t.o.size ≤ b ∧ t.d.size ≤ b) ∧ t.d.size ≤ maxLen) Try.underlying35 cellsRec (fun t x y h1 h2 => ⟨⟨Nat.le_trans h1.1.1 h2, Nat.le_trans h1.1.2 h2⟩, h1.2⟩) (fun n cs x h => rec_cells h) g13
  have w10 := bulk_agg xs e10
  have w11 := bulk_agg xs e11
  have w12 := bulk_agg xs e12
  have w13 := bulk_agg xs e13
  refine ⟨⟨a10, c10, a11, c11, a12, c12, a13, c13⟩, ⟨z0, z1, z2, z3, z4, z5, z6, z7, z8, z9, L10, L11, L12, L13⟩, ?_, ⟨r10, r11, r12, r13⟩, ⟨t11, t12, t13⟩, t10, ⟨Nat.le_trans u10 w10, Nat.le_trans u11 w11, Nat.le_trans u12 w12, Nat.le_trans u13 w13⟩, fun x hx => Nat.le_trans (s10 x hx) w10, fun x hx => ⟨Nat.le_trans (s11 x hx).1.1 w11, Nat.le_trans (s11 x hx).1.2 w11⟩, fun x hx => ⟨Nat.le_trans (s12 x hx).1.1 w12, Nat.le_trans (s12 x hx).1.2 w12⟩, fun x hx => ⟨Nat.le_trans (s13 x hx).1.1 w13, Nat.le_trans (s13 x hx).1.2 w13⟩, ⟨fun x hx => (s11 x hx).2, fun x hx => (s12 x hx).2, fun x hx => (s13 x hx).2, v10, v11, v12, v13⟩⟩
  congr 1
  apply Array.ext'
  apply List.ext_getElem?
  intro i
  have hl : cs.toList.length = 14 := by simpa using hsz
  match i with
  | 0 => simpa [cellsM] using q0
  | 1 => simpa [cellsM] using q1
  | 2 => simpa [cellsM] using q2
  | 3 => simpa [cellsM] using q3
  | 4 => simpa [cellsM] using q4
  | 5 => simpa [cellsM] using q5
  | 6 => simpa [cellsM] using q6
  | 7 => simpa [cellsM] using q7
  | 8 => simpa [cellsM] using q8
  | 9 => simpa [cellsM] using q9
  | 10 => simpa [cellsM] using q10
  | 11 => simpa [cellsM] using q11
  | 12 => simpa [cellsM] using q12
  | 13 => simpa [cellsM] using q13
  | i + 14 => rw [List.getElem?_eq_none (by omega), List.getElem?_eq_none (by simp [cellsM])]
end
end Go.Proofs.Ytabhiangjomaeaa.msgArg
namespace Go.Proofs.Ytabhiangjomaeaa.bytesArg
open Go.ChangeShapes Go.WideShapes Go.RowKit Go.Deep Go.Proofs.Ytabhiangjomaeaa.kit Go.Proofs.Ytabhiangjomaeaa.nspec Go.Proofs.Ytabhiangjomaeaa.timed Go.Proofs.Ytabhiangjomaeaa.wireP Go.Proofs.Ytabhiangjomaeaa.wireM Go.Proofs.Ytabhiangjomaeaa.rows Go.Proofs.Ytabhiangjomaeaa.msgArg Go.Proofs.Ytabhiangjomaeaa.cur Go.Proofs.Ytabhiangjomaeaa.ust
set_option linter.unusedVariables false

def u8c (c : UInt8) : List Value := [.int .u8 (c.toNat : Int)]
theorem cellsU8 : Try.prog.cellsOf 5 = 1 := by kernel_rfl
section
variable {H : Type} {enc : TypeId × Value → H} {w : World}
theorem u8_cells {base : Nat} {spare : Nat → Bool} {held : Bool} {n : Nat} {cs : List Value} {x : DataW H × List MemPlace} (h : DataW.trod enc Try.prog w base spare held n 5 cs = some x) : ∃ t : UInt8, cs = u8c t ∧ True ∧ 1 ≤ Rows.uptoBulk x.1 := by
  obtain ⟨z, rfl, rfl, hz⟩ := DataW.trod_int Try.underlying5 h
  have hb : 0 ≤ z ∧ z < 256 := by
    simp only [Lit.wf, Bool.and_eq_true, decide_eq_true_eq] at hz
    have h1 : (IntKind.u8.min : Int) = 0 := by decide
    have h2 : (IntKind.u8.max : Int) = 255 := by decide
    rw [h1, h2] at hz
    omega
  refine ⟨UInt8.ofNat z.toNat, ?_, trivial, ?_⟩
  · unfold u8c
    rw [UInt8.toNat_ofNat_of_lt' (by show z.toNat < 256; omega), show ((z.toNat : Nat) : Int) = z by omega]
  · show 1 ≤ 1; omega
theorem rdb_of {a : Option Addr} {b : Bs} (h : RdC w a 1 (b.map u8c)) : RdB w a b := by
  intro j c hc
  obtain ⟨_, g, o, h1, h2, h3⟩ := h j (u8c c) (by rw [List.getElem?_map, hc]; rfl)
  refine ⟨g, o, h1, h2, ?_⟩
  have := h3 0 _ rfl
  simpa using this
set_option maxRecDepth 100000 in
theorem open_bytes {fuel : Nat} {a : Option Addr} {len cap : Nat} {d : DataW H} {p : List MemPlace}
    (h : DataW.trod enc Try.prog w 0 (fun _ => true) true fuel 39 (Value.slice a len cap).cells.toList = some (d, p)) :
    ∃ b : Bs, len = b.length ∧ In0 w.heap.size w a b cap ∧ len ≤ Rows.uptoBulk d ∧ (a = none → b.length = 0 ∧ cap = 0) := by
  obtain ⟨b, h1, h2, h3, h4, h5, _⟩ := open_rows u8c 1 (by decide) (fun _ => rfl) (fun _ _ => True) Try.underlying39 cellsU8 (fun _ _ _ _ _ => trivial) (fun n cs x h => u8_cells h) h
  refine ⟨b, h1, ⟨rfl, rdb_of h2, ?_, ?_⟩, h4, h3⟩
  · rcases open_slice Try.underlying39 h with ⟨hcs, _⟩ | ⟨ad, len', cap', m', n, D, Pl, hcs, hb, hl, hm, _⟩
    · simp [Value.cells] at hcs; obtain ⟨_, rfl, rfl⟩ := hcs; omega
    · simp [Value.cells] at hcs; obtain ⟨_, rfl, rfl⟩ := hcs; omega
  · rcases open_slice Try.underlying39 h with ⟨hcs, _⟩ | ⟨ad, len', cap', m', n, D, Pl, hcs, hb, hl, hm, _⟩
    · simp [Value.cells] at hcs; obtain ⟨_, rfl, rfl⟩ := hcs; exact Nat.zero_le _
    · simp [Value.cells] at hcs; obtain ⟨_, rfl, rfl⟩ := hcs; exact hm
end
/-- a row of one's own reads so -/
theorem own_in {base : Nat} {w : World} {a : Option Addr} {n c : Nat} {l : Bs} (h : w.ownsRow base 5 1 (.slice a n c) n (Lib.byteCells l)) (hn : n = l.length) : In0 w.heap.size w a l c := by
  subst hn
  rcases h.2 with ⟨h1, h2⟩ | ⟨g, cap, cur, h1, h2, h3, h4, h5, h6, h7⟩
  · injection h1 with e1 e2 e3
    have hl : l = [] := List.eq_nil_of_length_eq_zero h2
    subst hl; subst e1; subst e3
    exact ⟨rfl, fun j c hc => by simp at hc, Nat.le_refl _, Nat.zero_le _⟩
  · injection h1 with e1 e2 e3
    subst e1; subst e3
    refine ⟨rfl, fun j x hx => ⟨g, 0, rfl, blk_lt h3, ?_⟩, h4, h5⟩
    have h8 := h.cells (g := g) rfl j (.int .u8 (x.toNat : Int)) (by simp [Lib.byteCells, hx])
    have hadd : (⟨g, 0, none⟩ : Addr).add j = ⟨g, 0 + j, none⟩ := by unfold Addr.add; split <;> simp_all
    rw [hadd] at h8; exact h8
theorem In0.below {b0 b1 : Nat} {w w1 : World} {a : Option Addr} {b : Bs} {cap : Nat} (h : In0 b0 w a b cap) (hB : Below b0 w w1) (h1 : w1.heap.size = b1) : In0 b1 w1 a b cap :=
  ⟨h1, rdB_below h.rd (by rw [h.hb]; exact hB), h.le, h.cm⟩
end Go.Proofs.Ytabhiangjomaeaa.bytesArg
namespace Go.Proofs.Ytabhiangjomaeaa.fitP
open Go.RowKit Go.Proofs.Ytabhiangjomaeaa.kit Go.Proofs.Ytabhiangjomaeaa.nspec Go.Proofs.Ytabhiangjomaeaa.wireP Go.Proofs.Ytabhiangjomaeaa.wireM Go.Proofs.Ytabhiangjomaeaa.wireC Go.Proofs.Ytabhiangjomaeaa.packP Go.Proofs.Ytabhiangjomaeaa.shortP Go.Proofs.Ytabhiangjomaeaa.unpP
set_option linter.unusedVariables false

def fitsB (m : Mg) (limit : Int) : Bool := decide ((packS m).2 = 0) && decide (((packS m).1.length : Int) ≤ limit)
/-- the last of the first k that isn't OPT -/
def lastK (L : List Rc) : Nat → Option Nat
  | 0 => none
  | k + 1 => match L[k]? with
    | some x => if x.t = 41 then lastK L k else some k
    | none => none
def bare (m : Mg) : Mg := { m with an := [], au := [], tc := true }
def less (m : Mg) (k : Nat) : Mg := { m with ar := m.ar.eraseIdx k }
def fitU (limit : Int) : Nat → Mg → Mg × Int
  | 0, m => (noM, 12)
  | f + 1, m => if fitsB m limit = true then (m, 0) else match lastK m.ar m.ar.length with
    | none => if fitsB (bare m) limit = true then (bare m, 0) else (noM, 12)
    | some k => fitU limit f (less m k)
def fitS (m : Mg) (limit : Int) : Mg × Int := if checkB m = false then (noM, 8) else fitU limit (m.ar.length + 1) m
theorem lastK_lt {L : List Rc} : ∀ {k j : Nat}, lastK L k = some j → j < k
  | 0, _, h => by cases h
  | k + 1, j, h => by
    unfold lastK at h
    split at h
    · split at h
      · have := lastK_lt h; omega
      · cases h; omega
    · cases h
theorem lastK_in {L : List Rc} : ∀ {k j : Nat}, lastK L k = some j → j < L.length
  | 0, _, h => by cases h
  | k + 1, j, h => by
    unfold lastK at h
    split at h
    · rename_i x hx
      split at h
      · exact lastK_in h
      · cases h; exact (List.getElem?_eq_some_iff.1 hx).1
    · cases h
/-- what is made to fit does -/
structure Kept (m x : Mg) : Prop where
  qs : x.qs = m.qs
  or : (x.an = m.an ∧ x.au = m.au ∧ x.tc = m.tc) ∨ (x.an = [] ∧ x.au = [] ∧ x.tc = true)
theorem fitU_ok (limit : Int) : ∀ (f : Nat) (m x : Mg), fitU limit f m = (x, 0) → fitsB x limit = true ∧ Kept m x
  | 0, m, x, h => by cases h
  | f + 1, m, x, h => by
    unfold fitU at h
    split at h
    · rename_i hf
      cases h
      exact ⟨hf, rfl, .inl ⟨rfl, rfl, rfl⟩⟩
    · split at h
      · split at h
        · rename_i hf
          cases h
          exact ⟨hf, rfl, .inr ⟨rfl, rfl, rfl⟩⟩
        · cases h
      · obtain ⟨h1, h2⟩ := fitU_ok limit f _ x h
        exact ⟨h1, h2.qs, h2.or⟩
theorem fitU_no (limit : Int) : ∀ (f : Nat) (m x : Mg) (e : Int), fitU limit f m = (x, e) → e ≠ 0 → x = noM
  | 0, m, x, e, h, _ => by cases h; rfl
  | f + 1, m, x, e, h, he => by
    unfold fitU at h
    split at h
    · cases h; exact absurd rfl he
    · split at h
      · split at h
        · cases h; exact absurd rfl he
        · cases h; rfl
      · exact fitU_no limit f _ x e h he
theorem fitS_ok {m x : Mg} {limit : Int} (h : fitS m limit = (x, 0)) : fitsB x limit = true ∧ Kept m x := by
  unfold fitS at h
  split at h
  · cases h
  · exact fitU_ok limit _ m x h
theorem fitS_no {m x : Mg} {limit e : Int} (h : fitS m limit = (x, e)) (he : e ≠ 0) : x = noM := by
  unfold fitS at h
  split at h
  · cases h; rfl
  · exact fitU_no limit _ m x e h he
theorem fitS_same {m : Mg} {limit : Int} (h : fitsB m limit = true) (hc : checkB m = true) : fitS m limit = (m, 0) := by
  unfold fitS
  rw [if_neg (by rw [hc]; decide)]
  unfold fitU
  rw [if_pos h]
end Go.Proofs.Ytabhiangjomaeaa.fitP
namespace Go.Proofs.Ytabhiangjomaeaa.fitA
open Go.RowKit Go.Proofs.Ytabhiangjomaeaa.kit Go.Proofs.Ytabhiangjomaeaa.timed Go.Proofs.Ytabhiangjomaeaa.nspec Go.Proofs.Ytabhiangjomaeaa.wireP Go.Proofs.Ytabhiangjomaeaa.wireM Go.Proofs.Ytabhiangjomaeaa.wireC Go.Proofs.Ytabhiangjomaeaa.packP Go.Proofs.Ytabhiangjomaeaa.wpack Go.Proofs.Ytabhiangjomaeaa.rows Go.Proofs.Ytabhiangjomaeaa.fitP
set_option linter.unusedVariables false

theorem pack_code (m : Mg) : (packS m).2 = 0 ∨ (packS m).2 = 8 ∨ (packS m).2 = 12 := by
  unfold packS
  split
  · exact .inr (.inl rfl)
  · split
    · exact .inr (.inr rfl)
    · exact .inl rfl
theorem recs_len : ∀ (L : List Rc) (q p : Pp), recsP L q = some p → p.out.length ≤ 65535
  | [], q, p, h => by
    simp only [recsP] at h
    split at h
    · cases h
    · cases h; omega
  | x :: L, q, p, h => by
    simp only [recsP] at h
    split at h
    · cases h
    · exact recs_len L _ p h
theorem pack_len (m : Mg) : (packS m).1.length ≤ 65535 := by
  unfold packS
  split
  · simp
  · cases h : packP m with
    | none => simp
    | some b =>
      unfold packP at h
      obtain ⟨q, hq, rfl⟩ := Option.map_eq_some_iff.1 h
      exact recs_len _ _ _ hq
set_option maxRecDepth 100000 in
set_option maxHeartbeats 4000000 in
theorem fits_any (p : Pl) (m : Mg) (L : Nat) (limit : Int) (w : World) (hr : RdM w p m) (ho : OkW m) (hL : w.cell? ⟨L, 0, none⟩ = some (.int .i64 limit)) :
    Calls Try.prog 69 #[.agg #[.int .i64 m.id, .bool m.rs, .int .i64 m.op, .bool m.aa, .bool m.tc, .bool m.rd, .bool m.ra, .bool m.ad, .bool m.cd, .int .i64 m.rc, .slice p.qa m.qs.length p.qc, .slice p.na m.an.length p.nc, .slice p.ua m.au.length p.uc, .slice p.ra m.ar.length p.rc], .pointer (some ⟨L, 0, none⟩)] w fun e w' => e = .returned (.bool (fitsB m limit)) ∧ Below w.heap.size w w' := by
  have hB0 := (Below.refl w.heap.size w).alloc (Nat.le_refl _) (.cells #[.int .i64 m.id, .bool m.rs, .int .i64 m.op, .bool m.aa, .bool m.tc, .bool m.rd, .bool m.ra, .bool m.ad, .bool m.cd, .int .i64 m.rc, .slice p.qa m.qs.length p.qc, .slice p.na m.an.length p.nc, .slice p.ua m.au.length p.uc, .slice p.ra m.ar.length p.rc] 37)
  have hM0 : MsgAt (w.alloc (.cells #[.int .i64 m.id, .bool m.rs, .int .i64 m.op, .bool m.aa, .bool m.tc, .bool m.rd, .bool m.ra, .bool m.ad, .bool m.cd, .int .i64 m.rc, .slice p.qa m.qs.length p.qc, .slice p.na m.an.length p.nc, .slice p.ua m.au.length p.uc, .slice p.ra m.ar.length p.rc] 37)) w.heap.size p m := heap_alloc_new _ _
  have hl0 : (w.alloc (.cells #[.int .i64 m.id, .bool m.rs, .int .i64 m.op, .bool m.aa, .bool m.tc, .bool m.rd, .bool m.ra, .bool m.ad, .bool m.cd, .int .i64 m.rc, .slice p.qa m.qs.length p.qc, .slice p.na m.an.length p.nc, .slice p.ua m.au.length p.uc, .slice p.ra m.ar.length p.rc] 37)).cell? ⟨L, 0, none⟩ = some (.int .i64 limit) := Lib.cell?_alloc_some _ hL
  have hLw : L < w.heap.size := World.block_lt_of_cell? w _ hL
  obtain ⟨W, hW⟩ : ∃ W, w.alloc (.cells #[.int .i64 m.id, .bool m.rs, .int .i64 m.op, .bool m.aa, .bool m.tc, .bool m.rd, .bool m.ra, .bool m.ad, .bool m.cd, .int .i64 m.rc, .slice p.qa m.qs.length p.qc, .slice p.na m.an.length p.nc, .slice p.ua m.au.length p.uc, .slice p.ra m.ar.length p.rc] 37) = W := ⟨_, rfl⟩
  rw [hW] at hB0 hM0 hl0
  have CP := Lib.hid (wpack_any p m W (hr.below hB0 rfl) ho)
  obtain ⟨⟨out, code⟩, hpk⟩ : ∃ r, packS m = r := ⟨_, rfl⟩
  have hcode := pack_code m; have hshort := pack_len m
  have hf : fitsB m limit = (decide (code = 0) && decide ((out.length : Int) ≤ limit)) := by unfold fitsB; rw [hpk]
  rw [hf]
  simp only [hpk] at CP hcode hshort
  have HW := Lib.hid hW; have HB0 := Lib.hid hB0
  have bx := hM0.box
  have c0 := bx.c0; have c1 := bx.c1; have c2 := bx.c2; have c3 := bx.c3; have c4 := bx.c4; have c5 := bx.c5; have c6 := bx.c6; have c7 := bx.c7; have c8 := bx.c8; have c9 := bx.c9; have c10 := bx.c10; have c11 := bx.c11; have c12 := bx.c12; have c13 := bx.c13
  have HL1 := Lib.hid hl0
  clear hr ho hL hM0 bx hW hpk hf hB0
  go_enter Try.func69, Try.ntmps69
  go_upto_region 1 with fail
  rw [HW.out]
  go_wp2_with fail
  refine CP.out.mono ?_
  rintro e w1 ⟨v, rfl, ho1, hB1⟩
  obtain ⟨a, c, rfl⟩ := buf.own_slice1 ho1
  have hl1 : w1.cell? ⟨L, 0, none⟩ = some (.int .i64 limit) := (hB1.cell (p := ⟨L, 0, none⟩) (World.block_lt_of_cell? W _ HL1.out)).trans HL1.out
  have HB1 := Lib.hid (HB0.out.trans (hB1.mono HB0.out.size))
  clear hB1 ho1 CP c0 c1 c2 c3 c4 c5 c6 c7 c8 c9 c10 c11 c12 c13
  obtain ⟨n, hn⟩ : ∃ n, out.length = n := ⟨_, rfl⟩
  have HN := Lib.hid hn
  rw [hn] at hshort ⊢
  clear hn
  rcases hcode with rfl | rfl | rfl
  · by_cases hle : (n : Int) ≤ limit
    · go_wp2_with fail
      go_ret
      exact ⟨by simp [HN.out, hle], HB1.out⟩
    · go_wp2_with fail
      go_ret
      exact ⟨by simp [HN.out], HB1.out⟩
  · go_wp2_with fail
    go_ret
    exact ⟨by simp, HB1.out⟩
  · go_wp2_with fail
    go_ret
    exact ⟨by simp, HB1.out⟩
end Go.Proofs.Ytabhiangjomaeaa.fitA
namespace Go.Proofs.Ytabhiangjomaeaa.cloneR
open Go.RowKit Go.Proofs.Ytabhiangjomaeaa.kit Go.Proofs.Ytabhiangjomaeaa.timed Go.Proofs.Ytabhiangjomaeaa.nspec Go.Proofs.Ytabhiangjomaeaa.wireP Go.Proofs.Ytabhiangjomaeaa.wireM Go.Proofs.Ytabhiangjomaeaa.rows
set_option linter.unusedVariables false

set_option maxRecDepth 100000 in
set_option maxHeartbeats 4000000 in
theorem clone_rec (a : Option Addr) (n c : Nat) (L : List Rc) (w : World) (hn : n = L.length) (hr : RdC w a 5 (L.map Rc.cells)) (ha : a = none → L.length = 0 ∧ c = 0) (hl : n ≤ 1099511627776) :
    Calls Try.prog 71 #[.slice a n c] w fun e w' => ∃ a' c', e = .returned (.slice a' n c') ∧ w'.ownsRow w.heap.size 52 5 (.slice a' n c') n (L.flatMap Rc.cells) ∧ Below w.heap.size w w' := by
  obtain ⟨i0, hif, hz0, hz1, hz2⟩ := info_parts infoRec
  have q22 : ∀ (w : World) (a : Option Addr) (n c n' c' : Nat), (binOp .eql 35 (.slice a n c) (.slice none n' c')).run Try.prog w = .ok (.bool a.isNone) w := fun w a n c n' c' => Lib.run_eql_slice_nil w _ _ a n c n' c' Try.underlying35
  cases a with
  | none =>
    obtain ⟨h0, h1⟩ := ha rfl
    subst hn
    have hL : L = [] := List.eq_nil_of_length_eq_zero h0
    subst hL; subst h1
    clear hr ha
    go_enter Try.func71, Try.ntmps71
    go_wp2_with fail
    go_ret
    exact ⟨none, 0, rfl, World.ownsRow_nil _ _ _ _, Below.refl _ _⟩
  | some ad =>
    have S1 : Hid (∀ (j : Nat) (u : Value), (L.flatMap Rc.cells)[j]? = some u → w.cell? (ad.add j) = some u) := Lib.hid (by
      rcases cells_rd Rc.cells 5 (by decide) (fun _ => rfl) hr c (fun h => by cases h) with ⟨h, _⟩ | ⟨ad', h1, h2⟩
      · cases h
      · cases h1; exact h2)
    have HN := Lib.hid hn
    clear hr ha hn
    go_enter Try.func71, Try.ntmps71
    go_wp2_with (at_builtin; refine wpList_append_src rfl _ _ 35 rfl w.heap.size 52 i0 _ 5 56 Try.underlying35 hif hz0 hz1 hz2 rfl (by decide) _ 0 [] rfl (World.ownsRow_made w #[] 0 (Nat.le_refl _) (Nat.zero_le _) rfl) (some ad) n c (L.flatMap Rc.cells) rfl (by rw [flat_len Rc.cells 5 (fun _ => rfl), HN.out]) (.inr ⟨ad, rfl, fun j u hj => Lib.cell?_alloc_some _ (S1.out j u hj)⟩) (one_cells rec_one) (by unfold maxLen; omega) (by omega) (by simp) ?_)
    intro v' w1 hown hgr
    have hB : Below w.heap.size w w1 := ((Below.refl _ w).alloc (Nat.le_refl _) _).grown hgr (by simp) (by intro k hk; simp [Value.ownBlock] at hk; omega)
    have ho : w1.ownsRow w.heap.size 52 5 v' n (L.flatMap Rc.cells) := by first | exact hown | simpa using hown
    obtain ⟨a', c', rfl⟩ : ∃ a' c', v' = .slice a' n c' := by
      rcases ho.2 with ⟨h1, h2⟩ | ⟨g, cap, cur, h1, _⟩
      · exact ⟨none, 0, by rw [h1, h2]⟩
      · exact ⟨_, _, h1⟩
    have HO := Lib.hid ho; have HB := Lib.hid hB
    clear hown hgr ho hB hif hz0 hz1 hz2
    go_wp2_with fail
    go_ret
    exact ⟨a', c', rfl, HO.out, HB.out⟩
set_option maxRecDepth 100000 in
set_option maxHeartbeats 4000000 in
theorem clone_qn (a : Option Addr) (n c : Nat) (L : List Qn) (w : World) (hn : n = L.length) (hr : RdC w a 3 (L.map Qn.cells)) (ha : a = none → L.length = 0 ∧ c = 0) (hl : n ≤ 1099511627776) :
    Calls Try.prog 70 #[.slice a n c] w fun e w' => ∃ a' c', e = .returned (.slice a' n c') ∧ w'.ownsRow w.heap.size 50 3 (.slice a' n c') n (L.flatMap Qn.cells) ∧ Below w.heap.size w w' := by
  obtain ⟨i0, hif, hz0, hz1, hz2⟩ := info_parts infoQn
  have q22 : ∀ (w : World) (a : Option Addr) (n c n' c' : Nat), (binOp .eql 34 (.slice a n c) (.slice none n' c')).run Try.prog w = .ok (.bool a.isNone) w := fun w a n c n' c' => Lib.run_eql_slice_nil w _ _ a n c n' c' Try.underlying34
  cases a with
  | none =>
    obtain ⟨h0, h1⟩ := ha rfl
    subst hn
    have hL : L = [] := List.eq_nil_of_length_eq_zero h0
    subst hL; subst h1
    clear hr ha
    go_enter Try.func70, Try.ntmps70
    go_wp2_with fail
    go_ret
    exact ⟨none, 0, rfl, World.ownsRow_nil _ _ _ _, Below.refl _ _⟩
  | some ad =>
    have S1 : Hid (∀ (j : Nat) (u : Value), (L.flatMap Qn.cells)[j]? = some u → w.cell? (ad.add j) = some u) := Lib.hid (by
      rcases cells_rd Qn.cells 3 (by decide) (fun _ => rfl) hr c (fun h => by cases h) with ⟨h, _⟩ | ⟨ad', h1, h2⟩
      · cases h
      · cases h1; exact h2)
    have HN := Lib.hid hn
    clear hr ha hn
    go_enter Try.func70, Try.ntmps70
    go_wp2_with (at_builtin; refine wpList_append_src rfl _ _ 34 rfl w.heap.size 50 i0 _ 3 32 Try.underlying34 hif hz0 hz1 hz2 rfl (by decide) _ 0 [] rfl (World.ownsRow_made w #[] 0 (Nat.le_refl _) (Nat.zero_le _) rfl) (some ad) n c (L.flatMap Qn.cells) rfl (by rw [flat_len Qn.cells 3 (fun _ => rfl), HN.out]) (.inr ⟨ad, rfl, fun j u hj => Lib.cell?_alloc_some _ (S1.out j u hj)⟩) (one_cells qn_one) (by unfold maxLen; omega) (by omega) (by simp) ?_)
    intro v' w1 hown hgr
    have hB : Below w.heap.size w w1 := ((Below.refl _ w).alloc (Nat.le_refl _) _).grown hgr (by simp) (by intro k hk; simp [Value.ownBlock] at hk; omega)
    have ho : w1.ownsRow w.heap.size 50 3 v' n (L.flatMap Qn.cells) := by first | exact hown | simpa using hown
    obtain ⟨a', c', rfl⟩ : ∃ a' c', v' = .slice a' n c' := by
      rcases ho.2 with ⟨h1, h2⟩ | ⟨g, cap, cur, h1, _⟩
      · exact ⟨none, 0, by rw [h1, h2]⟩
      · exact ⟨_, _, h1⟩
    have HO := Lib.hid ho; have HB := Lib.hid hB
    clear hown hgr ho hB hif hz0 hz1 hz2
    go_wp2_with fail
    go_ret
    exact ⟨a', c', rfl, HO.out, HB.out⟩
end Go.Proofs.Ytabhiangjomaeaa.cloneR
