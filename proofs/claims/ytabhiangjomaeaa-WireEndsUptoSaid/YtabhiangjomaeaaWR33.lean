/- A message handed in: opened. A []byte handed in: opened. The law gazetteerlaw2.WireRounds: walk. -/
import Derived.Test.YtabhiangjomaeaaWR14
import Derived.Test.YtabhiangjomaeaaWR28
import Derived.Test.YtabhiangjomaeaaWR17
import Derived.Test.YtabhiangjomaeaaWR20
import Derived.Test.YtabhiangjomaeaaWR30
import Derived.Test.YtabhiangjomaeaaWR32
import Derived.Deep.Slices
import Derived.Deep.Fields
import Derived.ChangeSame
import Derived.Carry
import Derived.ChangeOld
import Derived.ProofKit
namespace Go.Proofs.Ytabhiangjomaeaa.msgArg
open Go.ChangeShapes Go.WideShapes Go.RowKit Go.Deep Go.Proofs.Ytabhiangjomaeaa.kit Go.Proofs.Ytabhiangjomaeaa.timed Go.Proofs.Ytabhiangjomaeaa.wireP Go.Proofs.Ytabhiangjomaeaa.wireM Go.Proofs.Ytabhiangjomaeaa.rows
set_option linter.unusedVariables false

theorem got {α : Type} {l : List α} {i n : Nat} (h : l.length = n) (hi : i < n) : ∃ y, l[i]? = some y := ⟨_, List.getElem?_eq_getElem (by omega)⟩
theorem one_at {cs : List Value} {o : Nat} {v : Value} (h : (cs.drop o).take 1 = [v]) : cs[o]? = some v := by
  have : ((cs.drop o).take 1)[0]? = some v := by rw [h]; rfl
  rw [List.getElem?_take_of_lt (by omega), List.getElem?_drop] at this; simpa using this
theorem choose_list {α : Type} (p : Nat → α → Prop) : ∀ n, (∀ i, i < n → ∃ x, p i x) → ∃ l : List α, l.length = n ∧ ∀ i x, l[i]? = some x → p i x
  | 0, _ => ⟨[], rfl, by simp⟩
  | n + 1, h => by
    obtain ⟨l, hl, hp⟩ := choose_list p n (fun i hi => h i (by omega))
    obtain ⟨x, hx⟩ := h n (by omega)
    refine ⟨l ++ [x], by simp [hl], fun i y hy => ?_⟩
    by_cases hi : i < n
    · rw [List.getElem?_append_left (by omega)] at hy; exact hp i y hy
    · have hlt := (List.getElem?_eq_some_iff.1 hy).1
      have : i = n := by simp [hl] at hlt; omega
      subst this
      rw [List.getElem?_append_right (by omega), hl, Nat.sub_self] at hy
      simp at hy; subst hy; exact hx
theorem cell_lt {w : World} {a : Addr} {v : Value} (h : w.cell? a = some v) : a.block < w.heap.size := by
  rcases Nat.lt_or_ge a.block w.heap.size with h' | h'
  · exact h'
  · simp [World.cell?, Array.getElem?_eq_none h'] at h
set_option maxRecDepth 100000 in
theorem bulk_len {H : Type} : ∀ l : List (DataW H), (∀ x ∈ l, 1 ≤ Rows.uptoBulk x) → l.length ≤ Rows.uptoBulkAll l
  | [], _ => Nat.zero_le _
  | x :: l, h => by
    have h1 := bulk_len l (fun y hy => h y (List.mem_cons_of_mem _ hy))
    have h2 := h x List.mem_cons_self
    have e : Rows.uptoBulkAll (x :: l) = Rows.uptoBulk x + Rows.uptoBulkAll l := rfl
    rw [e, List.length_cons]; omega
set_option maxRecDepth 100000 in
theorem bulk_mem {H : Type} : ∀ (l : List (DataW H)) (x : DataW H), x ∈ l → Rows.uptoBulk x ≤ Rows.uptoBulkAll l
  | y :: l, x, h => by
    have e : Rows.uptoBulkAll (y :: l) = Rows.uptoBulk y + Rows.uptoBulkAll l := rfl
    rw [e]
    rcases List.mem_cons.1 h with rfl | h
    · omega
    · have := bulk_mem l x h; omega
set_option maxRecDepth 100000 in
/-- a list of rows handed in -/
theorem open_rows {α : Type} (f : α → List Value) (m : Nat) (hm0 : 0 < m) (hf : ∀ x, (f x).length = m) (G : α → Nat → Prop) {H : Type} {enc : TypeId × Value → H} {w : World} {fuel : Nat} {a : Option Addr} {len cap : Nat} {d : DataW H} {p : List MemPlace} {T E : TypeId}
    (hT : Try.prog.underlying T = some (.slice E)) (hE : Try.prog.cellsOf E = m) (hG : ∀ t x y, G t x → x ≤ y → G t y)
    (hc : ∀ (n : Nat) (cs : List Value) (x : DataW H × List MemPlace), DataW.trod enc Try.prog w 0 (fun _ => true) true n E cs = some x → ∃ t, cs = f t ∧ G t (Rows.uptoBulk x.1) ∧ 1 ≤ Rows.uptoBulk x.1)
    (h : DataW.trod enc Try.prog w 0 (fun _ => true) true fuel T (Value.slice a len cap).cells.toList = some (d, p)) :
    ∃ ls : List α, len = ls.length ∧ RdC w a m (ls.map f) ∧ (a = none → ls.length = 0 ∧ cap = 0) ∧ len ≤ Rows.uptoBulk d ∧ len ≤ maxLen ∧ ∀ t ∈ ls, G t (Rows.uptoBulk d) := by
  rcases open_slice hT h with ⟨hcs, hx⟩ | ⟨ad, len', cap', m', n, D, Pl, hcs, hb, hl, hm, hmm, hx, hi⟩
  · simp [Value.cells] at hcs
    obtain ⟨rfl, rfl, rfl⟩ := hcs
    exact ⟨[], rfl, RdC.nil _ _ _, fun _ => ⟨rfl, rfl⟩, Nat.zero_le _, Nat.zero_le _, by simp⟩
  · simp [Value.cells] at hcs
    obtain ⟨rfl, rfl, rfl⟩ := hcs
    simp only [if_true] at hmm
    subst hmm
    simp only [Prod.mk.injEq] at hx
    obtain ⟨rfl, rfl⟩ := hx
    rw [hE] at hi
    have e : ∀ (l1 l2 : List (DataW H)), Rows.uptoBulk (DataW.slice l1 l2) = Rows.uptoBulkAll l1 + Rows.uptoBulkAll l2 + 1 := fun _ _ => rfl
    obtain ⟨ls, hll, hls⟩ := choose_list (fun i (t : α) => w.cells? 0 (ad.add (i * m)) m = some (f t) ∧ G t (Rows.uptoBulk (D i))) len (fun i hi2 => by
      obtain ⟨cs', h1, h2⟩ := hi i (by omega)
      obtain ⟨t, rfl, hg, _⟩ := hc _ _ _ h2
      exact ⟨t, h1, hg⟩)
    refine ⟨ls, hll.symm, ?_, (fun h => by cases h), ?_, Nat.le_trans hl hm, ?_⟩
    · intro j row hrow
      rw [List.getElem?_map] at hrow
      obtain ⟨t, ht, rfl⟩ := Option.map_eq_some_iff.1 hrow
      have hc' := (hls j t ht).1
      obtain ⟨_, hlen, hcell⟩ := World.cells?_some hc'
      obtain ⟨u1, hu1⟩ : ∃ u1, (f t)[0]? = some u1 := ⟨_, List.getElem?_eq_getElem (by rw [hf]; exact hm0)⟩
      have hc0 := hcell 0 hm0
      rw [hu1] at hc0
      obtain ⟨g, o, sp⟩ := ad
      have hspot : sp = none := by
        obtain ⟨t0, ht0⟩ : ∃ t0, ls[0]? = some t0 := ⟨_, List.getElem?_eq_getElem (by have := (List.getElem?_eq_some_iff.1 ht).1; omega)⟩
        obtain ⟨_, _, hcell00⟩ := World.cells?_some (hls 0 t0 ht0).1
        obtain ⟨u0, hu0⟩ : ∃ u0, (f t0)[0]? = some u0 := ⟨_, List.getElem?_eq_getElem (by rw [hf]; exact hm0)⟩
        have h00 := hcell00 0 hm0
        rw [hu0] at h00
        simpa [Addr.add] using World.cell?_spot h00
      subst hspot
      have hadd : ∀ (o k : Nat), (⟨g, o, none⟩ : Addr).add k = ⟨g, o + k, none⟩ := fun o k => by unfold Addr.add; split <;> simp_all
      refine ⟨hf t, g, o, rfl, ?_, fun i u hu => ?_⟩
      · have := cell_lt hc0; simpa [hadd] using this
      · have hi8 : i < m := by have := (List.getElem?_eq_some_iff.1 hu).1; rw [hf] at this; exact this
        have := hcell i hi8
        rw [hadd, hadd] at this
        rw [this]
        exact hu
    · have hbl := bulk_len ((List.range len).map D) (fun x hx => by
        obtain ⟨i, hi3, rfl⟩ := List.mem_map.1 hx
        obtain ⟨cs', _, h2⟩ := hi i (by have := List.mem_range.1 hi3; omega)
        obtain ⟨_, _, _, h3⟩ := hc _ _ _ h2
        exact h3)
      rw [e]
      rw [List.length_map, List.length_range] at hbl
      omega
    · intro t ht
      obtain ⟨i, hi1, hi2⟩ := List.getElem_of_mem ht
      have hti : ls[i]? = some t := by rw [List.getElem?_eq_getElem hi1, hi2]
      refine hG _ _ _ (hls i t hti).2 ?_
      rw [e]
      have := bulk_mem ((List.range len).map D) (D i) (List.mem_map.2 ⟨i, List.mem_range.2 (by omega), rfl⟩)
      omega

section
variable {H : Type} {enc : TypeId × Value → H} {w : World} {base : Nat} {spare : Nat → Bool} {held : Bool}
theorem cellsInt : Try.prog.cellsOf 3 = 1 := by kernel_rfl
theorem cellsBool : Try.prog.cellsOf 4 = 1 := by kernel_rfl
theorem cellsString : Try.prog.cellsOf 9 = 1 := by kernel_rfl
theorem cellsRecs : Try.prog.cellsOf 35 = 1 := by kernel_rfl
theorem cellsQns : Try.prog.cellsOf 34 = 1 := by kernel_rfl
theorem cellsRec : Try.prog.cellsOf 52 = 5 := by kernel_rfl
theorem cellsQn : Try.prog.cellsOf 50 = 3 := by kernel_rfl
theorem cellsMsg : Try.prog.cellsOf 37 = 14 := by kernel_rfl
theorem int_at {n : Nat} {cs : List Value} {o : Nat} {y : DataW H × List MemPlace} (h : DataW.trod enc Try.prog w base spare held n 3 ((cs.drop o).take (Try.prog.cellsOf 3)) = some y) : ∃ z, cs[o]? = some (.int .i64 z) := by
  rw [cellsInt] at h
  obtain ⟨z, hz, _⟩ := DataW.trod_int Try.underlying3 h
  exact ⟨z, one_at hz⟩
theorem bool_at {n : Nat} {cs : List Value} {o : Nat} {y : DataW H × List MemPlace} (h : DataW.trod enc Try.prog w base spare held n 4 ((cs.drop o).take (Try.prog.cellsOf 4)) = some y) : ∃ z, cs[o]? = some (.bool z) := by
  rw [cellsBool] at h
  obtain ⟨z, hz, _⟩ := DataW.trod_bool Try.underlying4 h
  exact ⟨z, one_at hz⟩
theorem str_at {n : Nat} {cs : List Value} {o : Nat} {y : DataW H × List MemPlace} (h : DataW.trod enc Try.prog w base spare held n 9 ((cs.drop o).take (Try.prog.cellsOf 9)) = some y) : ∃ z : ByteArray, cs[o]? = some (.string z) ∧ z.size ≤ Rows.uptoBulk y.1 ∧ z.size ≤ maxLen := by
  rw [cellsString] at h
  obtain ⟨z, hz, hy, hm⟩ := DataW.trod_string Try.underlying9 h
  subst hy
  have e : Rows.uptoBulk (DataW.lit (H := H) (.string z.data.toList)) = z.data.toList.length + 1 := rfl
  refine ⟨z, one_at hz, ?_, hm⟩
  rw [e, size_len]; omega
theorem bulk_agg (xs : List (DataW H × List MemPlace)) {i : Nat} {y : DataW H × List MemPlace} (hy : xs[i]? = some y) : Rows.uptoBulk y.1 ≤ Rows.uptoBulk (DataW.agg (xs.map (·.1))) := by
  have e : Rows.uptoBulk (DataW.agg (xs.map (·.1))) = Rows.uptoBulkAll (xs.map (·.1)) + 1 := rfl
  have := bulk_mem (xs.map (·.1)) y.1 (List.mem_map.2 ⟨y, List.mem_of_getElem? hy, rfl⟩)
  omega
set_option maxRecDepth 100000 in
theorem rec_cells {n : Nat} {cs : List Value} {x : DataW H × List MemPlace} (h : DataW.trod enc Try.prog w base spare held n 52 cs = some x) : ∃ t : Rc, cs = t.cells ∧ ((t.o.size ≤ Rows.uptoBulk x.1 ∧ t.d.size ≤ Rows.uptoBulk x.1) ∧ t.d.size ≤ maxLen) ∧ 1 ≤ Rows.uptoBulk x.1 := by
  obtain ⟨xs, n', _, rfl, hlen, hxl, hf⟩ := DataW.trod_struct Try.underlying52 h
  rw [cellsRec] at hlen
  obtain ⟨y0, e0⟩ := got hxl (i := 0) (by decide)
  obtain ⟨y1, e1⟩ := got hxl (i := 1) (by decide)
  obtain ⟨y2, e2⟩ := got hxl (i := 2) (by decide)
  obtain ⟨y3, e3⟩ := got hxl (i := 3) (by decide)
  obtain ⟨y4, e4⟩ := got hxl (i := 4) (by decide)
  obtain ⟨z0, q0, s0, _⟩ := str_at (o := 0) ((hf 0 _ rfl).trans e0)
  obtain ⟨z1, q1⟩ := int_at (o := 1) ((hf 1 _ rfl).trans e1)
  obtain ⟨z2, q2⟩ := int_at (o := 2) ((hf 2 _ rfl).trans e2)
  obtain ⟨z3, q3⟩ := int_at (o := 3) ((hf 3 _ rfl).trans e3)
  obtain ⟨z4, q4, s4, m4⟩ := str_at (o := 4) ((hf 4 _ rfl).trans e4)
  refine ⟨⟨z0, z1, z2, z3, z4⟩, ?_, ⟨⟨Nat.le_trans s0 (bulk_agg xs e0), Nat.le_trans s4 (bulk_agg xs e4)⟩, m4⟩, ?_⟩
  · apply List.ext_getElem?
    intro i
    match i with
    | 0 => simpa [Rc.cells] using q0
    | 1 => simpa [Rc.cells] using q1
    | 2 => simpa [Rc.cells] using q2
    | 3 => simpa [Rc.cells] using q3
    | 4 => simpa [Rc.cells] using q4
    | i + 5 => rw [List.getElem?_eq_none (by omega), List.getElem?_eq_none (by simp [Rc.cells])]
  · show 1 ≤ Rows.uptoBulkAll (xs.map (·.1)) + 1
    omega
set_option maxRecDepth 100000 in
theorem qn_cells {n : Nat} {cs : List Value} {x : DataW H × List MemPlace} (h : DataW.trod enc Try.prog w base spare held n 50 cs = some x) : ∃ t : Qn, cs = t.cells ∧ (t.n.size ≤ Rows.uptoBulk x.1) ∧ 1 ≤ Rows.uptoBulk x.1 := by
  obtain ⟨xs, n', _, rfl, hlen, hxl, hf⟩ := DataW.trod_struct Try.underlying50 h
  rw [cellsQn] at hlen
  obtain ⟨y0, e0⟩ := got hxl (i := 0) (by decide)
  obtain ⟨y1, e1⟩ := got hxl (i := 1) (by decide)
  obtain ⟨y2, e2⟩ := got hxl (i := 2) (by decide)
  obtain ⟨z0, q0, s0, _⟩ := str_at (o := 0) ((hf 0 _ rfl).trans e0)
  obtain ⟨z1, q1⟩ := int_at (o := 1) ((hf 1 _ rfl).trans e1)
  obtain ⟨z2, q2⟩ := int_at (o := 2) ((hf 2 _ rfl).trans e2)
  refine ⟨⟨z0, z1, z2⟩, ?_, Nat.le_trans s0 (bulk_agg xs e0), ?_⟩
  · apply List.ext_getElem?
    intro i
    match i with
    | 0 => simpa [Qn.cells] using q0
    | 1 => simpa [Qn.cells] using q1
    | 2 => simpa [Qn.cells] using q2
    | i + 3 => rw [List.getElem?_eq_none (by omega), List.getElem?_eq_none (by simp [Qn.cells])]
  · show 1 ≤ Rows.uptoBulkAll (xs.map (·.1)) + 1
    omega
end
section
variable {H : Type} {enc : TypeId × Value → H} {w : World}
theorem slice_form {n : Nat} {cs : List Value} {o : Nat} {T E : TypeId} {y : DataW H × List MemPlace} (hT : Try.prog.underlying T = some (.slice E)) (hc : Try.prog.cellsOf T = 1) (h : DataW.trod enc Try.prog w 0 (fun _ => true) true n T ((cs.drop o).take (Try.prog.cellsOf T)) = some y) :
    ∃ a l c, cs[o]? = some (.slice a l c) ∧ DataW.trod enc Try.prog w 0 (fun _ => true) true n T (Value.slice a l c).cells.toList = some y := by
  rw [hc] at h
  have hs : ∃ (a : Option Addr) (l c : Nat), (cs.drop o).take 1 = [.slice a l c] := by
    rcases open_slice hT h with ⟨g0, _⟩ | ⟨ad, len, cap, _, _, _, _, g0, _⟩
    · exact ⟨none, 0, 0, g0⟩
    · exact ⟨some ad, len, cap, g0⟩
  obtain ⟨a, l, c, q0⟩ := hs
  rw [q0] at h
  exact ⟨a, l, c, one_at q0, h⟩
/-- what is known of a message handed in -/
structure InM (w : World) (p : Pl) (m : Mg) (b : Nat) : Prop where
  rd : RdM w p m
  nil : NilM p m
  qnil : p.qa = none → m.qs.length = 0 ∧ p.qc = 0
  lens : m.qs.length ≤ b ∧ m.an.length ≤ b ∧ m.au.length ≤ b ∧ m.ar.length ≤ b
  sq : ∀ x ∈ m.qs, x.n.size ≤ b
  sn : ∀ x ∈ m.an, x.o.size ≤ b ∧ x.d.size ≤ b
  su : ∀ x ∈ m.au, x.o.size ≤ b ∧ x.d.size ≤ b
  sr : ∀ x ∈ m.ar, x.o.size ≤ b ∧ x.d.size ≤ b
  w : OkW m
theorem InM.ok {p : Pl} {m : Mg} {b : Nat} (h : InM w p m b) (hb : b ≤ 1099511627776) : OkM m :=
  ⟨fun x hx => Nat.le_trans (h.sq x hx) hb, fun x hx => ⟨Nat.le_trans (h.sn x hx).1 hb, Nat.le_trans (h.sn x hx).2 hb⟩, fun x hx => ⟨Nat.le_trans (h.su x hx).1 hb, Nat.le_trans (h.su x hx).2 hb⟩, fun x hx => ⟨Nat.le_trans (h.sr x hx).1 hb, Nat.le_trans (h.sr x hx).2 hb⟩, Nat.le_trans h.lens.1 hb, Nat.le_trans h.lens.2.1 hb, Nat.le_trans h.lens.2.2.1 hb, Nat.le_trans h.lens.2.2.2 hb⟩
set_option maxRecDepth 100000 in
theorem open_msg {r : Reach} {b0 : Nat} {v : Value} {d : DataW H} {p : List MemPlace}
    (hv : Value.okWide Try.prog w r b0 37 v) (h : DataW.Trod enc Try.prog w 0 (fun _ => true) true 37 v d p) :
    ∃ (P : Pl) (m : Mg), v = .agg (cellsM P m) ∧ InM w P m (Rows.uptoBulk d) := by
  obtain ⟨cs, rfl, hsz⟩ := okWide_struct Try.underlying37 hv
  rw [cellsMsg] at hsz
  obtain ⟨fuel, hf⟩ := h
  have e : (Value.agg cs).cells.toList = cs.toList := rfl
  rw [e] at hf
  obtain ⟨xs, n', _, hx, hlen, hxl, hg⟩ := DataW.trod_struct Try.underlying37 hf
  simp only [Prod.mk.injEq] at hx
  obtain ⟨rfl, rfl⟩ := hx
  obtain ⟨y0, e0⟩ := got hxl (i := 0) (by decide)
  obtain ⟨y1, e1⟩ := got hxl (i := 1) (by decide)
  obtain ⟨y2, e2⟩ := got hxl (i := 2) (by decide)
  obtain ⟨y3, e3⟩ := got hxl (i := 3) (by decide)
  obtain ⟨y4, e4⟩ := got hxl (i := 4) (by decide)
  obtain ⟨y5, e5⟩ := got hxl (i := 5) (by decide)
  obtain ⟨y6, e6⟩ := got hxl (i := 6) (by decide)
  obtain ⟨y7, e7⟩ := got hxl (i := 7) (by decide)
  obtain ⟨y8, e8⟩ := got hxl (i := 8) (by decide)
  obtain ⟨y9, e9⟩ := got hxl (i := 9) (by decide)
  obtain ⟨y10, e10⟩ := got hxl (i := 10) (by decide)
  obtain ⟨y11, e11⟩ := got hxl (i := 11) (by decide)
  obtain ⟨y12, e12⟩ := got hxl (i := 12) (by decide)
  obtain ⟨y13, e13⟩ := got hxl (i := 13) (by decide)
  obtain ⟨z0, q0⟩ := int_at (o := 0) ((hg 0 _ rfl).trans e0)
  obtain ⟨z1, q1⟩ := bool_at (o := 1) ((hg 1 _ rfl).trans e1)
  obtain ⟨z2, q2⟩ := int_at (o := 2) ((hg 2 _ rfl).trans e2)
  obtain ⟨z3, q3⟩ := bool_at (o := 3) ((hg 3 _ rfl).trans e3)
  obtain ⟨z4, q4⟩ := bool_at (o := 4) ((hg 4 _ rfl).trans e4)
  obtain ⟨z5, q5⟩ := bool_at (o := 5) ((hg 5 _ rfl).trans e5)
  obtain ⟨z6, q6⟩ := bool_at (o := 6) ((hg 6 _ rfl).trans e6)
  obtain ⟨z7, q7⟩ := bool_at (o := 7) ((hg 7 _ rfl).trans e7)
  obtain ⟨z8, q8⟩ := bool_at (o := 8) ((hg 8 _ rfl).trans e8)
  obtain ⟨z9, q9⟩ := int_at (o := 9) ((hg 9 _ rfl).trans e9)
  obtain ⟨a10, l10, c10, q10, g10⟩ := slice_form (o := 10) Try.underlying34 cellsQns ((hg 10 _ rfl).trans e10)
  obtain ⟨a11, l11, c11, q11, g11⟩ := slice_form (o := 11) Try.underlying35 cellsRecs ((hg 11 _ rfl).trans e11)
  obtain ⟨a12, l12, c12, q12, g12⟩ := slice_form (o := 12) Try.underlying35 cellsRecs ((hg 12 _ rfl).trans e12)
  obtain ⟨a13, l13, c13, q13, g13⟩ := slice_form (o := 13) Try.underlying35 cellsRecs ((hg 13 _ rfl).trans e13)
  obtain ⟨L10, rfl, r10, t10, u10, v10, s10⟩ := open_rows Qn.cells 3 (by decide) (fun _ => rfl) (fun t b => t.n.size ≤ b) Try.underlying34 cellsQn (fun t x y h1 h2 => Nat.le_trans h1 h2) (fun n cs x h => qn_cells h) g10
  obtain ⟨L11, rfl, r11, t11, u11, v11, s11⟩ := open_rows Rc.cells 5 (by decide) (fun _ => rfl) (fun t b => (t.o.size ≤ b ∧ t.d.size ≤ b) ∧ t.d.size ≤ maxLen) Try.underlying35 cellsRec (fun t x y h1 h2 => ⟨⟨Nat.le_trans h1.1.1 h2, Nat.le_trans h1.1.2 h2⟩, h1.2⟩) (fun n cs x h => rec_cells h) g11
  obtain ⟨L12, rfl, r12, t12, u12, v12, s12⟩ := open_rows Rc.cells 5 (by decide) (fun _ => rfl) (fun t b => (t.o.size ≤ b ∧ t.d.size ≤ b) ∧ t.d.size ≤ maxLen) Try.underlying35 cellsRec (fun t x y h1 h2 => ⟨⟨Nat.le_trans h1.1.1 h2, Nat.le_trans h1.1.2 h2⟩, h1.2⟩) (fun n cs x h => rec_cells h) g12
  obtain ⟨L13, rfl, r13, t13, u13, v13, s13⟩ := open_rows Rc.cells 5 (by decide) (fun _ => rfl) (fun t b => (t.o.size ≤ b ∧ t.d.size ≤ b) ∧ t.d.size ≤ maxLen) Try.underlying35 cellsRec (fun t x y h1 h2 => ⟨⟨Nat.le_trans h1.1.1 h2, Nat.le_trans h1.1.2 h2⟩, h1.2⟩) (fun n cs x h => rec_cells h) g13
  have w10 := bulk_agg xs e10
  have w11 := bulk_agg xs e11
  have w12 := bulk_agg xs e12
  have w13 := bulk_agg xs e13
  refine ⟨⟨a10, c10, a11, c11, a12, c12, a13, c13⟩, ⟨z0, z1, z2, z3, z4, z5, z6, z7, z8, z9, L10, L11, L12, L13⟩, ?_, ⟨r10, r11, r12, r13⟩, ⟨t11, t12, t13⟩, t10, ⟨Nat.le_trans u10 w10, Nat.le_trans u11 w11, Nat.le_trans u12 w12, Nat.le_trans u13 w13⟩, fun x hx => Nat.le_trans (s10 x hx) w10, fun x hx => ⟨Nat.le_trans (s11 x hx).1.1 w11, Nat.le_trans (s11 x hx).1.2 w11⟩, fun x hx => ⟨Nat.le_trans (s12 x hx).1.1 w12, Nat.le_trans (s12 x hx).1.2 w12⟩, fun x hx => ⟨Nat.le_trans (s13 x hx).1.1 w13, Nat.le_trans (s13 x hx).1.2 w13⟩, ⟨fun x hx => (s11 x hx).2, fun x hx => (s12 x hx).2, fun x hx => (s13 x hx).2, v10, v11, v12, v13⟩⟩
  congr 1
  apply Array.ext'
  apply List.ext_getElem?
  intro i
  have hl : cs.toList.length = 14 := by simpa using hsz
  match i with
  | 0 => simpa [cellsM] using q0
  | 1 => simpa [cellsM] using q1
  | 2 => simpa [cellsM] using q2
  | 3 => simpa [cellsM] using q3
  | 4 => simpa [cellsM] using q4
  | 5 => simpa [cellsM] using q5
  | 6 => simpa [cellsM] using q6
  | 7 => simpa [cellsM] using q7
  | 8 => simpa [cellsM] using q8
  | 9 => simpa [cellsM] using q9
  | 10 => simpa [cellsM] using q10
  | 11 => simpa [cellsM] using q11
  | 12 => simpa [cellsM] using q12
  | 13 => simpa [cellsM] using q13
  | i + 14 => rw [List.getElem?_eq_none (by omega), List.getElem?_eq_none (by simp [cellsM])]
end
end Go.Proofs.Ytabhiangjomaeaa.msgArg
namespace Go.Proofs.Ytabhiangjomaeaa.bytesArg
open Go.ChangeShapes Go.WideShapes Go.RowKit Go.Deep Go.Proofs.Ytabhiangjomaeaa.kit Go.Proofs.Ytabhiangjomaeaa.nspec Go.Proofs.Ytabhiangjomaeaa.timed Go.Proofs.Ytabhiangjomaeaa.wireP Go.Proofs.Ytabhiangjomaeaa.wireM Go.Proofs.Ytabhiangjomaeaa.rows Go.Proofs.Ytabhiangjomaeaa.msgArg Go.Proofs.Ytabhiangjomaeaa.cur Go.Proofs.Ytabhiangjomaeaa.ust
set_option linter.unusedVariables false

def u8c (c : UInt8) : List Value := [.int .u8 (c.toNat : Int)]
theorem cellsU8 : Try.prog.cellsOf 5 = 1 := by kernel_rfl
section
variable {H : Type} {enc : TypeId × Value → H} {w : World}
theorem u8_cells {base : Nat} {spare : Nat → Bool} {held : Bool} {n : Nat} {cs : List Value} {x : DataW H × List MemPlace} (h : DataW.trod enc Try.prog w base spare held n 5 cs = some x) : ∃ t : UInt8, cs = u8c t ∧ True ∧ 1 ≤ Rows.uptoBulk x.1 := by
  obtain ⟨z, rfl, rfl, hz⟩ := DataW.trod_int Try.underlying5 h
  have hb : 0 ≤ z ∧ z < 256 := by
    simp only [Lit.wf, Bool.and_eq_true, decide_eq_true_eq] at hz
    have h1 : (IntKind.u8.min : Int) = 0 := by decide
    have h2 : (IntKind.u8.max : Int) = 255 := by decide
    rw [h1, h2] at hz
    omega
  refine ⟨UInt8.ofNat z.toNat, ?_, trivial, ?_⟩
  · unfold u8c
    rw [UInt8.toNat_ofNat_of_lt' (by show z.toNat < 256; omega), show ((z.toNat : Nat) : Int) = z by omega]
  · show 1 ≤ 1; omega
theorem rdb_of {a : Option Addr} {b : Bs} (h : RdC w a 1 (b.map u8c)) : RdB w a b := by
  intro j c hc
  obtain ⟨_, g, o, h1, h2, h3⟩ := h j (u8c c) (by rw [List.getElem?_map, hc]; rfl)
  refine ⟨g, o, h1, h2, ?_⟩
  have := h3 0 _ rfl
  simpa using this
set_option maxRecDepth 100000 in
theorem open_bytes {fuel : Nat} {a : Option Addr} {len cap : Nat} {d : DataW H} {p : List MemPlace}
    (h : DataW.trod enc Try.prog w 0 (fun _ => true) true fuel 39 (Value.slice a len cap).cells.toList = some (d, p)) :
    ∃ b : Bs, len = b.length ∧ In0 w.heap.size w a b cap ∧ len ≤ Rows.uptoBulk d ∧ (a = none → b.length = 0 ∧ cap = 0) := by
  obtain ⟨b, h1, h2, h3, h4, h5, _⟩ := open_rows u8c 1 (by decide) (fun _ => rfl) (fun _ _ => True) Try.underlying39 cellsU8 (fun _ _ _ _ _ => trivial) (fun n cs x h => u8_cells h) h
  refine ⟨b, h1, ⟨rfl, rdb_of h2, ?_, ?_⟩, h4, h3⟩
  · rcases open_slice Try.underlying39 h with ⟨hcs, _⟩ | ⟨ad, len', cap', m', n, D, Pl, hcs, hb, hl, hm, _⟩
    · simp [Value.cells] at hcs; obtain ⟨_, rfl, rfl⟩ := hcs; omega
    · simp [Value.cells] at hcs; obtain ⟨_, rfl, rfl⟩ := hcs; omega
  · rcases open_slice Try.underlying39 h with ⟨hcs, _⟩ | ⟨ad, len', cap', m', n, D, Pl, hcs, hb, hl, hm, _⟩
    · simp [Value.cells] at hcs; obtain ⟨_, rfl, rfl⟩ := hcs; exact Nat.zero_le _
    · simp [Value.cells] at hcs; obtain ⟨_, rfl, rfl⟩ := hcs; exact hm
end
/-- a row of one's own reads so -/
theorem own_in {base : Nat} {w : World} {a : Option Addr} {n c : Nat} {l : Bs} (h : w.ownsRow base 5 1 (.slice a n c) n (Lib.byteCells l)) (hn : n = l.length) : In0 w.heap.size w a l c := by
  subst hn
  rcases h.2 with ⟨h1, h2⟩ | ⟨g, cap, cur, h1, h2, h3, h4, h5, h6, h7⟩
  · injection h1 with e1 e2 e3
    have hl : l = [] := List.eq_nil_of_length_eq_zero h2
    subst hl; subst e1; subst e3
    exact ⟨rfl, fun j c hc => by simp at hc, Nat.le_refl _, Nat.zero_le _⟩
  · injection h1 with e1 e2 e3
    subst e1; subst e3
    refine ⟨rfl, fun j x hx => ⟨g, 0, rfl, blk_lt h3, ?_⟩, h4, h5⟩
    have h8 := h.cells (g := g) rfl j (.int .u8 (x.toNat : Int)) (by simp [Lib.byteCells, hx])
    have hadd : (⟨g, 0, none⟩ : Addr).add j = ⟨g, 0 + j, none⟩ := by unfold Addr.add; split <;> simp_all
    rw [hadd] at h8; exact h8
theorem In0.below {b0 b1 : Nat} {w w1 : World} {a : Option Addr} {b : Bs} {cap : Nat} (h : In0 b0 w a b cap) (hB : Below b0 w w1) (h1 : w1.heap.size = b1) : In0 b1 w1 a b cap :=
  ⟨h1, rdB_below h.rd (by rw [h.hb]; exact hB), h.le, h.cm⟩
end Go.Proofs.Ytabhiangjomaeaa.bytesArg
namespace Go.Proofs.Ytabhiangjomaeaa.wireRounds
open Go.RowKit Go.Proofs.Ytabhiangjomaeaa.kit Go.Proofs.Ytabhiangjomaeaa.timed Go.Proofs.Ytabhiangjomaeaa.nspec Go.Proofs.Ytabhiangjomaeaa.coded Go.Proofs.Ytabhiangjomaeaa.fld Go.Proofs.Ytabhiangjomaeaa.wireP Go.Proofs.Ytabhiangjomaeaa.wireM Go.Proofs.Ytabhiangjomaeaa.packP Go.Proofs.Ytabhiangjomaeaa.wpack Go.Proofs.Ytabhiangjomaeaa.rows Go.Proofs.Ytabhiangjomaeaa.shortP Go.Proofs.Ytabhiangjomaeaa.plainW Go.Proofs.Ytabhiangjomaeaa.wireShort Go.Proofs.Ytabhiangjomaeaa.putM Go.Proofs.Ytabhiangjomaeaa.unpP Go.Proofs.Ytabhiangjomaeaa.udoor Go.Proofs.Ytabhiangjomaeaa.ust Go.Proofs.Ytabhiangjomaeaa.uend Go.Proofs.Ytabhiangjomaeaa.unpackM Go.Proofs.Ytabhiangjomaeaa.roundM Go.Proofs.Ytabhiangjomaeaa.sameM Go.Proofs.Ytabhiangjomaeaa.bytesArg
set_option linter.unusedVariables false

theorem ok_checked {m : Mg} (h : checkB m = true) : OkW m := by
  have hl := check_len h
  have hd : ∀ (L : List Rc), L.all rightB = true → ∀ x ∈ L, x.d.size ≤ maxLen := fun L hL x hx => by
    have := (right_use (List.all_eq_true.1 hL x hx)).2.2.2.1
    unfold maxLen; omega
  have hf := few_checked h
  refine ⟨hd _ hl.2.2.1, hd _ hl.2.2.2.1, hd _ hl.2.2.2.2, ?_, ?_, ?_, ?_⟩ <;> (unfold maxLen; have := hf.ql; have := hf.nl; have := hf.ul; have := hf.rl; omega)
/-- what Unpack leaves, its message spelled out -/
theorem unpack_lit (a : Option Addr) (b : Bs) (cap : Nat) (w : World) (hi : In0 w.heap.size w a b cap) (m : Mg) (k : Nat) (x : Int) (hr : unpackS b = (m, k, x)) :
    Calls Try.prog 26 #[.slice a b.length cap] w fun e w' => ∃ p : Pl, e = .returned (.tuple #[.agg #[.int .i64 m.id, .bool m.rs, .int .i64 m.op, .bool m.aa, .bool m.tc, .bool m.rd, .bool m.ra, .bool m.ad, .bool m.cd, .int .i64 m.rc, .slice p.qa m.qs.length p.qc, .slice p.na m.an.length p.nc, .slice p.ua m.au.length p.uc, .slice p.ra m.ar.length p.rc], .int .i64 (k : Int), .int .i64 x]) ∧ RdM w' p m ∧ Own4 w.heap.size w' p m ∧ Below w.heap.size w w' :=
  (unpack_any a b cap w hi).mono fun e w' ⟨p, h1, h2, h3⟩ => by
    rw [hr] at h1 h2
    exact ⟨p, h1, h2.rd, h2, h3⟩
theorem pack_bad {m : Mg} {o : Bs} {c : Int} (h : packS m = (o, c)) : c = 0 ∨ (o = [] ∧ ((c = 12 ∧ checkB m = true) ∨ (c = 8 ∧ checkB m = false))) := by
  unfold packS at h
  by_cases hc : checkB m = false
  · rw [if_pos hc] at h; cases h; exact .inr ⟨rfl, .inr ⟨rfl, hc⟩⟩
  · rw [if_neg hc] at h
    cases hp : packP m with
    | none => rw [hp] at h; cases h; exact .inr ⟨rfl, .inl ⟨rfl, by simpa using hc⟩⟩
    | some b => rw [hp] at h; cases h; exact .inl rfl
/-- a message laid over another: what is read elsewhere stays -/
theorem rd_put {b0 : Nat} {w : World} {X : Nat} {q q0 : Pl} {m m0 : Mg} (h : Own4 b0 w q m) (hX : MsgAt w X q0 m0) : RdM (putM w X q m) q m :=
  (h.keep (w1 := putM w X q m) fun k c t hk ht => (putM_far q m (other_t hk hX (by rcases ht with rfl | rfl <;> decide))).trans hk).rd
set_option maxRecDepth 100000 in
set_option maxHeartbeats 8000000 in
theorem law (p : Pl) (m : Mg) (a : Option Addr) (cap : Nat) (b : Bs) (w : World) (hr : RdM w p m) (ho : OkW m) (hi : In0 w.heap.size w a b cap) :
    Calls Try.prog 10 #[.agg (cellsM p m), .slice a b.length cap] w fun e w' => e = .returned (.bool true) ∧ Below w.heap.size w w' := by
  have hbel := (Below.refl w.heap.size w).alloc (Nat.le_refl _) (.cells (cellsM p m) 37)
  have hm0 : MsgAt (w.alloc (.cells (cellsM p m) 37)) w.heap.size p m := heap_alloc_new _ _
  have hcm : ∀ p m, cellsM p m = #[.int .i64 m.id, .bool m.rs, .int .i64 m.op, .bool m.aa, .bool m.tc, .bool m.rd, .bool m.ra, .bool m.ad, .bool m.cd, .int .i64 m.rc, .slice p.qa m.qs.length p.qc, .slice p.na m.an.length p.nc, .slice p.ua m.au.length p.uc, .slice p.ra m.ar.length p.rc] := fun p m => rfl
  rw [hcm] at hbel hm0
  rw [hcm]
  have HIN := Lib.hid hi; have HBEL := Lib.hid hbel; have HM0 := Lib.hid hm0; have HR := Lib.hid hr; have HO := Lib.hid ho
  obtain ⟨⟨um, uk, ue⟩, hu⟩ : ∃ r, unpackS b = r := ⟨_, rfl⟩
  have CU := Lib.hid (fun (wx : World) (hB : Below w.heap.size w wx) => unpack_lit a b cap wx (In0.below hi hB rfl) um uk ue hu)
  obtain ⟨n, hn⟩ : ∃ n, b.length = n := ⟨_, rfl⟩
  rw [hn] at CU ⊢
  have CP := Lib.hid (fun (wx : World) (hB : Below w.heap.size w wx) => wpack_any p m wx (hr.below hB rfl) ho)
  obtain ⟨out, code, hpk⟩ : ∃ out code, packS m = (out, code) := ⟨_, _, rfl⟩
  simp only [hpk] at CP
  have HU := Lib.hid hu; have HPK := Lib.hid hpk
  clear hi hbel hm0 hcm hpk hn hr ho hu
  go_enter Try.func10, Try.ntmps10
  go_upto_region 1 with (fail)
  obtain ⟨w0, hw0⟩ : ∃ w0, w.alloc (.cells #[.int .i64 m.id, .bool m.rs, .int .i64 m.op, .bool m.aa, .bool m.tc, .bool m.rd, .bool m.ra, .bool m.ad, .bool m.cd, .int .i64 m.rc, .slice p.qa m.qs.length p.qc, .slice p.na m.an.length p.nc, .slice p.ua m.au.length p.uc, .slice p.ra m.ar.length p.rc] 37) = w0 := ⟨_, rfl⟩
  rw [hw0] at HBEL HM0 ⊢
  clear hw0
  go_wp2_with fail
  refine (question_lit _).mono ?_
  rintro e w1 ⟨P, rfl, hq1, hB1⟩
  have CQ := Lib.hid (pack_q P w1 hq1)
  have HM1 := Lib.hid (mcells HM0.out hB1); have HB1 := Lib.hid (HBEL.out.trans (hB1.mono HBEL.out.size))
  clear hq1 hB1
  go_wp2_with fail
  refine CQ.out.mono ?_
  rintro e w2 ⟨a2, c2, rfl, ho2, hB2⟩
  have HM2 := Lib.hid (mcells HM1.out hB2); have HB2 := Lib.hid (HB1.out.trans (hB2.mono HB1.out.size))
  rw [qM_pack] at ho2
  have hst := own_string (P := Try.prog) (l := [0, 7, 1, 0, 0, 1, 0, 0, 0, 0, 0, 0, 3, 119, 119, 119, 2, 101, 120, 0, 0, 1, 0, 1]) ho2 39 9 5 Try.underlying39 Try.underlying5 Try.underlying9
  obtain ⟨S, hS⟩ : ∃ S : ByteArray, (⟨[0, 7, 1, 0, 0, 1, 0, 0, 0, 0, 0, 0, 3, 119, 119, 119, 2, 101, 120, 0, 0, 1, 0, 1].toArray⟩ : ByteArray) = S := ⟨_, rfl⟩
  rw [hS] at hst
  have hss : (S.toList == [0, 7, 1, 0, 0, 1, 0, 0, 0, 0, 0, 0, 3, 119, 119, 119, 2, 101, 120, 0, 0, 1, 0, 1]) = true := by rw [← hS, Lib.toList_data]; rfl
  clear hB2 ho2 hS CQ HM1 HB1 HM0 HBEL
  go_wp2_with fail
  refine (CU.out w2 HB2.out).mono ?_
  rintro e w3 ⟨q, rfl, hq3, _, hB3⟩
  have HM3 := Lib.hid (mcells HM2.out hB3); have HB3 := Lib.hid (HB2.out.trans (hB3.mono HB2.out.size)); have HQ3 := Lib.hid hq3
  have HX3 := Lib.hid (show w.heap.size ≤ w3.heap.size from HB3.out.size)
  have HXL := Lib.hid (show w.heap.size < w3.heap.size from HM3.out.box.lt)
  clear hB3 hq3 hst hss HM2 HB2 CU
  trace "4"
  go_upto_region 5 with fail
  have hB4 := (Below.refl w3.heap.size w3).alloc (Nat.le_refl _) (.cells #[.int .i64 um.id, .bool um.rs, .int .i64 um.op, .bool um.aa, .bool um.tc, .bool um.rd, .bool um.ra, .bool um.ad, .bool um.cd, .int .i64 um.rc, .slice q.qa um.qs.length q.qc, .slice q.na um.an.length q.nc, .slice q.ua um.au.length q.uc, .slice q.ra um.ar.length q.rc] 37)
  have hX4 : MsgAt (w3.alloc (.cells #[.int .i64 um.id, .bool um.rs, .int .i64 um.op, .bool um.aa, .bool um.tc, .bool um.rd, .bool um.ra, .bool um.ad, .bool um.cd, .int .i64 um.rc, .slice q.qa um.qs.length q.qc, .slice q.na um.an.length q.nc, .slice q.ua um.au.length q.uc, .slice q.ra um.ar.length q.rc] 37)) w3.heap.size q um := heap_alloc_new _ _
  have hM4 := mcells HM3.out hB4
  obtain ⟨X, hX⟩ : ∃ X, w3.heap.size = X := ⟨_, rfl⟩
  have hQ4 := HQ3.out.below hB4 rfl
  have hB4' := HB3.out.trans (hB4.mono HB3.out.size)
  obtain ⟨w4, hw4⟩ : ∃ w4, w3.alloc (.cells #[.int .i64 um.id, .bool um.rs, .int .i64 um.op, .bool um.aa, .bool um.tc, .bool um.rd, .bool um.ra, .bool um.ad, .bool um.cd, .int .i64 um.rc, .slice q.qa um.qs.length q.qc, .slice q.na um.an.length q.nc, .slice q.ua um.au.length q.uc, .slice q.ra um.ar.length q.rc] 37) = w4 := ⟨_, rfl⟩
  rw [hw4] at hX4 hM4 hQ4 hB4' ⊢
  rw [hX] at hX4 HXL ⊢
  have HX4 := Lib.hid hX4; have HM4 := Lib.hid hM4; have HQ4 := Lib.hid hQ4; have HB4 := Lib.hid hB4'
  clear hB4 hX4 hM4 hX hQ4 hB4' hw4 HM3 HB3 HQ3 HX3
  by_cases hue : ue = 0
  · subst hue
    have hck := unpack_checked HU.out
    have CC := Lib.hid (wireC.wcheck_any q um w4 HQ4.out (ok_checked hck))
    rw [hck] at CC
    have hx := HX4.out.box
    have c0 := hx.c0; have c1 := hx.c1; have c2 := hx.c2; have c3 := hx.c3; have c4 := hx.c4; have c5 := hx.c5; have c6 := hx.c6; have c7 := hx.c7; have c8 := hx.c8; have c9 := hx.c9; have c10 := hx.c10; have c11 := hx.c11; have c12 := hx.c12; have c13 := hx.c13
    clear hx hck
    trace "5"
    go_wp2_with fail
    refine CC.out.mono ?_
    rintro e w5 ⟨rfl, hB5⟩
    have HX5 := Lib.hid (mcells HX4.out hB5); have HM5 := Lib.hid (mcells HM4.out hB5); have HB5 := Lib.hid (HB4.out.trans (hB5.mono HB4.out.size))
    clear c0 c1 c2 c3 c4 c5 c6 c7 c8 c9 c10 c11 c12 c13
    clear hB5 CC HX4 HM4 HQ4 HB4
    trace "6"
    go_upto_region 7 with fail
    have hx := HM5.out.box
    have b0 := hx.c0; have b1 := hx.c1; have b2 := hx.c2; have b3 := hx.c3; have b4 := hx.c4; have b5 := hx.c5; have b6 := hx.c6; have b7 := hx.c7; have b8 := hx.c8; have b9 := hx.c9; have b10 := hx.c10; have b11 := hx.c11; have b12 := hx.c12; have b13 := hx.c13
    clear hx
    trace "7"
    go_wp2_with fail
    refine (CP.out w5 HB5.out).mono ?_
    rintro e w6 ⟨v6, rfl, ho6, hB6⟩
    have HX6 := Lib.hid (mcells HX5.out hB6); have HM6 := Lib.hid (mcells HM5.out hB6); have HB6 := Lib.hid (HB5.out.trans (hB6.mono HB5.out.size))
    obtain ⟨a6, c6, rfl⟩ := buf.own_slice1 ho6
    clear b0 b1 b2 b3 b4 b5 b6 b7 b8 b9 b10 b11 b12 b13
    rcases pack_bad HPK.out with rfl | ⟨rfl, ⟨rfl, hck⟩ | ⟨rfl, hck⟩⟩
    · have CV := Lib.hid (unpack_lit a6 out c6 w6 (own_in ho6 rfl) m 0 0 (unpack_pack HPK.out))
      have hck := pack_checked HPK.out
      have HFW := Lib.hid (few_checked hck)
      obtain ⟨no, hno⟩ : ∃ no, out.length = no := ⟨_, rfl⟩
      rw [hno] at CV ⊢
      clear ho6 hB6 hno hck
      trace "8"
      go_wp2_with fail
      refine CV.out.mono ?_
      rintro e w7 ⟨q7, rfl, _, hq7, hB7⟩
      have HX7 := Lib.hid (mcells HX6.out hB7); have HM7 := Lib.hid (mcells HM6.out hB7); have HB7 := Lib.hid (HB6.out.trans (hB7.mono HB6.out.size)); have HQ7 := Lib.hid hq7
      clear hB7 hq7 CV HX6 HM6 HB6 HX5 HM5 HB5
      have hx := HX7.out.box
      have c0 := hx.c0; have c1 := hx.c1; have c2 := hx.c2; have c3 := hx.c3; have c4 := hx.c4; have c5 := hx.c5; have c6 := hx.c6; have c7 := hx.c7; have c8 := hx.c8; have c9 := hx.c9; have c10 := hx.c10; have c11 := hx.c11; have c12 := hx.c12; have c13 := hx.c13
      have hf := fun j => udoor.msg_frozen HX7.out j
      have f0 := hf 0; have f1 := hf 1; have f2 := hf 2; have f3 := hf 3; have f4 := hf 4; have f5 := hf 5; have f6 := hf 6; have f7 := hf 7; have f8 := hf 8; have f9 := hf 9; have f10 := hf 10; have f11 := hf 11; have f12 := hf 12; have f13 := hf 13
      clear hx hf
      trace "10"
      go_upto_region 11 with fail
      have hX8 := putM_blk q7 m HX7.out (by rfl)
      have hM8 : MsgAt (putM w7 X q7 m) w.heap.size p m := (putM_far q7 m (show w.heap.size ≠ X by have := HXL.out; omega)).trans HM7.out
      have hB8 := putM_below q7 m HB7.out (show w.heap.size ≤ X by have := HXL.out; omega)
      have hQ8 : RdM (putM w7 X q7 m) q7 m := rd_put HQ7.out HX7.out
      change Code.wp _ _ _ _ (putM w7 X q7 m)
      obtain ⟨w8, hw8⟩ : ∃ w8, putM w7 X q7 m = w8 := ⟨_, rfl⟩
      rw [hw8] at hX8 hM8 hB8 hQ8 ⊢
      clear c0 c1 c2 c3 c4 c5 c6 c7 c8 c9 c10 c11 c12 c13
      clear f0 f1 f2 f3 f4 f5 f6 f7 f8 f9 f10 f11 f12 f13
      have CS := Lib.hid (messages_same q7 p m w8 hQ8 (HR.out.below hB8 rfl) HFW.out)
      have hx := hX8.box; have hy := hM8.box
      have c0 := hx.c0; have c1 := hx.c1; have c2 := hx.c2; have c3 := hx.c3; have c4 := hx.c4; have c5 := hx.c5; have c6 := hx.c6; have c7 := hx.c7; have c8 := hx.c8; have c9 := hx.c9; have c10 := hx.c10; have c11 := hx.c11; have c12 := hx.c12; have c13 := hx.c13
      have b0 := hy.c0; have b1 := hy.c1; have b2 := hy.c2; have b3 := hy.c3; have b4 := hy.c4; have b5 := hy.c5; have b6 := hy.c6; have b7 := hy.c7; have b8 := hy.c8; have b9 := hy.c9; have b10 := hy.c10; have b11 := hy.c11; have b12 := hy.c12; have b13 := hy.c13
      have HB8 := Lib.hid hB8
      clear hx hy hX8 hM8 hB8 hQ8 hw8
      trace "11"
      go_wp2_with fail
      refine CS.out.mono ?_
      rintro e w9 ⟨rfl, hB9⟩
      have HB9 := Lib.hid (HB8.out.trans (hB9.mono HB8.out.size))
      clear hB9
      go_wp2_with fail
      go_ret
      exact ⟨rfl, HB9.out⟩
    · trace "12"
      clear hck ho6 hB6
      go_wp2_with fail
      go_ret
      exact ⟨rfl, HB6.out⟩
    · have CC := Lib.hid (wireC.wcheck_any p m w6 (HR.out.below HB6.out rfl) HO.out)
      rw [hck] at CC
      have hx := HM6.out.box
      have b0 := hx.c0; have b1 := hx.c1; have b2 := hx.c2; have b3 := hx.c3; have b4 := hx.c4; have b5 := hx.c5; have b6 := hx.c6; have b7 := hx.c7; have b8 := hx.c8; have b9 := hx.c9; have b10 := hx.c10; have b11 := hx.c11; have b12 := hx.c12; have b13 := hx.c13
      clear hx hck ho6 hB6
      trace "13"
      go_wp2_with fail
      refine CC.out.mono ?_
      rintro e w7 ⟨rfl, hB7⟩
      have HB7 := Lib.hid (HB6.out.trans (hB7.mono HB6.out.size))
      clear hB7
      go_wp2_with fail
      go_ret
      exact ⟨rfl, HB7.out⟩
  · have eue : (ue == 0) = false := by simpa using hue
    have HX5 := HX4; have HM5 := HM4; have HB5 := HB4
    obtain ⟨w5, hw5⟩ : ∃ w5, w4 = w5 := ⟨_, rfl⟩
    rw [hw5] at HX5 HM5 HB5 ⊢
    clear HX4 HM4 HB4 HQ4 hw5
    trace "5b"
    go_upto_region 7 with fail
    clear eue hue
    have hx := HM5.out.box
    have b0 := hx.c0; have b1 := hx.c1; have b2 := hx.c2; have b3 := hx.c3; have b4 := hx.c4; have b5 := hx.c5; have b6 := hx.c6; have b7 := hx.c7; have b8 := hx.c8; have b9 := hx.c9; have b10 := hx.c10; have b11 := hx.c11; have b12 := hx.c12; have b13 := hx.c13
    clear hx
    trace "7"
    go_wp2_with fail
    refine (CP.out w5 HB5.out).mono ?_
    rintro e w6 ⟨v6, rfl, ho6, hB6⟩
    have HX6 := Lib.hid (mcells HX5.out hB6); have HM6 := Lib.hid (mcells HM5.out hB6); have HB6 := Lib.hid (HB5.out.trans (hB6.mono HB5.out.size))
    obtain ⟨a6, c6, rfl⟩ := buf.own_slice1 ho6
    clear b0 b1 b2 b3 b4 b5 b6 b7 b8 b9 b10 b11 b12 b13
    rcases pack_bad HPK.out with rfl | ⟨rfl, ⟨rfl, hck⟩ | ⟨rfl, hck⟩⟩
    · have CV := Lib.hid (unpack_lit a6 out c6 w6 (own_in ho6 rfl) m 0 0 (unpack_pack HPK.out))
      have hck := pack_checked HPK.out
      have HFW := Lib.hid (few_checked hck)
      obtain ⟨no, hno⟩ : ∃ no, out.length = no := ⟨_, rfl⟩
      rw [hno] at CV ⊢
      clear ho6 hB6 hno hck
      trace "8"
      go_wp2_with fail
      refine CV.out.mono ?_
      rintro e w7 ⟨q7, rfl, _, hq7, hB7⟩
      have HX7 := Lib.hid (mcells HX6.out hB7); have HM7 := Lib.hid (mcells HM6.out hB7); have HB7 := Lib.hid (HB6.out.trans (hB7.mono HB6.out.size)); have HQ7 := Lib.hid hq7
      clear hB7 hq7 CV HX6 HM6 HB6 HX5 HM5 HB5
      have hx := HX7.out.box
      have c0 := hx.c0; have c1 := hx.c1; have c2 := hx.c2; have c3 := hx.c3; have c4 := hx.c4; have c5 := hx.c5; have c6 := hx.c6; have c7 := hx.c7; have c8 := hx.c8; have c9 := hx.c9; have c10 := hx.c10; have c11 := hx.c11; have c12 := hx.c12; have c13 := hx.c13
      have hf := fun j => udoor.msg_frozen HX7.out j
      have f0 := hf 0; have f1 := hf 1; have f2 := hf 2; have f3 := hf 3; have f4 := hf 4; have f5 := hf 5; have f6 := hf 6; have f7 := hf 7; have f8 := hf 8; have f9 := hf 9; have f10 := hf 10; have f11 := hf 11; have f12 := hf 12; have f13 := hf 13
      clear hx hf
      trace "10"
      go_upto_region 11 with fail
      have hX8 := putM_blk q7 m HX7.out (by rfl)
      have hM8 : MsgAt (putM w7 X q7 m) w.heap.size p m := (putM_far q7 m (show w.heap.size ≠ X by have := HXL.out; omega)).trans HM7.out
      have hB8 := putM_below q7 m HB7.out (show w.heap.size ≤ X by have := HXL.out; omega)
      have hQ8 : RdM (putM w7 X q7 m) q7 m := rd_put HQ7.out HX7.out
      change Code.wp _ _ _ _ (putM w7 X q7 m)
      obtain ⟨w8, hw8⟩ : ∃ w8, putM w7 X q7 m = w8 := ⟨_, rfl⟩
      rw [hw8] at hX8 hM8 hB8 hQ8 ⊢
      clear c0 c1 c2 c3 c4 c5 c6 c7 c8 c9 c10 c11 c12 c13
      clear f0 f1 f2 f3 f4 f5 f6 f7 f8 f9 f10 f11 f12 f13
      have CS := Lib.hid (messages_same q7 p m w8 hQ8 (HR.out.below hB8 rfl) HFW.out)
      have hx := hX8.box; have hy := hM8.box
      have c0 := hx.c0; have c1 := hx.c1; have c2 := hx.c2; have c3 := hx.c3; have c4 := hx.c4; have c5 := hx.c5; have c6 := hx.c6; have c7 := hx.c7; have c8 := hx.c8; have c9 := hx.c9; have c10 := hx.c10; have c11 := hx.c11; have c12 := hx.c12; have c13 := hx.c13
      have b0 := hy.c0; have b1 := hy.c1; have b2 := hy.c2; have b3 := hy.c3; have b4 := hy.c4; have b5 := hy.c5; have b6 := hy.c6; have b7 := hy.c7; have b8 := hy.c8; have b9 := hy.c9; have b10 := hy.c10; have b11 := hy.c11; have b12 := hy.c12; have b13 := hy.c13
      have HB8 := Lib.hid hB8
      clear hx hy hX8 hM8 hB8 hQ8 hw8
      trace "11"
      go_wp2_with fail
      refine CS.out.mono ?_
      rintro e w9 ⟨rfl, hB9⟩
      have HB9 := Lib.hid (HB8.out.trans (hB9.mono HB8.out.size))
      clear hB9
      go_wp2_with fail
      go_ret
      exact ⟨rfl, HB9.out⟩
    · trace "12"
      clear hck ho6 hB6
      go_wp2_with fail
      go_ret
      exact ⟨rfl, HB6.out⟩
    · have CC := Lib.hid (wireC.wcheck_any p m w6 (HR.out.below HB6.out rfl) HO.out)
      rw [hck] at CC
      have hx := HM6.out.box
      have b0 := hx.c0; have b1 := hx.c1; have b2 := hx.c2; have b3 := hx.c3; have b4 := hx.c4; have b5 := hx.c5; have b6 := hx.c6; have b7 := hx.c7; have b8 := hx.c8; have b9 := hx.c9; have b10 := hx.c10; have b11 := hx.c11; have b12 := hx.c12; have b13 := hx.c13
      clear hx hck ho6 hB6
      trace "13"
      go_wp2_with fail
      refine CC.out.mono ?_
      rintro e w7 ⟨rfl, hB7⟩
      have HB7 := Lib.hid (HB6.out.trans (hB7.mono HB6.out.size))
      clear hB7
      go_wp2_with fail
      go_ret
      exact ⟨rfl, HB7.out⟩
theorem lawI (p : Pl) (m : Mg) (a : Option Addr) (cap : Nat) (b : Bs) (w : World) {k : Nat} (hm : msgArg.InM w p m k) (hi : In0 w.heap.size w a b cap) :
    Calls Try.prog 10 #[.agg (cellsM p m), .slice a b.length cap] w fun e w' => e = .returned (.bool true) ∧ Below w.heap.size w w' := law p m a cap b w hm.rd hm.w hi
end Go.Proofs.Ytabhiangjomaeaa.wireRounds
