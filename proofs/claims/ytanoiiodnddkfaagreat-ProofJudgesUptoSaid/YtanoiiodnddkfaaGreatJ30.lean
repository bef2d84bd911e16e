/- A message handed in: opened. A list of records, a list of questions handed in: opened. The law gazetteerlaw4.ProofJudges: both judge alike, the records are only read: walk (gen_pj.py). -/
import Derived.Test.YtanoiiodnddkfaaGreatJ19
import Derived.Test.YtanoiiodnddkfaaGreatJ24
import Derived.Test.YtanoiiodnddkfaaGreatJ28
import Derived.Test.YtanoiiodnddkfaaGreatJ29
import Derived.Deep.Slices
import Derived.Deep.Fields
import Derived.ChangeSame
import Derived.Carry
import Derived.ChangeOld
import Derived.ProofKit
namespace Go.Proofs.YtanoiiodnddkfaaGreat.msgArg
open Go.ChangeShapes Go.WideShapes Go.RowKit Go.Deep Go.Proofs.YtanoiiodnddkfaaGreat.kit Go.Proofs.YtanoiiodnddkfaaGreat.timed Go.Proofs.YtanoiiodnddkfaaGreat.wireP Go.Proofs.YtanoiiodnddkfaaGreat.wireM Go.Proofs.YtanoiiodnddkfaaGreat.rows
set_option linter.unusedVariables false

theorem got {α : Type} {l : List α} {i n : Nat} (h : l.length = n) (hi : i < n) : ∃ y, l[i]? = some y := ⟨_, List.getElem?_eq_getElem (by omega)⟩
theorem one_at {cs : List Value} {o : Nat} {v : Value} (h : (cs.drop o).take 1 = [v]) : cs[o]? = some v := by
  have : ((cs.drop o).take 1)[0]? = some v := by rw [h]; rfl
  rw [List.getElem?_take_of_lt (by omega), List.getElem?_drop] at this; simpa using this
theorem choose_list {α : Type} (p : Nat → α → Prop) : ∀ n, (∀ i, i < n → ∃ x, p i x) → ∃ l : List α, l.length = n ∧ ∀ i x, l[i]? = some x → p i x
  | 0, _ => ⟨[], rfl, by simp⟩
  | n + 1, h => by
    obtain ⟨l, hl, hp⟩ := choose_list p n (fun i hi => h i (by omega))
    obtain ⟨x, hx⟩ := h n (by omega)
    refine ⟨l ++ [x], by simp [hl], fun i y hy => ?_⟩
    by_cases hi : i < n
    · rw [List.getElem?_append_left (by omega)] at hy; exact hp i y hy
    · have hlt := (List.getElem?_eq_some_iff.1 hy).1
      have : i = n := by simp [hl] at hlt; omega
      subst this
      rw [List.getElem?_append_right (by omega), hl, Nat.sub_self] at hy
      simp at hy; subst hy; exact hx
theorem cell_lt {w : World} {a : Addr} {v : Value} (h : w.cell? a = some v) : a.block < w.heap.size := by
  rcases Nat.lt_or_ge a.block w.heap.size with h' | h'
  · exact h'
  · simp [World.cell?, Array.getElem?_eq_none h'] at h
set_option maxRecDepth 100000 in
theorem bulk_len {H : Type} : ∀ l : List (DataW H), (∀ x ∈ l, 1 ≤ Rows.uptoBulk x) → l.length ≤ Rows.uptoBulkAll l
  | [], _ => Nat.zero_le _
  | x :: l, h => by
    have h1 := bulk_len l (fun y hy => h y (List.mem_cons_of_mem _ hy))
    have h2 := h x List.mem_cons_self
    have e : Rows.uptoBulkAll (x :: l) = Rows.uptoBulk x + Rows.uptoBulkAll l := rfl
    rw [e, List.length_cons]; omega
set_option maxRecDepth 100000 in
theorem bulk_mem {H : Type} : ∀ (l : List (DataW H)) (x : DataW H), x ∈ l → Rows.uptoBulk x ≤ Rows.uptoBulkAll l
  | y :: l, x, h => by
    have e : Rows.uptoBulkAll (y :: l) = Rows.uptoBulk y + Rows.uptoBulkAll l := rfl
    rw [e]
    rcases List.mem_cons.1 h with rfl | h
    · omega
    · have := bulk_mem l x h; omega
set_option maxRecDepth 100000 in
/-- a list of rows handed in -/
theorem open_rows {α : Type} (f : α → List Value) (m : Nat) (hm0 : 0 < m) (hf : ∀ x, (f x).length = m) (G : α → Nat → Prop) {H : Type} {enc : TypeId × Value → H} {w : World} {fuel : Nat} {a : Option Addr} {len cap : Nat} {d : DataW H} {p : List MemPlace} {T E : TypeId}
    (hT : Tryz.prog.underlying T = some (.slice E)) (hE : Tryz.prog.cellsOf E = m) (hG : ∀ t x y, G t x → x ≤ y → G t y)
    (hc : ∀ (n : Nat) (cs : List Value) (x : DataW H × List MemPlace), DataW.trod enc Tryz.prog w 0 (fun _ => true) true n E cs = some x → ∃ t, cs = f t ∧ G t (Rows.uptoBulk x.1) ∧ 1 ≤ Rows.uptoBulk x.1)
    (h : DataW.trod enc Tryz.prog w 0 (fun _ => true) true fuel T (Value.slice a len cap).cells.toList = some (d, p)) :
    ∃ ls : List α, len = ls.length ∧ RdC w a m (ls.map f) ∧ (a = none → ls.length = 0 ∧ cap = 0) ∧ len ≤ Rows.uptoBulk d ∧ len ≤ maxLen ∧ ∀ t ∈ ls, G t (Rows.uptoBulk d) := by
  rcases open_slice hT h with ⟨hcs, hx⟩ | ⟨ad, len', cap', m', n, D, Pl, hcs, hb, hl, hm, hmm, hx, hi⟩
  · simp [Value.cells] at hcs
    obtain ⟨rfl, rfl, rfl⟩ := hcs
    exact ⟨[], rfl, RdC.nil _ _ _, fun _ => ⟨rfl, rfl⟩, Nat.zero_le _, Nat.zero_le _, by simp⟩
  · simp [Value.cells] at hcs
    obtain ⟨rfl, rfl, rfl⟩ := hcs
    simp only [if_true] at hmm
    subst hmm
    simp only [Prod.mk.injEq] at hx
    obtain ⟨rfl, rfl⟩ := hx
    rw [hE] at hi
    have e : ∀ (l1 l2 : List (DataW H)), Rows.uptoBulk (DataW.slice l1 l2) = Rows.uptoBulkAll l1 + Rows.uptoBulkAll l2 + 1 := fun _ _ => rfl
    obtain ⟨ls, hll, hls⟩ := choose_list (fun i (t : α) => w.cells? 0 (ad.add (i * m)) m = some (f t) ∧ G t (Rows.uptoBulk (D i))) len (fun i hi2 => by
      obtain ⟨cs', h1, h2⟩ := hi i (by omega)
      obtain ⟨t, rfl, hg, _⟩ := hc _ _ _ h2
      exact ⟨t, h1, hg⟩)
    refine ⟨ls, hll.symm, ?_, (fun h => by cases h), ?_, Nat.le_trans hl hm, ?_⟩
    · intro j row hrow
      rw [List.getElem?_map] at hrow
      obtain ⟨t, ht, rfl⟩ := Option.map_eq_some_iff.1 hrow
      have hc' := (hls j t ht).1
      obtain ⟨_, hlen, hcell⟩ := World.cells?_some hc'
      obtain ⟨u1, hu1⟩ : ∃ u1, (f t)[0]? = some u1 := ⟨_, List.getElem?_eq_getElem (by rw [hf]; exact hm0)⟩
      have hc0 := hcell 0 hm0
      rw [hu1] at hc0
      obtain ⟨g, o, sp⟩ := ad
      have hspot : sp = none := by
        obtain ⟨t0, ht0⟩ : ∃ t0, ls[0]? = some t0 := ⟨_, List.getElem?_eq_getElem (by have := (List.getElem?_eq_some_iff.1 ht).1; omega)⟩
        obtain ⟨_, _, hcell00⟩ := World.cells?_some (hls 0 t0 ht0).1
        obtain ⟨u0, hu0⟩ : ∃ u0, (f t0)[0]? = some u0 := ⟨_, List.getElem?_eq_getElem (by rw [hf]; exact hm0)⟩
        have h00 := hcell00 0 hm0
        rw [hu0] at h00
        simpa [Addr.add] using World.cell?_spot h00
      subst hspot
      have hadd : ∀ (o k : Nat), (⟨g, o, none⟩ : Addr).add k = ⟨g, o + k, none⟩ := fun o k => by unfold Addr.add; split <;> simp_all
      refine ⟨hf t, g, o, rfl, ?_, fun i u hu => ?_⟩
      · have := cell_lt hc0; simpa [hadd] using this
      · have hi8 : i < m := by have := (List.getElem?_eq_some_iff.1 hu).1; rw [hf] at this; exact this
        have := hcell i hi8
        rw [hadd, hadd] at this
        rw [this]
        exact hu
    · have hbl := bulk_len ((List.range len).map D) (fun x hx => by
        obtain ⟨i, hi3, rfl⟩ := List.mem_map.1 hx
        obtain ⟨cs', _, h2⟩ := hi i (by have := List.mem_range.1 hi3; omega)
        obtain ⟨_, _, _, h3⟩ := hc _ _ _ h2
        exact h3)
      rw [e]
      rw [List.length_map, List.length_range] at hbl
      omega
    · intro t ht
      obtain ⟨i, hi1, hi2⟩ := List.getElem_of_mem ht
      have hti : ls[i]? = some t := by rw [List.getElem?_eq_getElem hi1, hi2]
      refine hG _ _ _ (hls i t hti).2 ?_
      rw [e]
      have := bulk_mem ((List.range len).map D) (D i) (List.mem_map.2 ⟨i, List.mem_range.2 (by omega), rfl⟩)
      omega

section
variable {H : Type} {enc : TypeId × Value → H} {w : World} {base : Nat} {spare : Nat → Bool} {held : Bool}
theorem cellsInt : Tryz.prog.cellsOf 3 = 1 := by kernel_rfl
theorem cellsBool : Tryz.prog.cellsOf 4 = 1 := by kernel_rfl
theorem cellsString : Tryz.prog.cellsOf 9 = 1 := by kernel_rfl
theorem cellsRecs : Tryz.prog.cellsOf 22 = 1 := by kernel_rfl
theorem cellsQns : Tryz.prog.cellsOf 23 = 1 := by kernel_rfl
theorem cellsRec : Tryz.prog.cellsOf 32 = 5 := by kernel_rfl
theorem cellsQn : Tryz.prog.cellsOf 26 = 3 := by kernel_rfl
theorem int_at {n : Nat} {cs : List Value} {o : Nat} {y : DataW H × List MemPlace} (h : DataW.trod enc Tryz.prog w base spare held n 3 ((cs.drop o).take (Tryz.prog.cellsOf 3)) = some y) : ∃ z, cs[o]? = some (.int .i64 z) := by
  rw [cellsInt] at h
  obtain ⟨z, hz, _⟩ := DataW.trod_int Tryz.underlying3 h
  exact ⟨z, one_at hz⟩
theorem bool_at {n : Nat} {cs : List Value} {o : Nat} {y : DataW H × List MemPlace} (h : DataW.trod enc Tryz.prog w base spare held n 4 ((cs.drop o).take (Tryz.prog.cellsOf 4)) = some y) : ∃ z, cs[o]? = some (.bool z) := by
  rw [cellsBool] at h
  obtain ⟨z, hz, _⟩ := DataW.trod_bool Tryz.underlying4 h
  exact ⟨z, one_at hz⟩
theorem str_at {n : Nat} {cs : List Value} {o : Nat} {y : DataW H × List MemPlace} (h : DataW.trod enc Tryz.prog w base spare held n 9 ((cs.drop o).take (Tryz.prog.cellsOf 9)) = some y) : ∃ z : ByteArray, cs[o]? = some (.string z) ∧ z.size ≤ Rows.uptoBulk y.1 ∧ z.size ≤ maxLen := by
  rw [cellsString] at h
  obtain ⟨z, hz, hy, hm⟩ := DataW.trod_string Tryz.underlying9 h
  subst hy
  have e : Rows.uptoBulk (DataW.lit (H := H) (.string z.data.toList)) = z.data.toList.length + 1 := rfl
  refine ⟨z, one_at hz, ?_, hm⟩
  rw [e, size_len]; omega
theorem bulk_agg (xs : List (DataW H × List MemPlace)) {i : Nat} {y : DataW H × List MemPlace} (hy : xs[i]? = some y) : Rows.uptoBulk y.1 ≤ Rows.uptoBulk (DataW.agg (xs.map (·.1))) := by
  have e : Rows.uptoBulk (DataW.agg (xs.map (·.1))) = Rows.uptoBulkAll (xs.map (·.1)) + 1 := rfl
  have := bulk_mem (xs.map (·.1)) y.1 (List.mem_map.2 ⟨y, List.mem_of_getElem? hy, rfl⟩)
  omega
set_option maxRecDepth 100000 in
theorem rec_cells {n : Nat} {cs : List Value} {x : DataW H × List MemPlace} (h : DataW.trod enc Tryz.prog w base spare held n 32 cs = some x) : ∃ t : Rc, cs = t.cells ∧ ((t.o.size ≤ Rows.uptoBulk x.1 ∧ t.d.size ≤ Rows.uptoBulk x.1) ∧ t.d.size ≤ maxLen) ∧ 1 ≤ Rows.uptoBulk x.1 := by
  obtain ⟨xs, n', _, rfl, hlen, hxl, hf⟩ := DataW.trod_struct Tryz.underlying32 h
  rw [cellsRec] at hlen
  obtain ⟨y0, e0⟩ := got hxl (i := 0) (by decide)
  obtain ⟨y1, e1⟩ := got hxl (i := 1) (by decide)
  obtain ⟨y2, e2⟩ := got hxl (i := 2) (by decide)
  obtain ⟨y3, e3⟩ := got hxl (i := 3) (by decide)
  obtain ⟨y4, e4⟩ := got hxl (i := 4) (by decide)
  obtain ⟨z0, q0, s0, _⟩ := str_at (o := 0) ((hf 0 _ rfl).trans e0)
  obtain ⟨z1, q1⟩ := int_at (o := 1) ((hf 1 _ rfl).trans e1)
  obtain ⟨z2, q2⟩ := int_at (o := 2) ((hf 2 _ rfl).trans e2)
  obtain ⟨z3, q3⟩ := int_at (o := 3) ((hf 3 _ rfl).trans e3)
  obtain ⟨z4, q4, s4, m4⟩ := str_at (o := 4) ((hf 4 _ rfl).trans e4)
  refine ⟨⟨z0, z1, z2, z3, z4⟩, ?_, ⟨⟨Nat.le_trans s0 (bulk_agg xs e0), Nat.le_trans s4 (bulk_agg xs e4)⟩, m4⟩, ?_⟩
  · apply List.ext_getElem?
    intro i
    match i with
    | 0 => simpa [Rc.cells] using q0
    | 1 => simpa [Rc.cells] using q1
    | 2 => simpa [Rc.cells] using q2
    | 3 => simpa [Rc.cells] using q3
    | 4 => simpa [Rc.cells] using q4
    | i + 5 => rw [List.getElem?_eq_none (by omega), List.getElem?_eq_none (by simp [Rc.cells])]
  · show 1 ≤ Rows.uptoBulkAll (xs.map (·.1)) + 1
    omega
set_option maxRecDepth 100000 in
theorem qn_cells {n : Nat} {cs : List Value} {x : DataW H × List MemPlace} (h : DataW.trod enc Tryz.prog w base spare held n 26 cs = some x) : ∃ t : Qn, cs = t.cells ∧ (t.n.size ≤ Rows.uptoBulk x.1) ∧ 1 ≤ Rows.uptoBulk x.1 := by
  obtain ⟨xs, n', _, rfl, hlen, hxl, hf⟩ := DataW.trod_struct Tryz.underlying26 h
  rw [cellsQn] at hlen
  obtain ⟨y0, e0⟩ := got hxl (i := 0) (by decide)
  obtain ⟨y1, e1⟩ := got hxl (i := 1) (by decide)
  obtain ⟨y2, e2⟩ := got hxl (i := 2) (by decide)
  obtain ⟨z0, q0, s0, _⟩ := str_at (o := 0) ((hf 0 _ rfl).trans e0)
  obtain ⟨z1, q1⟩ := int_at (o := 1) ((hf 1 _ rfl).trans e1)
  obtain ⟨z2, q2⟩ := int_at (o := 2) ((hf 2 _ rfl).trans e2)
  refine ⟨⟨z0, z1, z2⟩, ?_, Nat.le_trans s0 (bulk_agg xs e0), ?_⟩
  · apply List.ext_getElem?
    intro i
    match i with
    | 0 => simpa [Qn.cells] using q0
    | 1 => simpa [Qn.cells] using q1
    | 2 => simpa [Qn.cells] using q2
    | i + 3 => rw [List.getElem?_eq_none (by omega), List.getElem?_eq_none (by simp [Qn.cells])]
  · show 1 ≤ Rows.uptoBulkAll (xs.map (·.1)) + 1
    omega
end
section
variable {H : Type} {enc : TypeId × Value → H} {w : World}
theorem slice_form {n : Nat} {cs : List Value} {o : Nat} {T E : TypeId} {y : DataW H × List MemPlace} (hT : Tryz.prog.underlying T = some (.slice E)) (hc : Tryz.prog.cellsOf T = 1) (h : DataW.trod enc Tryz.prog w 0 (fun _ => true) true n T ((cs.drop o).take (Tryz.prog.cellsOf T)) = some y) :
    ∃ a l c, cs[o]? = some (.slice a l c) ∧ DataW.trod enc Tryz.prog w 0 (fun _ => true) true n T (Value.slice a l c).cells.toList = some y := by
  rw [hc] at h
  have hs : ∃ (a : Option Addr) (l c : Nat), (cs.drop o).take 1 = [.slice a l c] := by
    rcases open_slice hT h with ⟨g0, _⟩ | ⟨ad, len, cap, _, _, _, _, g0, _⟩
    · exact ⟨none, 0, 0, g0⟩
    · exact ⟨some ad, len, cap, g0⟩
  obtain ⟨a, l, c, q0⟩ := hs
  rw [q0] at h
  exact ⟨a, l, c, one_at q0, h⟩
/-- what is known of a message handed in -/
structure InM (w : World) (p : Pl) (m : Mg) (b : Nat) : Prop where
  rd : RdM w p m
  nil : NilM p m
  qnil : p.qa = none → m.qs.length = 0 ∧ p.qc = 0
  lens : m.qs.length ≤ b ∧ m.an.length ≤ b ∧ m.au.length ≤ b ∧ m.ar.length ≤ b
  sq : ∀ x ∈ m.qs, x.n.size ≤ b
  sn : ∀ x ∈ m.an, x.o.size ≤ b ∧ x.d.size ≤ b
  su : ∀ x ∈ m.au, x.o.size ≤ b ∧ x.d.size ≤ b
  sr : ∀ x ∈ m.ar, x.o.size ≤ b ∧ x.d.size ≤ b
  w : OkW m
theorem InM.ok {p : Pl} {m : Mg} {b : Nat} (h : InM w p m b) (hb : b ≤ 1099511627776) : OkM m :=
  ⟨fun x hx => Nat.le_trans (h.sq x hx) hb, fun x hx => ⟨Nat.le_trans (h.sn x hx).1 hb, Nat.le_trans (h.sn x hx).2 hb⟩, fun x hx => ⟨Nat.le_trans (h.su x hx).1 hb, Nat.le_trans (h.su x hx).2 hb⟩, fun x hx => ⟨Nat.le_trans (h.sr x hx).1 hb, Nat.le_trans (h.sr x hx).2 hb⟩, Nat.le_trans h.lens.1 hb, Nat.le_trans h.lens.2.1 hb, Nat.le_trans h.lens.2.2.1 hb, Nat.le_trans h.lens.2.2.2 hb⟩
end
end Go.Proofs.YtanoiiodnddkfaaGreat.msgArg
namespace Go.Proofs.YtanoiiodnddkfaaGreat.questArg
open Go.ChangeShapes Go.WideShapes Go.RowKit Go.Deep Go.Proofs.YtanoiiodnddkfaaGreat.kit Go.Proofs.YtanoiiodnddkfaaGreat.timed Go.Proofs.YtanoiiodnddkfaaGreat.wireP Go.Proofs.YtanoiiodnddkfaaGreat.wireM Go.Proofs.YtanoiiodnddkfaaGreat.rows Go.Proofs.YtanoiiodnddkfaaGreat.msgArg
set_option linter.unusedVariables false

/-- what is known of records handed in -/
structure InR (w : World) (a : Option Addr) (n c : Nat) (L : List Rc) (b : Nat) : Prop where
  len : n = L.length
  rd : RdC w a 5 (L.map Rc.cells)
  nil : a = none → L.length = 0 ∧ c = 0
  le : n ≤ b
  sz : ∀ x ∈ L, (x.o.size ≤ b ∧ x.d.size ≤ b) ∧ x.d.size ≤ maxLen
/-- what is known of questions handed in -/
structure InQ (w : World) (a : Option Addr) (n c : Nat) (L : List Qn) (b : Nat) : Prop where
  len : n = L.length
  rd : RdC w a 3 (L.map Qn.cells)
  le : n ≤ b
  sz : ∀ x ∈ L, x.n.size ≤ b
theorem open_recs {H : Type} {enc : TypeId × Value → H} {w : World} {fuel : Nat} {a : Option Addr} {len cap : Nat} {d : DataW H} {p : List MemPlace}
    (h : DataW.trod enc Tryz.prog w 0 (fun _ => true) true fuel 22 (Value.slice a len cap).cells.toList = some (d, p)) :
    ∃ L : List Rc, InR w a len cap L (Rows.uptoBulk d) := by
  obtain ⟨L, h1, h2, h3, h4, _, h6⟩ := open_rows Rc.cells 5 (by decide) (fun _ => rfl) (fun t b => (t.o.size ≤ b ∧ t.d.size ≤ b) ∧ t.d.size ≤ maxLen) Tryz.underlying22 cellsRec (fun t x y h1 h2 => ⟨⟨Nat.le_trans h1.1.1 h2, Nat.le_trans h1.1.2 h2⟩, h1.2⟩) (fun n cs x h => rec_cells h) h
  exact ⟨L, h1, h2, h3, h4, h6⟩
theorem open_quests {H : Type} {enc : TypeId × Value → H} {w : World} {fuel : Nat} {a : Option Addr} {len cap : Nat} {d : DataW H} {p : List MemPlace}
    (h : DataW.trod enc Tryz.prog w 0 (fun _ => true) true fuel 23 (Value.slice a len cap).cells.toList = some (d, p)) :
    ∃ L : List Qn, InQ w a len cap L (Rows.uptoBulk d) := by
  obtain ⟨L, h1, h2, h3, h4, _, h6⟩ := open_rows Qn.cells 3 (by decide) (fun _ => rfl) (fun t b => t.n.size ≤ b) Tryz.underlying23 cellsQn (fun t x y h1 h2 => Nat.le_trans h1 h2) (fun n cs x h => qn_cells h) h
  exact ⟨L, h1, h2, h4, h6⟩
end Go.Proofs.YtanoiiodnddkfaaGreat.questArg
namespace Go.Proofs.YtanoiiodnddkfaaGreat.proofJudges
open Go.RowKit Go.Proofs.YtanoiiodnddkfaaGreat.kit Go.Proofs.YtanoiiodnddkfaaGreat.timed Go.Proofs.YtanoiiodnddkfaaGreat.nspec Go.Proofs.YtanoiiodnddkfaaGreat.wireP Go.Proofs.YtanoiiodnddkfaaGreat.wireM Go.Proofs.YtanoiiodnddkfaaGreat.rows Go.Proofs.YtanoiiodnddkfaaGreat.wholeR Go.Proofs.YtanoiiodnddkfaaGreat.questArg Go.Proofs.YtanoiiodnddkfaaGreat.gapP Go.Proofs.YtanoiiodnddkfaaGreat.readN
set_option linter.unusedVariables false

theorem ckq {w w' : World} {a : Addr} {v : Value} (hB : Below w.heap.size w w') (h : w.cell? a = some v) : w'.cell? a = some v := (hB.cell (p := a) (World.block_lt_of_cell? w _ h)).trans h
/-- what stands while the four calls run -/
def Sq (W : World) (X : Nat) (N : ByteArray) (t : Int) (w : World) : Prop := w.cell? ⟨X, 0, none⟩ = some (.string N) ∧ w.cell? ⟨X, 1, none⟩ = some (.int .i64 t) ∧ Below W.heap.size W w
theorem stepS {W : World} {X : Nat} {N : ByteArray} {t : Int} {w w1 : World} (h : Sq W X N t w) (hB : Below w.heap.size w w1) : Sq W X N t w1 :=
  ⟨ckq hB h.1, ckq hB h.2.1, h.2.2.trans (hB.mono h.2.2.size)⟩
theorem quest_at {w : World} {a : Option Addr} {L : List Qn} (h : RdC w a 3 (L.map Qn.cells)) {k : Nat} {x : Qn} (hk : L[k]? = some x) :
    ∃ g o, a = some ⟨g, o, none⟩ ∧ g < w.heap.size ∧ ∀ i u, x.cells[i]? = some u → w.cell? ⟨g, o + k * 3 + i, none⟩ = some u := by
  obtain ⟨_, g, o, h1, h2, h3⟩ := h k x.cells (by rw [List.getElem?_map, hk]; rfl)
  exact ⟨g, o, h1, h2, h3⟩
set_option maxRecDepth 100000 in
set_option maxHeartbeats 8000000 in
theorem proofJudges_any (ap : ByteArray) (a : Option Addr) (n c : Nat) (L : List Rc) (a2 : Option Addr) (n2 c2 : Nat) (Q : List Qn) (w : World) {b b2 : Nat} (hap : ap.size ≤ 1048576) (hi : InR w a n c L b) (hb : b ≤ 1048576) (hi2 : InQ w a2 n2 c2 Q b2) (hb2 : b2 ≤ 1048576) :
    Calls Tryz.prog 3 #[.string ap, .slice a n c, .slice a2 n2 c2] w fun e w' => e = .returned (.bool true) ∧ Below w.heap.size w w' := by
  have ho : ∀ x ∈ L, x.o.size ≤ 1048576 ∧ x.d.size ≤ maxLen := fun x hx => ⟨by have := (hi.sz x hx).1.1; omega, (hi.sz x hx).2⟩
  have hq : ∀ x ∈ Q, x.n.size ≤ 1048576 := fun x hx => by have := hi2.sz x hx; omega
  have hn1 : n ≤ 1048576 := Nat.le_trans hi.le hb
  have hn2 : n2 ≤ 1048576 := Nat.le_trans hi2.le hb2
  have HO := Lib.hid ho; have HQ := Lib.hid hq; have HN := Lib.hid hi.len; have HR := Lib.hid hi.rd; have HN2 := Lib.hid hi2.len; have HR2 := Lib.hid hi2.rd
  have CT := Lib.hid (twin_at w a c L hi.rd hi.nil (by have := hi.len; omega) w (Below.refl _ _))
  rw [← HN.out] at CT
  clear ho hq hi hi2
  go_enter Tryz.func3, Tryz.ntmps3
  go_wp2_with fail
  refine CT.out.mono ?_
  rintro e w2 ⟨g, cap, rfl, htw, hB2⟩
  have HB2 := Lib.hid hB2
  have HTW := Lib.hid htw
  clear hB2 htw
  trace "1"
  go_wp2_with fail
  go_loopg [14] (n2 + 1) (fun gas kv wr => ∃ (k : Nat), kv = .int .i64 k ∧ k ≤ n2 ∧ k + gas = n2 + 1 ∧ Hid (Below w2.heap.size w2 wr))
  case atStart => exact ⟨0, rfl, by omega, by omega, Lib.hid (Below.refl _ _)⟩
  case round =>
    obtain ⟨k, rfl, hk, hkg, HBwr⟩ := hrel
    have HKG := Lib.hid hkg; clear hkg
    have HBW : Hid (Below w.heap.size w wr) := Lib.hid (HB2.out.trans (HBwr.out.mono HB2.out.size))
    by_cases hlt : k < n2
    · obtain ⟨x, hx⟩ : ∃ x, Q[k]? = some x := ⟨_, List.getElem?_eq_getElem (by have := HN2.out; omega)⟩
      have hxn := HQ.out x (List.mem_of_getElem? hx)
      obtain ⟨g1, o1, rfl, hg1, hcl⟩ := quest_at HR2.out hx
      have hcb : ∀ i u, x.cells[i]? = some u → wr.cell? ⟨g1, o1 + k * 3 + i, none⟩ = some u := fun i u hu => (HBW.out.cell (p := ⟨g1, o1 + k * 3 + i, none⟩) hg1).trans (hcl i u hu)
      have y0 : wr.cell? ⟨g1, o1 + k * 3, none⟩ = some (.string x.n) := hcb 0 _ rfl
      have y1 : wr.cell? ⟨g1, o1 + k * 3 + 1, none⟩ = some (.int .i64 x.t) := hcb 1 _ rfl
      have y2 : wr.cell? ⟨g1, o1 + k * 3 + 2, none⟩ = some (.int .i64 x.c) := hcb 2 _ rfl
      have zk : (0 : Int) ≤ (k : Int) := by omega
      have zl : (k : Int) < (n2 : Int) := by omega
      have hB7 := (Below.refl wr.heap.size wr).alloc (Nat.le_refl _) (.cells #[.string x.n, .int .i64 x.t, .int .i64 x.c] 26)
      have hx7 := heap_alloc_new wr (.cells #[.string x.n, .int .i64 x.t, .int .i64 x.c] 26)
      obtain ⟨X, hX⟩ : ∃ X, wr.heap.size = X := ⟨_, rfl⟩
      obtain ⟨w7, hw7⟩ : ∃ W, wr.alloc (.cells #[.string x.n, .int .i64 x.t, .int .i64 x.c] 26) = W := ⟨_, rfl⟩
      rw [hw7] at hB7 hx7
      rw [hX] at hx7
      have HW7 := Lib.hid hw7; have HX := Lib.hid hX
      have q0 : w7.cell? ⟨X, 0, none⟩ = some (.string x.n) := by simp only [World.cell?, hx7]; rfl
      have q1 : w7.cell? ⟨X, 1, none⟩ = some (.int .i64 x.t) := by simp only [World.cell?, hx7]; rfl
      have HB7 := Lib.hid (HBW.out.trans (hB7.mono HBW.out.size))
      have HB27 := Lib.hid (HBwr.out.trans (hB7.mono HBwr.out.size))
      obtain ⟨J, hJ⟩ : ∃ J, judgeI ap.data.toList L x.n.data.toList x.t = J := ⟨_, rfl⟩
      obtain ⟨AB, hAB⟩ : ∃ J, absentB ap.data.toList L x.n.data.toList = J := ⟨_, rfl⟩
      have HT7 := Lib.hid (HTW.out.below HB27.out)
      have C1 := Lib.hid (fun (wx : World) (hB : Below w7.heap.size w7 wx) => judgeT.judge_any ap (some ⟨g, 0, none⟩) n cap L x.n x.t wx hap hxn HN.out.symm (by omega) ((HT7.out.below hB).rd) HO.out)
      have C2 := Lib.hid (fun (wx : World) (hB : Below w7.heap.size w7 wx) => rjudge.rjudge_any ap a n c L x.n x.t wx hap hxn HN.out.symm hn1 ((HR.out.below HB7.out rfl).below hB rfl) HO.out)
      have C3 := Lib.hid (fun (wx : World) (hB : Below w7.heap.size w7 wx) => judgeT.absent_any ap (some ⟨g, 0, none⟩) n cap L x.n wx hap hxn HN.out.symm (by omega) ((HT7.out.below hB).rd) HO.out)
      have C4 := Lib.hid (fun (wx : World) (hB : Below w7.heap.size w7 wx) => rabsent.rabsent_any ap a n c L x.n wx hap hxn HN.out.symm hn1 ((HR.out.below HB7.out rfl).below hB rfl) HO.out)
      rw [hJ] at C1 C2
      rw [hAB] at C3 C4
      have hjj : (J != J) = false := by simp
      have haa : (AB != AB) = false := by simp
      clear hx hcl hcb hg1 hB7 hX hw7 hx7 hJ hAB
      trace "2"
      go_upto_region 5 with fail
      try rw [HW7.out]
      try rw [HX.out]
      clear y0 y1 y2
      refine heldG.regionG (fun w' => Sq w7 X x.n x.t w') (fun _ => false) (by kernel_rfl) ?_
      have hS0 : Sq w7 X x.n x.t w7.drew := ⟨q0, q1, (Below.refl _ _).drew⟩
      clear q0 q1
      refine takeD (i := 0) (d := 18) (v := .string ap) rfl rfl (by kernel_rfl) (by kernel_rfl) (by kernel_rfl) (fun _ _ _ h => h) (by kernel_rfl) rfl (Or.inl ⟨by kernel_rfl, ?_⟩) hS0 ?_
      · intro wz hSw
        have s0 := hSw.1; have s1 := hSw.2.1
        go_simp
      try simp only [Act.put, List.setIfInBounds_toArray, List.set_cons_zero, List.set_cons_succ]
      refine takeD (i := 1) (d := 19) (v := .slice (some ⟨g, 0, none⟩) n cap) rfl rfl (by kernel_rfl) (by kernel_rfl) (by kernel_rfl) (fun _ _ _ h => h) (by kernel_rfl) rfl (Or.inl ⟨by kernel_rfl, ?_⟩) hS0 ?_
      · intro wz hSw
        have s0 := hSw.1; have s1 := hSw.2.1
        go_simp
      try simp only [Act.put, List.setIfInBounds_toArray, List.set_cons_zero, List.set_cons_succ]
      refine takeD (i := 2) (d := 20) (v := .pointer (some ⟨X, 0, none⟩)) rfl rfl (by kernel_rfl) (by kernel_rfl) (by kernel_rfl) (fun _ _ _ h => h) (by kernel_rfl) rfl (Or.inl ⟨by kernel_rfl, ?_⟩) hS0 ?_
      · intro wz hSw
        have s0 := hSw.1; have s1 := hSw.2.1
        go_simp
      try simp only [Act.put, List.setIfInBounds_toArray, List.set_cons_zero, List.set_cons_succ]
      refine takeD (i := 3) (d := 21) (v := .string x.n) rfl rfl (by kernel_rfl) (by kernel_rfl) (by kernel_rfl) (fun _ _ _ h => h) (by kernel_rfl) rfl (Or.inl ⟨by kernel_rfl, ?_⟩) hS0 ?_
      · intro wz hSw
        have s0 := hSw.1; have s1 := hSw.2.1
        go_simp
      try simp only [Act.put, List.setIfInBounds_toArray, List.set_cons_zero, List.set_cons_succ]
      refine takeD (i := 4) (d := 22) (v := .pointer (some ⟨X, 1, none⟩)) rfl rfl (by kernel_rfl) (by kernel_rfl) (by kernel_rfl) (fun _ _ _ h => h) (by kernel_rfl) rfl (Or.inl ⟨by kernel_rfl, ?_⟩) hS0 ?_
      · intro wz hSw
        have s0 := hSw.1; have s1 := hSw.2.1
        go_simp
      try simp only [Act.put, List.setIfInBounds_toArray, List.set_cons_zero, List.set_cons_succ]
      refine takeD (i := 5) (d := 23) (v := .int .i64 x.t) rfl rfl (by kernel_rfl) (by kernel_rfl) (by kernel_rfl) (fun _ _ _ h => h) (by kernel_rfl) rfl (Or.inl ⟨by kernel_rfl, ?_⟩) hS0 ?_
      · intro wz hSw
        have s0 := hSw.1; have s1 := hSw.2.1
        go_simp
      try simp only [Act.put, List.setIfInBounds_toArray, List.set_cons_zero, List.set_cons_succ]
      refine takeD (i := 7) (d := 25) (v := .string ap) rfl rfl (by kernel_rfl) (by kernel_rfl) (by kernel_rfl) (fun _ _ _ h => h) (by kernel_rfl) rfl (Or.inl ⟨by kernel_rfl, ?_⟩) hS0 ?_
      · intro wz hSw
        have s0 := hSw.1; have s1 := hSw.2.1
        go_simp
      try simp only [Act.put, List.setIfInBounds_toArray, List.set_cons_zero, List.set_cons_succ]
      refine takeD (i := 8) (d := 26) (v := .slice a n c) rfl rfl (by kernel_rfl) (by kernel_rfl) (by kernel_rfl) (fun _ _ _ h => h) (by kernel_rfl) rfl (Or.inl ⟨by kernel_rfl, ?_⟩) hS0 ?_
      · intro wz hSw
        have s0 := hSw.1; have s1 := hSw.2.1
        go_simp
      try simp only [Act.put, List.setIfInBounds_toArray, List.set_cons_zero, List.set_cons_succ]
      refine takeD (i := 9) (d := 27) (v := .pointer (some ⟨X, 0, none⟩)) rfl rfl (by kernel_rfl) (by kernel_rfl) (by kernel_rfl) (fun _ _ _ h => h) (by kernel_rfl) rfl (Or.inl ⟨by kernel_rfl, ?_⟩) hS0 ?_
      · intro wz hSw
        have s0 := hSw.1; have s1 := hSw.2.1
        go_simp
      try simp only [Act.put, List.setIfInBounds_toArray, List.set_cons_zero, List.set_cons_succ]
      refine takeD (i := 10) (d := 28) (v := .string x.n) rfl rfl (by kernel_rfl) (by kernel_rfl) (by kernel_rfl) (fun _ _ _ h => h) (by kernel_rfl) rfl (Or.inl ⟨by kernel_rfl, ?_⟩) hS0 ?_
      · intro wz hSw
        have s0 := hSw.1; have s1 := hSw.2.1
        go_simp
      try simp only [Act.put, List.setIfInBounds_toArray, List.set_cons_zero, List.set_cons_succ]
      refine takeD (i := 11) (d := 29) (v := .pointer (some ⟨X, 1, none⟩)) rfl rfl (by kernel_rfl) (by kernel_rfl) (by kernel_rfl) (fun _ _ _ h => h) (by kernel_rfl) rfl (Or.inl ⟨by kernel_rfl, ?_⟩) hS0 ?_
      · intro wz hSw
        have s0 := hSw.1; have s1 := hSw.2.1
        go_simp
      try simp only [Act.put, List.setIfInBounds_toArray, List.set_cons_zero, List.set_cons_succ]
      refine takeD (i := 12) (d := 30) (v := .int .i64 x.t) rfl rfl (by kernel_rfl) (by kernel_rfl) (by kernel_rfl) (fun _ _ _ h => h) (by kernel_rfl) rfl (Or.inl ⟨by kernel_rfl, ?_⟩) hS0 ?_
      · intro wz hSw
        have s0 := hSw.1; have s1 := hSw.2.1
        go_simp
      try simp only [Act.put, List.setIfInBounds_toArray, List.set_cons_zero, List.set_cons_succ]
      refine heldG.readyG (rs := [6]) (by kernel_rfl) (by simp) ?_
      refine heldG.AllG.cons rfl (fun KK hKK => ?_) heldG.AllG.nil
      go_simp
      refine (C1.out _ hS0.2.2).mono ?_
      rintro en whS1 ⟨rfl, hBz⟩
      have hS1 := stepS hS0 hBz
      dsimp only
      refine hKK.out _ _ (fun _ => hS1) ?_; clear hKK KK hBz
      try simp only [Act.put, List.setIfInBounds_toArray, List.set_cons_zero, List.set_cons_succ]
      refine heldG.readyG (rs := [13]) (by kernel_rfl) (by simp) ?_
      refine heldG.AllG.cons rfl (fun KK hKK => ?_) heldG.AllG.nil
      go_simp
      refine (C2.out _ hS1.2.2).mono ?_
      rintro en whS2 ⟨rfl, hBz⟩
      have hS2 := stepS hS1 hBz
      dsimp only
      refine hKK.out _ _ (fun _ => hS2) ?_; clear hKK KK hBz
      try simp only [Act.put, List.setIfInBounds_toArray, List.set_cons_zero, List.set_cons_succ]
      refine takeD (i := 14) (d := 32) (v := .bool false) rfl rfl (by kernel_rfl) (by kernel_rfl) (by kernel_rfl) (fun _ _ _ h => h) (by kernel_rfl) rfl (Or.inl ⟨by kernel_rfl, ?_⟩) hS2 ?_
      · intro wz hSw
        have s0 := hSw.1; have s1 := hSw.2.1
        go_simp; first | done | exact hjj | simp
      try simp only [Act.put, List.setIfInBounds_toArray, List.set_cons_zero, List.set_cons_succ]
      refine takeD (i := 15) (d := 33) (v := .bool false) rfl rfl (by kernel_rfl) (by kernel_rfl) (by kernel_rfl) (fun _ _ _ h => h) (by kernel_rfl) rfl (Or.inl ⟨by kernel_rfl, ?_⟩) hS2 ?_
      · intro wz hSw
        have s0 := hSw.1; have s1 := hSw.2.1
        go_simp
      try simp only [Act.put, List.setIfInBounds_toArray, List.set_cons_zero, List.set_cons_succ]
      refine takeD (i := 16) (d := 34) (v := .string ap) rfl rfl (by kernel_rfl) (by kernel_rfl) (by kernel_rfl) (fun _ _ _ h => h) (by kernel_rfl) rfl (Or.inl ⟨by kernel_rfl, ?_⟩) hS2 ?_
      · intro wz hSw
        have s0 := hSw.1; have s1 := hSw.2.1
        go_simp
      try simp only [Act.put, List.setIfInBounds_toArray, List.set_cons_zero, List.set_cons_succ]
      refine takeD (i := 17) (d := 35) (v := .slice (some ⟨g, 0, none⟩) n cap) rfl rfl (by kernel_rfl) (by kernel_rfl) (by kernel_rfl) (fun _ _ _ h => h) (by kernel_rfl) rfl (Or.inl ⟨by kernel_rfl, ?_⟩) hS2 ?_
      · intro wz hSw
        have s0 := hSw.1; have s1 := hSw.2.1
        go_simp
      try simp only [Act.put, List.setIfInBounds_toArray, List.set_cons_zero, List.set_cons_succ]
      refine takeD (i := 18) (d := 36) (v := .pointer (some ⟨X, 0, none⟩)) rfl rfl (by kernel_rfl) (by kernel_rfl) (by kernel_rfl) (fun _ _ _ h => h) (by kernel_rfl) rfl (Or.inl ⟨by kernel_rfl, ?_⟩) hS2 ?_
      · intro wz hSw
        have s0 := hSw.1; have s1 := hSw.2.1
        go_simp
      try simp only [Act.put, List.setIfInBounds_toArray, List.set_cons_zero, List.set_cons_succ]
      refine takeD (i := 19) (d := 37) (v := .string x.n) rfl rfl (by kernel_rfl) (by kernel_rfl) (by kernel_rfl) (fun _ _ _ h => h) (by kernel_rfl) rfl (Or.inl ⟨by kernel_rfl, ?_⟩) hS2 ?_
      · intro wz hSw
        have s0 := hSw.1; have s1 := hSw.2.1
        go_simp
      try simp only [Act.put, List.setIfInBounds_toArray, List.set_cons_zero, List.set_cons_succ]
      refine takeD (i := 21) (d := 39) (v := .string ap) rfl rfl (by kernel_rfl) (by kernel_rfl) (by kernel_rfl) (fun _ _ _ h => h) (by kernel_rfl) rfl (Or.inl ⟨by kernel_rfl, ?_⟩) hS2 ?_
      · intro wz hSw
        have s0 := hSw.1; have s1 := hSw.2.1
        go_simp
      try simp only [Act.put, List.setIfInBounds_toArray, List.set_cons_zero, List.set_cons_succ]
      refine takeD (i := 22) (d := 40) (v := .slice a n c) rfl rfl (by kernel_rfl) (by kernel_rfl) (by kernel_rfl) (fun _ _ _ h => h) (by kernel_rfl) rfl (Or.inl ⟨by kernel_rfl, ?_⟩) hS2 ?_
      · intro wz hSw
        have s0 := hSw.1; have s1 := hSw.2.1
        go_simp
      try simp only [Act.put, List.setIfInBounds_toArray, List.set_cons_zero, List.set_cons_succ]
      refine takeD (i := 23) (d := 41) (v := .pointer (some ⟨X, 0, none⟩)) rfl rfl (by kernel_rfl) (by kernel_rfl) (by kernel_rfl) (fun _ _ _ h => h) (by kernel_rfl) rfl (Or.inl ⟨by kernel_rfl, ?_⟩) hS2 ?_
      · intro wz hSw
        have s0 := hSw.1; have s1 := hSw.2.1
        go_simp
      try simp only [Act.put, List.setIfInBounds_toArray, List.set_cons_zero, List.set_cons_succ]
      refine takeD (i := 24) (d := 42) (v := .string x.n) rfl rfl (by kernel_rfl) (by kernel_rfl) (by kernel_rfl) (fun _ _ _ h => h) (by kernel_rfl) rfl (Or.inl ⟨by kernel_rfl, ?_⟩) hS2 ?_
      · intro wz hSw
        have s0 := hSw.1; have s1 := hSw.2.1
        go_simp
      try simp only [Act.put, List.setIfInBounds_toArray, List.set_cons_zero, List.set_cons_succ]
      refine heldG.readyG (rs := [20]) (by kernel_rfl) (by simp) ?_
      refine heldG.AllG.cons rfl (fun KK hKK => ?_) heldG.AllG.nil
      go_simp
      refine (C3.out _ hS2.2.2).mono ?_
      rintro en whS3 ⟨rfl, hBz⟩
      have hS3 := stepS hS2 hBz
      dsimp only
      refine hKK.out _ _ (fun _ => hS3) ?_; clear hKK KK hBz
      try simp only [Act.put, List.setIfInBounds_toArray, List.set_cons_zero, List.set_cons_succ]
      refine heldG.readyG (rs := [25]) (by kernel_rfl) (by simp) ?_
      refine heldG.AllG.cons rfl (fun KK hKK => ?_) heldG.AllG.nil
      go_simp
      refine (C4.out _ hS3.2.2).mono ?_
      rintro en whS4 ⟨rfl, hBz⟩
      have hS4 := stepS hS3 hBz
      dsimp only
      refine hKK.out _ _ (fun _ => hS4) ?_; clear hKK KK hBz
      try simp only [Act.put, List.setIfInBounds_toArray, List.set_cons_zero, List.set_cons_succ]
      refine takeD (i := 26) (d := 44) (v := .bool false) rfl rfl (by kernel_rfl) (by kernel_rfl) (by kernel_rfl) (fun _ _ _ h => h) (by kernel_rfl) rfl (Or.inl ⟨by kernel_rfl, ?_⟩) hS4 ?_
      · intro wz hSw
        have s0 := hSw.1; have s1 := hSw.2.1
        go_simp; first | done | exact haa | simp
      try simp only [Act.put, List.setIfInBounds_toArray, List.set_cons_zero, List.set_cons_succ]
      refine takeD (i := 27) (d := 45) (v := .bool false) rfl rfl (by kernel_rfl) (by kernel_rfl) (by kernel_rfl) (fun _ _ _ h => h) (by kernel_rfl) rfl (Or.inl ⟨by kernel_rfl, ?_⟩) hS4 ?_
      · intro wz hSw
        have s0 := hSw.1; have s1 := hSw.2.1
        go_simp
      try simp only [Act.put, List.setIfInBounds_toArray, List.set_cons_zero, List.set_cons_succ]
      refine heldG.doneG (by kernel_rfl) ?_ _
      have HB8 := Lib.hid (HB27.out.trans (hS4.2.2.mono HB27.out.size))
      clear hS0 hS1 hS2 hS3 hS4
      trace "3"
      go_wp2_with fail
      have hkg := HKG.out
      go_roundg (gk - 1)
      case rel => exact ⟨k + 1, by go_num, by omega, by omega, HB8⟩
      case measure => omega
    · have hnl : ¬ (k : Int) < (n2 : Int) := by omega
      have CWH := Lib.hid (whole_any (some ⟨g, 0, none⟩) a cap c w.heap.size L wr (HTW.out.below HBwr.out) (HR.out.below HBW.out rfl) (by have := HN.out; omega))
      rw [← HN.out] at CWH
      trace "4"
      go_wp2_with fail
      refine CWH.out.mono ?_
      rintro e w9 ⟨rfl, hB9⟩
      have HB9 := Lib.hid (HBW.out.trans (hB9.mono HBW.out.size))
      clear hB9
      go_wp2_with fail
      go_ret
      exact ⟨rfl, HB9.out⟩
end Go.Proofs.YtanoiiodnddkfaaGreat.proofJudges
