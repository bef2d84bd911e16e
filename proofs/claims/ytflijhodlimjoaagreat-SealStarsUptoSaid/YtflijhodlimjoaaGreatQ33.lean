/- A message handed in: opened. A list of records handed in: opened; how long their folded data are. The law gazetteerlaw4.SealSigns: the two signatures are one, the records are only read: walk. What fits a signature, in plain words. The parts of an RRSIG: seal.parts: walk. -/
import Derived.Test.YtflijhodlimjoaaGreatK19
import Derived.Test.YtflijhodlimjoaaGreatK18
import Derived.Test.YtflijhodlimjoaaGreatK17
import Derived.Test.YtflijhodlimjoaaGreatK30
import Derived.Test.YtflijhodlimjoaaGreatK32
import Derived.Test.YtflijhodlimjoaaGreatK29
import Derived.Test.YtflijhodlimjoaaGreatK20
import Derived.Deep.Slices
import Derived.Deep.Fields
import Derived.ChangeSame
import Derived.Carry
import Derived.ChangeOld
import Derived.ProofKit
import Derived.BigRegion
namespace Go.Proofs.YtflijhodlimjoaaGreat.msgArg
open Go.ChangeShapes Go.WideShapes Go.RowKit Go.Deep Go.Proofs.YtflijhodlimjoaaGreat.kit Go.Proofs.YtflijhodlimjoaaGreat.timed Go.Proofs.YtflijhodlimjoaaGreat.wireP Go.Proofs.YtflijhodlimjoaaGreat.wireM Go.Proofs.YtflijhodlimjoaaGreat.rows
set_option linter.unusedVariables false

theorem got {α : Type} {l : List α} {i n : Nat} (h : l.length = n) (hi : i < n) : ∃ y, l[i]? = some y := ⟨_, List.getElem?_eq_getElem (by omega)⟩
theorem one_at {cs : List Value} {o : Nat} {v : Value} (h : (cs.drop o).take 1 = [v]) : cs[o]? = some v := by
  have : ((cs.drop o).take 1)[0]? = some v := by rw [h]; rfl
  rw [List.getElem?_take_of_lt (by omega), List.getElem?_drop] at this; simpa using this
theorem choose_list {α : Type} (p : Nat → α → Prop) : ∀ n, (∀ i, i < n → ∃ x, p i x) → ∃ l : List α, l.length = n ∧ ∀ i x, l[i]? = some x → p i x
  | 0, _ => ⟨[], rfl, by simp⟩
  | n + 1, h => by
    obtain ⟨l, hl, hp⟩ := choose_list p n (fun i hi => h i (by omega))
    obtain ⟨x, hx⟩ := h n (by omega)
    refine ⟨l ++ [x], by simp [hl], fun i y hy => ?_⟩
    by_cases hi : i < n
    · rw [List.getElem?_append_left (by omega)] at hy; exact hp i y hy
    · have hlt := (List.getElem?_eq_some_iff.1 hy).1
      have : i = n := by simp [hl] at hlt; omega
      subst this
      rw [List.getElem?_append_right (by omega), hl, Nat.sub_self] at hy
      simp at hy; subst hy; exact hx
theorem cell_lt {w : World} {a : Addr} {v : Value} (h : w.cell? a = some v) : a.block < w.heap.size := by
  rcases Nat.lt_or_ge a.block w.heap.size with h' | h'
  · exact h'
  · simp [World.cell?, Array.getElem?_eq_none h'] at h
set_option maxRecDepth 100000 in
theorem bulk_len {H : Type} : ∀ l : List (DataW H), (∀ x ∈ l, 1 ≤ Rows.uptoBulk x) → l.length ≤ Rows.uptoBulkAll l
  | [], _ => Nat.zero_le _
  | x :: l, h => by
    have h1 := bulk_len l (fun y hy => h y (List.mem_cons_of_mem _ hy))
    have h2 := h x List.mem_cons_self
    have e : Rows.uptoBulkAll (x :: l) = Rows.uptoBulk x + Rows.uptoBulkAll l := rfl
    rw [e, List.length_cons]; omega
set_option maxRecDepth 100000 in
theorem bulk_mem {H : Type} : ∀ (l : List (DataW H)) (x : DataW H), x ∈ l → Rows.uptoBulk x ≤ Rows.uptoBulkAll l
  | y :: l, x, h => by
    have e : Rows.uptoBulkAll (y :: l) = Rows.uptoBulk y + Rows.uptoBulkAll l := rfl
    rw [e]
    rcases List.mem_cons.1 h with rfl | h
    · omega
    · have := bulk_mem l x h; omega
set_option maxRecDepth 100000 in
/-- a list of rows handed in -/
theorem open_rows {α : Type} (f : α → List Value) (m : Nat) (hm0 : 0 < m) (hf : ∀ x, (f x).length = m) (G : α → Nat → Prop) {H : Type} {enc : TypeId × Value → H} {w : World} {fuel : Nat} {a : Option Addr} {len cap : Nat} {d : DataW H} {p : List MemPlace} {T E : TypeId}
    (hT : Tryz.prog.underlying T = some (.slice E)) (hE : Tryz.prog.cellsOf E = m) (hG : ∀ t x y, G t x → x ≤ y → G t y)
    (hc : ∀ (n : Nat) (cs : List Value) (x : DataW H × List MemPlace), DataW.trod enc Tryz.prog w 0 (fun _ => true) true n E cs = some x → ∃ t, cs = f t ∧ G t (Rows.uptoBulk x.1) ∧ 1 ≤ Rows.uptoBulk x.1)
    (h : DataW.trod enc Tryz.prog w 0 (fun _ => true) true fuel T (Value.slice a len cap).cells.toList = some (d, p)) :
    ∃ ls : List α, len = ls.length ∧ RdC w a m (ls.map f) ∧ (a = none → ls.length = 0 ∧ cap = 0) ∧ len ≤ Rows.uptoBulk d ∧ len ≤ maxLen ∧ ∀ t ∈ ls, G t (Rows.uptoBulk d) := by
  rcases open_slice hT h with ⟨hcs, hx⟩ | ⟨ad, len', cap', m', n, D, Pl, hcs, hb, hl, hm, hmm, hx, hi⟩
  · simp [Value.cells] at hcs
    obtain ⟨rfl, rfl, rfl⟩ := hcs
    exact ⟨[], rfl, RdC.nil _ _ _, fun _ => ⟨rfl, rfl⟩, Nat.zero_le _, Nat.zero_le _, by simp⟩
  · simp [Value.cells] at hcs
    obtain ⟨rfl, rfl, rfl⟩ := hcs
    simp only [if_true] at hmm
    subst hmm
    simp only [Prod.mk.injEq] at hx
    obtain ⟨rfl, rfl⟩ := hx
    rw [hE] at hi
    have e : ∀ (l1 l2 : List (DataW H)), Rows.uptoBulk (DataW.slice l1 l2) = Rows.uptoBulkAll l1 + Rows.uptoBulkAll l2 + 1 := fun _ _ => rfl
    obtain ⟨ls, hll, hls⟩ := choose_list (fun i (t : α) => w.cells? 0 (ad.add (i * m)) m = some (f t) ∧ G t (Rows.uptoBulk (D i))) len (fun i hi2 => by
      obtain ⟨cs', h1, h2⟩ := hi i (by omega)
      obtain ⟨t, rfl, hg, _⟩ := hc _ _ _ h2
      exact ⟨t, h1, hg⟩)
    refine ⟨ls, hll.symm, ?_, (fun h => by cases h), ?_, Nat.le_trans hl hm, ?_⟩
    · intro j row hrow
      rw [List.getElem?_map] at hrow
      obtain ⟨t, ht, rfl⟩ := Option.map_eq_some_iff.1 hrow
      have hc' := (hls j t ht).1
      obtain ⟨_, hlen, hcell⟩ := World.cells?_some hc'
      obtain ⟨u1, hu1⟩ : ∃ u1, (f t)[0]? = some u1 := ⟨_, List.getElem?_eq_getElem (by rw [hf]; exact hm0)⟩
      have hc0 := hcell 0 hm0
      rw [hu1] at hc0
      obtain ⟨g, o, sp⟩ := ad
      have hspot : sp = none := by
        obtain ⟨t0, ht0⟩ : ∃ t0, ls[0]? = some t0 := ⟨_, List.getElem?_eq_getElem (by have := (List.getElem?_eq_some_iff.1 ht).1; omega)⟩
        obtain ⟨_, _, hcell00⟩ := World.cells?_some (hls 0 t0 ht0).1
        obtain ⟨u0, hu0⟩ : ∃ u0, (f t0)[0]? = some u0 := ⟨_, List.getElem?_eq_getElem (by rw [hf]; exact hm0)⟩
        have h00 := hcell00 0 hm0
        rw [hu0] at h00
        simpa [Addr.add] using World.cell?_spot h00
      subst hspot
      have hadd : ∀ (o k : Nat), (⟨g, o, none⟩ : Addr).add k = ⟨g, o + k, none⟩ := fun o k => by unfold Addr.add; split <;> simp_all
      refine ⟨hf t, g, o, rfl, ?_, fun i u hu => ?_⟩
      · have := cell_lt hc0; simpa [hadd] using this
      · have hi8 : i < m := by have := (List.getElem?_eq_some_iff.1 hu).1; rw [hf] at this; exact this
        have := hcell i hi8
        rw [hadd, hadd] at this
        rw [this]
        exact hu
    · have hbl := bulk_len ((List.range len).map D) (fun x hx => by
        obtain ⟨i, hi3, rfl⟩ := List.mem_map.1 hx
        obtain ⟨cs', _, h2⟩ := hi i (by have := List.mem_range.1 hi3; omega)
        obtain ⟨_, _, _, h3⟩ := hc _ _ _ h2
        exact h3)
      rw [e]
      rw [List.length_map, List.length_range] at hbl
      omega
    · intro t ht
      obtain ⟨i, hi1, hi2⟩ := List.getElem_of_mem ht
      have hti : ls[i]? = some t := by rw [List.getElem?_eq_getElem hi1, hi2]
      refine hG _ _ _ (hls i t hti).2 ?_
      rw [e]
      have := bulk_mem ((List.range len).map D) (D i) (List.mem_map.2 ⟨i, List.mem_range.2 (by omega), rfl⟩)
      omega

section
variable {H : Type} {enc : TypeId × Value → H} {w : World} {base : Nat} {spare : Nat → Bool} {held : Bool}
theorem cellsInt : Tryz.prog.cellsOf 3 = 1 := by kernel_rfl
theorem cellsBool : Tryz.prog.cellsOf 4 = 1 := by kernel_rfl
theorem cellsString : Tryz.prog.cellsOf 9 = 1 := by kernel_rfl
theorem cellsRecs : Tryz.prog.cellsOf 22 = 1 := by kernel_rfl
theorem cellsQns : Tryz.prog.cellsOf 23 = 1 := by kernel_rfl
theorem cellsRec : Tryz.prog.cellsOf 34 = 5 := by kernel_rfl
theorem cellsQn : Tryz.prog.cellsOf 26 = 3 := by kernel_rfl
theorem int_at {n : Nat} {cs : List Value} {o : Nat} {y : DataW H × List MemPlace} (h : DataW.trod enc Tryz.prog w base spare held n 3 ((cs.drop o).take (Tryz.prog.cellsOf 3)) = some y) : ∃ z, cs[o]? = some (.int .i64 z) := by
  rw [cellsInt] at h
  obtain ⟨z, hz, _⟩ := DataW.trod_int Tryz.underlying3 h
  exact ⟨z, one_at hz⟩
theorem bool_at {n : Nat} {cs : List Value} {o : Nat} {y : DataW H × List MemPlace} (h : DataW.trod enc Tryz.prog w base spare held n 4 ((cs.drop o).take (Tryz.prog.cellsOf 4)) = some y) : ∃ z, cs[o]? = some (.bool z) := by
  rw [cellsBool] at h
  obtain ⟨z, hz, _⟩ := DataW.trod_bool Tryz.underlying4 h
  exact ⟨z, one_at hz⟩
theorem str_at {n : Nat} {cs : List Value} {o : Nat} {y : DataW H × List MemPlace} (h : DataW.trod enc Tryz.prog w base spare held n 9 ((cs.drop o).take (Tryz.prog.cellsOf 9)) = some y) : ∃ z : ByteArray, cs[o]? = some (.string z) ∧ z.size ≤ Rows.uptoBulk y.1 ∧ z.size ≤ maxLen := by
  rw [cellsString] at h
  obtain ⟨z, hz, hy, hm⟩ := DataW.trod_string Tryz.underlying9 h
  subst hy
  have e : Rows.uptoBulk (DataW.lit (H := H) (.string z.data.toList)) = z.data.toList.length + 1 := rfl
  refine ⟨z, one_at hz, ?_, hm⟩
  rw [e, size_len]; omega
theorem bulk_agg (xs : List (DataW H × List MemPlace)) {i : Nat} {y : DataW H × List MemPlace} (hy : xs[i]? = some y) : Rows.uptoBulk y.1 ≤ Rows.uptoBulk (DataW.agg (xs.map (·.1))) := by
  have e : Rows.uptoBulk (DataW.agg (xs.map (·.1))) = Rows.uptoBulkAll (xs.map (·.1)) + 1 := rfl
  have := bulk_mem (xs.map (·.1)) y.1 (List.mem_map.2 ⟨y, List.mem_of_getElem? hy, rfl⟩)
  omega
set_option maxRecDepth 100000 in
theorem rec_cells {n : Nat} {cs : List Value} {x : DataW H × List MemPlace} (h : DataW.trod enc Tryz.prog w base spare held n 34 cs = some x) : ∃ t : Rc, cs = t.cells ∧ ((t.o.size ≤ Rows.uptoBulk x.1 ∧ t.d.size ≤ Rows.uptoBulk x.1) ∧ t.d.size ≤ maxLen) ∧ 1 ≤ Rows.uptoBulk x.1 := by
  obtain ⟨xs, n', _, rfl, hlen, hxl, hf⟩ := DataW.trod_struct Tryz.underlying34 h
  rw [cellsRec] at hlen
  obtain ⟨y0, e0⟩ := got hxl (i := 0) (by decide)
  obtain ⟨y1, e1⟩ := got hxl (i := 1) (by decide)
  obtain ⟨y2, e2⟩ := got hxl (i := 2) (by decide)
  obtain ⟨y3, e3⟩ := got hxl (i := 3) (by decide)
  obtain ⟨y4, e4⟩ := got hxl (i := 4) (by decide)
  obtain ⟨z0, q0, s0, _⟩ := str_at (o := 0) ((hf 0 _ rfl).trans e0)
  obtain ⟨z1, q1⟩ := int_at (o := 1) ((hf 1 _ rfl).trans e1)
  obtain ⟨z2, q2⟩ := int_at (o := 2) ((hf 2 _ rfl).trans e2)
  obtain ⟨z3, q3⟩ := int_at (o := 3) ((hf 3 _ rfl).trans e3)
  obtain ⟨z4, q4, s4, m4⟩ := str_at (o := 4) ((hf 4 _ rfl).trans e4)
  refine ⟨⟨z0, z1, z2, z3, z4⟩, ?_, ⟨⟨Nat.le_trans s0 (bulk_agg xs e0), Nat.le_trans s4 (bulk_agg xs e4)⟩, m4⟩, ?_⟩
  · apply List.ext_getElem?
    intro i
    match i with
    | 0 => simpa [Rc.cells] using q0
    | 1 => simpa [Rc.cells] using q1
    | 2 => simpa [Rc.cells] using q2
    | 3 => simpa [Rc.cells] using q3
    | 4 => simpa [Rc.cells] using q4
    | i + 5 => rw [List.getElem?_eq_none (by omega), List.getElem?_eq_none (by simp [Rc.cells])]
  · show 1 ≤ Rows.uptoBulkAll (xs.map (·.1)) + 1
    omega
set_option maxRecDepth 100000 in
theorem qn_cells {n : Nat} {cs : List Value} {x : DataW H × List MemPlace} (h : DataW.trod enc Tryz.prog w base spare held n 26 cs = some x) : ∃ t : Qn, cs = t.cells ∧ (t.n.size ≤ Rows.uptoBulk x.1) ∧ 1 ≤ Rows.uptoBulk x.1 := by
  obtain ⟨xs, n', _, rfl, hlen, hxl, hf⟩ := DataW.trod_struct Tryz.underlying26 h
  rw [cellsQn] at hlen
  obtain ⟨y0, e0⟩ := got hxl (i := 0) (by decide)
  obtain ⟨y1, e1⟩ := got hxl (i := 1) (by decide)
  obtain ⟨y2, e2⟩ := got hxl (i := 2) (by decide)
  obtain ⟨z0, q0, s0, _⟩ := str_at (o := 0) ((hf 0 _ rfl).trans e0)
  obtain ⟨z1, q1⟩ := int_at (o := 1) ((hf 1 _ rfl).trans e1)
  obtain ⟨z2, q2⟩ := int_at (o := 2) ((hf 2 _ rfl).trans e2)
  refine ⟨⟨z0, z1, z2⟩, ?_, Nat.le_trans s0 (bulk_agg xs e0), ?_⟩
  · apply List.ext_getElem?
    intro i
    match i with
    | 0 => simpa [Qn.cells] using q0
    | 1 => simpa [Qn.cells] using q1
    | 2 => simpa [Qn.cells] using q2
    | i + 3 => rw [List.getElem?_eq_none (by omega), List.getElem?_eq_none (by simp [Qn.cells])]
  · show 1 ≤ Rows.uptoBulkAll (xs.map (·.1)) + 1
    omega
end
section
variable {H : Type} {enc : TypeId × Value → H} {w : World}
theorem slice_form {n : Nat} {cs : List Value} {o : Nat} {T E : TypeId} {y : DataW H × List MemPlace} (hT : Tryz.prog.underlying T = some (.slice E)) (hc : Tryz.prog.cellsOf T = 1) (h : DataW.trod enc Tryz.prog w 0 (fun _ => true) true n T ((cs.drop o).take (Tryz.prog.cellsOf T)) = some y) :
    ∃ a l c, cs[o]? = some (.slice a l c) ∧ DataW.trod enc Tryz.prog w 0 (fun _ => true) true n T (Value.slice a l c).cells.toList = some y := by
  rw [hc] at h
  have hs : ∃ (a : Option Addr) (l c : Nat), (cs.drop o).take 1 = [.slice a l c] := by
    rcases open_slice hT h with ⟨g0, _⟩ | ⟨ad, len, cap, _, _, _, _, g0, _⟩
    · exact ⟨none, 0, 0, g0⟩
    · exact ⟨some ad, len, cap, g0⟩
  obtain ⟨a, l, c, q0⟩ := hs
  rw [q0] at h
  exact ⟨a, l, c, one_at q0, h⟩
/-- what is known of a message handed in -/
structure InM (w : World) (p : Pl) (m : Mg) (b : Nat) : Prop where
  rd : RdM w p m
  nil : NilM p m
  qnil : p.qa = none → m.qs.length = 0 ∧ p.qc = 0
  lens : m.qs.length ≤ b ∧ m.an.length ≤ b ∧ m.au.length ≤ b ∧ m.ar.length ≤ b
  sq : ∀ x ∈ m.qs, x.n.size ≤ b
  sn : ∀ x ∈ m.an, x.o.size ≤ b ∧ x.d.size ≤ b
  su : ∀ x ∈ m.au, x.o.size ≤ b ∧ x.d.size ≤ b
  sr : ∀ x ∈ m.ar, x.o.size ≤ b ∧ x.d.size ≤ b
  w : OkW m
theorem InM.ok {p : Pl} {m : Mg} {b : Nat} (h : InM w p m b) (hb : b ≤ 1099511627776) : OkM m :=
  ⟨fun x hx => Nat.le_trans (h.sq x hx) hb, fun x hx => ⟨Nat.le_trans (h.sn x hx).1 hb, Nat.le_trans (h.sn x hx).2 hb⟩, fun x hx => ⟨Nat.le_trans (h.su x hx).1 hb, Nat.le_trans (h.su x hx).2 hb⟩, fun x hx => ⟨Nat.le_trans (h.sr x hx).1 hb, Nat.le_trans (h.sr x hx).2 hb⟩, Nat.le_trans h.lens.1 hb, Nat.le_trans h.lens.2.1 hb, Nat.le_trans h.lens.2.2.1 hb, Nat.le_trans h.lens.2.2.2 hb⟩
end
end Go.Proofs.YtflijhodlimjoaaGreat.msgArg
namespace Go.Proofs.YtflijhodlimjoaaGreat.recsArg
open Go.ChangeShapes Go.WideShapes Go.RowKit Go.Deep Go.Proofs.YtflijhodlimjoaaGreat.kit Go.Proofs.YtflijhodlimjoaaGreat.timed Go.Proofs.YtflijhodlimjoaaGreat.nspec Go.Proofs.YtflijhodlimjoaaGreat.refA Go.Proofs.YtflijhodlimjoaaGreat.refB Go.Proofs.YtflijhodlimjoaaGreat.wireP Go.Proofs.YtflijhodlimjoaaGreat.wireM Go.Proofs.YtflijhodlimjoaaGreat.rows Go.Proofs.YtflijhodlimjoaaGreat.msgArg Go.Proofs.YtflijhodlimjoaaGreat.fld Go.Proofs.YtflijhodlimjoaaGreat.dfold Go.Proofs.YtflijhodlimjoaaGreat.sealS
set_option linter.unusedVariables false

/-- what is known of records handed in -/
structure InR (w : World) (a : Option Addr) (n c : Nat) (L : List Rc) (b : Nat) : Prop where
  len : n = L.length
  rd : RdC w a 5 (L.map Rc.cells)
  nil : a = none → L.length = 0 ∧ c = 0
  le : n ≤ b
  sz : ∀ x ∈ L, x.o.size ≤ b ∧ x.d.size ≤ b
theorem open_recs {H : Type} {enc : TypeId × Value → H} {w : World} {fuel : Nat} {a : Option Addr} {len cap : Nat} {d : DataW H} {p : List MemPlace}
    (h : DataW.trod enc Tryz.prog w 0 (fun _ => true) true fuel 22 (Value.slice a len cap).cells.toList = some (d, p)) :
    ∃ L : List Rc, InR w a len cap L (Rows.uptoBulk d) := by
  obtain ⟨L, h1, h2, h3, h4, _, h6⟩ := open_rows Rc.cells 5 (by decide) (fun _ => rfl) (fun t b => (t.o.size ≤ b ∧ t.d.size ≤ b) ∧ t.d.size ≤ maxLen) Tryz.underlying22 cellsRec (fun t x y h1 h2 => ⟨⟨Nat.le_trans h1.1.1 h2, Nat.le_trans h1.1.2 h2⟩, h1.2⟩) (fun n cs x h => rec_cells h) h
  exact ⟨L, h1, h2, h3, h4, fun x hx => (h6 x hx).1⟩
theorem foldS_le (x : Bs) : (foldS x).length ≤ x.length := by
  cases h : split x with
  | none => rw [foldS_no h]; exact Nat.zero_le _
  | some ls =>
    have hn := split_iff.1 h
    have h1 : x.length = (put ls).length := congrArg List.length hn.1
    rw [foldS_yes hn, h1, put_length, put_length, room_low]
    exact Nat.le_refl _
theorem foldOne_le (f : Fld) (x : Bs) : (foldOne f x).length ≤ x.length := by
  unfold foldOne; split
  · exact foldS_le x
  · exact Nat.le_refl _
theorem foldL_le : ∀ (fs : List Fld) (d : Bs) (p : List Bs) (r : Bs), splitS fs d = some (p, r) → (foldL fs p).length ≤ d.length
  | [], d, p, r, h => by simp [foldL]
  | f :: fs, d, p, r, h => by
    simp only [splitS] at h
    split at h
    · cases h
    · obtain ⟨⟨p', r'⟩, h1, h2⟩ := Option.map_eq_some_iff.1 h
      simp only [Prod.mk.injEq] at h2
      obtain ⟨rfl, rfl⟩ := h2
      have ih := foldL_le fs _ _ _ h1
      simp only [foldL, List.length_append]
      have h3 := foldOne_le f (d.take (takeS f d).toNat)
      rw [List.length_drop] at ih
      rw [List.length_take] at h3
      omega
theorem foldDS_le (t : Int) (d : Bs) : (foldDS t d).length ≤ 65535 := by
  unfold foldDS
  split
  · rename_i hc
    have hl := dnames.check_len hc
    cases hf : formS t with
    | none => simp only; exact hl
    | some fs =>
      obtain ⟨p, h1, h2, h3⟩ := dnames.parts_ok hc hf
      rw [h1]
      simp only
      have := foldL_le fs d p [] h2
      omega
  · simp
theorem bulk_fold : ∀ L : List Rc, bulk (L.map foldX) ≤ 65535 * L.length
  | [] => Nat.le_refl _
  | x :: L => by
    have ih := bulk_fold L
    have h1 : (foldX x).length ≤ 65535 := foldDS_le _ _
    rw [List.map_cons, bulk_cons, List.length_cons]
    omega
theorem InR.ok {w : World} {a : Option Addr} {n c : Nat} {L : List Rc} {b : Nat} (h : InR w a n c L b) (hb : b ≤ 1048576) : (∀ x ∈ L, OkR x) ∧ n ≤ 1048576 ∧ bulk (L.map foldX) ≤ 68719476736 := by
  have h1 := bulk_fold L
  have h2 := h.le
  have h3 := h.len
  exact ⟨fun x hx => ⟨by have := (h.sz x hx).1; omega, by have := (h.sz x hx).2; omega⟩, by omega, by omega⟩
end Go.Proofs.YtflijhodlimjoaaGreat.recsArg
namespace Go.Proofs.YtflijhodlimjoaaGreat.sealSigns
open Go.RowKit Go.Proofs.YtflijhodlimjoaaGreat.kit Go.Proofs.YtflijhodlimjoaaGreat.timed Go.Proofs.YtflijhodlimjoaaGreat.nspec Go.Proofs.YtflijhodlimjoaaGreat.wireP Go.Proofs.YtflijhodlimjoaaGreat.wireM Go.Proofs.YtflijhodlimjoaaGreat.rows Go.Proofs.YtflijhodlimjoaaGreat.sealS Go.Proofs.YtflijhodlimjoaaGreat.signP Go.Proofs.YtflijhodlimjoaaGreat.wholeR Go.Proofs.YtflijhodlimjoaaGreat.recsArg Go.Proofs.YtflijhodlimjoaaGreat.keepN
set_option linter.unusedVariables false

theorem sr_form (kf km ke ks : Int) (sn : ByteArray) (L : List Rc) (fr un : Int) : ∃ (o : ByteArray) (t cl l : Int) (d : ByteArray) (cd : Int), SignR kf km ke ks sn L fr un = .returned (.tuple #[.agg #[.string o, .int .i64 t, .int .i64 cl, .int .i64 l, .string d], .int .i64 cd]) := by
  have hno : ∀ c : Int, ∃ (o : ByteArray) (t cl l : Int) (d : ByteArray) (cd : Int), noR c = .returned (.tuple #[.agg #[.string o, .int .i64 t, .int .i64 cl, .int .i64 l, .string d], .int .i64 cd]) := fun c => ⟨⟨#[]⟩, 0, 0, 0, ⟨#[]⟩, c, rfl⟩
  unfold SignR
  split
  · exact hno _
  split
  · exact hno _
  split
  · exact hno _
  cases L with
  | nil => exact hno _
  | cons h r =>
    simp only
    split
    · exact hno _
    split
    · exact hno _
    split
    · exact hno _
    exact ⟨_, _, _, _, _, _, rfl⟩
set_option maxRecDepth 100000 in
set_option maxHeartbeats 8000000 in
theorem sealSigns_any (kf km ke ks : Int) (sn : ByteArray) (a : Option Addr) (n c : Nat) (L : List Rc) (bg en : Int) (w : World) {b : Nat} (hsn : sn.size ≤ 1048576) (hi : InR w a n c L b) (hb : b ≤ 1048576) (hbg : (Lit.int .i64 bg).wf = true) (hen : (Lit.int .i64 en).wf = true) :
    Calls Tryz.prog 4 #[.agg #[.int .i64 kf, .int .i64 km, .int .i64 ke, .int .i64 ks], .string sn, .slice a n c, .int .i64 bg, .int .i64 en] w fun e w' => e = .returned (.bool true) ∧ Below w.heap.size w w' := by
  obtain ⟨ho, hn1, hbk⟩ := hi.ok hb
  have HO := Lib.hid ho; have HBK := Lib.hid hbk; have HN := Lib.hid hi.len; have HR := Lib.hid hi.rd; have HNIL := Lib.hid hi.nil
  obtain ⟨o, t, cl, l, d, cd, hsr⟩ := sr_form kf km ke ks sn L bg en
  have HSR := Lib.hid hsr
  have hb1 := (Below.refl w.heap.size w).alloc (Nat.le_refl _) (.cells #[.int .i64 kf, .int .i64 km, .int .i64 ke, .int .i64 ks] 32)
  have hk1 := heap_alloc_new w (.cells #[.int .i64 kf, .int .i64 km, .int .i64 ke, .int .i64 ks] 32)
  obtain ⟨X, hX⟩ : ∃ X, w.heap.size = X := ⟨_, rfl⟩
  obtain ⟨W, hW⟩ : ∃ W, w.alloc (.cells #[.int .i64 kf, .int .i64 km, .int .i64 ke, .int .i64 ks] 32) = W := ⟨_, rfl⟩
  rw [hW] at hb1 hk1
  rw [hX] at hk1
  have HX := Lib.hid hX; have HW := Lib.hid hW; have HB1 := Lib.hid hb1; have HK1 := Lib.hid hk1
  have CT := Lib.hid (twin_at W a c L (HR.out.below hb1 rfl) HNIL.out (by have := HN.out; omega) W (Below.refl _ _))
  rw [← HN.out] at CT
  clear ho hbk hi hsr hb1 hk1 hX hW hbg hen
  go_enter Tryz.func4, Tryz.ntmps4
  go_upto_region 1 with fail
  rw [HW.out]
  try rw [HX.out]
  go_wp2_with fail
  refine CT.out.mono ?_
  rintro e w2 ⟨g, cap, rfl, htw, hB2⟩
  have HB2 := Lib.hid (HB1.out.trans (hB2.mono HB1.out.size))
  have HK2 := Lib.hid ((hB2.block X (Array.getElem?_eq_some_iff.1 HK1.out).1).trans HK1.out)
  have HTW := Lib.hid htw
  have CS := Lib.hid (sign.sign_any kf km ke ks sn (some ⟨g, 0, none⟩) n cap L bg en w2 HN.out htw.rd HO.out (by omega) HBK.out (by omega))
  rw [HSR.out] at CS
  have k0 : w2.cell? ⟨X, 0, none⟩ = some (.int .i64 kf) := by simp only [World.cell?, HK2.out]; rfl
  have k1 : w2.cell? ⟨X, 1, none⟩ = some (.int .i64 km) := by simp only [World.cell?, HK2.out]; rfl
  have k2 : w2.cell? ⟨X, 2, none⟩ = some (.int .i64 ke) := by simp only [World.cell?, HK2.out]; rfl
  have k3 : w2.cell? ⟨X, 3, none⟩ = some (.int .i64 ks) := by simp only [World.cell?, HK2.out]; rfl
  clear hB2 htw CT
  trace "1"
  go_wp2_with fail
  refine CS.out.mono ?_
  rintro e w3 ⟨rfl, hB3⟩
  have HB3 := Lib.hid (HB2.out.trans (hB3.mono HB2.out.size))
  have HK3 := Lib.hid ((hB3.block X (Array.getElem?_eq_some_iff.1 HK2.out).1).trans HK2.out)
  have HTW3 := Lib.hid (HTW.out.below hB3)
  clear hB3 CS k0 k1 k2 k3
  have hb4 := (Below.refl w3.heap.size w3).alloc (Nat.le_refl _) (.cells #[.string o, .int .i64 t, .int .i64 cl, .int .i64 l, .string d] 34)
  have hy4 := heap_alloc_new w3 (.cells #[.string o, .int .i64 t, .int .i64 cl, .int .i64 l, .string d] 34)
  obtain ⟨Y, hY⟩ : ∃ Y, w3.heap.size = Y := ⟨_, rfl⟩
  obtain ⟨w4, hw4⟩ : ∃ w4, w3.alloc (.cells #[.string o, .int .i64 t, .int .i64 cl, .int .i64 l, .string d] 34) = w4 := ⟨_, rfl⟩
  rw [hw4] at hb4 hy4
  rw [hY] at hy4
  have HB4 := Lib.hid (HB3.out.trans (hb4.mono HB3.out.size))
  have HK4 := Lib.hid ((hb4.block X (Array.getElem?_eq_some_iff.1 HK3.out).1).trans HK3.out)
  have HTW4 := Lib.hid (HTW3.out.below hb4)
  have HY := Lib.hid hY; have HW4 := Lib.hid hw4; have HY4 := Lib.hid hy4
  clear hb4 hy4 hY hw4
  trace "2"
  go_upto_region 3 with fail
  rw [HW4.out]
  try rw [HY.out]
  have CS := Lib.hid (signSet.signset_any kf km ke ks sn a n c L bg en w4 HN.out (HR.out.below HB4.out rfl) HO.out (by omega) HBK.out (by omega))
  rw [HSR.out] at CS
  have k0 : w4.cell? ⟨X, 0, none⟩ = some (.int .i64 kf) := by simp only [World.cell?, HK4.out]; rfl
  have k1 : w4.cell? ⟨X, 1, none⟩ = some (.int .i64 km) := by simp only [World.cell?, HK4.out]; rfl
  have k2 : w4.cell? ⟨X, 2, none⟩ = some (.int .i64 ke) := by simp only [World.cell?, HK4.out]; rfl
  have k3 : w4.cell? ⟨X, 3, none⟩ = some (.int .i64 ks) := by simp only [World.cell?, HK4.out]; rfl
  trace "3"
  go_wp2_with fail
  refine CS.out.mono ?_
  rintro e w5 ⟨rfl, hB5⟩
  have HB5 := Lib.hid (HB4.out.trans (hB5.mono HB4.out.size))
  have HTW5 := Lib.hid (HTW4.out.below hB5)
  have hy5 := (hB5.block Y (Array.getElem?_eq_some_iff.1 HY4.out).1).trans HY4.out
  have HY5 := Lib.hid hy5
  clear hB5 CS k0 k1 k2 k3
  have hb6 := (Below.refl w5.heap.size w5).alloc (Nat.le_refl _) (.cells #[.string o, .int .i64 t, .int .i64 cl, .int .i64 l, .string d] 34)
  have hz6 := heap_alloc_new w5 (.cells #[.string o, .int .i64 t, .int .i64 cl, .int .i64 l, .string d] 34)
  obtain ⟨Z, hZ⟩ : ∃ Z, w5.heap.size = Z := ⟨_, rfl⟩
  obtain ⟨w6, hw6⟩ : ∃ w6, w5.alloc (.cells #[.string o, .int .i64 t, .int .i64 cl, .int .i64 l, .string d] 34) = w6 := ⟨_, rfl⟩
  rw [hw6] at hb6 hz6
  rw [hZ] at hz6
  have HB6 := Lib.hid (HB5.out.trans (hb6.mono HB5.out.size))
  have HTW6 := Lib.hid (HTW5.out.below hb6)
  have hy6 := (hb6.block Y (Array.getElem?_eq_some_iff.1 hy5).1).trans hy5
  have HY6 := Lib.hid hy6; have HZ := Lib.hid hZ; have HW6 := Lib.hid hw6; have HZ6 := Lib.hid hz6
  clear hb6 hz6 hZ hw6 hy5 hy6
  trace "4"
  go_upto_region 4 with fail
  rw [HW6.out]
  try rw [HZ.out]
  have y0 : w6.cell? ⟨Y, 0, none⟩ = some (.string o) := by simp only [World.cell?, HY6.out]; rfl
  have y1 : w6.cell? ⟨Y, 1, none⟩ = some (.int .i64 t) := by simp only [World.cell?, HY6.out]; rfl
  have y2 : w6.cell? ⟨Y, 2, none⟩ = some (.int .i64 cl) := by simp only [World.cell?, HY6.out]; rfl
  have y3 : w6.cell? ⟨Y, 3, none⟩ = some (.int .i64 l) := by simp only [World.cell?, HY6.out]; rfl
  have y4 : w6.cell? ⟨Y, 4, none⟩ = some (.string d) := by simp only [World.cell?, HY6.out]; rfl
  have z0 : w6.cell? ⟨Z, 0, none⟩ = some (.string o) := by simp only [World.cell?, HZ6.out]; rfl
  have z1 : w6.cell? ⟨Z, 1, none⟩ = some (.int .i64 t) := by simp only [World.cell?, HZ6.out]; rfl
  have z2 : w6.cell? ⟨Z, 2, none⟩ = some (.int .i64 cl) := by simp only [World.cell?, HZ6.out]; rfl
  have z3 : w6.cell? ⟨Z, 3, none⟩ = some (.int .i64 l) := by simp only [World.cell?, HZ6.out]; rfl
  have z4 : w6.cell? ⟨Z, 4, none⟩ = some (.string d) := by simp only [World.cell?, HZ6.out]; rfl
  have CW := Lib.hid (whole_any (some ⟨g, 0, none⟩) a cap c W.heap.size L w6 HTW6.out (HR.out.below HB6.out rfl) (by have := HN.out; omega))
  rw [← HN.out] at CW
  trace "5"
  go_wp2_with fail
  refine CW.out.mono ?_
  rintro e w7 ⟨rfl, hB7⟩
  have HB7 := Lib.hid (HB6.out.trans (hB7.mono HB6.out.size))
  clear hB7 y0 y1 y2 y3 y4 z0 z1 z2 z3 z4 CW
  go_wp2_with fail
  go_ret
  exact ⟨rfl, HB7.out⟩
end Go.Proofs.YtflijhodlimjoaaGreat.sealSigns
namespace Go.Proofs.YtflijhodlimjoaaGreat.verP
open Go.RowKit Go.Proofs.YtflijhodlimjoaaGreat.kit Go.Proofs.YtflijhodlimjoaaGreat.nspec Go.Proofs.YtflijhodlimjoaaGreat.rsplit Go.Proofs.YtflijhodlimjoaaGreat.refA Go.Proofs.YtflijhodlimjoaaGreat.refB Go.Proofs.YtflijhodlimjoaaGreat.right Go.Proofs.YtflijhodlimjoaaGreat.sealA Go.Proofs.YtflijhodlimjoaaGreat.sealS Go.Proofs.YtflijhodlimjoaaGreat.sealP Go.Proofs.YtflijhodlimjoaaGreat.big Go.Proofs.YtflijhodlimjoaaGreat.val Go.Proofs.YtflijhodlimjoaaGreat.pub Go.Proofs.YtflijhodlimjoaaGreat.half Go.Proofs.YtflijhodlimjoaaGreat.tag Go.Proofs.YtflijhodlimjoaaGreat.wireP Go.Proofs.YtflijhodlimjoaaGreat.sortT Go.Proofs.YtflijhodlimjoaaGreat.fld Go.Proofs.YtflijhodlimjoaaGreat.signP Go.Proofs.YtflijhodlimjoaaGreat.opens Go.Proofs.YtflijhodlimjoaaGreat.dnames
set_option linter.unusedVariables false

def F46 : List Fld := [.kind, .num 1, .num 1, .num 4, .num 4, .num 4, .num 2, .host, .b64]
theorem form46 : formS 46 = some F46 := rfl
theorem split_step {f : Fld} {fs : List Fld} {d : Bs} {p : List Bs} {r : Bs} (h : splitS (f :: fs) d = some (p, r)) : ∃ (k : Nat) (p' : List Bs), takeS f d = (k : Int) ∧ p = d.take k :: p' ∧ splitS fs (d.drop k) = some (p', r) := by
  simp only [splitS] at h
  split at h
  · cases h
  · obtain ⟨⟨p', r'⟩, h1, h2⟩ := Option.map_eq_some_iff.1 h
    simp only [Prod.mk.injEq] at h2
    obtain ⟨rfl, rfl⟩ := h2
    exact ⟨(takeS f d).toNat, p', by omega, rfl, h1⟩
theorem take_kind {d : Bs} {k : Nat} (h : takeS .kind d = (k : Int)) : k = 2 ∧ 2 ≤ d.length := by
  simp only [takeS] at h
  split at h
  · omega
  · rename_i hn
    constructor
    · omega
    · by_cases h2 : d.length < 2
      · exact absurd (Or.inl h2) hn
      · omega
theorem take_num {d : Bs} {n k : Nat} (h : takeS (.num n) d = (k : Int)) : k = n ∧ n ≤ d.length := by
  simp only [takeS] at h
  split at h <;> omega
theorem take_host {d : Bs} {k : Nat} (h : takeS .host d = (k : Int)) : ∃ ls, IsN (d.take k) ls := by
  simp only [takeS, hostS] at h
  split at h
  · rename_i j hj
    have h1 := List.find?_some hj
    have : j = k := by omega
    subst this
    obtain ⟨ls, hl⟩ := Option.isSome_iff_exists.1 h1
    exact ⟨ls, split_iff.1 hl⟩
  · omega
/-- the parts of an RRSIG -/
structure Sg (d : Bs) (p0 p1 p2 p3 p4 p5 p6 p7 p8 : Bs) : Prop where
  l0 : p0.length = 2
  l1 : p1.length = 1
  l2 : p2.length = 1
  l3 : p3.length = 4
  l4 : p4.length = 4
  l5 : p5.length = 4
  l6 : p6.length = 2
  n7 : ∃ ls, IsN p7 ls
  all : d = p0 ++ p1 ++ p2 ++ p3 ++ p4 ++ p5 ++ p6 ++ p7 ++ p8
  spl : splitS F46 d = some ([p0, p1, p2, p3, p4, p5, p6, p7, p8], [])
  len : d.length ≤ 65535
theorem sg_of {d : Bs} (hc : checkS 46 d = 0) : ∃ p0 p1 p2 p3 p4 p5 p6 p7 p8, Sg d p0 p1 p2 p3 p4 p5 p6 p7 p8 := by
  obtain ⟨p, h1, h2, h3⟩ := parts_ok hc form46
  have hs := h2
  unfold F46 at h2
  obtain ⟨k0, q0, t0, e0, h2⟩ := split_step h2
  obtain ⟨k1, q1, t1, e1, h2⟩ := split_step h2
  obtain ⟨k2, q2, t2, e2, h2⟩ := split_step h2
  obtain ⟨k3, q3, t3, e3, h2⟩ := split_step h2
  obtain ⟨k4, q4, t4, e4, h2⟩ := split_step h2
  obtain ⟨k5, q5, t5, e5, h2⟩ := split_step h2
  obtain ⟨k6, q6, t6, e6, h2⟩ := split_step h2
  obtain ⟨k7, q7, t7, e7, h2⟩ := split_step h2
  obtain ⟨k8, q8, t8, e8, h2⟩ := split_step h2
  simp only [splitS, Option.some.injEq, Prod.mk.injEq] at h2
  obtain ⟨h2, h2'⟩ := h2
  subst h2
  subst e8 e7 e6 e5 e4 e3 e2 e1 e0
  obtain ⟨rfl, m0⟩ := take_kind t0
  obtain ⟨rfl, m1⟩ := take_num t1
  obtain ⟨rfl, m2⟩ := take_num t2
  obtain ⟨rfl, m3⟩ := take_num t3
  obtain ⟨rfl, m4⟩ := take_num t4
  obtain ⟨rfl, m5⟩ := take_num t5
  obtain ⟨rfl, m6⟩ := take_num t6
  refine ⟨_, _, _, _, _, _, _, _, _, ?_, ?_, ?_, ?_, ?_, ?_, ?_, take_host t7, ?_, hs, h3⟩
  · rw [List.length_take]; omega
  · rw [List.length_take]; omega
  · rw [List.length_take]; omega
  · rw [List.length_take]; omega
  · rw [List.length_take]; omega
  · rw [List.length_take]; omega
  · rw [List.length_take]; omega
  · have key : ∀ (x : Bs) (k : Nat), x.take k ++ x.drop k = x := fun x k => List.take_append_drop k x
    have e9 := key ((List.drop k7 (List.drop 2 (List.drop 4 (List.drop 4 (List.drop 4 (List.drop 1 (List.drop 1 (List.drop 2 d))))))))) k8
    rw [h2', List.append_nil] at e9
    rw [e9]
    simp only [List.append_assoc]
    rw [key, key, key, key, key, key, key, key]
section
variable {d p0 p1 p2 p3 p4 p5 p6 p7 p8 : Bs}
def hdS (p0 p1 p2 p3 p4 p5 p6 : Bs) : Bs := p0 ++ p1 ++ p2 ++ p3 ++ p4 ++ p5 ++ p6
theorem Sg.head_len (h : Sg d p0 p1 p2 p3 p4 p5 p6 p7 p8) : (hdS p0 p1 p2 p3 p4 p5 p6).length = 18 := by
  unfold hdS
  simp only [List.length_append, h.l0, h.l1, h.l2, h.l3, h.l4, h.l5, h.l6]
theorem Sg.eq (h : Sg d p0 p1 p2 p3 p4 p5 p6 p7 p8) : d = hdS p0 p1 p2 p3 p4 p5 p6 ++ p7 ++ p8 := by
  rw [h.all]; rfl
theorem Sg.parts (h : Sg d p0 p1 p2 p3 p4 p5 p6 p7 p8) : partsS 46 d = some [p0, p1, p2, p3, p4, p5, p6, p7, p8] := by
  have h1 : partsS 46 d = (match splitS F46 d with | some (p, []) => some p | _ => none) := rfl
  rw [h1, h.spl]
theorem Sg.check (h : Sg d p0 p1 p2 p3 p4 p5 p6 p7 p8) : checkS 46 d = 0 := by
  unfold checkS
  rw [if_neg (by decide), if_neg (by have := h.len; omega), if_neg (by rw [h.parts]; simp)]
theorem Sg.names (h : Sg d p0 p1 p2 p3 p4 p5 p6 p7 p8) : namesS 46 d = [p7] := by
  unfold namesS
  rw [if_pos h.check, form46, h.parts]
  rfl
theorem two {l : Bs} (h : l.length = 2) : ∃ a b, l = [a, b] := by
  match l, h with
  | [a, b], _ => exact ⟨a, b, rfl⟩
theorem one {l : Bs} (h : l.length = 1) : ∃ a, l = [a] := by
  match l, h with
  | [a], _ => exact ⟨a, rfl⟩
theorem four {l : Bs} (h : l.length = 4) : ∃ a b c d, l = [a, b, c, d] := by
  match l, h with
  | [a, b, c, d], _ => exact ⟨a, b, c, d, rfl⟩
/-- the cuts of a head -/
theorem Sg.cuts (h : Sg d p0 p1 p2 p3 p4 p5 p6 p7 p8) : (hdS p0 p1 p2 p3 p4 p5 p6).take 2 = p0 ∧ (hdS p0 p1 p2 p3 p4 p5 p6)[2]? = p1[0]? ∧ (hdS p0 p1 p2 p3 p4 p5 p6)[3]? = p2[0]? ∧ ((hdS p0 p1 p2 p3 p4 p5 p6).drop 4).take 4 = p3 ∧ ((hdS p0 p1 p2 p3 p4 p5 p6).drop 8).take 4 = p4 ∧ ((hdS p0 p1 p2 p3 p4 p5 p6).drop 12).take 4 = p5 ∧ ((hdS p0 p1 p2 p3 p4 p5 p6).drop 16).take 2 = p6 := by
  obtain ⟨a0, a1, rfl⟩ := two h.l0
  obtain ⟨b0, rfl⟩ := one h.l1
  obtain ⟨c0, rfl⟩ := one h.l2
  obtain ⟨x0, x1, x2, x3, rfl⟩ := four h.l3
  obtain ⟨y0, y1, y2, y3, rfl⟩ := four h.l4
  obtain ⟨z0, z1, z2, z3, rfl⟩ := four h.l5
  obtain ⟨g0, g1, rfl⟩ := two h.l6
  exact ⟨rfl, rfl, rfl, rfl, rfl, rfl, rfl⟩
theorem val_byte {l : Bs} {c : UInt8} (h : l.length = 1) (hc : l[0]? = some c) : valL l 0 = c.toNat := by
  obtain ⟨a, rfl⟩ := one h
  simp at hc
  subst hc
  simp [valL]
theorem big_val2 {l : Bs} (h : l.length = 2) : bigS (valL l 0) 2 = l := by
  obtain ⟨a, b, rfl⟩ := two h
  have ha := a.toNat_lt
  have hb := b.toNat_lt
  have e1 : valL [a, b] 0 = a.toNat * 256 + b.toNat := by simp [valL]
  rw [e1]
  show [] ++ [UInt8.ofNat ((a.toNat * 256 + b.toNat) / 256 % 256)] ++ [UInt8.ofNat ((a.toNat * 256 + b.toNat) % 256)] = [a, b]
  rw [show (a.toNat * 256 + b.toNat) / 256 % 256 = a.toNat by omega, show (a.toNat * 256 + b.toNat) % 256 = b.toNat by omega, UInt8.ofNat_toNat, UInt8.ofNat_toNat]
  rfl
end
/-- what Verify answers, by the parts -/
def verC (L : List Rc) (h : Rc) (so : Bs) (p0 p1 p2 p3 p4 p5 p6 p7 p8 ow kd : Bs) (now : Int) : Int :=
  if ¬ ((valL p0 0 : Nat) : Int) = h.t then 6
  else if equalS so h.o.data.toList = false then 5
  else if withinS h.o.data.toList p7 = false then 5
  else if equalS ow p7 = false then 1
  else if isKeyB kd = false then 24
  else if ¬ p1 = [253] then 24
  else if ¬ valL p6 0 = tagS kd then 24
  else if lessS h.o.data.toList < ((valL p2 0 : Nat) : Int) then 3
  else if now < ((valL p5 0 : Nat) : Int) then 25
  else if ((valL p4 0 : Nat) : Int) < now then 25
  else if ¬ p8.length = 4 then 26
  else if kM kd ≤ valL p8 0 then 26
  else if ¬ powS (valL p8 0) (kE kd) (kM kd) = figL (kM kd) (digestS (textS (hdS p0 p1 p2 p3 p4 p5 p6) p7 ((valL p2 0 : Nat) : Int) h.o.data.toList (sortedT (L.map foldX)))) 0 then 26
  else 0
/-- what Verify answers -/
def VerC (L : List Rc) (sg : Rc) (ow kd : Bs) (now : Int) : Int :=
  if setB L = false then 8 else if ¬ sg.t = 46 then 8 else if zonB sg = false then 8
  else match L, partsS 46 sg.d.data.toList with
  | h :: r, some [p0, p1, p2, p3, p4, p5, p6, p7, p8] => verC (h :: r) h sg.o.data.toList p0 p1 p2 p3 p4 p5 p6 p7 p8 ow kd now
  | _, _ => 8
section
variable {L : List Rc} {sg : Rc} {ow kd : Bs} {now : Int}
theorem vc_set (h : setB L = false) : VerC L sg ow kd now = 8 := by unfold VerC; rw [if_pos h]
theorem vc_type (h : ¬ sg.t = 46) : VerC L sg ow kd now = 8 := by
  unfold VerC
  rw [if_pos h]
  split <;> rfl
theorem vc_zon (h : zonB sg = false) : VerC L sg ow kd now = 8 := by
  unfold VerC
  rw [if_pos h]
  split
  · rfl
  · split <;> rfl
theorem vc_go {h : Rc} {p0 p1 p2 p3 p4 p5 p6 p7 p8 : Bs} (hs : setB L = true) (ht : sg.t = 46) (hz : zonB sg = true) (h0 : L[0]? = some h) (hg : Sg sg.d.data.toList p0 p1 p2 p3 p4 p5 p6 p7 p8) : VerC L sg ow kd now = verC L h sg.o.data.toList p0 p1 p2 p3 p4 p5 p6 p7 p8 ow kd now := by
  unfold VerC
  rw [if_neg (by rw [hs]; decide), if_neg (by rw [ht]; decide), if_neg (by rw [hz]; decide), hg.parts]
  cases L with
  | nil => simp at h0
  | cons x r => simp at h0; subst h0; rfl
end
theorem key_facts {kd : Bs} (h : isKeyB kd = true) : kd.length = 12 ∧ 6 ≤ kM kd ∧ kM kd ≤ 2147483647 ∧ kE kd < 2147483648 := by
  unfold isKeyB at h
  simp only [Bool.and_eq_true, decide_eq_true_eq] at h
  obtain ⟨h1, h2⟩ := h
  cases hr : rightB (kF kd : Nat) (kM kd : Nat) (kE kd : Nat) 1 with
  | false =>
    unfold pubS at h2
    rw [hr] at h2
    simp at h2
    rw [h2] at h1; simp at h1
  | true =>
    obtain ⟨_, h3, h4, _⟩ := right_facts hr
    refine ⟨h1, by omega, by omega, by omega⟩
end Go.Proofs.YtflijhodlimjoaaGreat.verP
namespace Go.Proofs.YtflijhodlimjoaaGreat.partsN
open Go.RowKit Go.Proofs.YtflijhodlimjoaaGreat.kit Go.Proofs.YtflijhodlimjoaaGreat.nspec Go.Proofs.YtflijhodlimjoaaGreat.rsplit Go.Proofs.YtflijhodlimjoaaGreat.opens Go.Proofs.YtflijhodlimjoaaGreat.dnames Go.Proofs.YtflijhodlimjoaaGreat.verP Go.Proofs.YtflijhodlimjoaaGreat.keepN
set_option linter.unusedVariables false

def over3 (w : World) (Y : Nat) (v0 v1 v2 : Value) : World := ((w.setCell ⟨Y, 0, none⟩ v0).setCell ⟨Y, 1, none⟩ v1).setCell ⟨Y, 2, none⟩ v2
theorem over3_heap {w : World} {Y : Nat} {t : TypeId} {a0 a1 a2 : Value} (h : w.heap[Y]? = some (.cells #[a0, a1, a2] t)) (v0 v1 v2 : Value) : (over3 w Y v0 v1 v2).heap[Y]? = some (.cells #[v0, v1, v2] t) := by
  simp [over3, World.setCell, Array.getElem?_modify, h]
theorem over3_below {w : World} {Y B : Nat} (h : B ≤ Y) (v0 v1 v2 : Value) : Below B w (over3 w Y v0 v1 v2) :=
  (((Below.refl B w).setCell (p := ⟨Y, 0, none⟩) h v0).setCell (p := ⟨Y, 1, none⟩) h v1).setCell (p := ⟨Y, 2, none⟩) h v2
theorem over3_cells {w : World} {Y : Nat} {t : TypeId} {a0 a1 a2 : Value} (h : w.heap[Y]? = some (.cells #[a0, a1, a2] t)) (v0 v1 v2 : Value) :
    (over3 w Y v0 v1 v2).cell? ⟨Y, 0, none⟩ = some v0 ∧ (over3 w Y v0 v1 v2).cell? ⟨Y, 1, none⟩ = some v1 ∧ (over3 w Y v0 v1 v2).cell? ⟨Y, 2, none⟩ = some v2 := by
  have e := over3_heap h v0 v1 v2
  exact ⟨by simp only [World.cell?, e]; rfl, by simp only [World.cell?, e]; rfl, by simp only [World.cell?, e]; rfl⟩
set_option maxRecDepth 100000 in
set_option maxHeartbeats 4000000 in
theorem parts_any (s HD P7 P8 : ByteArray) (p0 p1 p2 p3 p4 p5 p6 : Bs) (w : World) (hg : Sg s.data.toList p0 p1 p2 p3 p4 p5 p6 P7.data.toList P8.data.toList) (hHD : HD.data.toList = hdS p0 p1 p2 p3 p4 p5 p6) :
    Calls Tryz.prog 73 #[.string s] w fun e w' => e = .returned (.agg #[.string HD, .string P7, .string P8]) ∧ Below w.heap.size w w' := by
  have hs : s.size ≤ 65535 := by rw [← size_len]; exact hg.len
  have hle : s.data.toList.length = HD.size + P7.size + P8.size := by
    rw [hg.eq, ← hHD, List.length_append, List.length_append, size_len, size_len, size_len]
  rw [size_len] at hle
  have hH18 : HD.size = 18 := by rw [← size_len, hHD]; exact hg.head_len
  obtain ⟨Q, hQ⟩ : ∃ Q, 18 + P7.size = Q := ⟨_, rfl⟩
  have e0 : s.extract 0 18 = HD := by
    apply ba_ext
    rw [ext_list, hg.eq, ← hHD, List.drop_zero, List.append_assoc, List.take_append_of_le_length (by rw [size_len]; omega), List.take_of_length_le (by rw [size_len]; omega)]
  have e8 : s.extract Q s.size = P8 := by
    apply ba_ext
    have hpre : (HD.data.toList ++ P7.data.toList).length = Q := by rw [List.length_append, size_len, size_len]; omega
    rw [ext_list, hg.eq, ← hHD, List.drop_append_of_le_length (by omega), List.drop_of_length_le (by omega), List.nil_append, List.take_of_length_le (by rw [size_len]; omega)]
  have HE0 := Lib.hid e0; have HE8 := Lib.hid e8
  have CN := Lib.hid (fun wx => names_any 46 s wx (by unfold maxLen; omega))
  rw [hg.names] at CN
  have hb1 := (Below.refl w.heap.size w).alloc (Nat.le_refl _) (.cells #[.string ⟨#[]⟩, .string ⟨#[]⟩, .string ⟨#[]⟩] 93)
  have hk1 := heap_alloc_new w (.cells #[.string ⟨#[]⟩, .string ⟨#[]⟩, .string ⟨#[]⟩] 93)
  obtain ⟨X, hX⟩ : ∃ X, w.heap.size = X := ⟨_, rfl⟩
  obtain ⟨W, hW⟩ : ∃ W, w.alloc (.cells #[.string ⟨#[]⟩, .string ⟨#[]⟩, .string ⟨#[]⟩] 93) = W := ⟨_, rfl⟩
  rw [hW] at hb1 hk1
  rw [hX] at hk1
  have HX := Lib.hid hX; have HW := Lib.hid hW; have HB1 := Lib.hid hb1; have HK1 := Lib.hid hk1
  have hQs : Q ≤ s.size := by omega
  have hQ2 : (18 : Int) + (P7.size : Int) = (Q : Int) := by omega
  have h18 : 18 ≤ s.size := by omega
  have hsn : (Q : Int) ≤ (s.size : Int) := by omega
  clear hg hHD hle hH18 e0 e8 hb1 hk1 hX hW
  go_enter Tryz.func73, Tryz.ntmps73
  have HQ2 := Lib.hid hQ2
  clear hQ2 hQ
  go_upto_region 1 with fail
  rw [HW.out]
  try rw [HX.out]
  go_wp2_with fail
  refine (CN.out _).mono ?_
  rintro e w2 ⟨v, rfl, hrow, hB2⟩
  obtain ⟨g2, c2, hv2, _, hg2, hcl, _⟩ := rows.own_at hrow (Nat.le_refl 1)
  subst hv2
  have hc0 : w2.cell? ⟨g2, 0, none⟩ = some (.string P7) := by
    have h1 := hrow.cells (g := g2) rfl 0 (strV P7.data.toList) rfl
    rw [addr_add] at h1; exact h1
  have HB2 := Lib.hid (HB1.out.trans (hB2.mono HB1.out.size))
  have hk2 := (hB2.block X (Array.getElem?_eq_some_iff.1 HK1.out).1).trans HK1.out
  have HK2 := Lib.hid hk2
  have x0 : w2.cell? ⟨X, 0, none⟩ = some (.string ⟨#[]⟩) := by simp only [World.cell?, hk2]; rfl
  have x1 : w2.cell? ⟨X, 1, none⟩ = some (.string ⟨#[]⟩) := by simp only [World.cell?, hk2]; rfl
  have x2 : w2.cell? ⟨X, 2, none⟩ = some (.string ⟨#[]⟩) := by simp only [World.cell?, hk2]; rfl
  have f0 : w2.frozen? ⟨X, 0, none⟩ = false := by simp [World.frozen?, hk2]
  have f1 : w2.frozen? ⟨X, 1, none⟩ = false := by simp [World.frozen?, hk2]
  have f2 : w2.frozen? ⟨X, 2, none⟩ = false := by simp [World.frozen?, hk2]
  clear hrow hB2 hg2 hcl hk2 CN
  have hq1 : IntKind.i64.wrap ((18 : Int) + (P7.size : Int)) = (Q : Int) := by rw [HQ2.out, IntWalk.i64_in _ (by omega)]
  have zq : (0 : Int) ≤ (Q : Int) := by omega
  trace "1"
  go_upto_region 2 with fail
  trace "2"
  go_region
  rw [HE0.out, HE8.out]
  have hOV := over3_cells HK2.out (.string HD) (.string P7) (.string P8)
  have hOB := (over3_below (w := w2) (Y := X) (B := w.heap.size) (by rw [HX.out]; exact Nat.le_refl _) (.string HD) (.string P7) (.string P8)).drew
  obtain ⟨wf, hwf⟩ : ∃ wf, (over3 w2 X (.string HD) (.string P7) (.string P8)).drew = wf := ⟨_, rfl⟩
  have hwf' := hwf
  unfold over3 at hwf'
  rw [hwf']
  obtain ⟨q0, q1, q2⟩ := hOV
  have q0 : wf.cell? ⟨X, 0, none⟩ = some (.string HD) := by rw [← hwf]; exact q0
  have q1 : wf.cell? ⟨X, 1, none⟩ = some (.string P7) := by rw [← hwf]; exact q1
  have q2 : wf.cell? ⟨X, 2, none⟩ = some (.string P8) := by rw [← hwf]; exact q2
  rw [hwf] at hOB
  clear hwf hwf'
  trace "3"
  go_wp2_with fail
  exact bodyPost_ret (v := .agg #[.string HD, .string P7, .string P8]) (by simp [results, Tryz.results73, go_sem, q0, q1, q2]) rfl ⟨rfl, HB2.out.trans hOB⟩
end Go.Proofs.YtflijhodlimjoaaGreat.partsN
