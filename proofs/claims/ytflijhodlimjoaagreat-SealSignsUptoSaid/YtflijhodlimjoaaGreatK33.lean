/- A message handed in: opened. A list of records handed in: opened; how long their folded data are. The law gazetteerlaw4.SealSigns: the two signatures are one, the records are only read: walk. -/
import Derived.Test.YtflijhodlimjoaaGreatK19
import Derived.Test.YtflijhodlimjoaaGreatK18
import Derived.Test.YtflijhodlimjoaaGreatK17
import Derived.Test.YtflijhodlimjoaaGreatK30
import Derived.Test.YtflijhodlimjoaaGreatK32
import Derived.Deep.Slices
import Derived.Deep.Fields
import Derived.ChangeSame
import Derived.Carry
import Derived.ChangeOld
import Derived.ProofKit
namespace Go.Proofs.YtflijhodlimjoaaGreat.msgArg
open Go.ChangeShapes Go.WideShapes Go.RowKit Go.Deep Go.Proofs.YtflijhodlimjoaaGreat.kit Go.Proofs.YtflijhodlimjoaaGreat.timed Go.Proofs.YtflijhodlimjoaaGreat.wireP Go.Proofs.YtflijhodlimjoaaGreat.wireM Go.Proofs.YtflijhodlimjoaaGreat.rows
set_option linter.unusedVariables false

theorem got {α : Type} {l : List α} {i n : Nat} (h : l.length = n) (hi : i < n) : ∃ y, l[i]? = some y := ⟨_, List.getElem?_eq_getElem (by omega)⟩
theorem one_at {cs : List Value} {o : Nat} {v : Value} (h : (cs.drop o).take 1 = [v]) : cs[o]? = some v := by
  have : ((cs.drop o).take 1)[0]? = some v := by rw [h]; rfl
  rw [List.getElem?_take_of_lt (by omega), List.getElem?_drop] at this; simpa using this
theorem choose_list {α : Type} (p : Nat → α → Prop) : ∀ n, (∀ i, i < n → ∃ x, p i x) → ∃ l : List α, l.length = n ∧ ∀ i x, l[i]? = some x → p i x
  | 0, _ => ⟨[], rfl, by simp⟩
  | n + 1, h => by
    obtain ⟨l, hl, hp⟩ := choose_list p n (fun i hi => h i (by omega))
    obtain ⟨x, hx⟩ := h n (by omega)
    refine ⟨l ++ [x], by simp [hl], fun i y hy => ?_⟩
    by_cases hi : i < n
    · rw [List.getElem?_append_left (by omega)] at hy; exact hp i y hy
    · have hlt := (List.getElem?_eq_some_iff.1 hy).1
      have : i = n := by simp [hl] at hlt; omega
      subst this
      rw [List.getElem?_append_right (by omega), hl, Nat.sub_self] at hy
      simp at hy; subst hy; exact hx
theorem cell_lt {w : World} {a : Addr} {v : Value} (h : w.cell? a = some v) : a.block < w.heap.size := by
  rcases Nat.lt_or_ge a.block w.heap.size with h' | h'
  · exact h'
  · simp [World.cell?, Array.getElem?_eq_none h'] at h
set_option maxRecDepth 100000 in
theorem bulk_len {H : Type} : ∀ l : List (DataW H), (∀ x ∈ l, 1 ≤ Rows.uptoBulk x) → l.length ≤ Rows.uptoBulkAll l
  | [], _ => Nat.zero_le _
  | x :: l, h => by
    have h1 := bulk_len l (fun y hy => h y (List.mem_cons_of_mem _ hy))
    have h2 := h x List.mem_cons_self
    have e : Rows.uptoBulkAll (x :: l) = Rows.uptoBulk x + Rows.uptoBulkAll l := rfl
    rw [e, List.length_cons]; omega
set_option maxRecDepth 100000 in
theorem bulk_mem {H : Type} : ∀ (l : List (DataW H)) (x : DataW H), x ∈ l → Rows.uptoBulk x ≤ Rows.uptoBulkAll l
  | y :: l, x, h => by
    have e : Rows.uptoBulkAll (y :: l) = Rows.uptoBulk y + Rows.uptoBulkAll l := rfl
    rw [e]
    rcases List.mem_cons.1 h with rfl | h
    · omega
    · have := bulk_mem l x h; omega
set_option maxRecDepth 100000 in
/-- a list of rows handed in -/
theorem open_rows {α : Type} (f : α → List Value) (m : Nat) (hm0 : 0 < m) (hf : ∀ x, (f x).length = m) (G : α → Nat → Prop) {H : Type} {enc : TypeId × Value → H} {w : World} {fuel : Nat} {a : Option Addr} {len cap : Nat} {d : DataW H} {p : List MemPlace} {T E : TypeId}
    (hT : Tryz.prog.underlying T = some (.slice E)) (hE : Tryz.prog.cellsOf E = m) (hG : ∀ t x y, G t x → x ≤ y → G t y)
    (hc : ∀ (n : Nat) (cs : List Value) (x : DataW H × List MemPlace), DataW.trod enc Tryz.prog w 0 (fun _ => true) true n E cs = some x → ∃ t, cs = f t ∧ G t (Rows.uptoBulk x.1) ∧ 1 ≤ Rows.uptoBulk x.1)
    (h : DataW.trod enc Tryz.prog w 0 (fun _ => true) true fuel T (Value.slice a len cap).cells.toList = some (d, p)) :
    ∃ ls : List α, len = ls.length ∧ RdC w a m (ls.map f) ∧ (a = none → ls.length = 0 ∧ cap = 0) ∧ len ≤ Rows.uptoBulk d ∧ len ≤ maxLen ∧ ∀ t ∈ ls, G t (Rows.uptoBulk d) := by
  rcases open_slice hT h with ⟨hcs, hx⟩ | ⟨ad, len', cap', m', n, D, Pl, hcs, hb, hl, hm, hmm, hx, hi⟩
  · simp [Value.cells] at hcs
    obtain ⟨rfl, rfl, rfl⟩ := hcs
    exact ⟨[], rfl, RdC.nil _ _ _, fun _ => ⟨rfl, rfl⟩, Nat.zero_le _, Nat.zero_le _, by simp⟩
  · simp [Value.cells] at hcs
    obtain ⟨rfl, rfl, rfl⟩ := hcs
    simp only [if_true] at hmm
    subst hmm
    simp only [Prod.mk.injEq] at hx
    obtain ⟨rfl, rfl⟩ := hx
    rw [hE] at hi
    have e : ∀ (l1 l2 : List (DataW H)), Rows.uptoBulk (DataW.slice l1 l2) = Rows.uptoBulkAll l1 + Rows.uptoBulkAll l2 + 1 := fun _ _ => rfl
    obtain ⟨ls, hll, hls⟩ := choose_list (fun i (t : α) => w.cells? 0 (ad.add (i * m)) m = some (f t) ∧ G t (Rows.uptoBulk (D i))) len (fun i hi2 => by
      obtain ⟨cs', h1, h2⟩ := hi i (by omega)
      obtain ⟨t, rfl, hg, _⟩ := hc _ _ _ h2
      exact ⟨t, h1, hg⟩)
    refine ⟨ls, hll.symm, ?_, (fun h => by cases h), ?_, Nat.le_trans hl hm, ?_⟩
    · intro j row hrow
      rw [List.getElem?_map] at hrow
      obtain ⟨t, ht, rfl⟩ := Option.map_eq_some_iff.1 hrow
      have hc' := (hls j t ht).1
      obtain ⟨_, hlen, hcell⟩ := World.cells?_some hc'
      obtain ⟨u1, hu1⟩ : ∃ u1, (f t)[0]? = some u1 := ⟨_, List.getElem?_eq_getElem (by rw [hf]; exact hm0)⟩
      have hc0 := hcell 0 hm0
      rw [hu1] at hc0
      obtain ⟨g, o, sp⟩ := ad
      have hspot : sp = none := by
        obtain ⟨t0, ht0⟩ : ∃ t0, ls[0]? = some t0 := ⟨_, List.getElem?_eq_getElem (by have := (List.getElem?_eq_some_iff.1 ht).1; omega)⟩
        obtain ⟨_, _, hcell00⟩ := World.cells?_some (hls 0 t0 ht0).1
        obtain ⟨u0, hu0⟩ : ∃ u0, (f t0)[0]? = some u0 := ⟨_, List.getElem?_eq_getElem (by rw [hf]; exact hm0)⟩
        have h00 := hcell00 0 hm0
        rw [hu0] at h00
        simpa [Addr.add] using World.cell?_spot h00
      subst hspot
      have hadd : ∀ (o k : Nat), (⟨g, o, none⟩ : Addr).add k = ⟨g, o + k, none⟩ := fun o k => by unfold Addr.add; split <;> simp_all
      refine ⟨hf t, g, o, rfl, ?_, fun i u hu => ?_⟩
      · have := cell_lt hc0; simpa [hadd] using this
      · have hi8 : i < m := by have := (List.getElem?_eq_some_iff.1 hu).1; rw [hf] at this; exact this
        have := hcell i hi8
        rw [hadd, hadd] at this
        rw [this]
        exact hu
    · have hbl := bulk_len ((List.range len).map D) (fun x hx => by
        obtain ⟨i, hi3, rfl⟩ := List.mem_map.1 hx
        obtain ⟨cs', _, h2⟩ := hi i (by have := List.mem_range.1 hi3; omega)
        obtain ⟨_, _, _, h3⟩ := hc _ _ _ h2
        exact h3)
      rw [e]
      rw [List.length_map, List.length_range] at hbl
      omega
    · intro t ht
      obtain ⟨i, hi1, hi2⟩ := List.getElem_of_mem ht
      have hti : ls[i]? = some t := by rw [List.getElem?_eq_getElem hi1, hi2]
      refine hG _ _ _ (hls i t hti).2 ?_
      rw [e]
      have := bulk_mem ((List.range len).map D) (D i) (List.mem_map.2 ⟨i, List.mem_range.2 (by omega), rfl⟩)
      omega

section
variable {H : Type} {enc : TypeId × Value → H} {w : World} {base : Nat} {spare : Nat → Bool} {held : Bool}
theorem cellsInt : Tryz.prog.cellsOf 3 = 1 := by kernel_rfl
theorem cellsBool : Tryz.prog.cellsOf 4 = 1 := by kernel_rfl
theorem cellsString : Tryz.prog.cellsOf 9 = 1 := by kernel_rfl
theorem cellsRecs : Tryz.prog.cellsOf 22 = 1 := by kernel_rfl
theorem cellsQns : Tryz.prog.cellsOf 23 = 1 := by kernel_rfl
theorem cellsRec : Tryz.prog.cellsOf 34 = 5 := by kernel_rfl
theorem cellsQn : Tryz.prog.cellsOf 26 = 3 := by kernel_rfl
theorem int_at {n : Nat} {cs : List Value} {o : Nat} {y : DataW H × List MemPlace} (h : DataW.trod enc Tryz.prog w base spare held n 3 ((cs.drop o).take (Tryz.prog.cellsOf 3)) = some y) : ∃ z, cs[o]? = some (.int .i64 z) := by
  rw [cellsInt] at h
  obtain ⟨z, hz, _⟩ := DataW.trod_int Tryz.underlying3 h
  exact ⟨z, one_at hz⟩
theorem bool_at {n : Nat} {cs : List Value} {o : Nat} {y : DataW H × List MemPlace} (h : DataW.trod enc Tryz.prog w base spare held n 4 ((cs.drop o).take (Tryz.prog.cellsOf 4)) = some y) : ∃ z, cs[o]? = some (.bool z) := by
  rw [cellsBool] at h
  obtain ⟨z, hz, _⟩ := DataW.trod_bool Tryz.underlying4 h
  exact ⟨z, one_at hz⟩
theorem str_at {n : Nat} {cs : List Value} {o : Nat} {y : DataW H × List MemPlace} (h : DataW.trod enc Tryz.prog w base spare held n 9 ((cs.drop o).take (Tryz.prog.cellsOf 9)) = some y) : ∃ z : ByteArray, cs[o]? = some (.string z) ∧ z.size ≤ Rows.uptoBulk y.1 ∧ z.size ≤ maxLen := by
  rw [cellsString] at h
  obtain ⟨z, hz, hy, hm⟩ := DataW.trod_string Tryz.underlying9 h
  subst hy
  have e : Rows.uptoBulk (DataW.lit (H := H) (.string z.data.toList)) = z.data.toList.length + 1 := rfl
  refine ⟨z, one_at hz, ?_, hm⟩
  rw [e, size_len]; omega
theorem bulk_agg (xs : List (DataW H × List MemPlace)) {i : Nat} {y : DataW H × List MemPlace} (hy : xs[i]? = some y) : Rows.uptoBulk y.1 ≤ Rows.uptoBulk (DataW.agg (xs.map (·.1))) := by
  have e : Rows.uptoBulk (DataW.agg (xs.map (·.1))) = Rows.uptoBulkAll (xs.map (·.1)) + 1 := rfl
  have := bulk_mem (xs.map (·.1)) y.1 (List.mem_map.2 ⟨y, List.mem_of_getElem? hy, rfl⟩)
  omega
set_option maxRecDepth 100000 in
theorem rec_cells {n : Nat} {cs : List Value} {x : DataW H × List MemPlace} (h : DataW.trod enc Tryz.prog w base spare held n 34 cs = some x) : ∃ t : Rc, cs = t.cells ∧ ((t.o.size ≤ Rows.uptoBulk x.1 ∧ t.d.size ≤ Rows.uptoBulk x.1) ∧ t.d.size ≤ maxLen) ∧ 1 ≤ Rows.uptoBulk x.1 := by
  obtain ⟨xs, n', _, rfl, hlen, hxl, hf⟩ := DataW.trod_struct Tryz.underlying34 h
  rw [cellsRec] at hlen
  obtain ⟨y0, e0⟩ := got hxl (i := 0) (by decide)
  obtain ⟨y1, e1⟩ := got hxl (i := 1) (by decide)
  obtain ⟨y2, e2⟩ := got hxl (i := 2) (by decide)
  obtain ⟨y3, e3⟩ := got hxl (i := 3) (by decide)
  obtain ⟨y4, e4⟩ := got hxl (i := 4) (by decide)
  obtain ⟨z0, q0, s0, _⟩ := str_at (o := 0) ((hf 0 _ rfl).trans e0)
  obtain ⟨z1, q1⟩ := int_at (o := 1) ((hf 1 _ rfl).trans e1)
  obtain ⟨z2, q2⟩ := int_at (o := 2) ((hf 2 _ rfl).trans e2)
  obtain ⟨z3, q3⟩ := int_at (o := 3) ((hf 3 _ rfl).trans e3)
  obtain ⟨z4, q4, s4, m4⟩ := str_at (o := 4) ((hf 4 _ rfl).trans e4)
  refine ⟨⟨z0, z1, z2, z3, z4⟩, ?_, ⟨⟨Nat.le_trans s0 (bulk_agg xs e0), Nat.le_trans s4 (bulk_agg xs e4)⟩, m4⟩, ?_⟩
  · apply List.ext_getElem?
    intro i
    match i with
    | 0 => simpa [Rc.cells] using q0
    | 1 => simpa [Rc.cells] using q1
    | 2 => simpa [Rc.cells] using q2
    | 3 => simpa [Rc.cells] using q3
    | 4 => simpa [Rc.cells] using q4
    | i + 5 => rw [List.getElem?_eq_none (by omega), List.getElem?_eq_none (by simp [Rc.cells])]
  · show 1 ≤ Rows.uptoBulkAll (xs.map (·.1)) + 1
    omega
set_option maxRecDepth 100000 in
theorem qn_cells {n : Nat} {cs : List Value} {x : DataW H × List MemPlace} (h : DataW.trod enc Tryz.prog w base spare held n 26 cs = some x) : ∃ t : Qn, cs = t.cells ∧ (t.n.size ≤ Rows.uptoBulk x.1) ∧ 1 ≤ Rows.uptoBulk x.1 := by
  obtain ⟨xs, n', _, rfl, hlen, hxl, hf⟩ := DataW.trod_struct Tryz.underlying26 h
  rw [cellsQn] at hlen
  obtain ⟨y0, e0⟩ := got hxl (i := 0) (by decide)
  obtain ⟨y1, e1⟩ := got hxl (i := 1) (by decide)
  obtain ⟨y2, e2⟩ := got hxl (i := 2) (by decide)
  obtain ⟨z0, q0, s0, _⟩ := str_at (o := 0) ((hf 0 _ rfl).trans e0)
  obtain ⟨z1, q1⟩ := int_at (o := 1) ((hf 1 _ rfl).trans e1)
  obtain ⟨z2, q2⟩ := int_at (o := 2) ((hf 2 _ rfl).trans e2)
  refine ⟨⟨z0, z1, z2⟩, ?_, Nat.le_trans s0 (bulk_agg xs e0), ?_⟩
  · apply List.ext_getElem?
    intro i
    match i with
    | 0 => simpa [Qn.cells] using q0
    | 1 => simpa [Qn.cells] using q1
    | 2 => simpa [Qn.cells] using q2
    | i + 3 => rw [List.getElem?_eq_none (by omega), List.getElem?_eq_none (by simp [Qn.cells])]
  · show 1 ≤ Rows.uptoBulkAll (xs.map (·.1)) + 1
    omega
end
section
variable {H : Type} {enc : TypeId × Value → H} {w : World}
theorem slice_form {n : Nat} {cs : List Value} {o : Nat} {T E : TypeId} {y : DataW H × List MemPlace} (hT : Tryz.prog.underlying T = some (.slice E)) (hc : Tryz.prog.cellsOf T = 1) (h : DataW.trod enc Tryz.prog w 0 (fun _ => true) true n T ((cs.drop o).take (Tryz.prog.cellsOf T)) = some y) :
    ∃ a l c, cs[o]? = some (.slice a l c) ∧ DataW.trod enc Tryz.prog w 0 (fun _ => true) true n T (Value.slice a l c).cells.toList = some y := by
  rw [hc] at h
  have hs : ∃ (a : Option Addr) (l c : Nat), (cs.drop o).take 1 = [.slice a l c] := by
    rcases open_slice hT h with ⟨g0, _⟩ | ⟨ad, len, cap, _, _, _, _, g0, _⟩
    · exact ⟨none, 0, 0, g0⟩
    · exact ⟨some ad, len, cap, g0⟩
  obtain ⟨a, l, c, q0⟩ := hs
  rw [q0] at h
  exact ⟨a, l, c, one_at q0, h⟩
/-- what is known of a message handed in -/
structure InM (w : World) (p : Pl) (m : Mg) (b : Nat) : Prop where
  rd : RdM w p m
  nil : NilM p m
  qnil : p.qa = none → m.qs.length = 0 ∧ p.qc = 0
  lens : m.qs.length ≤ b ∧ m.an.length ≤ b ∧ m.au.length ≤ b ∧ m.ar.length ≤ b
  sq : ∀ x ∈ m.qs, x.n.size ≤ b
  sn : ∀ x ∈ m.an, x.o.size ≤ b ∧ x.d.size ≤ b
  su : ∀ x ∈ m.au, x.o.size ≤ b ∧ x.d.size ≤ b
  sr : ∀ x ∈ m.ar, x.o.size ≤ b ∧ x.d.size ≤ b
  w : OkW m
theorem InM.ok {p : Pl} {m : Mg} {b : Nat} (h : InM w p m b) (hb : b ≤ 1099511627776) : OkM m :=
  ⟨fun x hx => Nat.le_trans (h.sq x hx) hb, fun x hx => ⟨Nat.le_trans (h.sn x hx).1 hb, Nat.le_trans (h.sn x hx).2 hb⟩, fun x hx => ⟨Nat.le_trans (h.su x hx).1 hb, Nat.le_trans (h.su x hx).2 hb⟩, fun x hx => ⟨Nat.le_trans (h.sr x hx).1 hb, Nat.le_trans (h.sr x hx).2 hb⟩, Nat.le_trans h.lens.1 hb, Nat.le_trans h.lens.2.1 hb, Nat.le_trans h.lens.2.2.1 hb, Nat.le_trans h.lens.2.2.2 hb⟩
end
end Go.Proofs.YtflijhodlimjoaaGreat.msgArg
namespace Go.Proofs.YtflijhodlimjoaaGreat.recsArg
open Go.ChangeShapes Go.WideShapes Go.RowKit Go.Deep Go.Proofs.YtflijhodlimjoaaGreat.kit Go.Proofs.YtflijhodlimjoaaGreat.timed Go.Proofs.YtflijhodlimjoaaGreat.nspec Go.Proofs.YtflijhodlimjoaaGreat.refA Go.Proofs.YtflijhodlimjoaaGreat.refB Go.Proofs.YtflijhodlimjoaaGreat.wireP Go.Proofs.YtflijhodlimjoaaGreat.wireM Go.Proofs.YtflijhodlimjoaaGreat.rows Go.Proofs.YtflijhodlimjoaaGreat.msgArg Go.Proofs.YtflijhodlimjoaaGreat.fld Go.Proofs.YtflijhodlimjoaaGreat.dfold Go.Proofs.YtflijhodlimjoaaGreat.sealS
set_option linter.unusedVariables false

/-- what is known of records handed in -/
structure InR (w : World) (a : Option Addr) (n c : Nat) (L : List Rc) (b : Nat) : Prop where
  len : n = L.length
  rd : RdC w a 5 (L.map Rc.cells)
  nil : a = none → L.length = 0 ∧ c = 0
  le : n ≤ b
  sz : ∀ x ∈ L, x.o.size ≤ b ∧ x.d.size ≤ b
theorem open_recs {H : Type} {enc : TypeId × Value → H} {w : World} {fuel : Nat} {a : Option Addr} {len cap : Nat} {d : DataW H} {p : List MemPlace}
    (h : DataW.trod enc Tryz.prog w 0 (fun _ => true) true fuel 22 (Value.slice a len cap).cells.toList = some (d, p)) :
    ∃ L : List Rc, InR w a len cap L (Rows.uptoBulk d) := by
  obtain ⟨L, h1, h2, h3, h4, _, h6⟩ := open_rows Rc.cells 5 (by decide) (fun _ => rfl) (fun t b => (t.o.size ≤ b ∧ t.d.size ≤ b) ∧ t.d.size ≤ maxLen) Tryz.underlying22 cellsRec (fun t x y h1 h2 => ⟨⟨Nat.le_trans h1.1.1 h2, Nat.le_trans h1.1.2 h2⟩, h1.2⟩) (fun n cs x h => rec_cells h) h
  exact ⟨L, h1, h2, h3, h4, fun x hx => (h6 x hx).1⟩
theorem foldS_le (x : Bs) : (foldS x).length ≤ x.length := by
  cases h : split x with
  | none => rw [foldS_no h]; exact Nat.zero_le _
  | some ls =>
    have hn := split_iff.1 h
    have h1 : x.length = (put ls).length := congrArg List.length hn.1
    rw [foldS_yes hn, h1, put_length, put_length, room_low]
    exact Nat.le_refl _
theorem foldOne_le (f : Fld) (x : Bs) : (foldOne f x).length ≤ x.length := by
  unfold foldOne; split
  · exact foldS_le x
  · exact Nat.le_refl _
theorem foldL_le : ∀ (fs : List Fld) (d : Bs) (p : List Bs) (r : Bs), splitS fs d = some (p, r) → (foldL fs p).length ≤ d.length
  | [], d, p, r, h => by simp [foldL]
  | f :: fs, d, p, r, h => by
    simp only [splitS] at h
    split at h
    · cases h
    · obtain ⟨⟨p', r'⟩, h1, h2⟩ := Option.map_eq_some_iff.1 h
      simp only [Prod.mk.injEq] at h2
      obtain ⟨rfl, rfl⟩ := h2
      have ih := foldL_le fs _ _ _ h1
      simp only [foldL, List.length_append]
      have h3 := foldOne_le f (d.take (takeS f d).toNat)
      rw [List.length_drop] at ih
      rw [List.length_take] at h3
      omega
theorem foldDS_le (t : Int) (d : Bs) : (foldDS t d).length ≤ 65535 := by
  unfold foldDS
  split
  · rename_i hc
    have hl := dnames.check_len hc
    cases hf : formS t with
    | none => simp only; exact hl
    | some fs =>
      obtain ⟨p, h1, h2, h3⟩ := dnames.parts_ok hc hf
      rw [h1]
      simp only
      have := foldL_le fs d p [] h2
      omega
  · simp
theorem bulk_fold : ∀ L : List Rc, bulk (L.map foldX) ≤ 65535 * L.length
  | [] => Nat.le_refl _
  | x :: L => by
    have ih := bulk_fold L
    have h1 : (foldX x).length ≤ 65535 := foldDS_le _ _
    rw [List.map_cons, bulk_cons, List.length_cons]
    omega
theorem InR.ok {w : World} {a : Option Addr} {n c : Nat} {L : List Rc} {b : Nat} (h : InR w a n c L b) (hb : b ≤ 1048576) : (∀ x ∈ L, OkR x) ∧ n ≤ 1048576 ∧ bulk (L.map foldX) ≤ 68719476736 := by
  have h1 := bulk_fold L
  have h2 := h.le
  have h3 := h.len
  exact ⟨fun x hx => ⟨by have := (h.sz x hx).1; omega, by have := (h.sz x hx).2; omega⟩, by omega, by omega⟩
end Go.Proofs.YtflijhodlimjoaaGreat.recsArg
namespace Go.Proofs.YtflijhodlimjoaaGreat.sealSigns
open Go.RowKit Go.Proofs.YtflijhodlimjoaaGreat.kit Go.Proofs.YtflijhodlimjoaaGreat.timed Go.Proofs.YtflijhodlimjoaaGreat.nspec Go.Proofs.YtflijhodlimjoaaGreat.wireP Go.Proofs.YtflijhodlimjoaaGreat.wireM Go.Proofs.YtflijhodlimjoaaGreat.rows Go.Proofs.YtflijhodlimjoaaGreat.sealS Go.Proofs.YtflijhodlimjoaaGreat.signP Go.Proofs.YtflijhodlimjoaaGreat.wholeR Go.Proofs.YtflijhodlimjoaaGreat.recsArg Go.Proofs.YtflijhodlimjoaaGreat.keepN
set_option linter.unusedVariables false

theorem sr_form (kf km ke ks : Int) (sn : ByteArray) (L : List Rc) (fr un : Int) : ∃ (o : ByteArray) (t cl l : Int) (d : ByteArray) (cd : Int), SignR kf km ke ks sn L fr un = .returned (.tuple #[.agg #[.string o, .int .i64 t, .int .i64 cl, .int .i64 l, .string d], .int .i64 cd]) := by
  have hno : ∀ c : Int, ∃ (o : ByteArray) (t cl l : Int) (d : ByteArray) (cd : Int), noR c = .returned (.tuple #[.agg #[.string o, .int .i64 t, .int .i64 cl, .int .i64 l, .string d], .int .i64 cd]) := fun c => ⟨⟨#[]⟩, 0, 0, 0, ⟨#[]⟩, c, rfl⟩
  unfold SignR
  split
  · exact hno _
  split
  · exact hno _
  split
  · exact hno _
  cases L with
  | nil => exact hno _
  | cons h r =>
    simp only
    split
    · exact hno _
    split
    · exact hno _
    split
    · exact hno _
    exact ⟨_, _, _, _, _, _, rfl⟩
set_option maxRecDepth 100000 in
set_option maxHeartbeats 8000000 in
theorem sealSigns_any (kf km ke ks : Int) (sn : ByteArray) (a : Option Addr) (n c : Nat) (L : List Rc) (bg en : Int) (w : World) {b : Nat} (hsn : sn.size ≤ 1048576) (hi : InR w a n c L b) (hb : b ≤ 1048576) (hbg : (Lit.int .i64 bg).wf = true) (hen : (Lit.int .i64 en).wf = true) :
    Calls Tryz.prog 4 #[.agg #[.int .i64 kf, .int .i64 km, .int .i64 ke, .int .i64 ks], .string sn, .slice a n c, .int .i64 bg, .int .i64 en] w fun e w' => e = .returned (.bool true) ∧ Below w.heap.size w w' := by
  obtain ⟨ho, hn1, hbk⟩ := hi.ok hb
  have HO := Lib.hid ho; have HBK := Lib.hid hbk; have HN := Lib.hid hi.len; have HR := Lib.hid hi.rd; have HNIL := Lib.hid hi.nil
  obtain ⟨o, t, cl, l, d, cd, hsr⟩ := sr_form kf km ke ks sn L bg en
  have HSR := Lib.hid hsr
  have hb1 := (Below.refl w.heap.size w).alloc (Nat.le_refl _) (.cells #[.int .i64 kf, .int .i64 km, .int .i64 ke, .int .i64 ks] 32)
  have hk1 := heap_alloc_new w (.cells #[.int .i64 kf, .int .i64 km, .int .i64 ke, .int .i64 ks] 32)
  obtain ⟨X, hX⟩ : ∃ X, w.heap.size = X := ⟨_, rfl⟩
  obtain ⟨W, hW⟩ : ∃ W, w.alloc (.cells #[.int .i64 kf, .int .i64 km, .int .i64 ke, .int .i64 ks] 32) = W := ⟨_, rfl⟩
  rw [hW] at hb1 hk1
  rw [hX] at hk1
  have HX := Lib.hid hX; have HW := Lib.hid hW; have HB1 := Lib.hid hb1; have HK1 := Lib.hid hk1
  have CT := Lib.hid (twin_at W a c L (HR.out.below hb1 rfl) HNIL.out (by have := HN.out; omega) W (Below.refl _ _))
  rw [← HN.out] at CT
  clear ho hbk hi hsr hb1 hk1 hX hW hbg hen
  go_enter Tryz.func4, Tryz.ntmps4
  go_upto_region 1 with fail
  rw [HW.out]
  try rw [HX.out]
  go_wp2_with fail
  refine CT.out.mono ?_
  rintro e w2 ⟨g, cap, rfl, htw, hB2⟩
  have HB2 := Lib.hid (HB1.out.trans (hB2.mono HB1.out.size))
  have HK2 := Lib.hid ((hB2.block X (Array.getElem?_eq_some_iff.1 HK1.out).1).trans HK1.out)
  have HTW := Lib.hid htw
  have CS := Lib.hid (sign.sign_any kf km ke ks sn (some ⟨g, 0, none⟩) n cap L bg en w2 HN.out htw.rd HO.out (by omega) HBK.out (by omega))
  rw [HSR.out] at CS
  have k0 : w2.cell? ⟨X, 0, none⟩ = some (.int .i64 kf) := by simp only [World.cell?, HK2.out]; rfl
  have k1 : w2.cell? ⟨X, 1, none⟩ = some (.int .i64 km) := by simp only [World.cell?, HK2.out]; rfl
  have k2 : w2.cell? ⟨X, 2, none⟩ = some (.int .i64 ke) := by simp only [World.cell?, HK2.out]; rfl
  have k3 : w2.cell? ⟨X, 3, none⟩ = some (.int .i64 ks) := by simp only [World.cell?, HK2.out]; rfl
  clear hB2 htw CT
  trace "1"
  go_wp2_with fail
  refine CS.out.mono ?_
  rintro e w3 ⟨rfl, hB3⟩
  have HB3 := Lib.hid (HB2.out.trans (hB3.mono HB2.out.size))
  have HK3 := Lib.hid ((hB3.block X (Array.getElem?_eq_some_iff.1 HK2.out).1).trans HK2.out)
  have HTW3 := Lib.hid (HTW.out.below hB3)
  clear hB3 CS k0 k1 k2 k3
  have hb4 := (Below.refl w3.heap.size w3).alloc (Nat.le_refl _) (.cells #[.string o, .int .i64 t, .int .i64 cl, .int .i64 l, .string d] 34)
  have hy4 := heap_alloc_new w3 (.cells #[.string o, .int .i64 t, .int .i64 cl, .int .i64 l, .string d] 34)
  obtain ⟨Y, hY⟩ : ∃ Y, w3.heap.size = Y := ⟨_, rfl⟩
  obtain ⟨w4, hw4⟩ : ∃ w4, w3.alloc (.cells #[.string o, .int .i64 t, .int .i64 cl, .int .i64 l, .string d] 34) = w4 := ⟨_, rfl⟩
  rw [hw4] at hb4 hy4
  rw [hY] at hy4
  have HB4 := Lib.hid (HB3.out.trans (hb4.mono HB3.out.size))
  have HK4 := Lib.hid ((hb4.block X (Array.getElem?_eq_some_iff.1 HK3.out).1).trans HK3.out)
  have HTW4 := Lib.hid (HTW3.out.below hb4)
  have HY := Lib.hid hY; have HW4 := Lib.hid hw4; have HY4 := Lib.hid hy4
  clear hb4 hy4 hY hw4
  trace "2"
  go_upto_region 3 with fail
  rw [HW4.out]
  try rw [HY.out]
  have CS := Lib.hid (signSet.signset_any kf km ke ks sn a n c L bg en w4 HN.out (HR.out.below HB4.out rfl) HO.out (by omega) HBK.out (by omega))
  rw [HSR.out] at CS
  have k0 : w4.cell? ⟨X, 0, none⟩ = some (.int .i64 kf) := by simp only [World.cell?, HK4.out]; rfl
  have k1 : w4.cell? ⟨X, 1, none⟩ = some (.int .i64 km) := by simp only [World.cell?, HK4.out]; rfl
  have k2 : w4.cell? ⟨X, 2, none⟩ = some (.int .i64 ke) := by simp only [World.cell?, HK4.out]; rfl
  have k3 : w4.cell? ⟨X, 3, none⟩ = some (.int .i64 ks) := by simp only [World.cell?, HK4.out]; rfl
  trace "3"
  go_wp2_with fail
  refine CS.out.mono ?_
  rintro e w5 ⟨rfl, hB5⟩
  have HB5 := Lib.hid (HB4.out.trans (hB5.mono HB4.out.size))
  have HTW5 := Lib.hid (HTW4.out.below hB5)
  have hy5 := (hB5.block Y (Array.getElem?_eq_some_iff.1 HY4.out).1).trans HY4.out
  have HY5 := Lib.hid hy5
  clear hB5 CS k0 k1 k2 k3
  have hb6 := (Below.refl w5.heap.size w5).alloc (Nat.le_refl _) (.cells #[.string o, .int .i64 t, .int .i64 cl, .int .i64 l, .string d] 34)
  have hz6 := heap_alloc_new w5 (.cells #[.string o, .int .i64 t, .int .i64 cl, .int .i64 l, .string d] 34)
  obtain ⟨Z, hZ⟩ : ∃ Z, w5.heap.size = Z := ⟨_, rfl⟩
  obtain ⟨w6, hw6⟩ : ∃ w6, w5.alloc (.cells #[.string o, .int .i64 t, .int .i64 cl, .int .i64 l, .string d] 34) = w6 := ⟨_, rfl⟩
  rw [hw6] at hb6 hz6
  rw [hZ] at hz6
  have HB6 := Lib.hid (HB5.out.trans (hb6.mono HB5.out.size))
  have HTW6 := Lib.hid (HTW5.out.below hb6)
  have hy6 := (hb6.block Y (Array.getElem?_eq_some_iff.1 hy5).1).trans hy5
  have HY6 := Lib.hid hy6; have HZ := Lib.hid hZ; have HW6 := Lib.hid hw6; have HZ6 := Lib.hid hz6
  clear hb6 hz6 hZ hw6 hy5 hy6
  trace "4"
  go_upto_region 4 with fail
  rw [HW6.out]
  try rw [HZ.out]
  have y0 : w6.cell? ⟨Y, 0, none⟩ = some (.string o) := by simp only [World.cell?, HY6.out]; rfl
  have y1 : w6.cell? ⟨Y, 1, none⟩ = some (.int .i64 t) := by simp only [World.cell?, HY6.out]; rfl
  have y2 : w6.cell? ⟨Y, 2, none⟩ = some (.int .i64 cl) := by simp only [World.cell?, HY6.out]; rfl
  have y3 : w6.cell? ⟨Y, 3, none⟩ = some (.int .i64 l) := by simp only [World.cell?, HY6.out]; rfl
  have y4 : w6.cell? ⟨Y, 4, none⟩ = some (.string d) := by simp only [World.cell?, HY6.out]; rfl
  have z0 : w6.cell? ⟨Z, 0, none⟩ = some (.string o) := by simp only [World.cell?, HZ6.out]; rfl
  have z1 : w6.cell? ⟨Z, 1, none⟩ = some (.int .i64 t) := by simp only [World.cell?, HZ6.out]; rfl
  have z2 : w6.cell? ⟨Z, 2, none⟩ = some (.int .i64 cl) := by simp only [World.cell?, HZ6.out]; rfl
  have z3 : w6.cell? ⟨Z, 3, none⟩ = some (.int .i64 l) := by simp only [World.cell?, HZ6.out]; rfl
  have z4 : w6.cell? ⟨Z, 4, none⟩ = some (.string d) := by simp only [World.cell?, HZ6.out]; rfl
  have CW := Lib.hid (whole_any (some ⟨g, 0, none⟩) a cap c W.heap.size L w6 HTW6.out (HR.out.below HB6.out rfl) (by have := HN.out; omega))
  rw [← HN.out] at CW
  trace "5"
  go_wp2_with fail
  refine CW.out.mono ?_
  rintro e w7 ⟨rfl, hB7⟩
  have HB7 := Lib.hid (HB6.out.trans (hB7.mono HB6.out.size))
  clear hB7 y0 y1 y2 y3 y4 z0 z1 z2 z3 z4 CW
  go_wp2_with fail
  go_ret
  exact ⟨rfl, HB7.out⟩
end Go.Proofs.YtflijhodlimjoaaGreat.sealSigns
