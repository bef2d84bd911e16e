/- A message handed in: opened. A list of records handed in: opened, and that their types are numbers of the model. The law gazetteerlaw2.MasterPrints: both printed forms are one, the records are only read: walk. -/
import Derived.Test.YtjejmgdpjfdhjaaGreatDoorP21
import Derived.Test.YtjejmgdpjfdhjaaGreatDoorP24
import Derived.Test.YtjejmgdpjfdhjaaGreatDoorP25
import Derived.Test.YtjejmgdpjfdhjaaGreatDoorP26
import Derived.Deep.Slices
import Derived.Deep.Fields
import Derived.ChangeSame
import Derived.Carry
import Derived.ChangeOld
import Derived.ProofKit
namespace Go.Proofs.YtjejmgdpjfdhjaaGreatDoor.msgArg
open Go.ChangeShapes Go.WideShapes Go.RowKit Go.Deep Go.Proofs.YtjejmgdpjfdhjaaGreatDoor.kit Go.Proofs.YtjejmgdpjfdhjaaGreatDoor.timed Go.Proofs.YtjejmgdpjfdhjaaGreatDoor.wireP Go.Proofs.YtjejmgdpjfdhjaaGreatDoor.wireM Go.Proofs.YtjejmgdpjfdhjaaGreatDoor.rows
set_option linter.unusedVariables false

theorem got {α : Type} {l : List α} {i n : Nat} (h : l.length = n) (hi : i < n) : ∃ y, l[i]? = some y := ⟨_, List.getElem?_eq_getElem (by omega)⟩
theorem one_at {cs : List Value} {o : Nat} {v : Value} (h : (cs.drop o).take 1 = [v]) : cs[o]? = some v := by
  have : ((cs.drop o).take 1)[0]? = some v := by rw [h]; rfl
  rw [List.getElem?_take_of_lt (by omega), List.getElem?_drop] at this; simpa using this
theorem choose_list {α : Type} (p : Nat → α → Prop) : ∀ n, (∀ i, i < n → ∃ x, p i x) → ∃ l : List α, l.length = n ∧ ∀ i x, l[i]? = some x → p i x
  | 0, _ => ⟨[], rfl, by simp⟩
  | n + 1, h => by
    obtain ⟨l, hl, hp⟩ := choose_list p n (fun i hi => h i (by omega))
    obtain ⟨x, hx⟩ := h n (by omega)
    refine ⟨l ++ [x], by simp [hl], fun i y hy => ?_⟩
    by_cases hi : i < n
    · rw [List.getElem?_append_left (by omega)] at hy; exact hp i y hy
    · have hlt := (List.getElem?_eq_some_iff.1 hy).1
      have : i = n := by simp [hl] at hlt; omega
      subst this
      rw [List.getElem?_append_right (by omega), hl, Nat.sub_self] at hy
      simp at hy; subst hy; exact hx
theorem cell_lt {w : World} {a : Addr} {v : Value} (h : w.cell? a = some v) : a.block < w.heap.size := by
  rcases Nat.lt_or_ge a.block w.heap.size with h' | h'
  · exact h'
  · simp [World.cell?, Array.getElem?_eq_none h'] at h
set_option maxRecDepth 100000 in
theorem bulk_len {H : Type} : ∀ l : List (DataW H), (∀ x ∈ l, 1 ≤ Rows.uptoBulk x) → l.length ≤ Rows.uptoBulkAll l
  | [], _ => Nat.zero_le _
  | x :: l, h => by
    have h1 := bulk_len l (fun y hy => h y (List.mem_cons_of_mem _ hy))
    have h2 := h x List.mem_cons_self
    have e : Rows.uptoBulkAll (x :: l) = Rows.uptoBulk x + Rows.uptoBulkAll l := rfl
    rw [e, List.length_cons]; omega
set_option maxRecDepth 100000 in
theorem bulk_mem {H : Type} : ∀ (l : List (DataW H)) (x : DataW H), x ∈ l → Rows.uptoBulk x ≤ Rows.uptoBulkAll l
  | y :: l, x, h => by
    have e : Rows.uptoBulkAll (y :: l) = Rows.uptoBulk y + Rows.uptoBulkAll l := rfl
    rw [e]
    rcases List.mem_cons.1 h with rfl | h
    · omega
    · have := bulk_mem l x h; omega
set_option maxRecDepth 100000 in
/-- a list of rows handed in -/
theorem open_rows {α : Type} (f : α → List Value) (m : Nat) (hm0 : 0 < m) (hf : ∀ x, (f x).length = m) (G : α → Nat → Prop) {H : Type} {enc : TypeId × Value → H} {w : World} {fuel : Nat} {a : Option Addr} {len cap : Nat} {d : DataW H} {p : List MemPlace} {T E : TypeId}
    (hT : Tryz.prog.underlying T = some (.slice E)) (hE : Tryz.prog.cellsOf E = m) (hG : ∀ t x y, G t x → x ≤ y → G t y)
    (hc : ∀ (n : Nat) (cs : List Value) (x : DataW H × List MemPlace), DataW.trod enc Tryz.prog w 0 (fun _ => true) true n E cs = some x → ∃ t, cs = f t ∧ G t (Rows.uptoBulk x.1) ∧ 1 ≤ Rows.uptoBulk x.1)
    (h : DataW.trod enc Tryz.prog w 0 (fun _ => true) true fuel T (Value.slice a len cap).cells.toList = some (d, p)) :
    ∃ ls : List α, len = ls.length ∧ RdC w a m (ls.map f) ∧ (a = none → ls.length = 0 ∧ cap = 0) ∧ len ≤ Rows.uptoBulk d ∧ len ≤ maxLen ∧ ∀ t ∈ ls, G t (Rows.uptoBulk d) := by
  rcases open_slice hT h with ⟨hcs, hx⟩ | ⟨ad, len', cap', m', n, D, Pl, hcs, hb, hl, hm, hmm, hx, hi⟩
  · simp [Value.cells] at hcs
    obtain ⟨rfl, rfl, rfl⟩ := hcs
    exact ⟨[], rfl, RdC.nil _ _ _, fun _ => ⟨rfl, rfl⟩, Nat.zero_le _, Nat.zero_le _, by simp⟩
  · simp [Value.cells] at hcs
    obtain ⟨rfl, rfl, rfl⟩ := hcs
    simp only [if_true] at hmm
    subst hmm
    simp only [Prod.mk.injEq] at hx
    obtain ⟨rfl, rfl⟩ := hx
    rw [hE] at hi
    have e : ∀ (l1 l2 : List (DataW H)), Rows.uptoBulk (DataW.slice l1 l2) = Rows.uptoBulkAll l1 + Rows.uptoBulkAll l2 + 1 := fun _ _ => rfl
    obtain ⟨ls, hll, hls⟩ := choose_list (fun i (t : α) => w.cells? 0 (ad.add (i * m)) m = some (f t) ∧ G t (Rows.uptoBulk (D i))) len (fun i hi2 => by
      obtain ⟨cs', h1, h2⟩ := hi i (by omega)
      obtain ⟨t, rfl, hg, _⟩ := hc _ _ _ h2
      exact ⟨t, h1, hg⟩)
    refine ⟨ls, hll.symm, ?_, (fun h => by cases h), ?_, Nat.le_trans hl hm, ?_⟩
    · intro j row hrow
      rw [List.getElem?_map] at hrow
      obtain ⟨t, ht, rfl⟩ := Option.map_eq_some_iff.1 hrow
      have hc' := (hls j t ht).1
      obtain ⟨_, hlen, hcell⟩ := World.cells?_some hc'
      obtain ⟨u1, hu1⟩ : ∃ u1, (f t)[0]? = some u1 := ⟨_, List.getElem?_eq_getElem (by rw [hf]; exact hm0)⟩
      have hc0 := hcell 0 hm0
      rw [hu1] at hc0
      obtain ⟨g, o, sp⟩ := ad
      have hspot : sp = none := by
        obtain ⟨t0, ht0⟩ : ∃ t0, ls[0]? = some t0 := ⟨_, List.getElem?_eq_getElem (by have := (List.getElem?_eq_some_iff.1 ht).1; omega)⟩
        obtain ⟨_, _, hcell00⟩ := World.cells?_some (hls 0 t0 ht0).1
        obtain ⟨u0, hu0⟩ : ∃ u0, (f t0)[0]? = some u0 := ⟨_, List.getElem?_eq_getElem (by rw [hf]; exact hm0)⟩
        have h00 := hcell00 0 hm0
        rw [hu0] at h00
        simpa [Addr.add] using World.cell?_spot h00
      subst hspot
      have hadd : ∀ (o k : Nat), (⟨g, o, none⟩ : Addr).add k = ⟨g, o + k, none⟩ := fun o k => by unfold Addr.add; split <;> simp_all
      refine ⟨hf t, g, o, rfl, ?_, fun i u hu => ?_⟩
      · have := cell_lt hc0; simpa [hadd] using this
      · have hi8 : i < m := by have := (List.getElem?_eq_some_iff.1 hu).1; rw [hf] at this; exact this
        have := hcell i hi8
        rw [hadd, hadd] at this
        rw [this]
        exact hu
    · have hbl := bulk_len ((List.range len).map D) (fun x hx => by
        obtain ⟨i, hi3, rfl⟩ := List.mem_map.1 hx
        obtain ⟨cs', _, h2⟩ := hi i (by have := List.mem_range.1 hi3; omega)
        obtain ⟨_, _, _, h3⟩ := hc _ _ _ h2
        exact h3)
      rw [e]
      rw [List.length_map, List.length_range] at hbl
      omega
    · intro t ht
      obtain ⟨i, hi1, hi2⟩ := List.getElem_of_mem ht
      have hti : ls[i]? = some t := by rw [List.getElem?_eq_getElem hi1, hi2]
      refine hG _ _ _ (hls i t hti).2 ?_
      rw [e]
      have := bulk_mem ((List.range len).map D) (D i) (List.mem_map.2 ⟨i, List.mem_range.2 (by omega), rfl⟩)
      omega

section
variable {H : Type} {enc : TypeId × Value → H} {w : World} {base : Nat} {spare : Nat → Bool} {held : Bool}
theorem cellsInt : Tryz.prog.cellsOf 3 = 1 := by kernel_rfl
theorem cellsBool : Tryz.prog.cellsOf 4 = 1 := by kernel_rfl
theorem cellsString : Tryz.prog.cellsOf 9 = 1 := by kernel_rfl
theorem cellsRecs : Tryz.prog.cellsOf 26 = 1 := by kernel_rfl
theorem cellsRec : Tryz.prog.cellsOf 47 = 5 := by kernel_rfl
theorem int_at {n : Nat} {cs : List Value} {o : Nat} {y : DataW H × List MemPlace} (h : DataW.trod enc Tryz.prog w base spare held n 3 ((cs.drop o).take (Tryz.prog.cellsOf 3)) = some y) : ∃ z, cs[o]? = some (.int .i64 z) := by
  rw [cellsInt] at h
  obtain ⟨z, hz, _⟩ := DataW.trod_int Tryz.underlying3 h
  exact ⟨z, one_at hz⟩
theorem bool_at {n : Nat} {cs : List Value} {o : Nat} {y : DataW H × List MemPlace} (h : DataW.trod enc Tryz.prog w base spare held n 4 ((cs.drop o).take (Tryz.prog.cellsOf 4)) = some y) : ∃ z, cs[o]? = some (.bool z) := by
  rw [cellsBool] at h
  obtain ⟨z, hz, _⟩ := DataW.trod_bool Tryz.underlying4 h
  exact ⟨z, one_at hz⟩
theorem str_at {n : Nat} {cs : List Value} {o : Nat} {y : DataW H × List MemPlace} (h : DataW.trod enc Tryz.prog w base spare held n 9 ((cs.drop o).take (Tryz.prog.cellsOf 9)) = some y) : ∃ z : ByteArray, cs[o]? = some (.string z) ∧ z.size ≤ Rows.uptoBulk y.1 ∧ z.size ≤ maxLen := by
  rw [cellsString] at h
  obtain ⟨z, hz, hy, hm⟩ := DataW.trod_string Tryz.underlying9 h
  subst hy
  have e : Rows.uptoBulk (DataW.lit (H := H) (.string z.data.toList)) = z.data.toList.length + 1 := rfl
  refine ⟨z, one_at hz, ?_, hm⟩
  rw [e, size_len]; omega
theorem bulk_agg (xs : List (DataW H × List MemPlace)) {i : Nat} {y : DataW H × List MemPlace} (hy : xs[i]? = some y) : Rows.uptoBulk y.1 ≤ Rows.uptoBulk (DataW.agg (xs.map (·.1))) := by
  have e : Rows.uptoBulk (DataW.agg (xs.map (·.1))) = Rows.uptoBulkAll (xs.map (·.1)) + 1 := rfl
  have := bulk_mem (xs.map (·.1)) y.1 (List.mem_map.2 ⟨y, List.mem_of_getElem? hy, rfl⟩)
  omega
set_option maxRecDepth 100000 in
theorem rec_cells {n : Nat} {cs : List Value} {x : DataW H × List MemPlace} (h : DataW.trod enc Tryz.prog w base spare held n 47 cs = some x) : ∃ t : Rc, cs = t.cells ∧ ((t.o.size ≤ Rows.uptoBulk x.1 ∧ t.d.size ≤ Rows.uptoBulk x.1) ∧ t.d.size ≤ maxLen) ∧ 1 ≤ Rows.uptoBulk x.1 := by
  obtain ⟨xs, n', _, rfl, hlen, hxl, hf⟩ := DataW.trod_struct Tryz.underlying47 h
  rw [cellsRec] at hlen
  obtain ⟨y0, e0⟩ := got hxl (i := 0) (by decide)
  obtain ⟨y1, e1⟩ := got hxl (i := 1) (by decide)
  obtain ⟨y2, e2⟩ := got hxl (i := 2) (by decide)
  obtain ⟨y3, e3⟩ := got hxl (i := 3) (by decide)
  obtain ⟨y4, e4⟩ := got hxl (i := 4) (by decide)
  obtain ⟨z0, q0, s0, _⟩ := str_at (o := 0) ((hf 0 _ rfl).trans e0)
  obtain ⟨z1, q1⟩ := int_at (o := 1) ((hf 1 _ rfl).trans e1)
  obtain ⟨z2, q2⟩ := int_at (o := 2) ((hf 2 _ rfl).trans e2)
  obtain ⟨z3, q3⟩ := int_at (o := 3) ((hf 3 _ rfl).trans e3)
  obtain ⟨z4, q4, s4, m4⟩ := str_at (o := 4) ((hf 4 _ rfl).trans e4)
  refine ⟨⟨z0, z1, z2, z3, z4⟩, ?_, ⟨⟨Nat.le_trans s0 (bulk_agg xs e0), Nat.le_trans s4 (bulk_agg xs e4)⟩, m4⟩, ?_⟩
  · apply List.ext_getElem?
    intro i
    match i with
    | 0 => simpa [Rc.cells] using q0
    | 1 => simpa [Rc.cells] using q1
    | 2 => simpa [Rc.cells] using q2
    | 3 => simpa [Rc.cells] using q3
    | 4 => simpa [Rc.cells] using q4
    | i + 5 => rw [List.getElem?_eq_none (by omega), List.getElem?_eq_none (by simp [Rc.cells])]
  · show 1 ≤ Rows.uptoBulkAll (xs.map (·.1)) + 1
    omega
end
section
variable {H : Type} {enc : TypeId × Value → H} {w : World}
theorem slice_form {n : Nat} {cs : List Value} {o : Nat} {T E : TypeId} {y : DataW H × List MemPlace} (hT : Tryz.prog.underlying T = some (.slice E)) (hc : Tryz.prog.cellsOf T = 1) (h : DataW.trod enc Tryz.prog w 0 (fun _ => true) true n T ((cs.drop o).take (Tryz.prog.cellsOf T)) = some y) :
    ∃ a l c, cs[o]? = some (.slice a l c) ∧ DataW.trod enc Tryz.prog w 0 (fun _ => true) true n T (Value.slice a l c).cells.toList = some y := by
  rw [hc] at h
  have hs : ∃ (a : Option Addr) (l c : Nat), (cs.drop o).take 1 = [.slice a l c] := by
    rcases open_slice hT h with ⟨g0, _⟩ | ⟨ad, len, cap, _, _, _, _, g0, _⟩
    · exact ⟨none, 0, 0, g0⟩
    · exact ⟨some ad, len, cap, g0⟩
  obtain ⟨a, l, c, q0⟩ := hs
  rw [q0] at h
  exact ⟨a, l, c, one_at q0, h⟩
/-- what is known of a message handed in -/
structure InM (w : World) (p : Pl) (m : Mg) (b : Nat) : Prop where
  rd : RdM w p m
  nil : NilM p m
  qnil : p.qa = none → m.qs.length = 0 ∧ p.qc = 0
  lens : m.qs.length ≤ b ∧ m.an.length ≤ b ∧ m.au.length ≤ b ∧ m.ar.length ≤ b
  sq : ∀ x ∈ m.qs, x.n.size ≤ b
  sn : ∀ x ∈ m.an, x.o.size ≤ b ∧ x.d.size ≤ b
  su : ∀ x ∈ m.au, x.o.size ≤ b ∧ x.d.size ≤ b
  sr : ∀ x ∈ m.ar, x.o.size ≤ b ∧ x.d.size ≤ b
  w : OkW m
theorem InM.ok {p : Pl} {m : Mg} {b : Nat} (h : InM w p m b) (hb : b ≤ 1099511627776) : OkM m :=
  ⟨fun x hx => Nat.le_trans (h.sq x hx) hb, fun x hx => ⟨Nat.le_trans (h.sn x hx).1 hb, Nat.le_trans (h.sn x hx).2 hb⟩, fun x hx => ⟨Nat.le_trans (h.su x hx).1 hb, Nat.le_trans (h.su x hx).2 hb⟩, fun x hx => ⟨Nat.le_trans (h.sr x hx).1 hb, Nat.le_trans (h.sr x hx).2 hb⟩, Nat.le_trans h.lens.1 hb, Nat.le_trans h.lens.2.1 hb, Nat.le_trans h.lens.2.2.1 hb, Nat.le_trans h.lens.2.2.2 hb⟩
end
end Go.Proofs.YtjejmgdpjfdhjaaGreatDoor.msgArg
namespace Go.Proofs.YtjejmgdpjfdhjaaGreatDoor.recsT
open Go.ChangeShapes Go.WideShapes Go.RowKit Go.Deep Go.Proofs.YtjejmgdpjfdhjaaGreatDoor.kit Go.Proofs.YtjejmgdpjfdhjaaGreatDoor.timed Go.Proofs.YtjejmgdpjfdhjaaGreatDoor.wireP Go.Proofs.YtjejmgdpjfdhjaaGreatDoor.wireM Go.Proofs.YtjejmgdpjfdhjaaGreatDoor.rows Go.Proofs.YtjejmgdpjfdhjaaGreatDoor.msgArg
set_option linter.unusedVariables false

section
variable {H : Type} {enc : TypeId × Value → H} {w : World} {base : Nat} {spare : Nat → Bool} {held : Bool}
theorem intW_at {n : Nat} {cs : List Value} {o : Nat} {y : DataW H × List MemPlace} (h : DataW.trod enc Tryz.prog w base spare held n 3 ((cs.drop o).take (Tryz.prog.cellsOf 3)) = some y) : ∃ z, cs[o]? = some (.int .i64 z) ∧ (Lit.int .i64 z).wf = true := by
  rw [cellsInt] at h
  obtain ⟨z, hz, _, hw⟩ := DataW.trod_int Tryz.underlying3 h
  exact ⟨z, one_at hz, hw⟩
set_option maxRecDepth 100000 in
theorem recT_cells {n : Nat} {cs : List Value} {x : DataW H × List MemPlace} (h : DataW.trod enc Tryz.prog w base spare held n 47 cs = some x) : ∃ t : Rc, cs = t.cells ∧ ((t.o.size ≤ Rows.uptoBulk x.1 ∧ t.d.size ≤ Rows.uptoBulk x.1) ∧ t.d.size ≤ maxLen ∧ (Lit.int .i64 t.t).wf = true) ∧ 1 ≤ Rows.uptoBulk x.1 := by
  obtain ⟨xs, n', _, rfl, hlen, hxl, hf⟩ := DataW.trod_struct Tryz.underlying47 h
  rw [cellsRec] at hlen
  obtain ⟨y0, e0⟩ := got hxl (i := 0) (by decide)
  obtain ⟨y1, e1⟩ := got hxl (i := 1) (by decide)
  obtain ⟨y2, e2⟩ := got hxl (i := 2) (by decide)
  obtain ⟨y3, e3⟩ := got hxl (i := 3) (by decide)
  obtain ⟨y4, e4⟩ := got hxl (i := 4) (by decide)
  obtain ⟨z0, q0, s0, _⟩ := str_at (o := 0) ((hf 0 _ rfl).trans e0)
  obtain ⟨z1, q1, g1⟩ := intW_at (o := 1) ((hf 1 _ rfl).trans e1)
  obtain ⟨z2, q2⟩ := int_at (o := 2) ((hf 2 _ rfl).trans e2)
  obtain ⟨z3, q3⟩ := int_at (o := 3) ((hf 3 _ rfl).trans e3)
  obtain ⟨z4, q4, s4, m4⟩ := str_at (o := 4) ((hf 4 _ rfl).trans e4)
  refine ⟨⟨z0, z1, z2, z3, z4⟩, ?_, ⟨⟨Nat.le_trans s0 (bulk_agg xs e0), Nat.le_trans s4 (bulk_agg xs e4)⟩, m4, g1⟩, ?_⟩
  · apply List.ext_getElem?
    intro i
    match i with
    | 0 => simpa [Rc.cells] using q0
    | 1 => simpa [Rc.cells] using q1
    | 2 => simpa [Rc.cells] using q2
    | 3 => simpa [Rc.cells] using q3
    | 4 => simpa [Rc.cells] using q4
    | i + 5 => rw [List.getElem?_eq_none (by omega), List.getElem?_eq_none (by simp [Rc.cells])]
  · show 1 ≤ Rows.uptoBulkAll (xs.map (·.1)) + 1
    omega
end
theorem wf_bd {x : Int} (h : (Lit.int .i64 x).wf = true) : -9223372036854775808 ≤ x ∧ x ≤ 9223372036854775807 := by
  simp only [Lit.wf, Bool.and_eq_true, decide_eq_true_eq] at h
  exact h
/-- what is known of records handed in -/
structure InT (w : World) (a : Option Addr) (n c : Nat) (L : List Rc) (b : Nat) : Prop where
  len : n = L.length
  rd : RdC w a 5 (L.map Rc.cells)
  nil : a = none → L.length = 0 ∧ c = 0
  le : n ≤ b
  sz : ∀ x ∈ L, x.o.size ≤ b ∧ x.d.size ≤ b
  ty : ∀ x ∈ L, -9223372036854775808 ≤ x.t ∧ x.t ≤ 9223372036854775807
theorem open_recs {H : Type} {enc : TypeId × Value → H} {w : World} {fuel : Nat} {a : Option Addr} {len cap : Nat} {d : DataW H} {p : List MemPlace}
    (h : DataW.trod enc Tryz.prog w 0 (fun _ => true) true fuel 26 (Value.slice a len cap).cells.toList = some (d, p)) :
    ∃ L : List Rc, InT w a len cap L (Rows.uptoBulk d) := by
  obtain ⟨L, h1, h2, h3, h4, _, h6⟩ := open_rows Rc.cells 5 (by decide) (fun _ => rfl) (fun t b => (t.o.size ≤ b ∧ t.d.size ≤ b) ∧ t.d.size ≤ maxLen ∧ (Lit.int .i64 t.t).wf = true) Tryz.underlying26 cellsRec (fun t x y h1 h2 => ⟨⟨Nat.le_trans h1.1.1 h2, Nat.le_trans h1.1.2 h2⟩, h1.2⟩) (fun n cs x h => recT_cells h) h
  exact ⟨L, h1, h2, h3, h4, fun x hx => (h6 x hx).1, fun x hx => wf_bd (h6 x hx).2.2⟩
end Go.Proofs.YtjejmgdpjfdhjaaGreatDoor.recsT
namespace Go.Proofs.YtjejmgdpjfdhjaaGreatDoor.mprints
open Go.RowKit Go.Proofs.YtjejmgdpjfdhjaaGreatDoor.kit Go.Proofs.YtjejmgdpjfdhjaaGreatDoor.nspec Go.Proofs.YtjejmgdpjfdhjaaGreatDoor.timed Go.Proofs.YtjejmgdpjfdhjaaGreatDoor.wireP Go.Proofs.YtjejmgdpjfdhjaaGreatDoor.wireM Go.Proofs.YtjejmgdpjfdhjaaGreatDoor.rows Go.Proofs.YtjejmgdpjfdhjaaGreatDoor.wholeR Go.Proofs.YtjejmgdpjfdhjaaGreatDoor.dshowB Go.Proofs.YtjejmgdpjfdhjaaGreatDoor.fmt16 Go.Proofs.YtjejmgdpjfdhjaaGreatDoor.printP
set_option linter.unusedVariables false

set_option maxRecDepth 100000 in
set_option maxHeartbeats 4000000 in
theorem walk (a : Option Addr) (n c : Nat) (L : List Rc) (O : ByteArray) (w : World) {b : Nat} (hi : recsT.InT w a n c L b) (hb : b ≤ 1048576) (hO : O.size ≤ 1048576) (hP : PowT w) (hTz : TzT w) :
    Calls Tryz.prog 4 #[.slice a n c, .string O] w fun e w' => e = .returned (.bool true) ∧ Below w.heap.size w w' := by
  have hL : ∀ x ∈ L, x.o.size ≤ 1048576 ∧ x.d.size ≤ 1048576 := fun x hx => ⟨Nat.le_trans (hi.sz x hx).1 hb, Nat.le_trans (hi.sz x hx).2 hb⟩
  have hn : n ≤ 1048576 := Nat.le_trans hi.le hb
  have HN := Lib.hid hi.len; have HR := Lib.hid hi.rd; have HNIL := Lib.hid hi.nil
  have CT := Lib.hid (twin_at w a c L HR.out HNIL.out (by have := HN.out; omega) w (Below.refl _ _))
  rw [← HN.out] at CT
  have CP := Lib.hid (fun (a' : Option Addr) (c' : Nat) (wx : World) (hr : RdC wx a' 5 (L.map Rc.cells)) (hP' : PowT wx) (hT' : TzT wx) => printW.print_any a' n c' L O wx HN.out.symm hr hO hL hi.ty hn hP' hT')
  have CR := Lib.hid (fun (wx : World) (hB : Below w.heap.size w wx) => rprintW.rprint_any a n c L O wx HN.out.symm (HR.out.below hB rfl) hO hL hn)
  have HP := Lib.hid (fun (wx : World) (hB : Below w.heap.size w wx) => pow_below hP hB)
  have HTZ := Lib.hid (fun (wx : World) (hB : Below w.heap.size w wx) => tz_below hTz hB)
  obtain ⟨S, hS⟩ : ∃ S : ByteArray, (⟨(printS O.data.toList L).1.toArray⟩ : ByteArray) = S := ⟨_, rfl⟩
  obtain ⟨Z, hZ⟩ : ∃ Z, (printS O.data.toList L).2 = Z := ⟨_, rfl⟩
  rw [hS, hZ] at CP CR
  have hSS : (S.toList == S.toList) = true := beq_self_eq_true _
  have hZZ : (Z == Z) = true := beq_self_eq_true _
  clear hi hL hP hTz hS hZ
  go_enter Tryz.func4, Tryz.ntmps4
  go_wp2_with fail
  refine CT.out.mono ?_
  rintro e w2 ⟨g, cap, rfl, htw, hB2⟩
  have HB2 := Lib.hid hB2
  have HTW := Lib.hid htw
  clear hB2 htw CT
  go_wp2_with fail
  refine (CP.out _ _ _ HTW.out.rd (HP.out _ HB2.out) (HTZ.out _ HB2.out)).mono ?_
  rintro e w3 ⟨rfl, hB3⟩
  have HB3 := Lib.hid (HB2.out.trans (hB3.mono HB2.out.size))
  have HTW3 := Lib.hid (HTW.out.below hB3)
  clear hB3 CP
  go_wp2_with fail
  refine (CR.out _ HB3.out).mono ?_
  rintro e w4 ⟨rfl, hB4⟩
  have HB4 := Lib.hid (HB3.out.trans (hB4.mono HB3.out.size))
  have HTW4 := Lib.hid (HTW3.out.below hB4)
  have CW := Lib.hid (whole_any (some ⟨g, 0, none⟩) a cap c w.heap.size L w4 HTW4.out (HR.out.below HB4.out rfl) (by have := HN.out; omega))
  rw [← HN.out] at CW
  clear hB4 CR
  go_wp2_with fail
  refine CW.out.mono ?_
  rintro e w5 ⟨rfl, hB5⟩
  have HB5 := Lib.hid (HB4.out.trans (hB5.mono HB4.out.size))
  clear hB5
  go_wp2_with fail
  go_ret
  exact ⟨rfl, HB5.out⟩
end Go.Proofs.YtjejmgdpjfdhjaaGreatDoor.mprints
