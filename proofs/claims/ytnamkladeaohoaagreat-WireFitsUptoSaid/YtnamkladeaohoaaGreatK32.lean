/- A message handed in: opened. The law gazetteerlaw2.WireFits: walk. -/
import Derived.Test.YtnamkladeaohoaaGreatK10
import Derived.Test.YtnamkladeaohoaaGreatK24
import Derived.Test.YtnamkladeaohoaaGreatK29
import Derived.Test.YtnamkladeaohoaaGreatK30
import Derived.Test.YtnamkladeaohoaaGreatK31
import Derived.Test.YtnamkladeaohoaaGreatK22
import Derived.Test.YtnamkladeaohoaaGreatK23
import Derived.Deep.Slices
import Derived.Deep.Fields
import Derived.ChangeSame
import Derived.Carry
import Derived.ChangeOld
import Derived.ProofKit
namespace Go.Proofs.YtnamkladeaohoaaGreat.msgArg
open Go.ChangeShapes Go.WideShapes Go.RowKit Go.Deep Go.Proofs.YtnamkladeaohoaaGreat.kit Go.Proofs.YtnamkladeaohoaaGreat.timed Go.Proofs.YtnamkladeaohoaaGreat.wireP Go.Proofs.YtnamkladeaohoaaGreat.wireM Go.Proofs.YtnamkladeaohoaaGreat.rows
set_option linter.unusedVariables false

theorem got {α : Type} {l : List α} {i n : Nat} (h : l.length = n) (hi : i < n) : ∃ y, l[i]? = some y := ⟨_, List.getElem?_eq_getElem (by omega)⟩
theorem one_at {cs : List Value} {o : Nat} {v : Value} (h : (cs.drop o).take 1 = [v]) : cs[o]? = some v := by
  have : ((cs.drop o).take 1)[0]? = some v := by rw [h]; rfl
  rw [List.getElem?_take_of_lt (by omega), List.getElem?_drop] at this; simpa using this
theorem choose_list {α : Type} (p : Nat → α → Prop) : ∀ n, (∀ i, i < n → ∃ x, p i x) → ∃ l : List α, l.length = n ∧ ∀ i x, l[i]? = some x → p i x
  | 0, _ => ⟨[], rfl, by simp⟩
  | n + 1, h => by
    obtain ⟨l, hl, hp⟩ := choose_list p n (fun i hi => h i (by omega))
    obtain ⟨x, hx⟩ := h n (by omega)
    refine ⟨l ++ [x], by simp [hl], fun i y hy => ?_⟩
    by_cases hi : i < n
    · rw [List.getElem?_append_left (by omega)] at hy; exact hp i y hy
    · have hlt := (List.getElem?_eq_some_iff.1 hy).1
      have : i = n := by simp [hl] at hlt; omega
      subst this
      rw [List.getElem?_append_right (by omega), hl, Nat.sub_self] at hy
      simp at hy; subst hy; exact hx
theorem cell_lt {w : World} {a : Addr} {v : Value} (h : w.cell? a = some v) : a.block < w.heap.size := by
  rcases Nat.lt_or_ge a.block w.heap.size with h' | h'
  · exact h'
  · simp [World.cell?, Array.getElem?_eq_none h'] at h
set_option maxRecDepth 100000 in
theorem bulk_len {H : Type} : ∀ l : List (DataW H), (∀ x ∈ l, 1 ≤ Rows.uptoBulk x) → l.length ≤ Rows.uptoBulkAll l
  | [], _ => Nat.zero_le _
  | x :: l, h => by
    have h1 := bulk_len l (fun y hy => h y (List.mem_cons_of_mem _ hy))
    have h2 := h x List.mem_cons_self
    have e : Rows.uptoBulkAll (x :: l) = Rows.uptoBulk x + Rows.uptoBulkAll l := rfl
    rw [e, List.length_cons]; omega
set_option maxRecDepth 100000 in
theorem bulk_mem {H : Type} : ∀ (l : List (DataW H)) (x : DataW H), x ∈ l → Rows.uptoBulk x ≤ Rows.uptoBulkAll l
  | y :: l, x, h => by
    have e : Rows.uptoBulkAll (y :: l) = Rows.uptoBulk y + Rows.uptoBulkAll l := rfl
    rw [e]
    rcases List.mem_cons.1 h with rfl | h
    · omega
    · have := bulk_mem l x h; omega
set_option maxRecDepth 100000 in
/-- a list of rows handed in -/
theorem open_rows {α : Type} (f : α → List Value) (m : Nat) (hm0 : 0 < m) (hf : ∀ x, (f x).length = m) (G : α → Nat → Prop) {H : Type} {enc : TypeId × Value → H} {w : World} {fuel : Nat} {a : Option Addr} {len cap : Nat} {d : DataW H} {p : List MemPlace} {T E : TypeId}
    (hT : Tryz.prog.underlying T = some (.slice E)) (hE : Tryz.prog.cellsOf E = m) (hG : ∀ t x y, G t x → x ≤ y → G t y)
    (hc : ∀ (n : Nat) (cs : List Value) (x : DataW H × List MemPlace), DataW.trod enc Tryz.prog w 0 (fun _ => true) true n E cs = some x → ∃ t, cs = f t ∧ G t (Rows.uptoBulk x.1) ∧ 1 ≤ Rows.uptoBulk x.1)
    (h : DataW.trod enc Tryz.prog w 0 (fun _ => true) true fuel T (Value.slice a len cap).cells.toList = some (d, p)) :
    ∃ ls : List α, len = ls.length ∧ RdC w a m (ls.map f) ∧ (a = none → ls.length = 0 ∧ cap = 0) ∧ len ≤ Rows.uptoBulk d ∧ len ≤ maxLen ∧ ∀ t ∈ ls, G t (Rows.uptoBulk d) := by
  rcases open_slice hT h with ⟨hcs, hx⟩ | ⟨ad, len', cap', m', n, D, Pl, hcs, hb, hl, hm, hmm, hx, hi⟩
  · simp [Value.cells] at hcs
    obtain ⟨rfl, rfl, rfl⟩ := hcs
    exact ⟨[], rfl, RdC.nil _ _ _, fun _ => ⟨rfl, rfl⟩, Nat.zero_le _, Nat.zero_le _, by simp⟩
  · simp [Value.cells] at hcs
    obtain ⟨rfl, rfl, rfl⟩ := hcs
    simp only [if_true] at hmm
    subst hmm
    simp only [Prod.mk.injEq] at hx
    obtain ⟨rfl, rfl⟩ := hx
    rw [hE] at hi
    have e : ∀ (l1 l2 : List (DataW H)), Rows.uptoBulk (DataW.slice l1 l2) = Rows.uptoBulkAll l1 + Rows.uptoBulkAll l2 + 1 := fun _ _ => rfl
    obtain ⟨ls, hll, hls⟩ := choose_list (fun i (t : α) => w.cells? 0 (ad.add (i * m)) m = some (f t) ∧ G t (Rows.uptoBulk (D i))) len (fun i hi2 => by
      obtain ⟨cs', h1, h2⟩ := hi i (by omega)
      obtain ⟨t, rfl, hg, _⟩ := hc _ _ _ h2
      exact ⟨t, h1, hg⟩)
    refine ⟨ls, hll.symm, ?_, (fun h => by cases h), ?_, Nat.le_trans hl hm, ?_⟩
    · intro j row hrow
      rw [List.getElem?_map] at hrow
      obtain ⟨t, ht, rfl⟩ := Option.map_eq_some_iff.1 hrow
      have hc' := (hls j t ht).1
      obtain ⟨_, hlen, hcell⟩ := World.cells?_some hc'
      obtain ⟨u1, hu1⟩ : ∃ u1, (f t)[0]? = some u1 := ⟨_, List.getElem?_eq_getElem (by rw [hf]; exact hm0)⟩
      have hc0 := hcell 0 hm0
      rw [hu1] at hc0
      obtain ⟨g, o, sp⟩ := ad
      have hspot : sp = none := by
        obtain ⟨t0, ht0⟩ : ∃ t0, ls[0]? = some t0 := ⟨_, List.getElem?_eq_getElem (by have := (List.getElem?_eq_some_iff.1 ht).1; omega)⟩
        obtain ⟨_, _, hcell00⟩ := World.cells?_some (hls 0 t0 ht0).1
        obtain ⟨u0, hu0⟩ : ∃ u0, (f t0)[0]? = some u0 := ⟨_, List.getElem?_eq_getElem (by rw [hf]; exact hm0)⟩
        have h00 := hcell00 0 hm0
        rw [hu0] at h00
        simpa [Addr.add] using World.cell?_spot h00
      subst hspot
      have hadd : ∀ (o k : Nat), (⟨g, o, none⟩ : Addr).add k = ⟨g, o + k, none⟩ := fun o k => by unfold Addr.add; split <;> simp_all
      refine ⟨hf t, g, o, rfl, ?_, fun i u hu => ?_⟩
      · have := cell_lt hc0; simpa [hadd] using this
      · have hi8 : i < m := by have := (List.getElem?_eq_some_iff.1 hu).1; rw [hf] at this; exact this
        have := hcell i hi8
        rw [hadd, hadd] at this
        rw [this]
        exact hu
    · have hbl := bulk_len ((List.range len).map D) (fun x hx => by
        obtain ⟨i, hi3, rfl⟩ := List.mem_map.1 hx
        obtain ⟨cs', _, h2⟩ := hi i (by have := List.mem_range.1 hi3; omega)
        obtain ⟨_, _, _, h3⟩ := hc _ _ _ h2
        exact h3)
      rw [e]
      rw [List.length_map, List.length_range] at hbl
      omega
    · intro t ht
      obtain ⟨i, hi1, hi2⟩ := List.getElem_of_mem ht
      have hti : ls[i]? = some t := by rw [List.getElem?_eq_getElem hi1, hi2]
      refine hG _ _ _ (hls i t hti).2 ?_
      rw [e]
      have := bulk_mem ((List.range len).map D) (D i) (List.mem_map.2 ⟨i, List.mem_range.2 (by omega), rfl⟩)
      omega

section
variable {H : Type} {enc : TypeId × Value → H} {w : World} {base : Nat} {spare : Nat → Bool} {held : Bool}
theorem cellsInt : Tryz.prog.cellsOf 3 = 1 := by kernel_rfl
theorem cellsBool : Tryz.prog.cellsOf 4 = 1 := by kernel_rfl
theorem cellsString : Tryz.prog.cellsOf 9 = 1 := by kernel_rfl
theorem cellsRecs : Tryz.prog.cellsOf 23 = 1 := by kernel_rfl
theorem cellsQns : Tryz.prog.cellsOf 22 = 1 := by kernel_rfl
theorem cellsRec : Tryz.prog.cellsOf 43 = 5 := by kernel_rfl
theorem cellsQn : Tryz.prog.cellsOf 35 = 3 := by kernel_rfl
theorem cellsMsg : Tryz.prog.cellsOf 25 = 14 := by kernel_rfl
theorem int_at {n : Nat} {cs : List Value} {o : Nat} {y : DataW H × List MemPlace} (h : DataW.trod enc Tryz.prog w base spare held n 3 ((cs.drop o).take (Tryz.prog.cellsOf 3)) = some y) : ∃ z, cs[o]? = some (.int .i64 z) := by
  rw [cellsInt] at h
  obtain ⟨z, hz, _⟩ := DataW.trod_int Tryz.underlying3 h
  exact ⟨z, one_at hz⟩
theorem bool_at {n : Nat} {cs : List Value} {o : Nat} {y : DataW H × List MemPlace} (h : DataW.trod enc Tryz.prog w base spare held n 4 ((cs.drop o).take (Tryz.prog.cellsOf 4)) = some y) : ∃ z, cs[o]? = some (.bool z) := by
  rw [cellsBool] at h
  obtain ⟨z, hz, _⟩ := DataW.trod_bool Tryz.underlying4 h
  exact ⟨z, one_at hz⟩
theorem str_at {n : Nat} {cs : List Value} {o : Nat} {y : DataW H × List MemPlace} (h : DataW.trod enc Tryz.prog w base spare held n 9 ((cs.drop o).take (Tryz.prog.cellsOf 9)) = some y) : ∃ z : ByteArray, cs[o]? = some (.string z) ∧ z.size ≤ Rows.uptoBulk y.1 ∧ z.size ≤ maxLen := by
  rw [cellsString] at h
  obtain ⟨z, hz, hy, hm⟩ := DataW.trod_string Tryz.underlying9 h
  subst hy
  have e : Rows.uptoBulk (DataW.lit (H := H) (.string z.data.toList)) = z.data.toList.length + 1 := rfl
  refine ⟨z, one_at hz, ?_, hm⟩
  rw [e, size_len]; omega
theorem bulk_agg (xs : List (DataW H × List MemPlace)) {i : Nat} {y : DataW H × List MemPlace} (hy : xs[i]? = some y) : Rows.uptoBulk y.1 ≤ Rows.uptoBulk (DataW.agg (xs.map (·.1))) := by
  have e : Rows.uptoBulk (DataW.agg (xs.map (·.1))) = Rows.uptoBulkAll (xs.map (·.1)) + 1 := rfl
  have := bulk_mem (xs.map (·.1)) y.1 (List.mem_map.2 ⟨y, List.mem_of_getElem? hy, rfl⟩)
  omega
set_option maxRecDepth 100000 in
theorem rec_cells {n : Nat} {cs : List Value} {x : DataW H × List MemPlace} (h : DataW.trod enc Tryz.prog w base spare held n 43 cs = some x) : ∃ t : Rc, cs = t.cells ∧ ((t.o.size ≤ Rows.uptoBulk x.1 ∧ t.d.size ≤ Rows.uptoBulk x.1) ∧ t.d.size ≤ maxLen) ∧ 1 ≤ Rows.uptoBulk x.1 := by
  obtain ⟨xs, n', _, rfl, hlen, hxl, hf⟩ := DataW.trod_struct Tryz.underlying43 h
  rw [cellsRec] at hlen
  obtain ⟨y0, e0⟩ := got hxl (i := 0) (by decide)
  obtain ⟨y1, e1⟩ := got hxl (i := 1) (by decide)
  obtain ⟨y2, e2⟩ := got hxl (i := 2) (by decide)
  obtain ⟨y3, e3⟩ := got hxl (i := 3) (by decide)
  obtain ⟨y4, e4⟩ := got hxl (i := 4) (by decide)
  obtain ⟨z0, q0, s0, _⟩ := str_at (o := 0) ((hf 0 _ rfl).trans e0)
  obtain ⟨z1, q1⟩ := int_at (o := 1) ((hf 1 _ rfl).trans e1)
  obtain ⟨z2, q2⟩ := int_at (o := 2) ((hf 2 _ rfl).trans e2)
  obtain ⟨z3, q3⟩ := int_at (o := 3) ((hf 3 _ rfl).trans e3)
  obtain ⟨z4, q4, s4, m4⟩ := str_at (o := 4) ((hf 4 _ rfl).trans e4)
  refine ⟨⟨z0, z1, z2, z3, z4⟩, ?_, ⟨⟨Nat.le_trans s0 (bulk_agg xs e0), Nat.le_trans s4 (bulk_agg xs e4)⟩, m4⟩, ?_⟩
  · apply List.ext_getElem?
    intro i
    match i with
    | 0 => simpa [Rc.cells] using q0
    | 1 => simpa [Rc.cells] using q1
    | 2 => simpa [Rc.cells] using q2
    | 3 => simpa [Rc.cells] using q3
    | 4 => simpa [Rc.cells] using q4
    | i + 5 => rw [List.getElem?_eq_none (by omega), List.getElem?_eq_none (by simp [Rc.cells])]
  · show 1 ≤ Rows.uptoBulkAll (xs.map (·.1)) + 1
    omega
set_option maxRecDepth 100000 in
theorem qn_cells {n : Nat} {cs : List Value} {x : DataW H × List MemPlace} (h : DataW.trod enc Tryz.prog w base spare held n 35 cs = some x) : ∃ t : Qn, cs = t.cells ∧ (t.n.size ≤ Rows.uptoBulk x.1) ∧ 1 ≤ Rows.uptoBulk x.1 := by
  obtain ⟨xs, n', _, rfl, hlen, hxl, hf⟩ := DataW.trod_struct Tryz.underlying35 h
  rw [cellsQn] at hlen
  obtain ⟨y0, e0⟩ := got hxl (i := 0) (by decide)
  obtain ⟨y1, e1⟩ := got hxl (i := 1) (by decide)
  obtain ⟨y2, e2⟩ := got hxl (i := 2) (by decide)
  obtain ⟨z0, q0, s0, _⟩ := str_at (o := 0) ((hf 0 _ rfl).trans e0)
  obtain ⟨z1, q1⟩ := int_at (o := 1) ((hf 1 _ rfl).trans e1)
  obtain ⟨z2, q2⟩ := int_at (o := 2) ((hf 2 _ rfl).trans e2)
  refine ⟨⟨z0, z1, z2⟩, ?_, Nat.le_trans s0 (bulk_agg xs e0), ?_⟩
  · apply List.ext_getElem?
    intro i
    match i with
    | 0 => simpa [Qn.cells] using q0
    | 1 => simpa [Qn.cells] using q1
    | 2 => simpa [Qn.cells] using q2
    | i + 3 => rw [List.getElem?_eq_none (by omega), List.getElem?_eq_none (by simp [Qn.cells])]
  · show 1 ≤ Rows.uptoBulkAll (xs.map (·.1)) + 1
    omega
end
section
variable {H : Type} {enc : TypeId × Value → H} {w : World}
theorem slice_form {n : Nat} {cs : List Value} {o : Nat} {T E : TypeId} {y : DataW H × List MemPlace} (hT : Tryz.prog.underlying T = some (.slice E)) (hc : Tryz.prog.cellsOf T = 1) (h : DataW.trod enc Tryz.prog w 0 (fun _ => true) true n T ((cs.drop o).take (Tryz.prog.cellsOf T)) = some y) :
    ∃ a l c, cs[o]? = some (.slice a l c) ∧ DataW.trod enc Tryz.prog w 0 (fun _ => true) true n T (Value.slice a l c).cells.toList = some y := by
  rw [hc] at h
  have hs : ∃ (a : Option Addr) (l c : Nat), (cs.drop o).take 1 = [.slice a l c] := by
    rcases open_slice hT h with ⟨g0, _⟩ | ⟨ad, len, cap, _, _, _, _, g0, _⟩
    · exact ⟨none, 0, 0, g0⟩
    · exact ⟨some ad, len, cap, g0⟩
  obtain ⟨a, l, c, q0⟩ := hs
  rw [q0] at h
  exact ⟨a, l, c, one_at q0, h⟩
/-- what is known of a message handed in -/
structure InM (w : World) (p : Pl) (m : Mg) (b : Nat) : Prop where
  rd : RdM w p m
  nil : NilM p m
  qnil : p.qa = none → m.qs.length = 0 ∧ p.qc = 0
  lens : m.qs.length ≤ b ∧ m.an.length ≤ b ∧ m.au.length ≤ b ∧ m.ar.length ≤ b
  sq : ∀ x ∈ m.qs, x.n.size ≤ b
  sn : ∀ x ∈ m.an, x.o.size ≤ b ∧ x.d.size ≤ b
  su : ∀ x ∈ m.au, x.o.size ≤ b ∧ x.d.size ≤ b
  sr : ∀ x ∈ m.ar, x.o.size ≤ b ∧ x.d.size ≤ b
  w : OkW m
theorem InM.ok {p : Pl} {m : Mg} {b : Nat} (h : InM w p m b) (hb : b ≤ 1099511627776) : OkM m :=
  ⟨fun x hx => Nat.le_trans (h.sq x hx) hb, fun x hx => ⟨Nat.le_trans (h.sn x hx).1 hb, Nat.le_trans (h.sn x hx).2 hb⟩, fun x hx => ⟨Nat.le_trans (h.su x hx).1 hb, Nat.le_trans (h.su x hx).2 hb⟩, fun x hx => ⟨Nat.le_trans (h.sr x hx).1 hb, Nat.le_trans (h.sr x hx).2 hb⟩, Nat.le_trans h.lens.1 hb, Nat.le_trans h.lens.2.1 hb, Nat.le_trans h.lens.2.2.1 hb, Nat.le_trans h.lens.2.2.2 hb⟩
set_option maxRecDepth 100000 in
theorem open_msg {r : Reach} {b0 : Nat} {v : Value} {d : DataW H} {p : List MemPlace}
    (hv : Value.okWide Tryz.prog w r b0 25 v) (h : DataW.Trod enc Tryz.prog w 0 (fun _ => true) true 25 v d p) :
    ∃ (P : Pl) (m : Mg), v = .agg (cellsM P m) ∧ InM w P m (Rows.uptoBulk d) := by
  obtain ⟨cs, rfl, hsz⟩ := okWide_struct Tryz.underlying25 hv
  rw [cellsMsg] at hsz
  obtain ⟨fuel, hf⟩ := h
  have e : (Value.agg cs).cells.toList = cs.toList := rfl
  rw [e] at hf
  obtain ⟨xs, n', _, hx, hlen, hxl, hg⟩ := DataW.trod_struct Tryz.underlying25 hf
  simp only [Prod.mk.injEq] at hx
  obtain ⟨rfl, rfl⟩ := hx
  obtain ⟨y0, e0⟩ := got hxl (i := 0) (by decide)
  obtain ⟨y1, e1⟩ := got hxl (i := 1) (by decide)
  obtain ⟨y2, e2⟩ := got hxl (i := 2) (by decide)
  obtain ⟨y3, e3⟩ := got hxl (i := 3) (by decide)
  obtain ⟨y4, e4⟩ := got hxl (i := 4) (by decide)
  obtain ⟨y5, e5⟩ := got hxl (i := 5) (by decide)
  obtain ⟨y6, e6⟩ := got hxl (i := 6) (by decide)
  obtain ⟨y7, e7⟩ := got hxl (i := 7) (by decide)
  obtain ⟨y8, e8⟩ := got hxl (i := 8) (by decide)
  obtain ⟨y9, e9⟩ := got hxl (i := 9) (by decide)
  obtain ⟨y10, e10⟩ := got hxl (i := 10) (by decide)
  obtain ⟨y11, e11⟩ := got hxl (i := 11) (by decide)
  obtain ⟨y12, e12⟩ := got hxl (i := 12) (by decide)
  obtain ⟨y13, e13⟩ := got hxl (i := 13) (by decide)
  obtain ⟨z0, q0⟩ := int_at (o := 0) ((hg 0 _ rfl).trans e0)
  obtain ⟨z1, q1⟩ := bool_at (o := 1) ((hg 1 _ rfl).trans e1)
  obtain ⟨z2, q2⟩ := int_at (o := 2) ((hg 2 _ rfl).trans e2)
  obtain ⟨z3, q3⟩ := bool_at (o := 3) ((hg 3 _ rfl).trans e3)
  obtain ⟨z4, q4⟩ := bool_at (o := 4) ((hg 4 _ rfl).trans e4)
  obtain ⟨z5, q5⟩ := bool_at (o := 5) ((hg 5 _ rfl).trans e5)
  obtain ⟨z6, q6⟩ := bool_at (o := 6) ((hg 6 _ rfl).trans e6)
  obtain ⟨z7, q7⟩ := bool_at (o := 7) ((hg 7 _ rfl).trans e7)
  obtain ⟨z8, q8⟩ := bool_at (o := 8) ((hg 8 _ rfl).trans e8)
  obtain ⟨z9, q9⟩ := int_at (o := 9) ((hg 9 _ rfl).trans e9)
  obtain ⟨a10, l10, c10, q10, g10⟩ := slice_form (o := 10) Tryz.underlying22 cellsQns ((hg 10 _ rfl).trans e10)
  obtain ⟨a11, l11, c11, q11, g11⟩ := slice_form (o := 11) Tryz.underlying23 cellsRecs ((hg 11 _ rfl).trans e11)
  obtain ⟨a12, l12, c12, q12, g12⟩ := slice_form (o := 12) Tryz.underlying23 cellsRecs ((hg 12 _ rfl).trans e12)
  obtain ⟨a13, l13, c13, q13, g13⟩ := slice_form (o := 13) Tryz.underlying23 cellsRecs ((hg 13 _ rfl).trans e13)
  obtain ⟨L10, rfl, r10, t10, u10, v10, s10⟩ := open_rows Qn.cells 3 (by decide) (fun _ => rfl) (fun t b => t.n.size ≤ b) Tryz.underlying22 cellsQn (fun t x y h1 h2 => Nat.le_trans h1 h2) (fun n cs x h => qn_cells h) g10
  obtain ⟨L11, rfl, r11, t11, u11, v11, s11⟩ := open_rows Rc.cells 5 (by decide) (fun _ => rfl) (fun t b => (t.o.size ≤ b ∧ t.d.size ≤ b) ∧ t.d.size ≤ maxLen) Tryz.underlying23 cellsRec (fun t x y h1 h2 => ⟨⟨Nat.le_trans h1.1.1 h2, Nat.le_trans h1.1.2 h2⟩, h1.2⟩) (fun n cs x h => rec_cells h) g11
  obtain ⟨L12, rfl, r12, t12, u12, v12, s12⟩ := open_rows Rc.cells 5 (by decide) (fun _ => rfl) (fun t b => (t.o.size ≤ b ∧ t.d.size ≤ b) ∧ t.d.size ≤ maxLen) Tryz.underlying23 cellsRec (fun t x y h1 h2 => ⟨⟨Nat.le_trans h1.1.1 h2, Nat.le_trans h1.1.2 h2⟩, h1.2⟩) (fun n cs x h => rec_cells h) g12
  obtain ⟨L13, rfl, r13, t13, u13, v13, s13⟩ := open_rows Rc.cells 5 (by decide) (fun _ => rfl) (fun t b => (t.o.size ≤ b ∧ t.d.size ≤ b) ∧ t.d.size ≤ maxLen) Tryz.underlying23 cellsRec (fun t x y h1 h2 => ⟨⟨Nat.le_trans h1.1.1 h2, Nat.le_trans h1.1.2 h2⟩, h1.2⟩) (fun n cs x h => rec_cells h) g13
  have w10 := bulk_agg xs e10
  have w11 := bulk_agg xs e11
  have w12 := bulk_agg xs e12
  have w13 := bulk_agg xs e13
  refine ⟨⟨a10, c10, a11, c11, a12, c12, a13, c13⟩, ⟨z0, z1, z2, z3, z4, z5, z6, z7, z8, z9, L10, L11, L12, L13⟩, ?_, ⟨r10, r11, r12, r13⟩, ⟨t11, t12, t13⟩, t10, ⟨Nat.le_trans u10 w10, Nat.le_trans u11 w11, Nat.le_trans u12 w12, Nat.le_trans u13 w13⟩, fun x hx => Nat.le_trans (s10 x hx) w10, fun x hx => ⟨Nat.le_trans (s11 x hx).1.1 w11, Nat.le_trans (s11 x hx).1.2 w11⟩, fun x hx => ⟨Nat.le_trans (s12 x hx).1.1 w12, Nat.le_trans (s12 x hx).1.2 w12⟩, fun x hx => ⟨Nat.le_trans (s13 x hx).1.1 w13, Nat.le_trans (s13 x hx).1.2 w13⟩, ⟨fun x hx => (s11 x hx).2, fun x hx => (s12 x hx).2, fun x hx => (s13 x hx).2, v10, v11, v12, v13⟩⟩
  congr 1
  apply Array.ext'
  apply List.ext_getElem?
  intro i
  have hl : cs.toList.length = 14 := by simpa using hsz
  match i with
  | 0 => simpa [cellsM] using q0
  | 1 => simpa [cellsM] using q1
  | 2 => simpa [cellsM] using q2
  | 3 => simpa [cellsM] using q3
  | 4 => simpa [cellsM] using q4
  | 5 => simpa [cellsM] using q5
  | 6 => simpa [cellsM] using q6
  | 7 => simpa [cellsM] using q7
  | 8 => simpa [cellsM] using q8
  | 9 => simpa [cellsM] using q9
  | 10 => simpa [cellsM] using q10
  | 11 => simpa [cellsM] using q11
  | 12 => simpa [cellsM] using q12
  | 13 => simpa [cellsM] using q13
  | i + 14 => rw [List.getElem?_eq_none (by omega), List.getElem?_eq_none (by simp [cellsM])]
end
end Go.Proofs.YtnamkladeaohoaaGreat.msgArg
namespace Go.Proofs.YtnamkladeaohoaaGreat.wireFits
open Go.RowKit Go.Proofs.YtnamkladeaohoaaGreat.kit Go.Proofs.YtnamkladeaohoaaGreat.timed Go.Proofs.YtnamkladeaohoaaGreat.nspec Go.Proofs.YtnamkladeaohoaaGreat.wireP Go.Proofs.YtnamkladeaohoaaGreat.wireM Go.Proofs.YtnamkladeaohoaaGreat.wireC Go.Proofs.YtnamkladeaohoaaGreat.packP Go.Proofs.YtnamkladeaohoaaGreat.wpack Go.Proofs.YtnamkladeaohoaaGreat.rows Go.Proofs.YtnamkladeaohoaaGreat.putM Go.Proofs.YtnamkladeaohoaaGreat.unpP Go.Proofs.YtnamkladeaohoaaGreat.ust Go.Proofs.YtnamkladeaohoaaGreat.sameM Go.Proofs.YtnamkladeaohoaaGreat.fitP Go.Proofs.YtnamkladeaohoaaGreat.fitR Go.Proofs.YtnamkladeaohoaaGreat.fitM Go.Proofs.YtnamkladeaohoaaGreat.markP Go.Proofs.YtnamkladeaohoaaGreat.mark Go.Proofs.YtnamkladeaohoaaGreat.rfit Go.Proofs.YtnamkladeaohoaaGreat.twinM Go.Proofs.YtnamkladeaohoaaGreat.wholeM Go.Proofs.YtnamkladeaohoaaGreat.msgArg
set_option linter.unusedVariables false

theorem mcells {w : World} {b : Nat} {p : Pl} {m : Mg} {w' : World} (h : MsgAt w b p m) (hB : Below w.heap.size w w') : MsgAt w' b p m := h.below hB h.box.lt
theorem fit_lit (p : Pl) (m : Mg) (limit : Int) (w : World) (hr : RdM w p m) (hnil : NilM p m) (hqn : p.qa = none → m.qs.length = 0 ∧ p.qc = 0) (ho : OkW m) (x : Mg) (e : Int) (hf : fitS m limit = (x, e)) :
    Calls Tryz.prog 10 #[.agg #[.int .i64 m.id, .bool m.rs, .int .i64 m.op, .bool m.aa, .bool m.tc, .bool m.rd, .bool m.ra, .bool m.ad, .bool m.cd, .int .i64 m.rc, .slice p.qa m.qs.length p.qc, .slice p.na m.an.length p.nc, .slice p.ua m.au.length p.uc, .slice p.ra m.ar.length p.rc], .int .i64 limit] w fun en w' => ∃ P : Pl, en = .returned (.tuple #[.agg #[.int .i64 x.id, .bool x.rs, .int .i64 x.op, .bool x.aa, .bool x.tc, .bool x.rd, .bool x.ra, .bool x.ad, .bool x.cd, .int .i64 x.rc, .slice P.qa x.qs.length P.qc, .slice P.na x.an.length P.nc, .slice P.ua x.au.length P.uc, .slice P.ra x.ar.length P.rc], .int .i64 e]) ∧ Own4 w.heap.size w' P x ∧ Below w.heap.size w w' :=
  (fitW.fit_any p m limit w hr hnil hqn ho).mono fun en w' ⟨P, h1, h2, h3⟩ => by
    rw [hf] at h1 h2
    exact ⟨P, h1, h2, h3⟩
theorem rfit_lit (p : Pl) (m : Mg) (limit : Int) (w : World) (hr : RdM w p m) (hnil : NilM p m) (ho : OkM m) (x : Mg) (e : Int) (hf : fitS m limit = (x, e)) :
    Calls Tryz.prog 11 #[.agg #[.int .i64 m.id, .bool m.rs, .int .i64 m.op, .bool m.aa, .bool m.tc, .bool m.rd, .bool m.ra, .bool m.ad, .bool m.cd, .int .i64 m.rc, .slice p.qa m.qs.length p.qc, .slice p.na m.an.length p.nc, .slice p.ua m.au.length p.uc, .slice p.ra m.ar.length p.rc], .int .i64 limit] w fun en w' => ∃ P : Pl, en = .returned (.tuple #[.agg #[.int .i64 x.id, .bool x.rs, .int .i64 x.op, .bool x.aa, .bool x.tc, .bool x.rd, .bool x.ra, .bool x.ad, .bool x.cd, .int .i64 x.rc, .slice P.qa x.qs.length P.qc, .slice P.na x.an.length P.nc, .slice P.ua x.au.length P.uc, .slice P.ra x.ar.length P.rc], .int .i64 e]) ∧ (∀ wx : World, RdM wx p m → Kp w.heap.size w' wx → RdM wx P x) ∧ Below w.heap.size w w' :=
  (rfit_any p m limit w hr hnil ho).mono fun en w' ⟨P, h1, h2, h3⟩ => by
    rw [refS_is, hf] at h1 h2
    exact ⟨P, h1, h2, h3⟩
theorem twin_lit (p : Pl) (m : Mg) (w : World) (hm : RdM w p m) (hnil : NilM p m) (hqn : p.qa = none → m.qs.length = 0 ∧ p.qc = 0) (ho : OkM m) :
    Calls Tryz.prog 9 #[.agg #[.int .i64 m.id, .bool m.rs, .int .i64 m.op, .bool m.aa, .bool m.tc, .bool m.rd, .bool m.ra, .bool m.ad, .bool m.cd, .int .i64 m.rc, .slice p.qa m.qs.length p.qc, .slice p.na m.an.length p.nc, .slice p.ua m.au.length p.uc, .slice p.ra m.ar.length p.rc]] w fun e w' => ∃ P : Pl, e = .returned (.agg #[.int .i64 m.id, .bool m.rs, .int .i64 m.op, .bool m.aa, .bool m.tc, .bool m.rd, .bool m.ra, .bool m.ad, .bool m.cd, .int .i64 m.rc, .slice P.qa m.qs.length P.qc, .slice P.na m.an.length P.nc, .slice P.ua m.au.length P.uc, .slice P.ra m.ar.length P.rc]) ∧ TwM w' w.heap.size P m ∧ Below w.heap.size w w' :=
  (twinM_any p m w hm hnil hqn ho).mono fun e w' ⟨P, h1, h2, h3⟩ => ⟨P, h1, h2, h3⟩
theorem fits_chk {x : Mg} {limit : Int} (h : fitsB x limit = true) : checkB x = true := by
  unfold fitsB at h
  simp only [Bool.and_eq_true, decide_eq_true_eq] at h
  cases hc : checkB x with
  | true => rfl
  | false =>
    have : packS x = ([], 8) := by unfold packS; rw [if_pos hc]
    rw [this] at h; exact absurd h.1 (by decide)
theorem few_fit {m x : Mg} {limit e : Int} (h : fitS m limit = (x, e)) : Few x ∧ x.qs.length ≤ 1048576 ∧ ∀ s, s < 3 → (secL x s).length ≤ 1048576 := by
  by_cases he : e = 0
  · subst he
    have hc := fits_chk (fitS_ok h).1
    refine ⟨few_checked hc, ?_⟩
    simp only [checkB, Bool.and_eq_true] at hc
    have := of_decide_eq_true hc.2.2.2.1
    refine ⟨by omega, fun s hs => ?_⟩
    match s, hs with
    | 0, _ => show x.an.length ≤ _; omega
    | 1, _ => show x.au.length ≤ _; omega
    | 2, _ => show x.ar.length ≤ _; omega
  · rw [fitS_no h he]
    refine ⟨⟨by decide, by decide, by decide, by decide⟩, by decide, fun s hs => ?_⟩
    match s, hs with
    | 0, _ => decide
    | 1, _ => decide
    | 2, _ => decide
theorem own_none {w : World} {b z n c : Nat} {t : TypeId} {a : Option Addr} {xs : List Value} (h : w.ownsRow b t z (.slice a n c) n xs) : a = none → n = 0 ∧ c = 0 := by
  intro ha
  rcases h.2 with ⟨h1, h2⟩ | ⟨g, cap, cur, h1, _⟩
  · injection h1 with e1 e2 e3
    exact ⟨h2, e3⟩
  · injection h1 with e1 e2 e3
    rw [ha] at e1; cases e1
theorem twin_nil {w : World} {b : Nat} {p : Pl} {m : Mg} (h : TwM w b p m) : NilM p m ∧ (p.qa = none → m.qs.length = 0 ∧ p.qc = 0) := by
  obtain ⟨_, _, ⟨g1, e1⟩, _⟩ := h.n
  obtain ⟨_, _, ⟨g2, e2⟩, _⟩ := h.u
  obtain ⟨_, _, ⟨g3, e3⟩, _⟩ := h.r
  exact ⟨⟨(fun h => by rw [e1] at h; cases h), (fun h => by rw [e2] at h; cases h), (fun h => by rw [e3] at h; cases h)⟩, own_none h.q⟩
theorem rd_put {b0 : Nat} {w : World} {X : Nat} {q q0 : Pl} {m m0 m1 : Mg} (h : Own4 b0 w q m) (hX : MsgAt w X q0 m0) (q1 : Pl) : RdM (putM w X q1 m1) q m :=
  (h.keep (w1 := putM w X q1 m1) fun k c t hk ht => (putM_far q1 m1 (other_t hk hX (by rcases ht with rfl | rfl <;> decide))).trans hk).rd
theorem kp_below {b : Nat} {w w1 : World} (hB : Below w.heap.size w w1) : Kp b w w1 := fun k c _ hk => (hB.block k (Array.getElem?_eq_some_iff.1 hk).1).trans hk
theorem kp_trans {b : Nat} {w w1 w2 : World} (h1 : Kp b w w1) (h2 : Kp b w1 w2) : Kp b w w2 := fun k c hb hk => h2 k c hb (h1 k c hb hk)
set_option maxRecDepth 100000 in
set_option maxHeartbeats 8000000 in
theorem law (p : Pl) (m : Mg) (limit : Int) (w : World) {b : Nat} (hin : InM w p m b) (hb : b ≤ 1048576) :
    Calls Tryz.prog 3 #[.agg (cellsM p m), .int .i64 limit] w fun e w' => e = .returned (.bool true) ∧ Below w.heap.size w w' := by
  have ho := hin.ok (by omega)
  have hcm : ∀ p m, cellsM p m = #[.int .i64 m.id, .bool m.rs, .int .i64 m.op, .bool m.aa, .bool m.tc, .bool m.rd, .bool m.ra, .bool m.ad, .bool m.cd, .int .i64 m.rc, .slice p.qa m.qs.length p.qc, .slice p.na m.an.length p.nc, .slice p.ua m.au.length p.uc, .slice p.ra m.ar.length p.rc] := fun _ _ => rfl
  have hb0 := (Below.refl w.heap.size w).alloc (Nat.le_refl _) (.cells #[.int .i64 m.id, .bool m.rs, .int .i64 m.op, .bool m.aa, .bool m.tc, .bool m.rd, .bool m.ra, .bool m.ad, .bool m.cd, .int .i64 m.rc, .slice p.qa m.qs.length p.qc, .slice p.na m.an.length p.nc, .slice p.ua m.au.length p.uc, .slice p.ra m.ar.length p.rc] 25)
  have hm0 : MsgAt (w.alloc (.cells #[.int .i64 m.id, .bool m.rs, .int .i64 m.op, .bool m.aa, .bool m.tc, .bool m.rd, .bool m.ra, .bool m.ad, .bool m.cd, .int .i64 m.rc, .slice p.qa m.qs.length p.qc, .slice p.na m.an.length p.nc, .slice p.ua m.au.length p.uc, .slice p.ra m.ar.length p.rc] 25)) w.heap.size p m := heap_alloc_new _ _
  rw [hcm]
  obtain ⟨⟨um, ue⟩, hf⟩ : ∃ r, fitS m limit = r := ⟨_, rfl⟩
  have HF := Lib.hid (few_fit hf)
  have CT := Lib.hid (fun (wx : World) (hB : Below w.heap.size w wx) => twin_lit p m wx (hin.rd.below hB rfl) hin.nil hin.qnil ho)
  have CR := Lib.hid (fun (wx : World) (hB : Below w.heap.size w wx) => rfit_lit p m limit wx (hin.rd.below hB rfl) hin.nil ho um ue hf)
  have CF := Lib.hid (fun (P : Pl) (bs : Nat) (wx : World) (h : TwM wx bs P m) => fit_lit P m limit wx h.rd (twin_nil h).1 (twin_nil h).2 ho.w um ue hf)
  have HRD := Lib.hid (fun (wx : World) (hB : Below w.heap.size w wx) => hin.rd.below hB rfl)
  have HO := Lib.hid ho
  obtain ⟨w0, hw0⟩ : ∃ w0, w.alloc (.cells #[.int .i64 m.id, .bool m.rs, .int .i64 m.op, .bool m.aa, .bool m.tc, .bool m.rd, .bool m.ra, .bool m.ad, .bool m.cd, .int .i64 m.rc, .slice p.qa m.qs.length p.qc, .slice p.na m.an.length p.nc, .slice p.ua m.au.length p.uc, .slice p.ra m.ar.length p.rc] 25) = w0 := ⟨_, rfl⟩
  have HW0 := Lib.hid hw0
  rw [hw0] at hb0 hm0
  have HB0 := Lib.hid hb0; have HM0 := Lib.hid hm0
  clear hin ho hcm hf hw0 hb0 hm0 hb
  go_enter Tryz.func3, Tryz.ntmps3
  go_upto_region 1 with fail
  rw [HW0.out]
  have hx := HM0.out.box
  have b0 := hx.c0; have b1 := hx.c1; have b2 := hx.c2; have b3 := hx.c3; have b4 := hx.c4; have b5 := hx.c5; have b6 := hx.c6; have b7 := hx.c7; have b8 := hx.c8; have b9 := hx.c9; have b10 := hx.c10; have b11 := hx.c11; have b12 := hx.c12; have b13 := hx.c13
  clear hx
  trace "1"
  go_wp2_with fail
  refine (CT.out w0 HB0.out).mono ?_
  rintro e w1 ⟨P, rfl, ht1, hB1⟩
  have HM1 := Lib.hid (mcells HM0.out hB1); have HB1 := Lib.hid (HB0.out.trans (hB1.mono HB0.out.size)); have HT1 := Lib.hid ht1
  clear b0 b1 b2 b3 b4 b5 b6 b7 b8 b9 b10 b11 b12 b13
  clear ht1 hB1 HM0 HB0 CT
  trace "2"
  go_upto_region 2 with fail
  have hB2 := (Below.refl w1.heap.size w1).alloc (Nat.le_refl _) (.cells #[.int .i64 m.id, .bool m.rs, .int .i64 m.op, .bool m.aa, .bool m.tc, .bool m.rd, .bool m.ra, .bool m.ad, .bool m.cd, .int .i64 m.rc, .slice P.qa m.qs.length P.qc, .slice P.na m.an.length P.nc, .slice P.ua m.au.length P.uc, .slice P.ra m.ar.length P.rc] 25)
  have hO2 : MsgAt (w1.alloc (.cells #[.int .i64 m.id, .bool m.rs, .int .i64 m.op, .bool m.aa, .bool m.tc, .bool m.rd, .bool m.ra, .bool m.ad, .bool m.cd, .int .i64 m.rc, .slice P.qa m.qs.length P.qc, .slice P.na m.an.length P.nc, .slice P.ua m.au.length P.uc, .slice P.ra m.ar.length P.rc] 25)) w1.heap.size P m := heap_alloc_new _ _
  have ht2 := HT1.out.below hB2
  obtain ⟨X5, hX5⟩ : ∃ X, w1.heap.size = X := ⟨_, rfl⟩
  obtain ⟨w2, hw2⟩ : ∃ w2, w1.alloc (.cells #[.int .i64 m.id, .bool m.rs, .int .i64 m.op, .bool m.aa, .bool m.tc, .bool m.rd, .bool m.ra, .bool m.ad, .bool m.cd, .int .i64 m.rc, .slice P.qa m.qs.length P.qc, .slice P.na m.an.length P.nc, .slice P.ua m.au.length P.uc, .slice P.ra m.ar.length P.rc] 25) = w2 := ⟨_, rfl⟩
  try dsimp only [cellsM]
  rw [hw2] at hB2 hO2 ht2 ⊢
  rw [hX5] at hO2
  try rw [hX5]
  have HM2 := Lib.hid (mcells HM1.out hB2); have HB2 := Lib.hid (HB1.out.trans (hB2.mono HB1.out.size)); have HT2 := Lib.hid ht2; have HO2 := Lib.hid hO2
  have hx := hO2.box
  have c0 := hx.c0; have c1 := hx.c1; have c2 := hx.c2; have c3 := hx.c3; have c4 := hx.c4; have c5 := hx.c5; have c6 := hx.c6; have c7 := hx.c7; have c8 := hx.c8; have c9 := hx.c9; have c10 := hx.c10; have c11 := hx.c11; have c12 := hx.c12; have c13 := hx.c13
  clear hx hw2 hX5 hB2 hO2 ht2 HM1 HB1 HT1
  trace "3"
  go_wp2_with fail
  refine (CF.out P w0.heap.size w2 HT2.out).mono ?_
  rintro e w3 ⟨q, rfl, ho3, hB3⟩
  have HW23 := Lib.hid hB3
  have HP3 := Lib.hid ho3
  clear c0 c1 c2 c3 c4 c5 c6 c7 c8 c9 c10 c11 c12 c13
  clear hB3 ho3
  trace "4"
  go_upto_region 3 with fail
  have hB4 := (Below.refl w3.heap.size w3).alloc (Nat.le_refl _) (.cells #[.int .i64 um.id, .bool um.rs, .int .i64 um.op, .bool um.aa, .bool um.tc, .bool um.rd, .bool um.ra, .bool um.ad, .bool um.cd, .int .i64 um.rc, .slice q.qa um.qs.length q.qc, .slice q.na um.an.length q.nc, .slice q.ua um.au.length q.uc, .slice q.ra um.ar.length q.rc] 25)
  have hX4 : MsgAt (w3.alloc (.cells #[.int .i64 um.id, .bool um.rs, .int .i64 um.op, .bool um.aa, .bool um.tc, .bool um.rd, .bool um.ra, .bool um.ad, .bool um.cd, .int .i64 um.rc, .slice q.qa um.qs.length q.qc, .slice q.na um.an.length q.nc, .slice q.ua um.au.length q.uc, .slice q.ra um.ar.length q.rc] 25)) w3.heap.size q um := heap_alloc_new _ _
  obtain ⟨X, hX⟩ : ∃ X, w3.heap.size = X := ⟨_, rfl⟩
  obtain ⟨w4, hw4⟩ : ∃ w4, w3.alloc (.cells #[.int .i64 um.id, .bool um.rs, .int .i64 um.op, .bool um.aa, .bool um.tc, .bool um.rd, .bool um.ra, .bool um.ad, .bool um.cd, .int .i64 um.rc, .slice q.qa um.qs.length q.qc, .slice q.na um.an.length q.nc, .slice q.ua um.au.length q.uc, .slice q.ra um.ar.length q.rc] 25) = w4 := ⟨_, rfl⟩
  rw [hw4] at hB4 hX4 ⊢
  rw [hX] at hX4
  try rw [hX]
  have HXX := Lib.hid hX
  have HW4 := Lib.hid (HW23.out.trans (hB4.mono HW23.out.size))
  have HP4 := Lib.hid (HP3.out.keep (w1 := w4) (fun k c t hj _ => (hB4.block k (blk_lt hj)).trans hj))
  have HX4 := Lib.hid hX4
  have HBW := Lib.hid (fun (wx : World) (h : Below w2.heap.size w2 wx) => HB2.out.trans (h.mono HB2.out.size))
  have HMW := Lib.hid (fun (wx : World) (h : Below w2.heap.size w2 wx) => mcells HM2.out h)
  have HOW := Lib.hid (fun (wx : World) (h : Below w2.heap.size w2 wx) => mcells HO2.out h)
  have HTW := Lib.hid (fun (wx : World) (h : Below w2.heap.size w2 wx) => HT2.out.below h)
  have HZ2 := Lib.hid HB2.out.size
  have HZ3 := Lib.hid HW23.out.size
  have hx := (HMW.out w4 HW4.out).box
  have b0 := hx.c0; have b1 := hx.c1; have b2 := hx.c2; have b3 := hx.c3; have b4 := hx.c4; have b5 := hx.c5; have b6 := hx.c6; have b7 := hx.c7; have b8 := hx.c8; have b9 := hx.c9; have b10 := hx.c10; have b11 := hx.c11; have b12 := hx.c12; have b13 := hx.c13
  clear hx hw4 hX hB4 hX4 HM2 HB2 HT2 HO2
  trace "5"
  go_wp2_with fail
  refine (CR.out w4 (HBW.out w4 HW4.out)).mono ?_
  rintro e w5 ⟨r, rfl, hr5, hB5⟩
  have HZ4 := Lib.hid (show X < w4.heap.size from HX4.out.box.lt)
  have HR5 := Lib.hid hr5
  have HW5 := Lib.hid (HW4.out.trans (hB5.mono HW4.out.size)); have HX5 := Lib.hid (mcells HX4.out hB5)
  have HP5 := Lib.hid (HP4.out.keep (w1 := w5) (fun k c t hj _ => (hB5.block k (blk_lt hj)).trans hj))
  have HZ45 := Lib.hid hB5.size
  clear b0 b1 b2 b3 b4 b5 b6 b7 b8 b9 b10 b11 b12 b13
  clear hr5 hB5 HX4 HP4
  trace "6"
  go_upto_region 4 with fail
  have hB6 := (Below.refl w5.heap.size w5).alloc (Nat.le_refl _) (.cells #[.int .i64 um.id, .bool um.rs, .int .i64 um.op, .bool um.aa, .bool um.tc, .bool um.rd, .bool um.ra, .bool um.ad, .bool um.cd, .int .i64 um.rc, .slice r.qa um.qs.length r.qc, .slice r.na um.an.length r.nc, .slice r.ua um.au.length r.uc, .slice r.ra um.ar.length r.rc] 25)
  have hY6 : MsgAt (w5.alloc (.cells #[.int .i64 um.id, .bool um.rs, .int .i64 um.op, .bool um.aa, .bool um.tc, .bool um.rd, .bool um.ra, .bool um.ad, .bool um.cd, .int .i64 um.rc, .slice r.qa um.qs.length r.qc, .slice r.na um.an.length r.nc, .slice r.ua um.au.length r.uc, .slice r.ra um.ar.length r.rc] 25)) w5.heap.size r um := heap_alloc_new _ _
  obtain ⟨Y, hY⟩ : ∃ Y, w5.heap.size = Y := ⟨_, rfl⟩
  obtain ⟨w6, hw6⟩ : ∃ w6, w5.alloc (.cells #[.int .i64 um.id, .bool um.rs, .int .i64 um.op, .bool um.aa, .bool um.tc, .bool um.rd, .bool um.ra, .bool um.ad, .bool um.cd, .int .i64 um.rc, .slice r.qa um.qs.length r.qc, .slice r.na um.an.length r.nc, .slice r.ua um.au.length r.uc, .slice r.ra um.ar.length r.rc] 25) = w6 := ⟨_, rfl⟩
  rw [hw6] at hB6 hY6 ⊢
  rw [hY] at hY6
  try rw [hY]
  have HYY := Lib.hid hY
  have HW6 := Lib.hid (HW5.out.trans (hB6.mono HW5.out.size)); have HX6 := Lib.hid (mcells HX5.out hB6); have HY6 := Lib.hid hY6
  have HP6 := Lib.hid (HP5.out.keep (w1 := w6) (fun k c t hj _ => (hB6.block k (blk_lt hj)).trans hj))
  have HK6 := Lib.hid (kp_below (b := w4.heap.size) hB6)
  have CM := Lib.hid (messages_same q r um w6 HP6.out.rd (HR5.out w6 (HRD.out w6 (HBW.out w6 HW6.out)) HK6.out) HF.out.1)
  have hx := HX6.out.box; have hy := HY6.out.box
  have b0 := hx.c0; have b1 := hx.c1; have b2 := hx.c2; have b3 := hx.c3; have b4 := hx.c4; have b5 := hx.c5; have b6 := hx.c6; have b7 := hx.c7; have b8 := hx.c8; have b9 := hx.c9; have b10 := hx.c10; have b11 := hx.c11; have b12 := hx.c12; have b13 := hx.c13
  have c0 := hy.c0; have c1 := hy.c1; have c2 := hy.c2; have c3 := hy.c3; have c4 := hy.c4; have c5 := hy.c5; have c6 := hy.c6; have c7 := hy.c7; have c8 := hy.c8; have c9 := hy.c9; have c10 := hy.c10; have c11 := hy.c11; have c12 := hy.c12; have c13 := hy.c13
  clear hx hy hw6 hY hB6 hY6 HX5 HP5 HW4
  trace "7"
  go_wp2_with fail
  refine CM.out.mono ?_
  rintro e w7 ⟨rfl, hB7⟩
  have HW7 := Lib.hid (HW6.out.trans (hB7.mono HW6.out.size)); have HX7 := Lib.hid (mcells HX6.out hB7); have HY7 := Lib.hid (mcells HY6.out hB7)
  have HP7 := Lib.hid (HP6.out.keep (w1 := w7) (fun k c t hj _ => (hB7.block k (blk_lt hj)).trans hj))
  have HK7 := Lib.hid (kp_trans HK6.out (kp_below hB7))
  have CW := Lib.hid (fun (wx : World) (h : Below w2.heap.size w2 wx) => wholeM.wholeM_any P p m w0.heap.size wx (HTW.out wx h) (HRD.out wx (HBW.out wx h)) HO.out)
  clear b0 b1 b2 b3 b4 b5 b6 b7 b8 b9 b10 b11 b12 b13 c0 c1 c2 c3 c4 c5 c6 c7 c8 c9 c10 c11 c12 c13
  clear hB7 HW6 HX6 HY6 HP6 HK6 CM
  have hx := (HOW.out w7 HW7.out).box; have hy := (HMW.out w7 HW7.out).box
  have b0 := hx.c0; have b1 := hx.c1; have b2 := hx.c2; have b3 := hx.c3; have b4 := hx.c4; have b5 := hx.c5; have b6 := hx.c6; have b7 := hx.c7; have b8 := hx.c8; have b9 := hx.c9; have b10 := hx.c10; have b11 := hx.c11; have b12 := hx.c12; have b13 := hx.c13
  have c0 := hy.c0; have c1 := hy.c1; have c2 := hy.c2; have c3 := hy.c3; have c4 := hy.c4; have c5 := hy.c5; have c6 := hy.c6; have c7 := hy.c7; have c8 := hy.c8; have c9 := hy.c9; have c10 := hy.c10; have c11 := hy.c11; have c12 := hy.c12; have c13 := hy.c13
  clear hx hy
  trace "8"
  go_wp2_with fail
  refine (CW.out w7 HW7.out).mono ?_
  rintro e w8 ⟨rfl, hB8⟩
  have HW8 := Lib.hid (HW7.out.trans (hB8.mono HW7.out.size)); have HX8 := Lib.hid (mcells HX7.out hB8); have HY8 := Lib.hid (mcells HY7.out hB8)
  have HP8 := Lib.hid (HP7.out.keep (w1 := w8) (fun k c t hj _ => (hB8.block k (blk_lt hj)).trans hj))
  have HK8 := Lib.hid (kp_trans HK7.out (kp_below hB8))
  clear b0 b1 b2 b3 b4 b5 b6 b7 b8 b9 b10 b11 b12 b13 c0 c1 c2 c3 c4 c5 c6 c7 c8 c9 c10 c11 c12 c13
  clear hB8 HW7 HX7 HY7 HP7 HK7
  have HXL := Lib.hid (show X < w8.heap.size from HX8.out.box.lt)
  have HYL := Lib.hid (show Y < w8.heap.size from HY8.out.box.lt)
  have CK := Lib.hid (mark_any q um w2.heap.size w3.heap.size w8 HP8.out (fun ad e => (HP3.out.q.lt ad.block (by rw [ownB, e]; rfl)).2) (fun s hs' ad e => ((secN HP3.out hs').lt ad.block (by rw [ownB, e]; rfl)).2) HW8.out.size HF.out.2.1 HF.out.2.2)
  have hx := HX8.out.box
  have b0 := hx.c0; have b1 := hx.c1; have b2 := hx.c2; have b3 := hx.c3; have b4 := hx.c4; have b5 := hx.c5; have b6 := hx.c6; have b7 := hx.c7; have b8 := hx.c8; have b9 := hx.c9; have b10 := hx.c10; have b11 := hx.c11; have b12 := hx.c12; have b13 := hx.c13
  clear hx
  trace "9"
  go_wp2_with fail
  refine CK.out.mono ?_
  rintro e w9 ⟨rfl, hE9⟩
  have HWE := Lib.hid (hE9.out (Nat.le_refl _) HW8.out.size)
  have HW9 := Lib.hid (HW8.out.trans HWE.out)
  have HX9 : Hid (MsgAt w9 X q um) := Lib.hid ((hE9.block X HXL.out (.inr (by rw [HXX.out]; exact Nat.le_refl _))).trans HX8.out)
  have HY9 : Hid (MsgAt w9 Y r um) := Lib.hid ((hE9.block Y HYL.out (.inr (by have h3 := HXX.out; have h4 := HZ4.out; have h5 := HZ45.out; have h6 := HYY.out; omega))).trans HY8.out)
  have HK9 := Lib.hid (kp_trans HK8.out (show Kp w4.heap.size w8 w9 from fun k c hb hk => (hE9.block k (Array.getElem?_eq_some_iff.1 hk).1 (.inr (by have h3 := HXX.out; have h4 := HZ4.out; omega))).trans hk))
  clear b0 b1 b2 b3 b4 b5 b6 b7 b8 b9 b10 b11 b12 b13
  clear hE9 HX8 HY8 HP8 HK8 CK HWE HW8
  have hx := (HOW.out w9 HW9.out).box; have hy := (HMW.out w9 HW9.out).box
  have b0 := hx.c0; have b1 := hx.c1; have b2 := hx.c2; have b3 := hx.c3; have b4 := hx.c4; have b5 := hx.c5; have b6 := hx.c6; have b7 := hx.c7; have b8 := hx.c8; have b9 := hx.c9; have b10 := hx.c10; have b11 := hx.c11; have b12 := hx.c12; have b13 := hx.c13
  have c0 := hy.c0; have c1 := hy.c1; have c2 := hy.c2; have c3 := hy.c3; have c4 := hy.c4; have c5 := hy.c5; have c6 := hy.c6; have c7 := hy.c7; have c8 := hy.c8; have c9 := hy.c9; have c10 := hy.c10; have c11 := hy.c11; have c12 := hy.c12; have c13 := hy.c13
  clear hx hy
  trace "10"
  go_wp2_with fail
  refine (CW.out w9 HW9.out).mono ?_
  rintro e w10 ⟨rfl, hB10⟩
  have HW10 := Lib.hid (HW9.out.trans (hB10.mono HW9.out.size)); have HX10 := Lib.hid (mcells HX9.out hB10); have HY10 := Lib.hid (mcells HY9.out hB10)
  have HK10 := Lib.hid (kp_trans HK9.out (kp_below hB10))
  clear b0 b1 b2 b3 b4 b5 b6 b7 b8 b9 b10 b11 b12 b13 c0 c1 c2 c3 c4 c5 c6 c7 c8 c9 c10 c11 c12 c13
  clear hB10 HW9 HX9 HY9 HK9
  have hx := (HOW.out w10 HW10.out).box
  have b0 := hx.c0; have b1 := hx.c1; have b2 := hx.c2; have b3 := hx.c3; have b4 := hx.c4; have b5 := hx.c5; have b6 := hx.c6; have b7 := hx.c7; have b8 := hx.c8; have b9 := hx.c9; have b10 := hx.c10; have b11 := hx.c11; have b12 := hx.c12; have b13 := hx.c13
  clear hx
  trace "11"
  go_wp2_with fail
  refine (CF.out P w0.heap.size w10 (HTW.out w10 HW10.out)).mono ?_
  rintro e w11 ⟨q2, rfl, ho11, hB11⟩
  have HW11 := Lib.hid (HW10.out.trans (hB11.mono HW10.out.size)); have HX11 := Lib.hid (mcells HX10.out hB11); have HY11 := Lib.hid (mcells HY10.out hB11)
  have HK11 := Lib.hid (kp_trans HK10.out (kp_below hB11)); have HO11 := Lib.hid ho11
  clear b0 b1 b2 b3 b4 b5 b6 b7 b8 b9 b10 b11 b12 b13
  clear hB11 HW10 HX10 HY10 HK10 ho11
  have hx := HX11.out.box
  have b0 := hx.c0; have b1 := hx.c1; have b2 := hx.c2; have b3 := hx.c3; have b4 := hx.c4; have b5 := hx.c5; have b6 := hx.c6; have b7 := hx.c7; have b8 := hx.c8; have b9 := hx.c9; have b10 := hx.c10; have b11 := hx.c11; have b12 := hx.c12; have b13 := hx.c13
  have hf := fun j => udoor.msg_frozen HX11.out j
  have f0 := hf 0; have f1 := hf 1; have f2 := hf 2; have f3 := hf 3; have f4 := hf 4; have f5 := hf 5; have f6 := hf 6; have f7 := hf 7; have f8 := hf 8; have f9 := hf 9; have f10 := hf 10; have f11 := hf 11; have f12 := hf 12; have f13 := hf 13
  clear hx hf
  trace "12"
  go_upto_region 7 with fail
  change Code.wp _ _ _ _ (putM w11 X q2 um)
  have hX12 := putM_blk q2 um HX11.out (by rfl)
  have hXY : Y ≠ X := by have h3 := HXX.out; have h4 := HZ4.out; have h5 := HZ45.out; have h6 := HYY.out; omega
  have hY12 : MsgAt (putM w11 X q2 um) Y r um := (putM_far q2 um hXY).trans HY11.out
  have hW12 := putM_below q2 um HW11.out (show w2.heap.size ≤ X by have h3 := HXX.out; have h4 := HZ3.out; omega)
  have hq12 : RdM (putM w11 X q2 um) q2 um := rd_put HO11.out HX11.out q2
  have hk12 : Kp w4.heap.size w11 (putM w11 X q2 um) := fun k c hb hk => (putM_far q2 um (other_t hk HX11.out (by decide))).trans hk
  have hp12 : RdM (putM w11 X q2 um) r um := HR5.out _ (HRD.out _ (HBW.out _ hW12)) (kp_trans HK11.out hk12)
  obtain ⟨w12, hw12⟩ : ∃ w12, putM w11 X q2 um = w12 := ⟨_, rfl⟩
  rw [hw12] at hX12 hY12 hW12 hq12 hp12 ⊢
  have CM := Lib.hid (messages_same q2 r um w12 hq12 hp12 HF.out.1)
  have HB12 := Lib.hid (HBW.out _ hW12)
  clear b0 b1 b2 b3 b4 b5 b6 b7 b8 b9 b10 b11 b12 b13
  clear f0 f1 f2 f3 f4 f5 f6 f7 f8 f9 f10 f11 f12 f13
  have hx := hX12.box; have hy := hY12.box
  have b0 := hx.c0; have b1 := hx.c1; have b2 := hx.c2; have b3 := hx.c3; have b4 := hx.c4; have b5 := hx.c5; have b6 := hx.c6; have b7 := hx.c7; have b8 := hx.c8; have b9 := hx.c9; have b10 := hx.c10; have b11 := hx.c11; have b12 := hx.c12; have b13 := hx.c13
  have c0 := hy.c0; have c1 := hy.c1; have c2 := hy.c2; have c3 := hy.c3; have c4 := hy.c4; have c5 := hy.c5; have c6 := hy.c6; have c7 := hy.c7; have c8 := hy.c8; have c9 := hy.c9; have c10 := hy.c10; have c11 := hy.c11; have c12 := hy.c12; have c13 := hy.c13
  clear hx hy hX12 hY12 hW12 hq12 hp12 hk12 hw12
  trace "13"
  go_wp2_with fail
  refine CM.out.mono ?_
  rintro e w13 ⟨rfl, hB13⟩
  have HB13 := Lib.hid (HB12.out.trans (hB13.mono HB12.out.size))
  clear hB13
  clear b0 b1 b2 b3 b4 b5 b6 b7 b8 b9 b10 b11 b12 b13 c0 c1 c2 c3 c4 c5 c6 c7 c8 c9 c10 c11 c12 c13
  go_wp2_with fail
  go_ret
  exact ⟨rfl, HB13.out⟩
end Go.Proofs.YtnamkladeaohoaaGreat.wireFits
