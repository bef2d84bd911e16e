/- A line of timed keys, and a plan by value, handed in: opened. The turns that SignerRolls is given: opened. -/
import Derived.Test.YtnamkladeaohoaaK2
import Derived.Deep.Slices
import Derived.Deep.Fields
import Derived.ChangeSame
import Derived.Carry
import Derived.ChangeOld
import Derived.ProofKit
namespace Go.Proofs.Ytnamkladeaohoaa.timedArg
open Go.ChangeShapes Go.WideShapes Go.RowKit Go.Deep Go.Proofs.Ytnamkladeaohoaa.kit Go.Proofs.Ytnamkladeaohoaa.timed
set_option linter.unusedVariables false

section
variable {H : Type} {enc : TypeId × Value → H} {w : World} {base : Nat} {spare : Nat → Bool} {held : Bool}
theorem int_at {n : Nat} {cs : List Value} {o : Nat} {y : DataW H × List MemPlace} (h : DataW.trod enc Try.prog w base spare held n 3 ((cs.drop o).take 1) = some y) : ∃ z, cs[o]? = some (.int .i64 z) := by
  obtain ⟨z, hz, _⟩ := DataW.trod_int Try.underlying3 h
  refine ⟨z, ?_⟩
  have : ((cs.drop o).take 1)[0]? = some (.int .i64 z) := by rw [hz]; rfl
  rw [List.getElem?_take_of_lt (by omega), List.getElem?_drop] at this; simpa using this
theorem got {α : Type} {l : List α} {i n : Nat} (h : l.length = n) (hi : i < n) : ∃ y, l[i]? = some y := ⟨_, List.getElem?_eq_getElem (by omega)⟩
theorem cellsInt : Try.prog.cellsOf 3 = 1 := by kernel_rfl
theorem cellsKey : Try.prog.cellsOf 32 = 4 := by kernel_rfl
theorem cellsTimed : Try.prog.cellsOf 36 = 8 := by kernel_rfl
set_option maxRecDepth 100000 in
theorem timed_cells {n : Nat} {cs : List Value} {x : DataW H × List MemPlace} (h : DataW.trod enc Try.prog w base spare held n 36 cs = some x) : ∃ t : Tm, cs = t.cells := by
  obtain ⟨xs, n', _, _, hlen, hxl, hf⟩ := DataW.trod_struct Try.underlying36 h
  rw [cellsTimed] at hlen
  obtain ⟨y0, e0⟩ := got hxl (i := 0) (by decide)
  obtain ⟨y1, e1⟩ := got hxl (i := 1) (by decide)
  obtain ⟨y2, e2⟩ := got hxl (i := 2) (by decide)
  obtain ⟨y3, e3⟩ := got hxl (i := 3) (by decide)
  obtain ⟨y4, e4⟩ := got hxl (i := 4) (by decide)
  have h0 : DataW.trod enc Try.prog w base spare held n' 32 ((cs.drop 0).take (Try.prog.cellsOf 32)) = some y0 := (hf 0 _ rfl).trans e0
  have h1 : DataW.trod enc Try.prog w base spare held n' 3 ((cs.drop 4).take (Try.prog.cellsOf 3)) = some y1 := (hf 1 _ rfl).trans e1
  have h2 : DataW.trod enc Try.prog w base spare held n' 3 ((cs.drop 5).take (Try.prog.cellsOf 3)) = some y2 := (hf 2 _ rfl).trans e2
  have h3 : DataW.trod enc Try.prog w base spare held n' 3 ((cs.drop 6).take (Try.prog.cellsOf 3)) = some y3 := (hf 3 _ rfl).trans e3
  have h4 : DataW.trod enc Try.prog w base spare held n' 3 ((cs.drop 7).take (Try.prog.cellsOf 3)) = some y4 := (hf 4 _ rfl).trans e4
  rw [cellsInt] at h1 h2 h3 h4
  obtain ⟨z4, q4⟩ := int_at h1
  obtain ⟨z5, q5⟩ := int_at h2
  obtain ⟨z6, q6⟩ := int_at h3
  obtain ⟨z7, q7⟩ := int_at h4
  obtain ⟨ks, n2, _, _, hkl, hkxl, hk⟩ := DataW.trod_struct Try.underlying32 h0
  rw [cellsKey] at hkl
  obtain ⟨k0, f0⟩ := got hkxl (i := 0) (by decide)
  obtain ⟨k1, f1⟩ := got hkxl (i := 1) (by decide)
  obtain ⟨k2, f2⟩ := got hkxl (i := 2) (by decide)
  obtain ⟨k3, f3⟩ := got hkxl (i := 3) (by decide)
  have g0 : DataW.trod enc Try.prog w base spare held n2 3 ((((cs.drop 0).take (Try.prog.cellsOf 32)).drop 0).take (Try.prog.cellsOf 3)) = some k0 := (hk 0 _ rfl).trans f0
  have g1 : DataW.trod enc Try.prog w base spare held n2 3 ((((cs.drop 0).take (Try.prog.cellsOf 32)).drop 1).take (Try.prog.cellsOf 3)) = some k1 := (hk 1 _ rfl).trans f1
  have g2 : DataW.trod enc Try.prog w base spare held n2 3 ((((cs.drop 0).take (Try.prog.cellsOf 32)).drop 2).take (Try.prog.cellsOf 3)) = some k2 := (hk 2 _ rfl).trans f2
  have g3 : DataW.trod enc Try.prog w base spare held n2 3 ((((cs.drop 0).take (Try.prog.cellsOf 32)).drop 3).take (Try.prog.cellsOf 3)) = some k3 := (hk 3 _ rfl).trans f3
  rw [cellsInt] at g0 g1 g2 g3
  obtain ⟨z0, q0⟩ := int_at g0
  obtain ⟨z1, q1⟩ := int_at g1
  obtain ⟨z2, q2⟩ := int_at g2
  obtain ⟨z3, q3⟩ := int_at g3
  rw [cellsKey, List.getElem?_take_of_lt (by omega), List.getElem?_drop] at q0 q1 q2 q3
  refine ⟨⟨z0, z1, z2, z3, z4, z5, z6, z7⟩, ?_⟩
  apply List.ext_getElem?
  intro i
  match i with
  | 0 => simpa [Tm.cells] using q0
  | 1 => simpa [Tm.cells] using q1
  | 2 => simpa [Tm.cells] using q2
  | 3 => simpa [Tm.cells] using q3
  | 4 => simpa [Tm.cells] using q4
  | 5 => simpa [Tm.cells] using q5
  | 6 => simpa [Tm.cells] using q6
  | 7 => simpa [Tm.cells] using q7
  | i + 8 => rw [List.getElem?_eq_none (by omega), List.getElem?_eq_none (by simp [Tm.cells])]
end

theorem choose_list {α : Type} (p : Nat → α → Prop) : ∀ n, (∀ i, i < n → ∃ x, p i x) → ∃ l : List α, l.length = n ∧ ∀ i x, l[i]? = some x → p i x
  | 0, _ => ⟨[], rfl, by simp⟩
  | n + 1, h => by
    obtain ⟨l, hl, hp⟩ := choose_list p n (fun i hi => h i (by omega))
    obtain ⟨x, hx⟩ := h n (by omega)
    refine ⟨l ++ [x], by simp [hl], fun i y hy => ?_⟩
    by_cases hi : i < n
    · rw [List.getElem?_append_left (by omega)] at hy; exact hp i y hy
    · have hlt := (List.getElem?_eq_some_iff.1 hy).1
      have : i = n := by simp [hl] at hlt; omega
      subst this
      rw [List.getElem?_append_right (by omega), hl, Nat.sub_self] at hy
      simp at hy; subst hy; exact hx
theorem cell_lt {w : World} {a : Addr} {v : Value} (h : w.cell? a = some v) : a.block < w.heap.size := by
  rcases Nat.lt_or_ge a.block w.heap.size with h' | h'
  · exact h'
  · simp [World.cell?, Array.getElem?_eq_none h'] at h
set_option maxRecDepth 100000 in
theorem bulk_len {H : Type} : ∀ l : List (DataW H), (∀ x ∈ l, 1 ≤ Rows.uptoBulk x) → l.length ≤ Rows.uptoBulkAll l
  | [], _ => Nat.zero_le _
  | x :: l, h => by
    have h1 := bulk_len l (fun y hy => h y (List.mem_cons_of_mem _ hy))
    have h2 := h x List.mem_cons_self
    have e : Rows.uptoBulkAll (x :: l) = Rows.uptoBulk x + Rows.uptoBulkAll l := rfl
    rw [e, List.length_cons]; omega
set_option maxRecDepth 100000 in
theorem open_timed {H : Type} {enc : TypeId × Value → H} {w : World} {fuel : Nat} {a : Option Addr} {len cap : Nat} {d : DataW H} {p : List MemPlace}
    (h : DataW.trod enc Try.prog w 0 (fun _ => true) true fuel 22 (Value.slice a len cap).cells.toList = some (d, p)) :
    ∃ ls : List Tm, len = ls.length ∧ RdC w a 8 (ls.map Tm.cells) ∧ (a = none → len = 0 ∧ cap = 0) ∧ len ≤ Rows.uptoBulk d := by
  rcases open_slice Try.underlying22 h with ⟨hcs, hx⟩ | ⟨ad, len', cap', m, n, D, Pl, hcs, hb, hl, hm, hmm, hx, hi⟩
  · simp [Value.cells] at hcs
    obtain ⟨rfl, rfl, rfl⟩ := hcs
    exact ⟨[], rfl, RdC.nil _ _ _, fun _ => ⟨rfl, rfl⟩, Nat.zero_le _⟩
  · simp [Value.cells] at hcs
    obtain ⟨rfl, rfl, rfl⟩ := hcs
    simp only [if_true] at hmm
    subst hmm
    simp only [Prod.mk.injEq] at hx
    obtain ⟨rfl, rfl⟩ := hx
    rw [cellsTimed] at hi
    obtain ⟨ls, hll, hls⟩ := choose_list (fun i (t : Tm) => w.cells? 0 (ad.add (i * 8)) 8 = some t.cells) len (fun i hi2 => by
      obtain ⟨cs', h1, h2⟩ := hi i (by omega)
      obtain ⟨t, rfl⟩ := timed_cells h2
      exact ⟨t, h1⟩)
    refine ⟨ls, hll.symm, ?_, (fun h => by cases h), ?_⟩
    · intro j row hrow
      rw [List.getElem?_map] at hrow
      obtain ⟨t, ht, rfl⟩ := Option.map_eq_some_iff.1 hrow
      have hc := hls j t ht
      obtain ⟨_, hlen, hcell⟩ := World.cells?_some hc
      have hc0 := hcell 0 (by omega)
      obtain ⟨g, o, sp⟩ := ad
      have hspot : sp = none := by
        obtain ⟨t0, ht0⟩ : ∃ t0, ls[0]? = some t0 := ⟨_, List.getElem?_eq_getElem (by have := (List.getElem?_eq_some_iff.1 ht).1; omega)⟩
        obtain ⟨_, _, hcell00⟩ := World.cells?_some (hls 0 t0 ht0)
        simpa [Addr.add] using World.cell?_spot (hcell00 0 (by omega))
      subst hspot
      have hadd : ∀ (o k : Nat), (⟨g, o, none⟩ : Addr).add k = ⟨g, o + k, none⟩ := fun o k => by unfold Addr.add; split <;> simp_all
      refine ⟨rfl, g, o, rfl, ?_, fun i u hu => ?_⟩
      · have := cell_lt hc0; simpa [hadd] using this
      · have hi8 : i < 8 := by have := (List.getElem?_eq_some_iff.1 hu).1; simpa [Tm.cells] using this
        have := hcell i hi8
        rw [hadd, hadd] at this
        rw [this]
        exact hu
    · have e : ∀ (l1 l2 : List (DataW H)), Rows.uptoBulk (DataW.slice l1 l2) = Rows.uptoBulkAll l1 + Rows.uptoBulkAll l2 + 1 := fun _ _ => rfl
      have hbl := bulk_len ((List.range len).map D) (fun x hx => by
        obtain ⟨i, hi3, rfl⟩ := List.mem_map.1 hx
        obtain ⟨cs', _, h2⟩ := hi i (by have := List.mem_range.1 hi3; omega)
        obtain ⟨xs, n', _, hx2, _, _, _⟩ := DataW.trod_struct Try.underlying36 h2
        have : D i = .agg (xs.map (·.1)) := congrArg Prod.fst hx2
        rw [this]
        show 1 ≤ Rows.uptoBulkAll (xs.map (·.1)) + 1
        omega)
      rw [e]
      rw [List.length_map, List.length_range] at hbl
      omega
theorem cellsBool : Try.prog.cellsOf 4 = 1 := by kernel_rfl
theorem cellsString : Try.prog.cellsOf 9 = 1 := by kernel_rfl
theorem one_at {cs : List Value} {o : Nat} {v : Value} (h : (cs.drop o).take 1 = [v]) : cs[o]? = some v := by
  have : ((cs.drop o).take 1)[0]? = some v := by rw [h]; rfl
  rw [List.getElem?_take_of_lt (by omega), List.getElem?_drop] at this; simpa using this
end Go.Proofs.Ytnamkladeaohoaa.timedArg
namespace Go.Proofs.Ytnamkladeaohoaa.turnArg
open Go.ChangeShapes Go.WideShapes Go.RowKit Go.Deep Go.Proofs.Ytnamkladeaohoaa.kit Go.Proofs.Ytnamkladeaohoaa.timed Go.Proofs.Ytnamkladeaohoaa.timedArg
set_option linter.unusedVariables false

structure Tn where
  p : Int
  q : Int
  e : Int
  n : Int
def Tn.cells (x : Tn) : List Value := [.int .i64 x.p, .int .i64 x.q, .int .i64 x.e, .int .i64 x.n]
theorem RdC.at_n {w : World} {a : Option Addr} {L : List Tn} (h : RdC w a 4 (L.map Tn.cells)) {j : Nat} {x : Tn} (hj : L[j]? = some x) : ∃ g o, a = some ⟨g, o, none⟩ ∧ g < w.heap.size ∧ w.cell? ⟨g, o + j * 4, none⟩ = some (.int .i64 x.p) ∧ w.cell? ⟨g, o + j * 4 + 1, none⟩ = some (.int .i64 x.q) ∧ w.cell? ⟨g, o + j * 4 + 2, none⟩ = some (.int .i64 x.e) ∧ w.cell? ⟨g, o + j * 4 + 3, none⟩ = some (.int .i64 x.n) := by
  obtain ⟨_, g, o, h1, h2, h3⟩ := h j x.cells (by rw [List.getElem?_map, hj]; rfl)
  exact ⟨g, o, h1, h2, h3 0 _ rfl, h3 1 _ rfl, h3 2 _ rfl, h3 3 _ rfl⟩
section
variable {H : Type} {enc : TypeId × Value → H} {w : World} {base : Nat} {spare : Nat → Bool} {held : Bool}
theorem int_atw {n : Nat} {cs : List Value} {o : Nat} {y : DataW H × List MemPlace} (h : DataW.trod enc Try.prog w base spare held n 3 ((cs.drop o).take 1) = some y) : ∃ z, cs[o]? = some (.int .i64 z) ∧ (Lit.int .i64 z).wf = true := by
  obtain ⟨z, hz, _, hw⟩ := DataW.trod_int Try.underlying3 h
  refine ⟨z, ?_, hw⟩
  have : ((cs.drop o).take 1)[0]? = some (.int .i64 z) := by rw [hz]; rfl
  rw [List.getElem?_take_of_lt (by omega), List.getElem?_drop] at this; simpa using this
theorem cellsTurn : Try.prog.cellsOf 38 = 4 := by kernel_rfl
set_option maxRecDepth 100000 in
theorem turn_cells {n : Nat} {cs : List Value} {x : DataW H × List MemPlace} (h : DataW.trod enc Try.prog w base spare held n 38 cs = some x) : ∃ t : Tn, cs = t.cells ∧ (Lit.int .i64 t.n).wf = true := by
  obtain ⟨xs, n', _, _, hlen, hxl, hf⟩ := DataW.trod_struct Try.underlying38 h
  rw [cellsTurn] at hlen
  obtain ⟨y0, e0⟩ := got hxl (i := 0) (by decide)
  obtain ⟨y1, e1⟩ := got hxl (i := 1) (by decide)
  obtain ⟨y2, e2⟩ := got hxl (i := 2) (by decide)
  obtain ⟨y3, e3⟩ := got hxl (i := 3) (by decide)
  have h0 : DataW.trod enc Try.prog w base spare held n' 3 ((cs.drop 0).take (Try.prog.cellsOf 3)) = some y0 := (hf 0 _ rfl).trans e0
  have h1 : DataW.trod enc Try.prog w base spare held n' 3 ((cs.drop 1).take (Try.prog.cellsOf 3)) = some y1 := (hf 1 _ rfl).trans e1
  have h2 : DataW.trod enc Try.prog w base spare held n' 3 ((cs.drop 2).take (Try.prog.cellsOf 3)) = some y2 := (hf 2 _ rfl).trans e2
  have h3 : DataW.trod enc Try.prog w base spare held n' 3 ((cs.drop 3).take (Try.prog.cellsOf 3)) = some y3 := (hf 3 _ rfl).trans e3
  rw [cellsInt] at h0 h1 h2 h3
  obtain ⟨z0, q0, _⟩ := int_atw h0
  obtain ⟨z1, q1, _⟩ := int_atw h1
  obtain ⟨z2, q2, _⟩ := int_atw h2
  obtain ⟨z3, q3, hw⟩ := int_atw h3
  refine ⟨⟨z0, z1, z2, z3⟩, ?_, hw⟩
  apply List.ext_getElem?
  intro i
  match i with
  | 0 => simpa [Tn.cells] using q0
  | 1 => simpa [Tn.cells] using q1
  | 2 => simpa [Tn.cells] using q2
  | 3 => simpa [Tn.cells] using q3
  | i + 4 => rw [List.getElem?_eq_none (by omega), List.getElem?_eq_none (by simp [Tn.cells])]
end
set_option maxRecDepth 100000 in
theorem open_turns {H : Type} {enc : TypeId × Value → H} {w : World} {fuel : Nat} {a : Option Addr} {len cap : Nat} {d : DataW H} {p : List MemPlace}
    (h : DataW.trod enc Try.prog w 0 (fun _ => true) true fuel 30 (Value.slice a len cap).cells.toList = some (d, p)) :
    ∃ ls : List Tn, len = ls.length ∧ RdC w a 4 (ls.map Tn.cells) ∧ (a = none → len = 0 ∧ cap = 0) ∧ len ≤ Rows.uptoBulk d ∧ ∀ t ∈ ls, (Lit.int .i64 t.n).wf = true := by
  rcases open_slice Try.underlying30 h with ⟨hcs, hx⟩ | ⟨ad, len', cap', m, n, D, Pl, hcs, hb, hl, hm, hmm, hx, hi⟩
  · simp [Value.cells] at hcs
    obtain ⟨rfl, rfl, rfl⟩ := hcs
    exact ⟨[], rfl, RdC.nil _ _ _, fun _ => ⟨rfl, rfl⟩, Nat.zero_le _, fun t h => by cases h⟩
  · simp [Value.cells] at hcs
    obtain ⟨rfl, rfl, rfl⟩ := hcs
    simp only [if_true] at hmm
    subst hmm
    simp only [Prod.mk.injEq] at hx
    obtain ⟨rfl, rfl⟩ := hx
    rw [cellsTurn] at hi
    obtain ⟨ls, hll, hls⟩ := choose_list (fun i (t : Tn) => w.cells? 0 (ad.add (i * 4)) 4 = some t.cells ∧ (Lit.int .i64 t.n).wf = true) len (fun i hi2 => by
      obtain ⟨cs', h1, h2⟩ := hi i (by omega)
      obtain ⟨t, rfl, hw⟩ := turn_cells h2
      exact ⟨t, h1, hw⟩)
    refine ⟨ls, hll.symm, ?_, (fun h => by cases h), ?_, fun t ht => by obtain ⟨j, hj⟩ := List.getElem?_of_mem ht; exact (hls j t hj).2⟩
    · intro j row hrow
      rw [List.getElem?_map] at hrow
      obtain ⟨t, ht, rfl⟩ := Option.map_eq_some_iff.1 hrow
      have hc := (hls j t ht).1
      obtain ⟨_, hlen, hcell⟩ := World.cells?_some hc
      have hc0 := hcell 0 (by omega)
      obtain ⟨g, o, sp⟩ := ad
      have hspot : sp = none := by
        obtain ⟨t0, ht0⟩ : ∃ t0, ls[0]? = some t0 := ⟨_, List.getElem?_eq_getElem (by have := (List.getElem?_eq_some_iff.1 ht).1; omega)⟩
        obtain ⟨_, _, hcell00⟩ := World.cells?_some (hls 0 t0 ht0).1
        simpa [Addr.add] using World.cell?_spot (hcell00 0 (by omega))
      subst hspot
      have hadd : ∀ (o k : Nat), (⟨g, o, none⟩ : Addr).add k = ⟨g, o + k, none⟩ := fun o k => by unfold Addr.add; split <;> simp_all
      refine ⟨rfl, g, o, rfl, ?_, fun i u hu => ?_⟩
      · have := cell_lt hc0; simpa [hadd] using this
      · have hi4 : i < 4 := by have := (List.getElem?_eq_some_iff.1 hu).1; simpa [Tn.cells] using this
        have := hcell i hi4
        rw [hadd, hadd] at this
        rw [this]
        exact hu
    · have e : ∀ (l1 l2 : List (DataW H)), Rows.uptoBulk (DataW.slice l1 l2) = Rows.uptoBulkAll l1 + Rows.uptoBulkAll l2 + 1 := fun _ _ => rfl
      have hbl := bulk_len ((List.range len).map D) (fun x hx => by
        obtain ⟨i, hi3, rfl⟩ := List.mem_map.1 hx
        obtain ⟨cs', _, h2⟩ := hi i (by have := List.mem_range.1 hi3; omega)
        obtain ⟨xs, n', _, hx2, _, _, _⟩ := DataW.trod_struct Try.underlying38 h2
        have : D i = .agg (xs.map (·.1)) := congrArg Prod.fst hx2
        rw [this]
        show 1 ≤ Rows.uptoBulkAll (xs.map (·.1)) + 1
        omega)
      rw [e]
      rw [List.length_map, List.length_range] at hbl
      omega
end Go.Proofs.Ytnamkladeaohoaa.turnArg
