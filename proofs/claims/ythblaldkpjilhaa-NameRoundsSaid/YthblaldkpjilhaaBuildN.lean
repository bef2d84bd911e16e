/- strings.Builder again, with what a write leaves as it was: for a builder that is written in a round of a range over a function. -/
import Derived.Test.YthblaldkpjilhaaBuilder
import Derived.Test.YthblaldkpjilhaaNameL
namespace Go.Proofs.Ythblaldkpjilhaa.bldN
open Go.RowKit Go.Proofs.Ythblaldkpjilhaa.kit Go.Proofs.Ythblaldkpjilhaa.bld

/-- a builder at b, its buffer from N on -/
def BN (N b : Nat) (p : Value) (l : List UInt8) (w : World) : Prop :=
  b < N ∧ ∃ v, w.heap[b]? = some (.cells #[p, v] 101 (0, 0)) ∧ w.ownsRow N 5 1 v l.length (Lib.byteCells l)
def IsBN (N b : Nat) (l : List UInt8) (w : World) : Prop := BN N b (.pointer none) l w ∨ BN N b (.pointer (some ⟨b, 0, none⟩)) l w
/-- a write turns b and the buffer alone -/
structure Eff (N b : Nat) (w w' : World) : Prop where
  below : Below b w w'
  others : KeepsOthers w w'
  low : ∀ k, k < N → k ≠ b → w'.heap[k]? = w.heap[k]?
theorem Eff.refl (N b : Nat) (w : World) : Eff N b w w := ⟨Below.refl _ _, KeepsOthers.refl _, fun _ _ _ => rfl⟩
theorem Eff.trans {N b : Nat} {x y z : World} (h : Eff N b x y) (k : Eff N b y z) : Eff N b x z :=
  ⟨h.below.trans k.below, h.others.trans k.others, fun i h1 h2 => (k.low i h1 h2).trans (h.low i h1 h2)⟩
theorem Eff.setCell {N b : Nat} {x y : World} (h : Eff N b x y) (j : Nat) (v : Value) : Eff N b x (y.setCell ⟨b, j, none⟩ v) :=
  h.trans ⟨(Below.refl b y).setCell (p := ⟨b, j, none⟩) (Nat.le_refl _) v, KeepsOthers.setCell _ _ _, fun k _ hk => Below.heap_setCell y ⟨b, j, none⟩ v k hk⟩
theorem Eff.append {N b k : Nat} {x y z : World} {v : Value} {xs : List Value} {tmp : Obj} {e : TypeId} {size : Nat} (h : Eff N b x y) (hN : N ≤ y.heap.size) (hb : b < N) (hrow : y.ownsRow N e size v k xs) (hgrow : (y.alloc tmp).grownBy z v.ownBlock) : Eff N b x z := by
  have hlt : ∀ j, some j = v.ownBlock → N ≤ j := fun j e => (hrow.lt j e.symm).1
  refine h.trans ⟨?_, ?_, ?_⟩
  · exact ((Below.refl b y).alloc (by omega) tmp).grown hgrow (by simp; omega) fun j ej => by have := hlt j ej.symm; omega
  · refine (KeepsOthers.alloc y tmp).trans (KeepsOthers.of_grownBy hgrow fun j o ej hj => ?_)
    rcases (hrow.alloc tmp).2 with ⟨rfl, _⟩ | ⟨g, cap, cur, rfl, _, hgb, _⟩
    · simp [Value.ownBlock] at ej
    · obtain rfl : g = j := by simpa [Value.ownBlock] using ej
      rw [hgb] at hj; cases hj; rfl
  · intro k hk _
    rw [hgrow.block k (by simp; omega) (fun e => by have := hlt k e; omega), Lib.alloc_old y _ k (by omega)]
theorem BN.used {N b : Nat} {p : Value} {l : List UInt8} {w : World} (h : BN N b p l w) (q : Value) : BN N b q l (w.setCell ⟨b, 0, none⟩ q) := by
  obtain ⟨h1, v, h2, h3⟩ := h
  refine ⟨h1, v, by simp [World.setCell, Array.getElem?_modify, h2], ?_⟩
  exact h3.kept (grownBy_setCell' w b q) (.inr (fun e => by have := (h3.lt b e).1; omega))
theorem BN.put {N b : Nat} {p v v' : Value} {l : List UInt8} {w : World} (h1 : b < N) (h2 : w.heap[b]? = some (.cells #[p, v] 101 (0, 0))) (h3 : w.ownsRow N 5 1 v' l.length (Lib.byteCells l)) : BN N b p l (w.setCell ⟨b, 1, none⟩ v') := by
  refine ⟨h1, v', by simp [World.setCell, Array.getElem?_modify, h2], ?_⟩
  exact h3.kept ⟨rfl, rfl, rfl, by simp [World.setCell], fun k _ hk => Below.heap_setCell _ _ _ _ (fun e => hk (by simp [e]))⟩ (row := some b) (.inr (fun e => by have := (h3.lt b e).1; omega))
theorem BN.lt {N b : Nat} {p : Value} {l : List UInt8} {w : World} (h : BN N b p l w) : b < w.heap.size := by
  obtain ⟨_, v, h2, _⟩ := h; exact (Array.getElem?_eq_some_iff.1 h2).1
theorem BN.at {N b : Nat} {p : Value} {l : List UInt8} {w : World} (h : BN N b p l w) : Lib.BuilderAt 101 5 b b p (Lib.byteCells l) w := by
  obtain ⟨h1, v, h2, h3⟩ := h
  refine ⟨Nat.le_refl _, v, h2, ?_, fun e => by have := (h3.lt b e).1; omega⟩
  rw [Lib.byteCells_length]
  refine ⟨h3.1, h3.2.imp id ?_⟩
  rintro ⟨g, cap, cur, h4, h5, h6⟩
  exact ⟨g, cap, cur, h4, by omega, h6⟩
theorem IsBN.bld {N b : Nat} {l : List UInt8} {w : World} (h : IsBN N b l w) : Bld b b l w := h.imp BN.at BN.at
theorem IsBN.fresh {b : Nat} {w : World} (N : Nat) (h : w.heap[b]? = some (.cells #[.pointer none, .slice none 0 0] 101 (0, 0))) (hb : b < N) : IsBN N b [] w :=
  .inl ⟨hb, _, h, rfl, .inl ⟨rfl, rfl⟩⟩
theorem own_grow {N b : Nat} {p : Value} {l : List UInt8} {W W' : World} {row : Option Nat} (h : BN N b p l W) (hg : W.grownBy W' row) (hr : ∀ r, row = some r → ∃ o : Obj, W.heap[r]? = some o ∧ o.isCells = false) : BN N b p l W' := by
  obtain ⟨h1, v, h2, h3⟩ := h
  refine ⟨h1, v, (hg.block b (Array.getElem?_eq_some_iff.1 h2).1 (fun e => ?_)).trans h2, h3.kept hg ?_⟩
  · obtain ⟨o, ho, hc⟩ := hr b e.symm
    rw [h2] at ho; cases ho; cases hc
  · rcases h3.2 with ⟨rfl, _⟩ | ⟨g, cap, cur, rfl, _, h5, _⟩
    · exact .inl rfl
    · refine .inr (fun e => ?_)
      obtain ⟨o, ho, hc⟩ := hr g e.symm
      rw [h5] at ho; cases ho; cases hc
theorem bn_own {β : Type} (N b : Nat) (f : β → List UInt8) : Own (fun s W => IsBN N b (f s) W) := fun _ _ _ _ hs hg hr =>
  hs.imp (fun h => own_grow h hg hr) (fun h => own_grow h hg hr)

theorem copyCheckN (N b : Nat) (l : List UInt8) (w : World) (h : IsBN N b l w) :
    Calls Try.prog 123 #[.pointer (some ⟨b, 0, none⟩)] w fun e w' => e = .returned (.tuple #[]) ∧ BN N b (.pointer (some ⟨b, 0, none⟩)) l w' ∧ Eff N b w w' := by
  rcases h with h | h
  · refine (copyCheck_fresh b w h.at.cell0 h.at.shape h.at.frozen0).mono ?_
    rintro e w' ⟨rfl, rfl⟩
    exact ⟨rfl, h.used _, (Eff.refl _ _ _).setCell _ _⟩
  · refine (copyCheck_used b w h.at.cell0).mono ?_
    rintro e w' ⟨rfl, rfl⟩
    exact ⟨rfl, h, Eff.refl _ _ _⟩

set_option maxHeartbeats 2000000 in
set_option maxRecDepth 100000 in
theorem wbN (N b : Nat) (l : List UInt8) (c : UInt8) (w : World) (h : IsBN N b l w) (hlen : l.length + 1 ≤ 140737488355328) (hN : N ≤ w.heap.size) :
    Calls Try.prog 64 #[.pointer (some ⟨b, 0, none⟩), .int .u8 (c.toNat : Int)] w fun e w' => e = .returned .nilIface ∧ IsBN N b (l ++ [c]) w' ∧ Eff N b w w' := by
  obtain ⟨i0, hi, hz0, hz1, hz2⟩ := info_parts infoByte
  obtain ⟨n, hn⟩ : ∃ n : Int, (c.toNat : Int) = n := ⟨_, rfl⟩
  have hbs : Lib.byteCells (l ++ [c]) = Lib.byteCells l ++ [.int .u8 n] := by rw [bytes_snoc, hn]
  rw [hn]
  have HBS := Lib.hid hbs
  clear hbs hn
  go_enter Try.func64, Try.ntmps64
  go_wp2_with fail
  refine (copyCheckN N b l _ h).mono ?_
  rintro e w1 ⟨rfl, h1, hE1⟩
  obtain ⟨hbN, v, hbk, hown⟩ := h1
  have c0 : w1.cell? ⟨b, 0, none⟩ = some (.pointer (some ⟨b, 0, none⟩)) := by rw [Lib.cell_of_heap hbk]; rfl
  have c1 : w1.cell? ⟨b, 1, none⟩ = some v := by rw [Lib.cell_of_heap hbk]; rfl
  have hsz := hE1.below.size
  go_wp2_with (at_builtin; refine wpList_append_own _ rfl _ _ 44 rfl N 5 i0 (.int .u8 0) 1 1 Try.underlying44 hi hz0 hz1 hz2 rfl (by decide) _ _ _ rfl (hown.alloc _) ⟨w1.heap.size, 0, none⟩ 1 1 [.int .u8 n] rfl rfl ?c1 ?c2 ?c3 ?c4 ?c5 ?_)
  case c1 =>
    intro j u hj
    match j, hj with
    | 0, hj => simp at hj; subst hj; simp [Addr.add]
  case c2 => intro u hu; simp at hu; subst hu; rfl
  case c3 => unfold maxLen; omega
  case c4 => omega
  case c5 => simp; omega
  intro v' w2 hown' hgrow _
  have hE2 := hE1.append (by omega) hbN hown hgrow
  have hlt := (Array.getElem?_eq_some_iff.1 hbk).1
  have hb2 : w2.heap[b]? = some (.cells #[.pointer (some ⟨b, 0, none⟩), v] 101 (0, 0)) := by
    rw [hgrow.block b (by simp; omega) (fun e => by have := (hown.lt b e.symm).1; omega), Lib.alloc_old w1 _ b hlt]
    exact hbk
  have d0 : w2.cell? ⟨b, 0, none⟩ = some (.pointer (some ⟨b, 0, none⟩)) := by rw [Lib.cell_of_heap hb2]; rfl
  have d1 : w2.cell? ⟨b, 1, none⟩ = some v := by rw [Lib.cell_of_heap hb2]; rfl
  have f1 : w2.frozen? ⟨b, 1, none⟩ = false := Lib.frozen_of_heap hb2 1
  obtain ⟨g, cap, rfl⟩ : ∃ g cap, v' = .slice (some ⟨g, 0, none⟩) (l.length + 1) cap := by
    rcases hown'.2 with ⟨_, h0⟩ | ⟨g, cap, cur, hv, _⟩
    · omega
    · exact ⟨g, cap, hv⟩
  go_wp2
  go_ret
  refine ⟨rfl, .inr (BN.put hbN hb2 ?_), hE2.setCell _ _⟩
  rw [HBS.out, List.length_append]
  exact hown'

theorem others_freeze (w : World) (g n : Nat) (c : Array Value) (e : TypeId) (fz : Nat × Nat) (hg : w.heap[g]? = some (.cells c e fz)) : KeepsOthers w (w.freeze ⟨g, 0, none⟩ n) := by
  unfold World.freeze
  split
  · exact KeepsOthers.refl _
  · refine ⟨by simp, ?_⟩
    intro k o hk ho
    by_cases e : k = g
    · subst e; rw [hg] at hk; cases hk; cases ho
    · simp [Array.getElem?_modify, Ne.symm e, hk]
set_option maxHeartbeats 2000000 in
set_option maxRecDepth 100000 in
theorem strN (N b : Nat) (l : List UInt8) (w : World) (h : IsBN N b l w) (h0 : l ≠ []) :
    Calls Try.prog 65 #[.pointer (some ⟨b, 0, none⟩)] w fun e w' => e = .returned (.string ⟨l.toArray⟩) ∧ Below b w w' ∧ KeepsOthers w w' := by
  obtain ⟨p, hB, v, hbk, hown⟩ : ∃ p, BN N b p l w := by
    rcases h with h | h
    · exact ⟨_, h⟩
    · exact ⟨_, h⟩
  have hl0 : l.length ≠ 0 := by simpa using h0
  obtain ⟨g, cap, cur, rfl, hbg, hg, hnc, hcm, hcs, htake⟩ : ∃ g cap cur, v = .slice (some ⟨g, 0, none⟩) l.length cap ∧ N ≤ g ∧ w.heap[g]? = some (.cells cur 5 (0, 0)) ∧ l.length ≤ cap ∧ cap ≤ maxLen ∧ cur.size = cap * 1 ∧ cur.toList.take (l.length * 1) = Lib.byteCells l := by
    rcases hown.2 with ⟨_, hz⟩ | ⟨g, cap, cur, hv, r⟩
    · exact absurd hz hl0
    · exact ⟨g, cap, cur, hv, r⟩
  have hko := others_freeze w.drew g l.length cur 5 (0, 0) hg
  have c1 : w.drew.cell? ⟨b, 1, none⟩ = some (.slice (some ⟨g, 0, none⟩) l.length cap) := by
    have : w.drew.heap[b]? = some (.cells #[p, .slice (some ⟨g, 0, none⟩) l.length cap] 101 (0, 0)) := hbk
    rw [Lib.cell_of_heap this]; rfl
  have hSD : (Builtin.unsafeSliceData_ #[44] 174 #[.slice (some ⟨g, 0, none⟩) l.length cap]).run Try.prog w.drew = .ok (.pointer (some ⟨g, 0, none⟩)) w.drew :=
    Lib.run_unsafeSliceData_row _ _ _ _ _ _ (by omega)
  have hUS : (Builtin.unsafeString_ #[174, 3] 9 #[.pointer (some ⟨g, 0, none⟩), .int .i64 l.length]).run Try.prog w.drew = .ok (.string ⟨l.toArray⟩) (w.drew.freeze ⟨g, 0, none⟩ l.length) := by
    refine Lib.run_unsafeString_row w.drew 174 3 9 5 Try.underlying174 (by kernel_rfl) g cur.size (by have hg' : w.drew.heap[g]? = some (.cells cur 5 (0, 0)) := hg; simp [World.shape?, hg']) l h0 (by omega) (by unfold maxLen at hcm; omega) ?_
    intro j x hx
    have := hown.cells (g := g) rfl j (.int .u8 x.toNat) (by simp [Lib.byteCells, hx])
    exact this
  clear hown
  go_enter Try.func65, Try.ntmps65
  go_wp2
  go_region
  all_goals (go_wp2; go_ret; exact ⟨rfl, Lib.below_freeze (Below.drew (Below.refl b w)) (p := ⟨g, 0, none⟩) (by simp; omega) _, ⟨hko.size, hko.same⟩⟩)
end Go.Proofs.Ythblaldkpjilhaa.bldN
