/- data.split: walk. data.holds, data.Check: walks. Two lists at once: one is read while the other grows. -/
import Derived.Test.YtnamkladeaohoaaK17
import Derived.Test.YtnamkladeaohoaaK5
import Derived.Deep.DeepCutAuto
import Derived.Handy
import Derived.Maps.AppendAt
namespace Go.Proofs.Ytnamkladeaohoaa.splitD
open Go.RowKit Go.Proofs.Ytnamkladeaohoaa.kit Go.Proofs.Ytnamkladeaohoaa.nspec Go.Proofs.Ytnamkladeaohoaa.rsplit Go.Proofs.Ytnamkladeaohoaa.fld Go.Proofs.Ytnamkladeaohoaa.formW Go.Proofs.Ytnamkladeaohoaa.takes Go.Proofs.Ytnamkladeaohoaa.kindsT Go.Proofs.Ytnamkladeaohoaa.hostT Go.Proofs.Ytnamkladeaohoaa.textsT
set_option linter.unusedVariables false

def FairF (fs : List Fld) : Prop := fs.length ≤ 20 ∧ ∀ k, Fld.num k ∈ fs → k ≤ 100
/-- what split leaves -/
def SplitPost (w : World) (fs : List Fld) (d : Bs) (e : Ending) (w' : World) : Prop := Below w.heap.size w w' ∧ ((∃ (v : Value) (p : List Bs) (r : Bs), splitS fs d = some (p, r) ∧ e = .returned (.tuple #[v, .bool r.isEmpty]) ∧ w'.ownsRow w.heap.size 9 1 v p.length (p.map strV)) ∨ (splitS fs d = none ∧ e = .returned (.tuple #[.slice none 0 0, .bool false])))
def addP (P : List Bs) (o : Option (List Bs × Bs)) : Option (List Bs × Bs) := o.map (fun p => (P ++ p.1, p.2))
theorem addP_nil (o : Option (List Bs × Bs)) : addP [] o = o := by cases o <;> simp [addP]
theorem addP_end (P : List Bs) (d : Bs) : addP P (splitS [] d) = some (P, d) := by simp [addP, splitS]
theorem addP_bad {P : List Bs} {f : Fld} {fs : List Fld} {d : Bs} (h : takeS f d < 0) : addP P (splitS (f :: fs) d) = none := by simp [addP, splitS, h]
theorem addP_go {P : List Bs} {f : Fld} {fs : List Fld} {d : Bs} {m : Nat} (h : takeS f d = (m : Int)) : addP P (splitS (f :: fs) d) = addP (P ++ [d.take m]) (splitS fs (d.drop m)) := by
  simp only [addP, splitS, h]
  rw [if_neg (by omega), Int.toNat_natCast]
  cases splitS fs (d.drop m) <;> simp

theorem ownsRow_below {w w' : World} {base : Nat} {e : TypeId} {size n : Nat} {v : Value} {xs : List Value} (h : w.ownsRow base e size v n xs) (hB : Below w.heap.size w w') : w'.ownsRow base e size v n xs := by
  refine ⟨h.1, ?_⟩
  rcases h.2 with h1 | ⟨g, cap, cur, h1, h2, h3, h4⟩
  · exact .inl h1
  · exact .inr ⟨g, cap, cur, h1, h2, (hB.block g (Array.getElem?_eq_some_iff.1 h3).1).trans h3, h4⟩
end Go.Proofs.Ytnamkladeaohoaa.splitD
namespace Go.Proofs.Ytnamkladeaohoaa.dcheck
open Go.RowKit Go.Proofs.Ytnamkladeaohoaa.kit Go.Proofs.Ytnamkladeaohoaa.nspec Go.Proofs.Ytnamkladeaohoaa.fld Go.Proofs.Ytnamkladeaohoaa.formW Go.Proofs.Ytnamkladeaohoaa.splitD
set_option linter.unusedVariables false

theorem holds_no {t : Int} (h : t < 1 ∨ 65535 < t ∨ t = 41 ∨ (128 ≤ t ∧ t ≤ 255)) : holdsB t = false := by
  unfold holdsB
  rcases h with h | h | h | h
  · rw [decide_eq_false (by omega)]; rfl
  · rw [decide_eq_false (p := t ≤ 65535) (by omega)]; simp
  · subst h; rfl
  · rw [decide_eq_false (p := t < 128) (by omega), decide_eq_false (p := 255 < t) (by omega)]; simp
theorem holds_yes {t : Int} (h1 : 1 ≤ t) (h2 : t ≤ 65535) (h3 : t ≠ 41) (h4 : t < 128 ∨ 255 < t) : holdsB t = true := by
  unfold holdsB
  rw [decide_eq_true h1, decide_eq_true h2, (bne_iff_ne).2 h3]
  rcases h4 with h | h
  · rw [decide_eq_true h]; rfl
  · rw [decide_eq_true h]; simp

theorem fair_of {fs gs : List Fld} (h : some gs = some fs) (hl : gs.length ≤ 20) (hk : gs.all (fun f => match f with | .num k => decide (k ≤ 100) | _ => true) = true) : FairF fs := by
  have e := Option.some.inj h
  subst e
  refine ⟨hl, fun k hm => ?_⟩
  have := List.all_eq_true.1 hk _ hm
  simpa using this
theorem form_fair {t : Int} {fs : List Fld} (h : formS t = some fs) : FairF fs := by
  by_cases h1 : t = 1
  · subst h1; exact fair_of h (by decide) (by decide)
  by_cases h2 : t = 2
  · subst h2; exact fair_of h (by decide) (by decide)
  by_cases h5 : t = 5
  · subst h5; exact fair_of h (by decide) (by decide)
  by_cases h12 : t = 12
  · subst h12; exact fair_of h (by decide) (by decide)
  by_cases h39 : t = 39
  · subst h39; exact fair_of h (by decide) (by decide)
  by_cases h6 : t = 6
  · subst h6; exact fair_of h (by decide) (by decide)
  by_cases h13 : t = 13
  · subst h13; exact fair_of h (by decide) (by decide)
  by_cases h15 : t = 15
  · subst h15; exact fair_of h (by decide) (by decide)
  by_cases h16 : t = 16
  · subst h16; exact fair_of h (by decide) (by decide)
  by_cases h28 : t = 28
  · subst h28; exact fair_of h (by decide) (by decide)
  by_cases h33 : t = 33
  · subst h33; exact fair_of h (by decide) (by decide)
  by_cases h35 : t = 35
  · subst h35; exact fair_of h (by decide) (by decide)
  by_cases h43 : t = 43
  · subst h43; exact fair_of h (by decide) (by decide)
  by_cases h46 : t = 46
  · subst h46; exact fair_of h (by decide) (by decide)
  by_cases h47 : t = 47
  · subst h47; exact fair_of h (by decide) (by decide)
  by_cases h48 : t = 48
  · subst h48; exact fair_of h (by decide) (by decide)
  by_cases h50 : t = 50
  · subst h50; exact fair_of h (by decide) (by decide)
  by_cases h51 : t = 51
  · subst h51; exact fair_of h (by decide) (by decide)
  by_cases h257 : t = 257
  · subst h257; exact fair_of h (by decide) (by decide)
  simp [formS, h1, h2, h5, h12, h39, h6, h13, h15, h16, h28, h33, h35, h43, h46, h47, h48, h50, h51, h257] at h
end Go.Proofs.Ytnamkladeaohoaa.dcheck
namespace Go.Proofs.Ytnamkladeaohoaa.two
open Go.RowKit Go.Proofs.Ytnamkladeaohoaa.kit Go.Proofs.Ytnamkladeaohoaa.ints
set_option linter.unusedVariables false

theorem cell_same {w w1 : World} {p : Addr} (h : w1.heap[p.block]? = w.heap[p.block]?) : w1.cell? p = w.cell? p := by unfold World.cell?; rw [h]
theorem frozen_same {w w1 : World} {p : Addr} (h : w1.heap[p.block]? = w.heap[p.block]?) : w1.frozen? p = w.frozen? p := by unfold World.frozen?; rw [h]
/-- v's own block is not a's -/
def Apart (v : Value) (a : Option Addr) : Prop := ∀ b, a = some b → v.ownBlock ≠ some b.block
theorem Apart.low {v : Value} {a : Option Addr} {B : Nat} (h : ∀ k, v.ownBlock = some k → k < B) (ha : ∀ b, a = some b → B ≤ b.block) : Apart v a := by
  intro b hb h2
  have := h _ h2
  have := ha _ hb
  omega
theorem Apart.next {v v' : Value} {a : Option Addr} {w : World} (h : Apart v a) (ha : ∀ b, a = some b → b.block < w.heap.size) (hat : v'.ownBlock = v.ownBlock ∨ v'.ownBlock = some (w.heap.size + 1)) : Apart v' a := by
  intro b hb h2
  have hlt := ha _ hb
  rcases hat with h3 | h3
  · exact h b hb (h3 ▸ h2)
  · rw [h3] at h2
    simp only [Option.some.injEq] at h2
    omega
theorem block_kept {w w1 : World} {o : Obj} {v : Value} {k : Nat} (hg : (w.alloc o).grownBy w1 v.ownBlock) (hk : k < w.heap.size) (hne : v.ownBlock ≠ some k) : w1.heap[k]? = w.heap[k]? := by
  have h1 := hg.block k (by rw [World.size_alloc]; omega) (fun h => hne h.symm)
  exact h1.trans (Below.heap_alloc w o k hk)
theorem RdN.kept {w w1 : World} {a : Option Addr} {ls : List Nat} {o : Obj} {v : Value} (h : RdN w a ls) (hg : (w.alloc o).grownBy w1 v.ownBlock) (hap : Apart v a) : RdN w1 a ls := by
  intro j x hx
  obtain ⟨g, p, h1, h2, h3⟩ := h j x hx
  have hb := block_kept hg h2 (hap _ h1)
  refine ⟨g, p, h1, ?_, ?_⟩
  · have := hg.size
    rw [World.size_alloc] at this; omega
  · rw [cell_same (p := ⟨g, p + j, none⟩) hb]; exact h3
theorem own_low {w : World} {base : Nat} {e : TypeId} {v : Value} {n size : Nat} {xs : List Value} (h : w.ownsRow base e size v n xs) : ∀ k, v.ownBlock = some k → k < w.heap.size := fun k hk => (h.lt k hk).2
theorem own_high {w : World} {base : Nat} {e : TypeId} {v : Value} {n size : Nat} {xs : List Value} (h : w.ownsRow base e size v n xs) : ∀ b l c, v = .slice (some b) l c → base ≤ b.block := by
  intro b l c hv
  rcases h.2 with ⟨h1, _⟩ | ⟨g, cap, cur, h1, hb, _⟩
  · rw [h1] at hv; cases hv
  · rw [h1] at hv; cases hv; exact hb
end Go.Proofs.Ytnamkladeaohoaa.two
