/- Two lists at once: one is read while the other grows. -/
import Derived.Test.YtjejmgdpjfdhjaaDoorInts
import Derived.Maps.AppendAt
namespace Go.Proofs.YtjejmgdpjfdhjaaDoor.two
open Go.RowKit Go.Proofs.YtjejmgdpjfdhjaaDoor.kit Go.Proofs.YtjejmgdpjfdhjaaDoor.ints
set_option linter.unusedVariables false

theorem cell_same {w w1 : World} {p : Addr} (h : w1.heap[p.block]? = w.heap[p.block]?) : w1.cell? p = w.cell? p := by unfold World.cell?; rw [h]
theorem frozen_same {w w1 : World} {p : Addr} (h : w1.heap[p.block]? = w.heap[p.block]?) : w1.frozen? p = w.frozen? p := by unfold World.frozen?; rw [h]
/-- v's own block is not a's -/
def Apart (v : Value) (a : Option Addr) : Prop := ∀ b, a = some b → v.ownBlock ≠ some b.block
theorem Apart.low {v : Value} {a : Option Addr} {B : Nat} (h : ∀ k, v.ownBlock = some k → k < B) (ha : ∀ b, a = some b → B ≤ b.block) : Apart v a := by
  intro b hb h2
  have := h _ h2
  have := ha _ hb
  omega
theorem Apart.next {v v' : Value} {a : Option Addr} {w : World} (h : Apart v a) (ha : ∀ b, a = some b → b.block < w.heap.size) (hat : v'.ownBlock = v.ownBlock ∨ v'.ownBlock = some (w.heap.size + 1)) : Apart v' a := by
  intro b hb h2
  have hlt := ha _ hb
  rcases hat with h3 | h3
  · exact h b hb (h3 ▸ h2)
  · rw [h3] at h2
    simp only [Option.some.injEq] at h2
    omega
theorem block_kept {w w1 : World} {o : Obj} {v : Value} {k : Nat} (hg : (w.alloc o).grownBy w1 v.ownBlock) (hk : k < w.heap.size) (hne : v.ownBlock ≠ some k) : w1.heap[k]? = w.heap[k]? := by
  have h1 := hg.block k (by rw [World.size_alloc]; omega) (fun h => hne h.symm)
  exact h1.trans (Below.heap_alloc w o k hk)
theorem RdN.kept {w w1 : World} {a : Option Addr} {ls : List Nat} {o : Obj} {v : Value} (h : RdN w a ls) (hg : (w.alloc o).grownBy w1 v.ownBlock) (hap : Apart v a) : RdN w1 a ls := by
  intro j x hx
  obtain ⟨g, p, h1, h2, h3⟩ := h j x hx
  have hb := block_kept hg h2 (hap _ h1)
  refine ⟨g, p, h1, ?_, ?_⟩
  · have := hg.size
    rw [World.size_alloc] at this; omega
  · rw [cell_same (p := ⟨g, p + j, none⟩) hb]; exact h3
theorem own_low {w : World} {base : Nat} {e : TypeId} {v : Value} {n size : Nat} {xs : List Value} (h : w.ownsRow base e size v n xs) : ∀ k, v.ownBlock = some k → k < w.heap.size := fun k hk => (h.lt k hk).2
theorem own_high {w : World} {base : Nat} {e : TypeId} {v : Value} {n size : Nat} {xs : List Value} (h : w.ownsRow base e size v n xs) : ∀ b l c, v = .slice (some b) l c → base ≤ b.block := by
  intro b l c hv
  rcases h.2 with ⟨h1, _⟩ | ⟨g, cap, cur, h1, hb, _⟩
  · rw [h1] at hv; cases hv
  · rw [h1] at hv; cases hv; exact hb
end Go.Proofs.YtjejmgdpjfdhjaaDoor.two
