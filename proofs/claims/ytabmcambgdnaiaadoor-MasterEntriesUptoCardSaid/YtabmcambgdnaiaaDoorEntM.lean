/- Entries in memory: a row of entries, each with a row of words of its own. -/
import Derived.Test.YtabmcambgdnaiaaDoorEntsS
namespace Go.Proofs.YtabmcambgdnaiaaDoor.entM
open Go.RowKit Go.Proofs.YtabmcambgdnaiaaDoor.kit Go.Proofs.YtabmcambgdnaiaaDoor.timed Go.Proofs.YtabmcambgdnaiaaDoor.entP Go.Proofs.YtabmcambgdnaiaaDoor.wordsS Go.Proofs.YtabmcambgdnaiaaDoor.entsS
set_option linter.unusedVariables false

theorem own_kept {w w1 : World} {b0 : Nat} {e : TypeId} {size : Nat} {v : Value} {n : Nat} {xs : List Value} (h : w.ownsRow b0 e size v n xs) (hk : ∀ k, v.ownBlock = some k → w1.heap[k]? = w.heap[k]?) : w1.ownsRow b0 e size v n xs := by
  refine ⟨h.1, ?_⟩
  rcases h.2 with h1 | ⟨g, cap, cur, rfl, h2, h3, h4⟩
  · exact .inl h1
  · exact .inr ⟨g, cap, cur, rfl, h2, (hk g rfl).trans h3, h4⟩
def enC (p : En × Value) : List Value := [.int .i64 p.1.line, .bool p.1.blank, p.2]
/-- the entries that are kept, with their words' slices -/
structure OutM (w : World) (lo : Nat) (v : Value) (P : List (En × Value)) : Prop where
  row : w.ownsRow lo 31 3 v P.length (P.flatMap enC)
  each : ∀ p ∈ P, w.ownsRow lo 33 2 p.2 p.1.words.length (p.1.words.flatMap wdC)
/-- kept by what leaves their blocks -/
theorem OutM.kept {w w1 : World} {lo : Nat} {v : Value} {P : List (En × Value)} (h : OutM w lo v P) (hv : ∀ k, v.ownBlock = some k → w1.heap[k]? = w.heap[k]?) (hp : ∀ p ∈ P, ∀ k, p.2.ownBlock = some k → w1.heap[k]? = w.heap[k]?) : OutM w1 lo v P :=
  ⟨own_kept h.row hv, fun p hm => own_kept (h.each p hm) (hp p hm)⟩
theorem own_lt {w : World} {b0 : Nat} {e : TypeId} {size : Nat} {v : Value} {n : Nat} {xs : List Value} (h : w.ownsRow b0 e size v n xs) {k : Nat} (hk : v.ownBlock = some k) : k < w.heap.size := (h.lt k hk).2
theorem OutM.below {w w1 : World} {lo : Nat} {v : Value} {P : List (En × Value)} (h : OutM w lo v P) (hB : Below w.heap.size w w1) : OutM w1 lo v P :=
  h.kept (fun k hk => hB.block k (own_lt h.row hk)) (fun p hm k hk => hB.block k (own_lt (h.each p hm) hk))
theorem OutM.nil (w : World) (lo : Nat) : OutM w lo (.slice none 0 0) [] := ⟨World.ownsRow_nil _ _ _ _, fun p h => by cases h⟩
/-- the words under way grow: an append's world keeps the entries, where the blocks are apart -/
theorem OutM.grown {w w1 : World} {lo : Nat} {v nv : Value} {P : List (En × Value)} (h : OutM w lo v P) (hg : w.grownBy w1 nv.ownBlock) (hv : ∀ k, v.ownBlock = some k → nv.ownBlock ≠ some k) (hp : ∀ p ∈ P, ∀ k, p.2.ownBlock = some k → nv.ownBlock ≠ some k) : OutM w1 lo v P :=
  h.kept (fun k hk => hg.block k (own_lt h.row hk) (fun e => hv k hk e.symm)) (fun p hm k hk => hg.block k (own_lt (h.each p hm) hk) (fun e => hp p hm k hk e.symm))
theorem addr_at' (g o j : Nat) : (⟨g, o, none⟩ : Addr).add j = ⟨g, o + j, none⟩ := by unfold Addr.add; split <;> simp_all
theorem flat_at {α : Type} (f : α → List Value) (n : Nat) (hf : ∀ x, (f x).length = n) : ∀ (L : List α) (j : Nat) (x : α) (i : Nat) (u : Value), L[j]? = some x → (f x)[i]? = some u → (L.flatMap f)[j * n + i]? = some u
  | [], j, x, i, u, h, _ => by simp at h
  | y :: L, 0, x, i, u, h, hu => by
    simp at h; subst h
    rw [List.flatMap_cons, Nat.zero_mul, Nat.zero_add, List.getElem?_append_left (List.getElem?_eq_some_iff.1 hu).1]; exact hu
  | y :: L, j + 1, x, i, u, h, hu => by
    rw [List.flatMap_cons, List.getElem?_append_right (by rw [hf, Nat.succ_mul]; omega), hf, show (j + 1) * n + i - n = j * n + i by rw [Nat.succ_mul]; omega]
    exact flat_at f n hf L j x i u (by simpa using h) hu
theorem rdc_own {α : Type} (f : α → List Value) (m : Nat) (hf : ∀ x, (f x).length = m) {w : World} {base : Nat} {e : TypeId} {v : Value} {L : List α} {n : Nat} (hn : n = L.length) (h : w.ownsRow base e m v n (L.flatMap f)) :
    ∃ a c, v = .slice a n c ∧ n ≤ c ∧ c ≤ maxLen ∧ (a = none → n = 0 ∧ c = 0) ∧ RdC w a m (L.map f) := by
  subst hn
  rcases h.2 with ⟨rfl, h0⟩ | ⟨g, cap, cur, rfl, hb, hg, h1, h2, _, htake⟩
  · have : L = [] := List.eq_nil_of_length_eq_zero h0
    subst this
    exact ⟨none, 0, rfl, Nat.le_refl _, Nat.zero_le _, fun _ => ⟨rfl, rfl⟩, RdC.nil _ _ _⟩
  · refine ⟨_, cap, rfl, h1, h2, (fun h => by cases h), ?_⟩
    intro j x hx
    rw [List.getElem?_map] at hx
    obtain ⟨y, hy, rfl⟩ := Option.map_eq_some_iff.1 hx
    refine ⟨hf y, g, 0, rfl, (Array.getElem?_eq_some_iff.1 hg).1, fun i u hu => ?_⟩
    have := h.cells (g := g) rfl (j * m + i) u (flat_at f m hf L j y i u hy hu)
    rw [addr_at'] at this
    rw [Nat.add_assoc]
    exact this
/-- entries of one's own can be read, with their words -/
theorem OutM.rd {w : World} {lo : Nat} {v : Value} {P : List (En × Value)} (h : OutM w lo v P) (hb : ∀ p ∈ P, p.1.words.length ≤ 1099511627776) : ∃ a c, v = .slice a P.length c ∧ RdE w a (P.map Prod.fst) := by
  obtain ⟨a, c, hv, _, _, _, hr⟩ := rdc_own enC 3 (fun _ => rfl) rfl h.row
  refine ⟨a, c, hv, fun j x hx => ?_⟩
  rw [List.getElem?_map] at hx
  obtain ⟨p, hp, rfl⟩ := Option.map_eq_some_iff.1 hx
  have hm : p ∈ P := List.mem_of_getElem? hp
  obtain ⟨_, g, o, ha, hg, hc⟩ := hr j (enC p) (by rw [List.getElem?_map, hp]; rfl)
  obtain ⟨wa, wc, hwv, _, _, _, hwr⟩ := rdc_own wdC 2 (fun _ => rfl) rfl (h.each p hm)
  exact ⟨g, o, wa, wc, ha, hg, ⟨hc 0 _ rfl, hc 1 _ rfl, (hc 2 _ rfl).trans (by rw [hwv])⟩, hwr, hb p hm⟩
end Go.Proofs.YtabmcambgdnaiaaDoor.entM
