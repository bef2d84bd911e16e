/- How many entries a text has (plain); entries that are marked in place. -/
import Derived.Test.YtabmcambgdnaiaaDoorEntR
namespace Go.Proofs.YtabmcambgdnaiaaDoor.entK
open Go.RowKit Go.Proofs.YtabmcambgdnaiaaDoor.kit Go.Proofs.YtabmcambgdnaiaaDoor.timed Go.Proofs.YtabmcambgdnaiaaDoor.entP Go.Proofs.YtabmcambgdnaiaaDoor.wordsS Go.Proofs.YtabmcambgdnaiaaDoor.entsS Go.Proofs.YtabmcambgdnaiaaDoor.entM Go.Proofs.YtabmcambgdnaiaaDoor.entG Go.Proofs.YtabmcambgdnaiaaDoor.entR
set_option linter.unusedVariables false

/-- not more entries and words than letters -/
def InvK (k : Nat) (s : Es) : Prop := s.out.length + s.now.words.length ≤ k ∧ ∀ e ∈ s.out, e.words.length ≤ k
def FewE (n : Nat) (L : List En) : Prop := L.length ≤ n ∧ ∀ e ∈ L, e.words.length ≤ n
theorem few_nil (n : Nat) : FewE n [] := ⟨Nat.zero_le _, fun e h => by cases h⟩
theorem flush_few {k : Nat} {s : Es} (h : InvK k s) : (flushE s.out s.now).length ≤ k ∧ ∀ e ∈ flushE s.out s.now, e.words.length ≤ k := by
  unfold flushE
  split
  · exact ⟨by have := h.1; omega, h.2⟩
  · rename_i hne
    have : 0 < s.now.words.length := by
      rcases hw : s.now.words with _ | ⟨a, r⟩
      · rw [hw] at hne; simp at hne
      · simp
    refine ⟨by have := h.1; rw [List.length_append]; simp; omega, fun e he => ?_⟩
    rcases List.mem_append.1 he with h1 | h1
    · exact h.2 e h1
    · rcases List.mem_singleton.1 h1 with rfl
      have := h.1; omega
theorem InvK.mono {k k' : Nat} {s : Es} (h : InvK k s) (hk : k ≤ k') : InvK k' s := ⟨Nat.le_trans h.1 hk, fun e he => Nat.le_trans (h.2 e he) hk⟩
theorem InvK.push {k k' : Nat} {s : Es} (h : InvK k s) (hk : k < k') (x : Bt) (q : Bool) : InvK k' (pushE s x q) := by
  refine ⟨?_, fun e he => Nat.le_trans (h.2 e he) (Nat.le_of_lt hk)⟩
  have := h.1
  simp only [pushE, List.length_append, List.length_singleton]
  omega
theorem scan_few (CT CE : Int) (t : Bt) : ∀ (g k : Nat) (s : Es), k ≤ t.length → InvK k s → FewE t.length (scanE CT CE t g k s).1
  | 0, k, s, _, _ => few_nil _
  | g + 1, k, s, hk, h => by
    unfold scanE
    cases hc : t[k]? with
    | none =>
      dsimp only
      split
      · exact few_nil _
      · obtain ⟨h1, h2⟩ := flush_few h
        exact ⟨Nat.le_trans h1 hk, fun e he => Nat.le_trans (h2 e he) hk⟩
    | some c =>
      dsimp only
      have hlt : k < t.length := (List.getElem?_eq_some_iff.1 hc).1
      split
      · split
        · obtain ⟨h1, h2⟩ := flush_few h
          exact scan_few CT CE t g (k + 1) _ hlt ⟨by simpa [freshE] using Nat.le_succ_of_le h1, fun e he => Nat.le_succ_of_le (h2 e he)⟩
        · exact scan_few CT CE t g (k + 1) _ hlt (h.mono (Nat.le_succ k))
      · split
        · exact scan_few CT CE t g (k + 1) _ hlt (h.mono (Nat.le_succ k))
        · split
          · have h9 : k + 1 ≤ t.length := hlt
            have h8 := rem_le h9
            exact scan_few CT CE t g (remAt t (k + 1)) _ h8.2 (h.mono (by omega))
          · split
            · split
              · exact scan_few CT CE t g (k + 1) _ hlt (h.mono (Nat.le_succ k))
              · exact few_nil _
            · split
              · split
                · exact few_nil _
                · exact scan_few CT CE t g (k + 1) _ hlt (h.mono (Nat.le_succ k))
              · split
                · split
                  · exact few_nil _
                  · rename_i j hj
                    split
                    · rename_i h34
                      have hj1 := word_le hlt hj
                      exact scan_few CT CE t g (j + 1) _ (List.getElem?_eq_some_iff.1 h34).1 (h.push (by omega) _ _)
                    · exact few_nil _
                · split
                  · exact few_nil _
                  · rename_i n1 n2 n3 n4 n5 n6 _ j hj
                    have hs : stopB false c = false := by
                      have nb : blankB c = false := by simpa using n2
                      simp [stopB, nb, n1, n3, n4, n5, n6]
                    exact scan_few CT CE t g j _ (word_le hk hj).2 (h.push (word_gt hc hs hj) _ _)
theorem ent_few {CT CE : Int} {t : Bt} {L : List En} {cd ln : Int} (h : entE CT CE t = (L, cd, ln)) : FewE t.length L := by
  have := scan_few CT CE t (t.length + 1) 0 ⟨1, 0, [], freshE t 0 1⟩ (Nat.zero_le _) ⟨by simp [freshE], fun e he => by cases he⟩
  unfold entE at h
  rw [h] at this; exact this

/-- a row whose block has new cells is a row -/
theorem own_any {w w1 : World} {b0 : Nat} {e : TypeId} {sz n g cap i : Nat} {xs : List Value} {u : Value} (h : w.ownsRow b0 e sz (.slice (some ⟨g, 0, none⟩) n cap) n xs) (h1 : w1.heap[g]? = (w.setCell ⟨g, i, none⟩ u).heap[g]?) : ∃ ys, w1.ownsRow b0 e sz (.slice (some ⟨g, 0, none⟩) n cap) n ys := by
  rcases h.2 with ⟨hv, _⟩ | ⟨g', cap', cur, hv, hb, hg, c1, c2, c3, _⟩
  · cases hv
  · cases hv
    rw [set_same hg] at h1
    refine ⟨(cur.setIfInBounds i u).toList.take (n * sz), ?_, .inr ⟨g, cap, _, rfl, hb, h1, c1, c2, by simpa using c3, rfl⟩⟩
    rw [List.length_take]
    simp only [Array.length_toList, Array.size_setIfInBounds, c3]
    exact Nat.min_eq_left (Nat.mul_le_mul_right _ c1)
/-- one cell laid in a row of one's own -/
theorem own_lay {w : World} {b0 : Nat} {e : TypeId} {sz n g cap i : Nat} {xs : List Value} {u : Value} (h : w.ownsRow b0 e sz (.slice (some ⟨g, 0, none⟩) n cap) n xs) : (w.setCell ⟨g, i, none⟩ u).ownsRow b0 e sz (.slice (some ⟨g, 0, none⟩) n cap) n (xs.set i u) := by
  rcases h.2 with ⟨hv, _⟩ | ⟨g', cap', cur, hv, hb, hg, c1, c2, c3, c4⟩
  · cases hv
  · cases hv
    refine ⟨by rw [List.length_set]; exact h.1, .inr ⟨g, cap, _, rfl, hb, set_same hg, c1, c2, by simpa using c3, ?_⟩⟩
    rw [← c4, Array.toList_setIfInBounds, List.take_set]
/-- entries on the way to be marked: those from j on stand as they did -/
structure MkJ (W wr : World) (B0 B1 : Nat) (v : Value) (P : List (En × Value)) (j : Nat) : Prop where
  row : ∃ xs, wr.ownsRow B0 31 3 v P.length xs ∧ ∀ i p, j ≤ i → P[i]? = some p → xs[i * 3 + 2]? = some p.2
  vlt : ∀ k, v.ownBlock = some k → k < B1
  each : ∀ i p, j ≤ i → P[i]? = some p → (∃ ys, wr.ownsRow B0 33 2 p.2 p.1.words.length ys) ∧ ∀ k, p.2.ownBlock = some k → k < B1
  pair : P.Pairwise (fun p q => Ap p.2 q.2)
  os : wr.os = W.os
  tape : wr.tape = W.tape
  output : wr.output = W.output
  size : W.heap.size ≤ wr.heap.size
  kept : ∀ k, k < W.heap.size → (k < B0 ∨ B1 ≤ k) → wr.heap[k]? = W.heap[k]?
  low : B1 ≤ W.heap.size
section
variable {W wr w1 : World} {B0 B1 : Nat} {v : Value} {P : List (En × Value)} {j : Nat}
theorem MkJ.init {w : World} (h : OutM w B0 v P) (hp : P.Pairwise (fun p q => Ap p.2 q.2)) (hB : Below w.heap.size w W) : MkJ W W B0 w.heap.size v P 0 := by
  have hW := h.below hB
  refine ⟨⟨_, hW.row, fun i p _ hi => ?_⟩, fun k hk => (h.row.lt k hk).2, fun i p _ hi => ⟨⟨_, hW.each p (List.mem_of_getElem? hi)⟩, fun k hk => ((h.each p (List.mem_of_getElem? hi)).lt k hk).2⟩, hp, rfl, rfl, rfl, Nat.le_refl _, fun _ _ _ => rfl, hB.size⟩
  exact flat_at enC 3 (fun _ => rfl) P i p 2 p.2 hi rfl
theorem pair_ap {i : Nat} {p q : En × Value} (h : P.Pairwise (fun p q => Ap p.2 q.2)) (hij : j < i) (hj : P[j]? = some p) (hi : P[i]? = some q) : Ap p.2 q.2 := by
  obtain ⟨hj1, rfl⟩ := List.getElem?_eq_some_iff.1 hj
  obtain ⟨hi1, rfl⟩ := List.getElem?_eq_some_iff.1 hi
  exact List.pairwise_iff_getElem.1 h j i hj1 hi1 hij
/-- what the entry at j tells -/
theorem MkJ.at (h : MkJ W wr B0 B1 v P j) {p : En × Value} (hj : P[j]? = some p) : ∃ g cap, v = .slice (some ⟨g, 0, none⟩) P.length cap ∧ wr.cell? ⟨g, j * 3 + 2, none⟩ = some p.2 ∧ wr.frozen? ⟨g, j * 3 + 2, none⟩ = false ∧ B0 ≤ g ∧ g < B1 ∧ g < wr.heap.size := by
  obtain ⟨xs, hr, hx⟩ := h.row
  have hjl : j < P.length := (List.getElem?_eq_some_iff.1 hj).1
  rcases hr.2 with ⟨rfl, h0⟩ | ⟨g, cap, cur, rfl, hb, hg, _⟩
  · omega
  · refine ⟨g, cap, rfl, ?_, by simp [World.frozen?, hg], hb, h.vlt g rfl, blk_lt hg⟩
    have := hr.cells (g := g) rfl (j * 3 + 2) p.2 (hx j p (Nat.le_refl _) hj)
    rw [addr_at', Nat.zero_add] at this
    exact this
/-- one cell of a word of the entry at j is laid -/
theorem MkJ.mark (h : MkJ W wr B0 B1 v P j) {p : En × Value} (hj : P[j]? = some p) {g n cap : Nat} (hp : p.2 = .slice (some ⟨g, 0, none⟩) n cap) (i : Nat) (u : Value) : MkJ W (wr.setCell ⟨g, i, none⟩ u) B0 B1 v P j := by
  obtain ⟨xs, hr, hx⟩ := h.row
  obtain ⟨⟨ys, hy⟩, hl⟩ := h.each j p (Nat.le_refl _) hj
  have hg : p.2.ownBlock = some g := by rw [hp]; rfl
  have hgb := hy.lt g hg
  have hk : ∀ k, k ≠ g → (wr.setCell ⟨g, i, none⟩ u).heap[k]? = wr.heap[k]? := fun k hk => set_far hk
  refine ⟨⟨xs, own_kept hr (fun k hv => hk k (fun e => own_types hr hy types_ne k hv (e ▸ hg))), hx⟩, h.vlt, fun i' q hi hq => ?_, h.pair, h.os, h.tape, h.output, by have := h.size; simp [World.setCell]; exact this, fun k hk1 hk2 => (hk k (by have := hl g hg; omega)).trans (h.kept k hk1 hk2), h.low⟩
  obtain ⟨⟨zs, hz⟩, hzl⟩ := h.each i' q hi hq
  rcases Nat.lt_or_ge j i' with hlt | hge
  · exact ⟨⟨zs, own_kept hz (fun k hv => hk k (fun e => pair_ap h.pair hlt hj hq k (e ▸ hg) hv))⟩, hzl⟩
  · obtain rfl : i' = j := by omega
    obtain rfl : p = q := Option.some.inj (hj.symm.trans hq)
    refine ⟨?_, hzl⟩
    have hn : n = p.1.words.length := by
      rcases hy.2 with ⟨h1, _⟩ | ⟨g', cap', cur, h1, _⟩
      · rw [hp] at h1; cases h1
      · rw [hp] at h1; cases h1; rfl
    rw [hp] at hz ⊢
    rw [← hn] at hz ⊢
    exact own_any hz rfl
theorem MkJ.drew (h : MkJ W wr B0 B1 v P j) (m : Nat) : MkJ W (wr.drewN m) B0 B1 v P j :=
  ⟨h.row, h.vlt, h.each, h.pair, h.os, h.tape, h.output, h.size, h.kept, h.low⟩
/-- the words' row of the entry at j -/
theorem MkJ.words (h : MkJ W wr B0 B1 v P j) {p : En × Value} (hj : P[j]? = some p) : ∃ a c, p.2 = .slice a p.1.words.length c := by
  obtain ⟨⟨ys, hy⟩, _⟩ := h.each j p (Nat.le_refl _) hj
  obtain ⟨a, c, h1, _⟩ := own_slice hy
  exact ⟨a, c, h1⟩
/-- a word's two cells -/
theorem MkJ.word (h : MkJ W wr B0 B1 v P j) {p : En × Value} (hj : P[j]? = some p) {a : Option Addr} {n c k : Nat} (hp : p.2 = .slice a n c) (hk : k < n) : ∃ g u0 u1, a = some ⟨g, 0, none⟩ ∧ wr.cell? ⟨g, k * 2, none⟩ = some u0 ∧ wr.cell? ⟨g, k * 2 + 1, none⟩ = some u1 ∧ (∀ i, wr.frozen? ⟨g, i, none⟩ = false) ∧ g < wr.heap.size := by
  obtain ⟨⟨ys, hy⟩, _⟩ := h.each j p (Nat.le_refl _) hj
  rw [hp] at hy
  rcases hy.2 with ⟨h1, h0⟩ | ⟨g, cap, cur, h1, hb, hg, c1, c2, c3, _⟩
  · cases h1; omega
  · cases h1
    have hlt : k * 2 + 1 < cur.size := by
      rw [c3]; omega
    refine ⟨g, cur[k * 2], cur[k * 2 + 1], rfl, ?_, ?_, fun i => by simp [World.frozen?, hg], blk_lt hg⟩
    · simp only [World.cell?, hg]; exact Array.getElem?_eq_getElem (by omega)
    · simp only [World.cell?, hg]; exact Array.getElem?_eq_getElem hlt
/-- the entry at j has its longer list -/
theorem MkJ.grow (h : MkJ W wr B0 B1 v P j) {p : En × Value} (hj : P[j]? = some p) {nv : Value} {o : Obj} {g cap : Nat} (hv : v = .slice (some ⟨g, 0, none⟩) P.length cap) (hg : (wr.alloc o).grownBy w1 p.2.ownBlock) :
    w1.cell? ⟨g, j * 3 + 2, none⟩ = some p.2 ∧ w1.frozen? ⟨g, j * 3 + 2, none⟩ = false ∧ g < w1.heap.size ∧ MkJ W (w1.setCell ⟨g, j * 3 + 2, none⟩ nv) B0 B1 v P (j + 1) := by
  obtain ⟨xs, hr, hx⟩ := h.row
  obtain ⟨⟨ys, hy⟩, hl⟩ := h.each j p (Nat.le_refl _) hj
  have hvg : v.ownBlock = some g := by rw [hv]; rfl
  have hgl := (hr.lt g hvg)
  have hb : ∀ k, k < wr.heap.size → p.2.ownBlock ≠ some k → w1.heap[k]? = wr.heap[k]? := fun k hk hn => two.block_kept hg hk hn
  have hvp : p.2.ownBlock ≠ some g := own_types hr hy types_ne g hvg
  have hg1 := hb g hgl.2 hvp
  have hsz := hg.size
  rw [World.size_alloc] at hsz
  have hr1 : w1.ownsRow B0 31 3 v P.length xs := own_kept hr (fun k hk => by rw [hvg] at hk; obtain rfl := Option.some.inj hk; exact hg1)
  obtain ⟨g', cap', hv', c1, c2, _, _, _⟩ := h.at hj
  rw [hv] at hv'; cases hv'
  refine ⟨(by unfold World.cell?; rw [hg1]; exact c1), (by unfold World.frozen?; rw [hg1]; exact c2), by omega, ⟨xs.set (j * 3 + 2) nv, ?_, fun i q hi hq => ?_⟩, h.vlt, fun i q hi hq => ?_, h.pair, hg.os.trans h.os, hg.tape.trans h.tape, hg.output.trans h.output, by have := h.size; simp [World.setCell]; omega, fun k hk1 hk2 => ?_, h.low⟩
  · rw [hv] at hr1 ⊢
    exact own_lay hr1
  · rw [List.getElem?_set_ne (by omega)]
    exact hx i q (by omega) hq
  · obtain ⟨⟨zs, hz⟩, hzl⟩ := h.each i q (by omega) hq
    refine ⟨⟨zs, own_kept hz (fun k hk => ?_)⟩, hzl⟩
    have hkl := (hz.lt k hk).2
    exact (set_far (fun (e : k = g) => own_types hr hz types_ne g hvg (by rw [← e]; exact hk))).trans (hb k hkl (fun e => pair_ap h.pair (by omega) hj hq k e hk))
  · have hkw : k < wr.heap.size := Nat.lt_of_lt_of_le hk1 h.size
    refine (set_far (by have := h.vlt g hvg; omega)).trans ((hb k hkw (fun e => ?_)).trans (h.kept k hk1 hk2))
    have h1 := (hy.lt k e).1
    have h2 := hl k e
    omega
end
end Go.Proofs.YtabmcambgdnaiaaDoor.entK
