/- Entries that grow: the words under way, the entries that are kept. -/
import Derived.Test.YtabmcambgdnaiaaDoorEntM
import Derived.Test.YtabmcambgdnaiaaDoorTwo
namespace Go.Proofs.YtabmcambgdnaiaaDoor.entG
open Go.RowKit Go.Proofs.YtabmcambgdnaiaaDoor.kit Go.Proofs.YtabmcambgdnaiaaDoor.timed Go.Proofs.YtabmcambgdnaiaaDoor.entP Go.Proofs.YtabmcambgdnaiaaDoor.wordsS Go.Proofs.YtabmcambgdnaiaaDoor.entsS Go.Proofs.YtabmcambgdnaiaaDoor.entM
set_option linter.unusedVariables false

/-- rows of two types lie in two blocks -/
theorem own_types {w : World} {b0 b1 : Nat} {e e' : TypeId} {s s' : Nat} {v v' : Value} {n n' : Nat} {xs xs' : List Value} (h : w.ownsRow b0 e s v n xs) (h' : w.ownsRow b1 e' s' v' n' xs') (he : e ≠ e') : ∀ k, v.ownBlock = some k → v'.ownBlock ≠ some k := by
  intro k hk hk'
  rcases h.2 with ⟨rfl, _⟩ | ⟨g, cap, cur, rfl, _, hg, _⟩
  · simp [Value.ownBlock] at hk
  rcases h'.2 with ⟨rfl, _⟩ | ⟨g', cap', cur', rfl, _, hg', _⟩
  · simp [Value.ownBlock] at hk'
  simp [Value.ownBlock] at hk hk'
  subst hk; subst hk'
  rw [hg] at hg'
  simp only [Option.some.injEq, Obj.cells.injEq] at hg'
  exact he hg'.2.1
theorem types_ne : (31 : TypeId) ≠ 33 := by decide
/-- two values that do not share a block -/
def Ap (a b : Value) : Prop := ∀ k, a.ownBlock = some k → b.ownBlock ≠ some k
theorem Ap.nil (a : Value) : Ap a (.slice none 0 0) := fun k _ h => by simp [Value.ownBlock] at h
/-- what is under way: the entries that are kept (ov), the words (wv) -/
structure StM (w : World) (lo : Nat) (ov wv : Value) (P : List (En × Value)) (now : En) : Prop where
  out : OutM w lo ov P
  words : w.ownsRow lo 33 2 wv now.words.length (now.words.flatMap wdC)
  apart : ∀ p ∈ P, Ap p.2 wv
  pair : P.Pairwise (fun p q => Ap p.2 q.2)
theorem StM.nil (w : World) (lo : Nat) (line : Int) (bl : Bool) : StM w lo (.slice none 0 0) (.slice none 0 0) [] ⟨line, bl, []⟩ :=
  ⟨OutM.nil _ _, World.ownsRow_nil _ _ _ _, fun p h => (by cases h), List.Pairwise.nil⟩
/-- kept by what leaves all blocks from lo on -/
theorem StM.keptB {w w1 : World} {lo : Nat} {ov wv : Value} {P : List (En × Value)} {now : En} (h : StM w lo ov wv P now) (hk : ∀ k, lo ≤ k → k < w.heap.size → w1.heap[k]? = w.heap[k]?) : StM w1 lo ov wv P now :=
  ⟨h.out.kept (fun k hb => hk k (h.out.row.lt k hb).1 (h.out.row.lt k hb).2) (fun p hp k hb => hk k ((h.out.each p hp).lt k hb).1 ((h.out.each p hp).lt k hb).2),
   own_kept h.words (fun k hb => hk k (h.words.lt k hb).1 (h.words.lt k hb).2), h.apart, h.pair⟩
theorem StM.below {w w1 : World} {lo : Nat} {ov wv : Value} {P : List (En × Value)} {now : En} (h : StM w lo ov wv P now) (hB : Below w.heap.size w w1) : StM w1 lo ov wv P now :=
  h.keptB fun k _ hk => hB.block k hk
theorem StM.alloc {w : World} {lo : Nat} {ov wv : Value} {P : List (En × Value)} {now : En} (h : StM w lo ov wv P now) (o : Obj) : StM (w.alloc o) lo ov wv P now :=
  h.keptB fun k _ hk => Below.heap_alloc w o k hk
theorem StM.drew {w : World} {lo : Nat} {ov wv : Value} {P : List (En × Value)} {now : En} (h : StM w lo ov wv P now) (n : Nat) : StM (w.drewN n) lo ov wv P now :=
  h.keptB fun k _ hk => rfl
/-- a word more -/
theorem StM.push {w w1 : World} {lo : Nat} {ov wv nv : Value} {P : List (En × Value)} {now : En} (h : StM w lo ov wv P now) (x : Wd) {o : Obj} (hg : (w.alloc o).grownBy w1 wv.ownBlock)
    (hw : w1.ownsRow lo 33 2 nv (now.words.length + 1) (now.words.flatMap wdC ++ wdC x)) (hat : nv.ownBlock = wv.ownBlock ∨ nv.ownBlock = some (w.alloc o).heap.size) :
    StM w1 lo ov nv P { now with words := now.words ++ [x] } := by
  have hO : Ap ov wv := own_types h.out.row h.words types_ne
  have hb : ∀ k, k < w.heap.size → wv.ownBlock ≠ some k → w1.heap[k]? = w.heap[k]? := fun k hk hn => two.block_kept hg hk hn
  refine ⟨h.out.kept (fun k hk => hb k (h.out.row.lt k hk).2 (hO k hk)) (fun p hp k hk => hb k ((h.out.each p hp).lt k hk).2 (h.apart p hp k hk)), ?_, ?_, h.pair⟩
  · rw [List.length_append, List.flatMap_append]
    simpa using hw
  · intro p hp k hk hn
    rcases hat with e | e
    · exact h.apart p hp k hk (e ▸ hn)
    · rw [e] at hn
      have := ((h.out.each p hp).lt k hk).2
      simp only [Option.some.injEq, World.size_alloc] at hn
      omega
/-- an entry more: the words under way are its words -/
theorem StM.flush {w w1 : World} {lo : Nat} {ov wv nv : Value} {P : List (En × Value)} {now : En} (h : StM w lo ov wv P now) {o : Obj} (hg : (w.alloc o).grownBy w1 ov.ownBlock)
    (hw : w1.ownsRow lo 31 3 nv (P.length + 1) (P.flatMap enC ++ enC (now, wv))) (line : Int) (bl : Bool) :
    StM w1 lo nv (.slice none 0 0) (P ++ [(now, wv)]) ⟨line, bl, []⟩ := by
  have hb : ∀ k, k < w.heap.size → ov.ownBlock ≠ some k → w1.heap[k]? = w.heap[k]? := fun k hk hn => two.block_kept hg hk hn
  have hE : ∀ {v : Value} {n : Nat} {xs : List Value}, w.ownsRow lo 33 2 v n xs → w1.ownsRow lo 33 2 v n xs := fun hx =>
    own_kept hx (fun k hk => hb k (hx.lt k hk).2 (own_types hx h.out.row (Ne.symm types_ne) k hk))
  refine ⟨⟨?_, ?_⟩, World.ownsRow_nil _ _ _ _, fun p hp => Ap.nil _, ?_⟩
  · rw [List.length_append, List.flatMap_append]
    simpa using hw
  · intro p hp
    rcases List.mem_append.1 hp with hp | hp
    · exact hE (h.out.each p hp)
    · rcases List.mem_singleton.1 hp with rfl
      exact hE h.words
  · rw [List.pairwise_append]
    refine ⟨h.pair, List.pairwise_singleton _ _, fun p hp q hq => ?_⟩
    rcases List.mem_singleton.1 hq with rfl
    exact h.apart p hp
/-- nothing is kept where there are no words: the words under way begin anew -/
theorem StM.fresh {w : World} {lo : Nat} {ov wv : Value} {P : List (En × Value)} {now : En} (h : StM w lo ov wv P now) (line : Int) (bl : Bool) : StM w lo ov (.slice none 0 0) P ⟨line, bl, []⟩ :=
  ⟨h.out, World.ownsRow_nil _ _ _ _, fun p hp => Ap.nil _, h.pair⟩
/-- the words' slice opened -/
theorem own_slice {w : World} {b0 : Nat} {e : TypeId} {s : Nat} {v : Value} {n : Nat} {xs : List Value} (h : w.ownsRow b0 e s v n xs) : ∃ a c, v = .slice a n c ∧ n ≤ c ∧ c ≤ maxLen := by
  rcases h.2 with ⟨rfl, rfl⟩ | ⟨g, cap, cur, rfl, _, _, h1, h2, _⟩
  · exact ⟨none, 0, rfl, Nat.le_refl _, Nat.zero_le _⟩
  · exact ⟨_, cap, rfl, h1, h2⟩
/-- what both codes answer -/
def EntA (t : Bt) (w : World) (e : Ending) (w' : World) : Prop := ∃ (v : Value) (P : List (En × Value)) (cd ln : Int), e = .returned (.tuple #[v, .agg #[.int .i64 cd, .string ⟨#[]⟩, .int .i64 ln]]) ∧ entE 2 10 t = (P.map Prod.fst, cd, ln) ∧ OutM w' w.heap.size v P ∧ P.Pairwise (fun p q => Ap p.2 q.2) ∧ Below w.heap.size w w'
end Go.Proofs.YtabmcambgdnaiaaDoor.entG
