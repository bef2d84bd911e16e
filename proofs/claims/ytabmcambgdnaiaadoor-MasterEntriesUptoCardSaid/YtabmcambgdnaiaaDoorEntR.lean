/- gazetteerref2.Entries' memory on the way: the fault's box, the entry's box, the entries. -/
import Derived.Test.YtabmcambgdnaiaaDoorEntG
import Derived.Test.YtabmcambgdnaiaaDoorTokP
namespace Go.Proofs.YtabmcambgdnaiaaDoor.entR
open Go.RowKit Go.Proofs.YtabmcambgdnaiaaDoor.kit Go.Proofs.YtabmcambgdnaiaaDoor.timed Go.Proofs.YtabmcambgdnaiaaDoor.entP Go.Proofs.YtabmcambgdnaiaaDoor.wordsS Go.Proofs.YtabmcambgdnaiaaDoor.entsS Go.Proofs.YtabmcambgdnaiaaDoor.entM Go.Proofs.YtabmcambgdnaiaaDoor.entG Go.Proofs.YtabmcambgdnaiaaDoor.tokW Go.Proofs.YtabmcambgdnaiaaDoor.tokP
set_option linter.unusedVariables false

theorem set_same {w : World} {B i : Nat} {v : Value} {bx : Array Value} {t : TypeId} {fr : Nat × Nat} (h : w.heap[B]? = some (.cells bx t fr)) : (w.setCell ⟨B, i, none⟩ v).heap[B]? = some (.cells (bx.setIfInBounds i v) t fr) := by
  simp [World.setCell, Array.getElem?_modify, h]
theorem set_far {w : World} {B i j : Nat} {v : Value} (h : j ≠ B) : (w.setCell ⟨B, i, none⟩ v).heap[j]? = w.heap[j]? := Below.heap_setCell w ⟨B, i, none⟩ v j h
theorem blk_lt {w : World} {B : Nat} {o : Obj} (h : w.heap[B]? = some o) : B < w.heap.size := (Array.getElem?_eq_some_iff.1 h).1
theorem box_cells {w : World} {B : Nat} {a b c : Value} {t : TypeId} (h : w.heap[B]? = some (.cells #[a, b, c] t (0, 0))) :
    w.cell? ⟨B, 0, none⟩ = some a ∧ w.cell? ⟨B, 1, none⟩ = some b ∧ w.cell? ⟨B, 2, none⟩ = some c ∧ (∀ j, w.frozen? ⟨B, j, none⟩ = false) ∧ B < w.heap.size := by
  refine ⟨?_, ?_, ?_, fun j => by simp [World.frozen?, h], blk_lt h⟩ <;> (simp only [World.cell?, h]; rfl)
abbrev flO : Obj := .cells #[.int .i64 0, .string ⟨#[]⟩, .int .i64 0] 25
structure RE (N : Nat) (w0 wr : World) (a b c ov wv : Value) (P : List (En × Value)) (now : En) : Prop where
  res : wr.heap[N]? = some flO
  box : wr.heap[N + 1]? = some (.cells #[a, b, c] 31)
  st : StM wr (N + 2) ov wv P now
  bel : Below N w0 wr
section
variable {N : Nat} {w0 wr w1 : World} {a b c ov wv : Value} {P : List (En × Value)} {now : En}
theorem RE.lt (h : RE N w0 wr a b c ov wv P now) : N + 2 ≤ wr.heap.size := by have := blk_lt h.box; omega
theorem RE.below (h : RE N w0 wr a b c ov wv P now) (hB : Below wr.heap.size wr w1) : RE N w0 w1 a b c ov wv P now :=
  ⟨(hB.block N (blk_lt h.res)).trans h.res, (hB.block _ (blk_lt h.box)).trans h.box, h.st.below hB, h.bel.trans (hB.mono (by have := h.lt; omega))⟩
/-- the box laid anew -/
theorem RE.lay (h : RE N w0 wr a b c ov wv P now) (a' b' c' : Value) : RE N w0 (((wr.setCell ⟨N + 1, 0, none⟩ a').setCell ⟨N + 1, 1, none⟩ b').setCell ⟨N + 1, 2, none⟩ c') a' b' c' ov wv P now := by
  have h1 : ∀ j, j ≠ N + 1 → ((((wr.setCell ⟨N + 1, 0, none⟩ a').setCell ⟨N + 1, 1, none⟩ b').setCell ⟨N + 1, 2, none⟩ c').heap[j]? = wr.heap[j]?) := fun j hj => (set_far hj).trans ((set_far hj).trans (set_far hj))
  refine ⟨(h1 N (by omega)).trans h.res, set_same (set_same (set_same h.box)), h.st.keptB (fun k hk _ => h1 k (by omega)), ?_⟩
  exact ((h.bel.setCell (p := ⟨N + 1, 0, none⟩) (by show N ≤ N + 1; omega) a').setCell (p := ⟨N + 1, 1, none⟩) (by show N ≤ N + 1; omega) b').setCell (p := ⟨N + 1, 2, none⟩) (by show N ≤ N + 1; omega) c'
/-- the fault's box laid to nothing -/
theorem RE.zero (h : RE N w0 wr a b c ov wv P now) : RE N w0 (((wr.setCell ⟨N, 0, none⟩ (.int .i64 0)).setCell ⟨N, 1, none⟩ (.string ⟨#[]⟩)).setCell ⟨N, 2, none⟩ (.int .i64 0)) a b c ov wv P now := by
  have h1 : ∀ j, j ≠ N → ((((wr.setCell ⟨N, 0, none⟩ (.int .i64 0)).setCell ⟨N, 1, none⟩ (.string ⟨#[]⟩)).setCell ⟨N, 2, none⟩ (.int .i64 0)).heap[j]? = wr.heap[j]?) := fun j hj => (set_far hj).trans ((set_far hj).trans (set_far hj))
  refine ⟨set_same (set_same (set_same h.res)), (h1 _ (by omega)).trans h.box, h.st.keptB (fun k hk _ => h1 k (by omega)), ?_⟩
  exact ((h.bel.setCell (p := ⟨N, 0, none⟩) (Nat.le_refl _) _).setCell (p := ⟨N, 1, none⟩) (Nat.le_refl _) _).setCell (p := ⟨N, 2, none⟩) (Nat.le_refl _) _
/-- the words under way, and what they are -/
theorem RE.fresh (h : RE N w0 wr a b c ov wv P now) (line : Int) (bl : Bool) : RE N w0 wr a b c ov (.slice none 0 0) P ⟨line, bl, []⟩ := ⟨h.res, h.box, h.st.fresh line bl, h.bel⟩
/-- blocks of other types are kept by an append -/
theorem grown_box {w w1 : World} {o : Obj} {b0 : Nat} {e : TypeId} {s n : Nat} {v : Value} {xs : List Value} (hv : w.ownsRow b0 e s v n xs) (hg : (w.alloc o).grownBy w1 v.ownBlock) {j : Nat} (hj : j < b0) (hl : j < w.heap.size) : w1.heap[j]? = w.heap[j]? :=
  two.block_kept hg hl (fun e => by have := (hv.lt j e).1; omega)
theorem grown_below {w0 w w1 : World} {o : Obj} {N b0 : Nat} {e : TypeId} {s n : Nat} {v : Value} {xs : List Value} (hB : Below N w0 w) (hN : N ≤ b0) (hs : N ≤ w.heap.size) (hv : w.ownsRow b0 e s v n xs) (hg : (w.alloc o).grownBy w1 v.ownBlock) : Below N w0 w1 :=
  (hB.alloc hs o).grown hg (by simp; omega) (fun k hk => Nat.le_trans hN (hv.lt k hk).1)
/-- a word more: the box's third cell is laid -/
theorem RE.push (h : RE N w0 wr a b c ov wv P now) (x : Wd) {nv : Value} {o : Obj} (hg : (wr.alloc o).grownBy w1 wv.ownBlock)
    (hw : w1.ownsRow (N + 2) 33 2 nv (now.words.length + 1) (now.words.flatMap wdC ++ wdC x)) (hat : nv.ownBlock = wv.ownBlock ∨ nv.ownBlock = some (wr.heap.size + 1)) :
    w1.heap[N + 1]? = some (.cells #[a, b, c] 31) ∧ RE N w0 (w1.setCell ⟨N + 1, 2, none⟩ nv) a b nv ov nv P { now with words := now.words ++ [x] } := by
  have hb := (grown_box h.st.words hg (by omega) (blk_lt h.box)).trans h.box
  refine ⟨hb, (set_far (by omega)).trans ((grown_box h.st.words hg (by omega) (blk_lt h.res)).trans h.res), by simpa using set_same (i := 2) (v := nv) hb, ?_, ?_⟩
  · exact (h.st.push x hg hw (by rw [World.size_alloc]; exact hat)).keptB fun k hk _ => set_far (by omega)
  · exact (grown_below h.bel (by omega) (by have := h.lt; omega) h.st.words hg).setCell (p := ⟨N + 1, 2, none⟩) (by show N ≤ N + 1; omega) nv
/-- an entry more -/
theorem RE.flush (h : RE N w0 wr a b c ov wv P now) {nv : Value} {o : Obj} (hg : (wr.alloc o).grownBy w1 ov.ownBlock)
    (hw : w1.ownsRow (N + 2) 31 3 nv (P.length + 1) (P.flatMap enC ++ enC (now, wv))) (line : Int) (bl : Bool) : RE N w0 w1 a b c nv (.slice none 0 0) (P ++ [(now, wv)]) ⟨line, bl, []⟩ :=
  ⟨(grown_box h.st.out.row hg (by omega) (blk_lt h.res)).trans h.res, (grown_box h.st.out.row hg (by omega) (blk_lt h.box)).trans h.box, h.st.flush hg hw line bl, grown_below h.bel (by omega) (by have := h.lt; omega) h.st.out.row hg⟩
end
theorem own_base {w : World} {base base' : Nat} {e : TypeId} {size : Nat} {v : Value} {n : Nat} {xs : List Value} (hb : base' ≤ base) (h : w.ownsRow base e size v n xs) : w.ownsRow base' e size v n xs := by
  refine ⟨h.1, ?_⟩
  rcases h.2 with h | ⟨g, cap, cur, h1, h2, h3⟩
  · exact .inl h
  · exact .inr ⟨g, cap, cur, h1, Nat.le_trans hb h2, h3⟩
/-- plain: where a word ends -/
theorem word_gt {q : Bool} {t : Bt} {k j : Nat} {c : UInt8} (hc : t[k]? = some c) (hs : stopB q c = false) (h : wordAt q t k = some j) : k < j := by
  unfold wordAt at h
  rw [drop_at hc] at h
  obtain ⟨n, hn, rfl⟩ := Option.map_eq_some_iff.1 h
  have : n ≠ 0 := by
    rintro rfl
    cases hr : t.drop (k + 1) with
    | nil =>
      rw [hr] at hn
      by_cases h92 : c = 92
      · subst h92; simp [wordE, slash_no] at hn
      · simp [wordE, hs, h92] at hn
    | cons d r =>
      rw [hr] at hn
      by_cases h92 : c = 92
      · subst h92
        by_cases hd : d = 10
        · subst hd; simp [wordE, slash_no] at hn
        · simp [wordE, slash_no, hd] at hn
      · simp [wordE, hs, h92] at hn
  omega
theorem cut_str (s : ByteArray) (k j : Nat) : s.extract k j = ⟨(cutE s.data.toList k j).toArray⟩ := by
  apply ba_ext
  rw [mk_data, Lib.extract_data]
  rfl
theorem flush_map (P : List (En × Value)) (now : En) (wv : Value) (h : now.words.isEmpty = false) : flushE (P.map Prod.fst) now = (P ++ [(now, wv)]).map Prod.fst := by simp [flushE, h]
theorem flush_none (P : List (En × Value)) (now : En) (h : now.words.isEmpty = true) : flushE (P.map Prod.fst) now = P.map Prod.fst := by simp [flushE, h]
end Go.Proofs.YtabmcambgdnaiaaDoor.entR
