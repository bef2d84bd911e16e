/- gazetteerref2: the paper of the reference: put, noted: walks. gazetteerref2: (*paper).name, whole, brief: walks. slices.Clone of bytes: walk. wire.signs: walk. -/
import Derived.Test.YtnamkladeaohoaaGreatK14
import Derived.Test.YtnamkladeaohoaaGreatK18
import Derived.Test.YtnamkladeaohoaaGreatK13
import Derived.Deep.AppendLies
import Derived.Deep.RegionLaw
import Derived.Deep.DeepCutAuto
import Derived.StillTailTactics
import Derived.BigRegion
namespace Go.Proofs.YtnamkladeaohoaaGreat.rpaper
open Go.RowKit Go.Proofs.YtnamkladeaohoaaGreat.kit Go.Proofs.YtnamkladeaohoaaGreat.nspec Go.Proofs.YtnamkladeaohoaaGreat.bits Go.Proofs.YtnamkladeaohoaaGreat.bld Go.Proofs.YtnamkladeaohoaaGreat.coded Go.Proofs.YtnamkladeaohoaaGreat.fld Go.Proofs.YtnamkladeaohoaaGreat.packP Go.Proofs.YtnamkladeaohoaaGreat.buf Go.Proofs.YtnamkladeaohoaaGreat.big
set_option linter.unusedVariables false

theorem big2 (v : Nat) : bigS v 2 = be2 (v : Int) := by
  simp only [bigS, be2, byte, List.nil_append, List.cons_append]
  have e1 : ((v : Int) / 256 % 256).toNat = v / 256 % 256 := by omega
  have e2 : ((v : Int) % 256).toNat = v % 256 := by omega
  rw [e1, e2]
theorem big4 (v : Nat) : bigS v 4 = be4 (v : Int) := by
  simp only [bigS, be4, be2, byte, List.nil_append, List.cons_append]
  have e1 : ((v : Int) / 65536 / 256 % 256).toNat = v / 256 / 256 / 256 % 256 := by omega
  have e2 : ((v : Int) / 65536 % 256).toNat = v / 256 / 256 % 256 := by omega
  have e3 : ((v : Int) / 256 % 256).toNat = v / 256 % 256 := by omega
  have e4 : ((v : Int) % 256).toNat = v % 256 := by omega
  rw [e1, e2, e3, e4]
def strN (x : Bs × Nat) : Value := .string ⟨x.1.toArray⟩
def intN (x : Bs × Nat) : Value := .int .i64 (x.2 : Int)
/-- no cells of such a type -/
def NotT (e : TypeId) (o : Obj) : Prop := ∀ cur f, o ≠ .cells cur e f
/-- no row of the paper's -/
def NotR (Z : Nat → Prop) (k : Nat) (o : Obj) : Prop := NotT 5 o ∧ NotT 9 o ∧ (NotT 3 o ∨ Z k)
theorem notT_cells {c : Array Value} {e e' : TypeId} {f : Nat × Nat} (h : e' ≠ e) : NotT e (.cells c e' f) := by
  intro cur f' h2; injection h2 with _ e2 _; exact h e2
theorem notR_cells {Z : Nat → Prop} {k : Nat} {c : Array Value} {e' : TypeId} {f : Nat × Nat} (h1 : e' ≠ 5) (h2 : e' ≠ 9) (h3 : e' ≠ 3) : NotR Z k (.cells c e' f) := ⟨notT_cells h1, notT_cells h2, .inl (notT_cells h3)⟩
theorem row_ne {w : World} {b0 : Nat} {e : TypeId} {v : Value} {n : Nat} {xs : List Value} (h : w.ownsRow b0 e 1 v n xs) {k : Nat} {o : Obj} (hk : w.heap[k]? = some o) (hn : NotT e o) : some k ≠ v.ownBlock := by
  intro e
  rcases h.2 with ⟨rfl, _⟩ | ⟨g, cap, cur, rfl, hb, hg, _⟩
  · cases e
  · simp only [Value.ownBlock, Option.some.injEq] at e
    subst e
    rw [hg] at hk; cases hk
    exact hn _ _ rfl
theorem row_low' {w : World} {b0 : Nat} {e : TypeId} {v : Value} {n : Nat} {xs : List Value} (h : w.ownsRow b0 e 1 v n xs) {k : Nat} (hk : k < b0) : some k ≠ v.ownBlock := by
  intro e
  rcases h.2 with ⟨rfl, _⟩ | ⟨g, cap, cur, rfl, hb, hg, _⟩
  · cases e
  · simp only [Value.ownBlock, Option.some.injEq] at e; omega
theorem own_kept {w w1 : World} {b0 : Nat} {e : TypeId} {v : Value} {n : Nat} {xs : List Value} (h : w.ownsRow b0 e 1 v n xs) (hk : ∀ (k : Nat) (cur : Array Value), w.heap[k]? = some (Obj.cells cur e (0, 0)) → w1.heap[k]? = some (Obj.cells cur e (0, 0))) : w1.ownsRow b0 e 1 v n xs := by
  refine ⟨h.1, ?_⟩
  rcases h.2 with h1 | ⟨g, cap, cur, h1, h2, h3, h4⟩
  · exact .inl h1
  · exact .inr ⟨g, cap, cur, h1, h2, hk _ _ h3, h4⟩
/-- what a write on the paper may touch -/
structure EffR (b0 B : Nat) (Z : Nat → Prop) (w w' : World) : Prop where
  os : w'.os = w.os
  tape : w'.tape = w.tape
  output : w'.output = w.output
  size : w.heap.size ≤ w'.heap.size
  low : ∀ k, k < b0 → w'.heap[k]? = w.heap[k]?
  kept : ∀ k o, w.heap[k]? = some o → NotR Z k o → k ≠ B → w'.heap[k]? = some o
theorem EffR.refl (b0 B : Nat) (Z : Nat → Prop) (w : World) : EffR b0 B Z w w := ⟨rfl, rfl, rfl, Nat.le_refl _, fun _ _ => rfl, fun _ _ h _ _ => h⟩
theorem EffR.trans {b0 B : Nat} {Z : Nat → Prop} {w w1 w2 : World} (h : EffR b0 B Z w w1) (g : EffR b0 B Z w1 w2) : EffR b0 B Z w w2 :=
  ⟨g.os.trans h.os, g.tape.trans h.tape, g.output.trans h.output, Nat.le_trans h.size g.size, fun k hk => (g.low k hk).trans (h.low k hk), fun k o hk hn hT => g.kept k o (h.kept k o hk hn hT) hn hT⟩
theorem EffR.of_below {b0 B : Nat} {Z : Nat → Prop} {w w1 : World} (h : Below w.heap.size w w1) (hb : b0 ≤ w.heap.size) : EffR b0 B Z w w1 :=
  ⟨h.os, h.tape, h.output, h.size, fun k hk => h.block k (by omega), fun k o hk hn _ => (h.block k (Array.getElem?_eq_some_iff.1 hk).1).trans hk⟩
theorem EffR.to_below {b0 B : Nat} {Z : Nat → Prop} {w w1 : World} (h : EffR b0 B Z w w1) : Below b0 w w1 := ⟨h.os, h.tape, h.output, h.size, h.low⟩
theorem EffR.drewN (b0 B : Nat) (Z : Nat → Prop) (w : World) (n : Nat) : EffR b0 B Z w (w.drewN n) := ⟨rfl, rfl, rfl, Nat.le_refl _, fun _ _ => rfl, fun _ _ h _ _ => h⟩
/-- the paper in memory -/
structure RP (w : World) (b0 B : Nat) (Z : Nat → Prop) (v1 v2 v3 : Value) (q : Pp) : Prop where
  blk : w.heap[B]? = some (.cells #[v1, v2, v3] 152 (0, 0))
  o1 : w.ownsRow b0 5 1 v1 q.out.length (Lib.byteCells q.out)
  o2 : w.ownsRow b0 9 1 v2 q.N.length (q.N.map strN)
  o3 : w.ownsRow b0 3 1 v3 q.N.length (q.N.map intN)
  low : b0 ≤ B
  zl : ∀ k, Z k → k < w.heap.size
  z3 : ∀ k, Z k → some k ≠ v3.ownBlock
theorem notT_paper (e : TypeId) (he : 152 ≠ e) (c : Array Value) (f : Nat × Nat) : NotT e (.cells c 152 f) := notT_cells he
theorem RP.lt {w : World} {b0 B : Nat} {Z : Nat → Prop} {v1 v2 v3 : Value} {q : Pp} (h : RP w b0 B Z v1 v2 v3 q) : B < w.heap.size := (Array.getElem?_eq_some_iff.1 h.blk).1
theorem RP.c0 {w : World} {b0 B : Nat} {Z : Nat → Prop} {v1 v2 v3 : Value} {q : Pp} (h : RP w b0 B Z v1 v2 v3 q) : w.cell? ⟨B, 0, none⟩ = some v1 := by simp only [World.cell?, h.blk]; rfl
theorem RP.c1 {w : World} {b0 B : Nat} {Z : Nat → Prop} {v1 v2 v3 : Value} {q : Pp} (h : RP w b0 B Z v1 v2 v3 q) : w.cell? ⟨B, 1, none⟩ = some v2 := by simp only [World.cell?, h.blk]; rfl
theorem RP.c2 {w : World} {b0 B : Nat} {Z : Nat → Prop} {v1 v2 v3 : Value} {q : Pp} (h : RP w b0 B Z v1 v2 v3 q) : w.cell? ⟨B, 2, none⟩ = some v3 := by simp only [World.cell?, h.blk]; rfl
theorem RP.z {w : World} {b0 B : Nat} {Z : Nat → Prop} {v1 v2 v3 : Value} {q : Pp} (h : RP w b0 B Z v1 v2 v3 q) (j : Nat) : w.frozen? ⟨B, j, none⟩ = false := by simp only [World.frozen?, h.blk]; simp
theorem RP.kept {w w1 : World} {b0 B : Nat} {Z : Nat → Prop} {v1 v2 v3 : Value} {q : Pp} (h : RP w b0 B Z v1 v2 v3 q) (hB : Below w.heap.size w w1) : RP w1 b0 B Z v1 v2 v3 q := by
  have hk : ∀ (k : Nat) (o : Obj), w.heap[k]? = some o → w1.heap[k]? = some o := fun k o hk => (hB.block k (Array.getElem?_eq_some_iff.1 hk).1).trans hk
  exact ⟨hk _ _ h.blk, own_kept h.o1 (fun k c => hk k _), own_kept h.o2 (fun k c => hk k _), own_kept h.o3 (fun k c => hk k _), h.low, fun k hz => Nat.lt_of_lt_of_le (h.zl k hz) hB.size, h.z3⟩
theorem RP.alloc {w : World} {b0 B : Nat} {Z : Nat → Prop} {v1 v2 v3 : Value} {q : Pp} (h : RP w b0 B Z v1 v2 v3 q) (o : Obj) : RP (w.alloc o) b0 B Z v1 v2 v3 q := h.kept ((Below.refl _ _).alloc (Nat.le_refl _) _)
theorem RP.drewN {w : World} {b0 B : Nat} {Z : Nat → Prop} {v1 v2 v3 : Value} {q : Pp} (h : RP w b0 B Z v1 v2 v3 q) (n : Nat) : RP (w.drewN n) b0 B Z v1 v2 v3 q := ⟨h.blk, h.o1, h.o2, h.o3, h.low, h.zl, h.z3⟩
/-- a field's row grown, and stored -/
theorem grown_eff {w w1 : World} {b0 B : Nat} {Z : Nat → Prop} {e : TypeId} {v v' : Value} {n : Nat} {xs : List Value} {j : Nat} (ho : w.ownsRow b0 e 1 v n xs) (he : e = 5 ∨ e = 9 ∨ (e = 3 ∧ ∀ k, Z k → some k ≠ v.ownBlock)) (hlow : b0 ≤ B) (hlt : B < w.heap.size) (hg : w.grownBy w1 v.ownBlock) : EffR b0 B Z w (w1.setCell ⟨B, j, none⟩ v') := by
  refine ⟨hg.os, hg.tape, hg.output, by simpa using hg.size, fun k hk => ?_, fun k o hk hn hT => ?_⟩
  · rw [Below.heap_setCell _ _ _ _ (by show k ≠ B; omega)]
    exact hg.block k (by omega) (row_low' ho hk)
  · rw [Below.heap_setCell _ _ _ _ (by show k ≠ B; exact hT)]
    refine (hg.block k (Array.getElem?_eq_some_iff.1 hk).1 ?_).trans hk
    rcases he with rfl | rfl | ⟨rfl, hz⟩
    · exact row_ne ho hk hn.1
    · exact row_ne ho hk hn.2.1
    · rcases hn.2.2 with h | h
      · exact row_ne ho hk h
      · exact hz k h
theorem grown_kept {w w1 : World} {b0 B : Nat} {e e' : TypeId} {v v' u : Value} {n m : Nat} {xs ys : List Value} {j : Nat} {c : Array Value} (ho : w.ownsRow b0 e 1 v n xs) (hu : w.ownsRow b0 e' 1 u m ys) (hne : e' ≠ e) (hg : w.grownBy w1 v.ownBlock) (hb : w.heap[B]? = some (.cells c 152 (0, 0))) (hp : 152 ≠ e') : (w1.setCell ⟨B, j, none⟩ v').ownsRow b0 e' 1 u m ys := by
  refine own_kept hu (fun k cur hk => ?_)
  rw [Below.heap_setCell _ _ _ _ (by show k ≠ B; intro e; subst e; rw [hb] at hk; injection hk with hk; injection hk with _ h2 _; exact hp h2)]
  exact (hg.block k (Array.getElem?_eq_some_iff.1 hk).1 (row_ne ho hk (notT_cells hne))).trans hk
theorem RP.grown {w w1 : World} {b0 B : Nat} {Z : Nat → Prop} {v1 v2 v3 v : Value} {q : Pp} {e : TypeId} {n : Nat} {xs : List Value} (h : RP w b0 B Z v1 v2 v3 q) (ho : w.ownsRow b0 e 1 v n xs) (he : 152 ≠ e) (hg : w.grownBy w1 v.ownBlock) : w1.heap[B]? = some (.cells #[v1, v2, v3] 152 (0, 0)) :=
  (hg.block B h.lt (row_ne ho h.blk (notT_cells he))).trans h.blk
theorem RP.put1 {w w1 : World} {b0 B : Nat} {Z : Nat → Prop} {v1 v1' v2 v3 : Value} {q : Pp} {out' : Bs} (h : RP w b0 B Z v1 v2 v3 q) (hg : w.grownBy w1 v1.ownBlock) (hown : w1.ownsRow b0 5 1 v1' out'.length (Lib.byteCells out')) :
    RP (w1.setCell ⟨B, 0, none⟩ v1') b0 B Z v1' v2 v3 ⟨out', q.N⟩ ∧ EffR b0 B Z w (w1.setCell ⟨B, 0, none⟩ v1') := by
  have hb1 := h.grown h.o1 (by decide) hg
  refine ⟨⟨?_, ?_, grown_kept h.o1 h.o2 (by decide) hg h.blk (by decide), grown_kept h.o1 h.o3 (by decide) hg h.blk (by decide), h.low, fun k hz => by have := h.zl k hz; have := hg.size; simp; omega, h.z3⟩, grown_eff h.o1 (.inl rfl) h.low h.lt hg⟩
  · rw [heap_setCell_same w1 B 0 #[v1, v2, v3] 152 v1' hb1]; rfl
  · exact ownsRow_setCell_other hown (fun e => row_ne hown hb1 (notT_cells (by decide)) e.symm) v1'
theorem RP.put2 {w w1 : World} {b0 B : Nat} {Z : Nat → Prop} {v1 v2' v2 v3 : Value} {q : Pp} {x : Bs × Nat} (h : RP w b0 B Z v1 v2 v3 q) (hg : w.grownBy w1 v2.ownBlock) (hown : w1.ownsRow b0 9 1 v2' (q.N.length + 1) (q.N.map strN ++ [strN x])) :
    (∃ W, W = w1.setCell ⟨B, 1, none⟩ v2' ∧ W.heap[B]? = some (.cells #[v1, v2', v3] 152 (0, 0)) ∧ W.ownsRow b0 5 1 v1 q.out.length (Lib.byteCells q.out) ∧ W.ownsRow b0 9 1 v2' (q.N.length + 1) (q.N.map strN ++ [strN x]) ∧ W.ownsRow b0 3 1 v3 q.N.length (q.N.map intN)) ∧ EffR b0 B Z w (w1.setCell ⟨B, 1, none⟩ v2') := by
  have hb1 := h.grown h.o2 (by decide) hg
  refine ⟨⟨_, rfl, ?_, grown_kept h.o2 h.o1 (by decide) hg h.blk (by decide), ?_, grown_kept h.o2 h.o3 (by decide) hg h.blk (by decide)⟩, grown_eff h.o2 (.inr (.inl rfl)) h.low h.lt hg⟩
  · rw [heap_setCell_same w1 B 1 #[v1, v2, v3] 152 v2' hb1]; rfl
  · exact ownsRow_setCell_other hown (fun e => row_ne hown hb1 (notT_cells (by decide)) e.symm) v2'

set_option maxRecDepth 100000 in
set_option maxHeartbeats 2000000 in
theorem put_any (b0 B : Nat) (Z : Nat → Prop) (v1 v2 v3 : Value) (q : Pp) (s : ByteArray) (w : World) (h : RP w b0 B Z v1 v2 v3 q) (hl : q.out.length ≤ 1099511627776) (hs : s.size ≤ 1099511627776) :
    Calls Tryz.prog 122 #[.pointer (some ⟨B, 0, none⟩), .string s] w fun e w' => e = .returned (.tuple #[]) ∧ ∃ v', RP w' b0 B Z v' v2 v3 ⟨q.out ++ s.data.toList, q.N⟩ ∧ EffR b0 B Z w w' := by
  obtain ⟨i0, hi, hz0, hz1, hz2⟩ := info_parts infoByte
  have k0 := h.c0
  have z0 := h.z 0
  have hlt := h.lt
  have hlo := h.low
  have HB := Lib.hid h
  have hown := h.o1
  have hsl := size_len s
  obtain ⟨a, cp, rfl⟩ := own_slice1 hown
  clear h
  go_enter Tryz.func122, Tryz.ntmps122
  go_wp2_with (at_builtin; refine Lib.wpList_append_own_string _ rfl _ _ 61 9 rfl b0 5 i0 Tryz.underlying61 Tryz.underlying9 hi hz0 hz1 hz2 _ _ _ rfl hown s rfl ?e3 ?e4 ?e5 ?_)
  case e3 => unfold maxLen; omega
  case e4 => omega
  case e5 => omega
  intro v' w1 hown' hgrow _
  have hown2 : w1.ownsRow b0 5 1 v' (q.out ++ s.data.toList).length (Lib.byteCells (q.out ++ s.data.toList)) := by
    rw [← cells_str, List.length_append, hsl]; exact hown'
  have hP := HB.out.put1 hgrow hown2
  have hb1 := HB.out.grown HB.out.o1 (by decide) hgrow
  have k1 : w1.cell? ⟨B, 0, none⟩ = some (.slice a q.out.length cp) := by simp only [World.cell?, hb1]; rfl
  have z1 : w1.frozen? ⟨B, 0, none⟩ = false := by simp only [World.frozen?, hb1]; simp
  obtain ⟨a2, c2, rfl⟩ := own_slice1 hown'
  have HP := Lib.hid hP.1; have HF := Lib.hid hP.2
  clear hown' hown2 hgrow hown hP hb1 k0 z0 HB hsl
  go_wp2_with fail
  go_end0
  exact ⟨rfl, _, HP.out, HF.out⟩

/-- where a rest stands: -1: nowhere -/
def atN (N : Noted) (n : Bs) : Int := match findN N n with | some k => (k : Int) | none => -1
theorem atN_nil (n : Bs) : atN [] n = -1 := rfl
theorem atN_hit {r : Bs} {k : Nat} {N : Noted} : atN ((r, k) :: N) r = (k : Int) := by simp [atN, findN]
theorem atN_miss {r n : Bs} {k : Nat} {N : Noted} (h : r ≠ n) : atN ((r, k) :: N) n = atN N n := by simp [atN, findN, h]

set_option maxRecDepth 100000 in
set_option maxHeartbeats 2000000 in
theorem noted_any (b0 B : Nat) (Z : Nat → Prop) (v1 v2 v3 : Value) (q : Pp) (n : ByteArray) (w : World) (h : RP w b0 B Z v1 v2 v3 q) (hl : q.N.length ≤ 1099511627776) :
    Calls Tryz.prog 182 #[.pointer (some ⟨B, 0, none⟩), .string n] w fun e w' => e = .returned (.int .i64 (atN q.N n.data.toList)) ∧ w' = w := by
  obtain ⟨R, HR⟩ : ∃ R, Hid (atN q.N n.data.toList = R) := ⟨_, Lib.hid rfl⟩
  rw [HR.out]
  have k1 := h.c1
  have k2 := h.c2
  have h2 := h.o2
  have h3 := h.o3
  obtain ⟨a2, c2, rfl⟩ := own_slice1 h2
  obtain ⟨a3, c3, rfl⟩ := own_slice1 h3
  have HO2 := Lib.hid h2; have HO3 := Lib.hid h3
  have hlt := h.lt
  obtain ⟨L, hL⟩ : ∃ L, q.N.length = L := ⟨_, rfl⟩
  rw [hL] at hl k1 k2
  have HL := Lib.hid hL
  have HR0 : Hid (atN (q.N.drop 0) n.data.toList = R) := Lib.hid (by rw [List.drop_zero]; exact HR.out)
  clear h h2 h3 hL
  go_enter Tryz.func182, Tryz.ntmps182
  go_wp2_with fail
  go_loopg [4, 5, 11] (L + 1) (fun gas _ _ kv wr => ∃ (k : Nat), kv = .int .i64 (k : Int) ∧ k ≤ L ∧ k + gas = L + 1 ∧ Hid (atN (q.N.drop k) n.data.toList = R) ∧ wr = w)
  case atStart => exact ⟨0, rfl, by omega, by omega, HR0, rfl⟩
  case round =>
    obtain ⟨k, rfl, hk, hkg, HD, rfl⟩ := hrel
    by_cases hlt : k < L
    · obtain ⟨x, hx⟩ : ∃ x, q.N[k]? = some x := ⟨_, List.getElem?_eq_getElem (by rw [HL.out]; exact hlt)⟩
      have hdr : q.N.drop k = x :: q.N.drop (k + 1) := by
        obtain ⟨h1, h2⟩ := List.getElem?_eq_some_iff.1 hx
        rw [List.drop_eq_getElem_cons h1, h2]
      have hpos : 1 ≤ q.N.length := by rw [HL.out]; omega
      obtain ⟨g2, cp2, hv2, _, _, _, _, _⟩ := pdata.own_cells HO2.out hpos
      obtain ⟨g3, cp3, hv3, _, _, _, _, _⟩ := pdata.own_cells HO3.out hpos
      cases hv2; cases hv3
      have e2 := HO2.out.cells (g := g2) rfl k (strN x) (by rw [List.getElem?_map, hx]; rfl)
      have e3 := HO3.out.cells (g := g3) rfl k (intN x) (by rw [List.getElem?_map, hx]; rfl)
      rw [addr_add] at e2 e3
      obtain ⟨r, j⟩ := x
      have e2' : wr.cell? ⟨g2, k, none⟩ = some (.string ⟨r.toArray⟩) := e2
      have e3' : wr.cell? ⟨g3, k, none⟩ = some (.int .i64 (j : Int)) := e3
      obtain ⟨X, hX⟩ : ∃ X : ByteArray, (⟨r.toArray⟩ : ByteArray) = X := ⟨_, rfl⟩
      have hXr : X.data.toList = r := by rw [← hX]
      rw [hX] at e2'
      have HD2 := HD.out
      rw [hdr] at HD2
      have zl : (k : Int) < (L : Int) := by omega
      clear e2 e3 hX hx hdr
      by_cases he : r = n.data.toList
      · have hb : (X.toList == n.toList) = true := by rw [Lib.toList_data, Lib.toList_data, hXr, he]; simp
        have hRv : R = (j : Int) := by rw [← HD2, he]; exact atN_hit
        subst hRv
        clear he hXr HD2
        go_wp2_with fail
        go_ret
        exact ⟨rfl, rfl⟩
      · have hb : (X.toList == n.toList) = false := by rw [Lib.toList_data, Lib.toList_data, hXr]; simpa using he
        have HD3 : Hid (atN (q.N.drop (k + 1)) n.data.toList = R) := Lib.hid (by rw [← HD2]; exact (atN_miss he).symm)
        clear he hXr HD2
        go_wp2_with fail
        go_roundg (gk - 1)
        case rel => exact ⟨k + 1, by go_num, by omega, by omega, HD3, rfl⟩
        case measure => omega
    · have hRv : R = -1 := by
        have h := HD.out
        rw [List.drop_of_length_le (by rw [HL.out]; omega)] at h
        rw [← h]; rfl
      subst hRv
      go_wp2_with fail
      go_ret
      exact ⟨rfl, rfl⟩

set_option maxRecDepth 100000 in
theorem number_any (v n : Nat) (w : World) (hv : v ≤ 4611686018427387904) (hn : n ≤ 8) :
    Calls Tryz.prog 123 #[.int .i64 (v : Int), .int .i64 (n : Int)] w fun e w' => e = .returned (.string ⟨(bigS v n).toArray⟩) ∧ Below w.heap.size w w' := by
  have C := Lib.hid (rbytes_any n v w hv hn)
  go_enter Tryz.func123, Tryz.ntmps123
  go_wp2_with fail
  refine C.out.mono ?_
  rintro e w1 ⟨rfl, hB⟩
  go_wp2_with fail
  go_ret
  exact ⟨rfl, hB⟩

set_option maxRecDepth 100000 in
theorem sign_any (b : Bool) (v : Int) (w : World) :
    Calls Tryz.prog 121 #[.bool b, .int .i64 v] w fun e w' => e = .returned (.int .i64 (bit b v)) ∧ w' = w := by
  cases b
  · go_enter Tryz.func121, Tryz.ntmps121
    go_wp2_with fail
    go_ret
    exact ⟨rfl, rfl⟩
  · go_enter Tryz.func121, Tryz.ntmps121
    go_wp2_with fail
    go_ret
    exact ⟨rfl, rfl⟩
end Go.Proofs.YtnamkladeaohoaaGreat.rpaper
namespace Go.Proofs.YtnamkladeaohoaaGreat.rpname
open Go.RowKit Go.Proofs.YtnamkladeaohoaaGreat.kit Go.Proofs.YtnamkladeaohoaaGreat.nspec Go.Proofs.YtnamkladeaohoaaGreat.bits Go.Proofs.YtnamkladeaohoaaGreat.bld Go.Proofs.YtnamkladeaohoaaGreat.coded Go.Proofs.YtnamkladeaohoaaGreat.fld Go.Proofs.YtnamkladeaohoaaGreat.packP Go.Proofs.YtnamkladeaohoaaGreat.buf Go.Proofs.YtnamkladeaohoaaGreat.big Go.Proofs.YtnamkladeaohoaaGreat.psmall Go.Proofs.YtnamkladeaohoaaGreat.rpaper
set_option linter.unusedVariables false

/-- the paper, wherever its rows lie -/
def RPx (w : World) (b0 B : Nat) (Z : Nat → Prop) (q : Pp) : Prop := Near q.N ∧ ∃ v1 v2 v3, RP w b0 B Z v1 v2 v3 q
theorem atN_some {N : Noted} {n : Bs} {k : Nat} (h : findN N n = some k) : atN N n = (k : Int) := by simp [atN, h]
theorem atN_none {N : Noted} {n : Bs} (h : findN N n = none) : atN N n = -1 := by simp [atN, h]
theorem put_ne (x : Bs) (r : List Bs) (h : okL (x :: r)) : put (x :: r) ≠ [0] := by
  intro e
  have h1 : (put (x :: r)).length = 1 := by rw [e]; rfl
  have h2 := (okL_cons.1 h).1
  have h3 : (put (x :: r)).length = 1 + x.length + (put r).length := by simp only [put, List.length_cons, List.length_append]; omega
  omega

/-- between the two notes: the rest is noted, its place not yet -/
structure Mid (w : World) (b0 B : Nat) (Z : Nat → Prop) (v1 v2 v3 : Value) (q : Pp) (x : Bs × Nat) : Prop where
  blk : w.heap[B]? = some (.cells #[v1, v2, v3] 152 (0, 0))
  o1 : w.ownsRow b0 5 1 v1 q.out.length (Lib.byteCells q.out)
  o2 : w.ownsRow b0 9 1 v2 (q.N.length + 1) (q.N.map strN ++ [strN x])
  o3 : w.ownsRow b0 3 1 v3 q.N.length (q.N.map intN)
  low : b0 ≤ B
  zl : ∀ k, Z k → k < w.heap.size
  z3 : ∀ k, Z k → some k ≠ v3.ownBlock
theorem Mid.lt {w : World} {b0 B : Nat} {Z : Nat → Prop} {v1 v2 v3 : Value} {q : Pp} {x : Bs × Nat} (h : Mid w b0 B Z v1 v2 v3 q x) : B < w.heap.size := (Array.getElem?_eq_some_iff.1 h.blk).1
theorem Mid.kept {w w1 : World} {b0 B : Nat} {Z : Nat → Prop} {v1 v2 v3 : Value} {q : Pp} {x : Bs × Nat} (h : Mid w b0 B Z v1 v2 v3 q x) (hB : Below w.heap.size w w1) : Mid w1 b0 B Z v1 v2 v3 q x := by
  have hk : ∀ (k : Nat) (o : Obj), w.heap[k]? = some o → w1.heap[k]? = some o := fun k o hk => (hB.block k (Array.getElem?_eq_some_iff.1 hk).1).trans hk
  exact ⟨hk _ _ h.blk, own_kept h.o1 (fun k c => hk k _), own_kept h.o2 (fun k c => hk k _), own_kept h.o3 (fun k c => hk k _), h.low, fun k hz => Nat.lt_of_lt_of_le (h.zl k hz) hB.size, h.z3⟩
theorem Mid.grown {w w1 : World} {b0 B : Nat} {Z : Nat → Prop} {v1 v2 v3 : Value} {q : Pp} {x : Bs × Nat} (h : Mid w b0 B Z v1 v2 v3 q x) (hg : w.grownBy w1 v3.ownBlock) : w1.heap[B]? = some (.cells #[v1, v2, v3] 152 (0, 0)) :=
  (hg.block B h.lt (row_ne h.o3 h.blk (notT_cells (by decide)))).trans h.blk
theorem Mid.put3 {w w1 : World} {b0 B : Nat} {Z : Nat → Prop} {v1 v2 v3 v3' : Value} {q : Pp} {x : Bs × Nat} (h : Mid w b0 B Z v1 v2 v3 q x) (hg : w.grownBy w1 v3.ownBlock) (hown : w1.ownsRow b0 3 1 v3' (q.N.length + 1) (q.N.map intN ++ [intN x])) (hz3 : ∀ k, Z k → some k ≠ v3'.ownBlock) :
    RP (w1.setCell ⟨B, 2, none⟩ v3') b0 B Z v1 v2 v3' ⟨q.out, q.N ++ [x]⟩ ∧ EffR b0 B Z w (w1.setCell ⟨B, 2, none⟩ v3') := by
  have hb1 := h.grown hg
  refine ⟨⟨?_, grown_kept h.o3 h.o1 (by decide) hg h.blk (by decide), ?_, ?_, h.low, fun k hz => by have := h.zl k hz; have := hg.size; simp; omega, hz3⟩, grown_eff h.o3 (.inr (.inr ⟨rfl, h.z3⟩)) h.low h.lt hg⟩
  · rw [heap_setCell_same w1 B 2 #[v1, v2, v3] 152 v3' hb1]; rfl
  · have := grown_kept (v' := v3') (j := 2) h.o3 h.o2 (by decide) hg h.blk (by decide)
    simpa using this
  · simp only [List.length_append, List.length_cons, List.length_nil, List.map_append, List.map_cons, List.map_nil]
    exact ownsRow_setCell_other hown (fun e => row_ne hown hb1 (notT_cells (by decide)) e.symm) v3'
theorem _root_.Go.Proofs.YtnamkladeaohoaaGreat.rpaper.RP.mid {w w1 : World} {b0 B : Nat} {Z : Nat → Prop} {v1 v2' v2 v3 : Value} {q : Pp} {x : Bs × Nat} (h : RP w b0 B Z v1 v2 v3 q) (hg : w.grownBy w1 v2.ownBlock) (hown : w1.ownsRow b0 9 1 v2' (q.N.length + 1) (q.N.map strN ++ [strN x])) :
    Mid (w1.setCell ⟨B, 1, none⟩ v2') b0 B Z v1 v2' v3 q x ∧ EffR b0 B Z w (w1.setCell ⟨B, 1, none⟩ v2') := by
  obtain ⟨⟨W, rfl, h1, h2, h3, h4⟩, h5⟩ := h.put2 hg hown
  exact ⟨⟨h1, h2, h3, h4, h.low, fun k hz => by have := h.zl k hz; have := hg.size; simp; omega, h.z3⟩, h5⟩
theorem strN_of {u : ByteArray} {r : Bs} (k : Nat) (h : u.data.toList = r) : Value.string u = strN (r, k) := by
  unfold strN; congr 1; exact ba_ext h

set_option maxRecDepth 100000 in
set_option maxHeartbeats 8000000 in
theorem rname_any (b0 B : Nat) (Z : Nat → Prop) (p : Pp) (n : ByteArray) (ls : List Bs) (w : World) (h : RPx w b0 B Z p) (hn : IsN n.data.toList ls) (hl : p.out.length ≤ 549755813888) (hfew : p.N.length ≤ p.out.length) :
    Calls Tryz.prog 124 #[.pointer (some ⟨B, 0, none⟩), .string n] w fun e w' => e = .returned (.tuple #[]) ∧ RPx w' b0 B Z (nameP n.data.toList p) ∧ EffR b0 B Z w w' := by
  obtain ⟨i0, hi, hz0, hz1, hz2⟩ := info_parts rsplit.infoStr
  obtain ⟨i1, hj, hy0, hy1, hy2⟩ := info_parts ints.infoInt
  obtain ⟨R, HR⟩ : ∃ R, Hid (nameP n.data.toList p = R) := ⟨_, Lib.hid rfl⟩
  rw [HR.out]
  have HP0 := Lib.hid h
  have hn1 := hn.1; have hn2 := hn.2.1; have hn3 := hn.2.2
  rw [size_len] at hn3
  have HR0 : Hid (nameP (put ls) p = R) := Lib.hid (by rw [← HR.out, hn1])
  have HN1 := Lib.hid hn1; have HN2 := Lib.hid hn2
  obtain ⟨O, hO⟩ : ∃ O, p.out.length = O := ⟨_, rfl⟩
  rw [hO] at hl
  have HFW0 := Lib.hid hfew
  have HO0 : Hid (p.out.length + n.size ≤ O + 255) := Lib.hid (by omega)
  clear h hn hn1 hn2 hO hfew
  go_enter Tryz.func124, Tryz.ntmps124
  go_wp2_with fail
  go_loopg [1, 4, 5] (ls.length + 1) (fun gas nv _ _ wr => ∃ (ls' : List Bs) (u : ByteArray) (q : Pp), nv = .string u ∧ u.size ≤ 255 ∧ Hid (ls'.length < gas) ∧ Hid (u.data.toList = put ls') ∧ Hid (okL ls') ∧ Hid (q.out.length + u.size ≤ O + 255) ∧ Hid (q.N.length ≤ q.out.length) ∧ Hid (nameP (put ls') q = R) ∧ Hid (RPx wr b0 B Z q) ∧ Hid (EffR b0 B Z w wr))
  case atStart => exact ⟨ls, n, p, rfl, hn3, Lib.hid (by omega), HN1, HN2, HO0, HFW0, HR0, HP0, Lib.hid (EffR.refl _ _ _ _)⟩
  case round =>
    obtain ⟨ls', u, q, rfl, hus, HG, HU, HOK, HOO, HFW, HW, HPP, HEE⟩ := hrel
    obtain ⟨hnear, v1, v2, v3, hp⟩ := HPP.out
    have HNE := Lib.hid hnear; clear hnear
    have HP := Lib.hid hp
    have hlen : q.out.length ≤ 1099511627776 := by have := HOO.out; omega
    cases ls' with
    | nil =>
      have hu0 : (u.toList == [0]) = true := by rw [Lib.toList_data, HU.out]; rfl
      have hu1 : (u.toList != [0]) = false := by rw [Lib.toList_data, HU.out]; rfl
      have CW := Lib.hid (put_any b0 B Z v1 v2 v3 q ⟨#[0]⟩ wr hp hlen (by decide))
      have HRq : Hid ((⟨q.out ++ (⟨#[0]⟩ : ByteArray).data.toList, q.N⟩ : Pp) = R) := Lib.hid (by rw [← HW.out]; exact nameP_end.symm)
      have HRN : Hid (q.N = R.N) := Lib.hid (by rw [← HRq.out])
      rw [HRq.out] at CW
      clear hp hlen HRq
      go_wp2_with fail
      refine CW.out.mono ?_
      rintro e w1 ⟨rfl, v4, hb, he⟩
      have HF : Hid (RPx w1 b0 B Z R) := Lib.hid ⟨by rw [← HRN.out]; exact HNE.out, _, _, _, hb⟩
      have HG2 := Lib.hid (HEE.out.trans he)
      clear hb he
      go_wp2_with fail
      go_end0
      exact ⟨rfl, HF.out, HG2.out⟩
    | cons x r =>
      have hu0 : (u.toList == [0]) = false := by rw [Lib.toList_data, HU.out]; simpa using put_ne x r HOK.out
      have hu1 : (u.toList != [0]) = true := by rw [Lib.toList_data, HU.out]; simpa using put_ne x r HOK.out
      have hx := (okL_cons.1 HOK.out).1
      have HOKr := Lib.hid (okL_cons.1 HOK.out).2
      have hpl : (put (x :: r)).length = 1 + x.length + (put r).length := by simp only [put, List.length_cons, List.length_append]; omega
      have hul : u.size = 1 + x.length + (put r).length := by rw [← size_len, HU.out, hpl]
      have hrl : 1 ≤ (put r).length := by cases r <;> simp [put]
      have h0s : 0 < u.size := by omega
      obtain ⟨c, hc⟩ : ∃ c, u[0]'h0s = c := ⟨_, rfl⟩
      have hcx : c = UInt8.ofNat x.length := by
        have h := HU.out
        have h1 := drop_cons u 0 (by omega)
        rw [List.drop_zero] at h1
        rw [h1, hc] at h
        simp only [put] at h
        exact (List.cons.inj h).1
      have hcn : c.toNat = x.length := by rw [hcx, UInt8.toNat_ofNat_of_lt' (by show x.length < 256; omega)]
      have hc0 : c ≠ 0 := by intro h; rw [h] at hcn; simp at hcn; omega
      have hsz : (0 : Int) < (u.size : Int) := by omega
      have hpc : put (x :: r) = c :: (x ++ put r) := by rw [hcx]; rfl
      have CN := Lib.hid (noted_any b0 B Z v1 v2 v3 q u wr hp (by have := HFW.out; omega))
      rw [HU.out] at CN
      cases hf : findN q.N (put (x :: r)) with
      | some j =>
        rw [atN_some hf] at CN
        have hj16 := HNE.out _ _ (findN_mem hf)
        obtain ⟨J, hJ⟩ : ∃ J, 49152 + j = J := ⟨_, rfl⟩
        have hJv : Value.int .i64 (49152 + (j : Int)) = Value.int .i64 (J : Int) := by congr 1; omega
        have HNB := Lib.hid (fun w => number_any J 2 w (by omega) (by decide))
        have hbe : (⟨(bigS J 2).toArray⟩ : ByteArray).data.toList = be2 (49152 + (j : Int)) := by
          rw [mk_data, big2, ← hJ]; rfl
        obtain ⟨D, hD⟩ : ∃ D : ByteArray, (⟨(bigS J 2).toArray⟩ : ByteArray) = D := ⟨_, rfl⟩
        rw [hD] at hbe HNB
        have hDs : D.size = 2 := by rw [← hD, mk_size, bigS_len]
        have HRq : Hid ((⟨q.out ++ D.data.toList, q.N⟩ : Pp) = R) := Lib.hid (by
          rw [← HW.out, hbe]; rw [hpc] at hf ⊢; exact (nameP_hit hc0 hf).symm)
        have HRN : Hid (q.N = R.N) := Lib.hid (by rw [← HRq.out])
        have CW := Lib.hid (fun w h => put_any b0 B Z v1 v2 v3 q D w h hlen (by omega))
        rw [HRq.out] at CW
        have HLW : Hid (b0 ≤ wr.heap.size) := Lib.hid (by have := hp.low; have := hp.lt; omega)
        clear hp hlen HRq hf hpc hcx hcn hc0 hx hpl hul hrl hD hDs hbe hJ
        go_wp2_with fail
        refine CN.out.mono ?_
        rintro e w0 ⟨rfl, rfl⟩
        go_wp2_with fail
        refine (HNB.out _).mono ?_
        rintro e w1 ⟨rfl, hB1⟩
        go_wp2_with fail
        refine (CW.out _ (HP.out.kept hB1)).mono ?_
        rintro e w2 ⟨rfl, v4, hb, he⟩
        have HF : Hid (RPx w2 b0 B Z R) := Lib.hid ⟨by rw [← HRN.out]; exact HNE.out, _, _, _, hb⟩
        have HG2 := Lib.hid ((HEE.out.trans (EffR.of_below hB1 HLW.out)).trans he)
        clear hb he hB1
        go_wp2_with fail
        exact bodyPost_ret (v := .tuple #[]) (by simp [results, Tryz.results124, go_sem]) rfl ⟨rfl, HF.out, HG2.out⟩
      | none =>
        rw [atN_none hf] at CN
        have HGO : Hid (nameP (put r) ⟨q.out ++ (put (x :: r)).take (1 + x.length), if q.out.length ≤ 16383 then q.N ++ [(put (x :: r), q.out.length)] else q.N⟩ = R) := Lib.hid (by
          rw [← HW.out]
          have h := nameP_go (p := q) hc0 (by rw [← hpc]; exact hf)
          rw [← hpc, hcn] at h
          rw [h]
          have h2 := pname.drop_put x r hx.2
          rw [UInt8.toNat_ofNat_of_lt' (by show x.length < 256; omega)] at h2
          rw [h2])
        have HLW : Hid (b0 ≤ wr.heap.size) := Lib.hid (by have := hp.low; have := hp.lt; omega)
        obtain ⟨a1, c1, rfl⟩ := own_slice1 hp.o1
        obtain ⟨a2, c2, rfl⟩ := own_slice1 hp.o2
        obtain ⟨a3, c3, rfl⟩ := own_slice1 hp.o3
        have k0 := hp.c0; have k1 := hp.c1
        have z1 := hp.z 1
        have hlt := hp.lt
        obtain ⟨O2, hO2⟩ : ∃ O2, q.out.length = O2 := ⟨_, rfl⟩
        obtain ⟨M2, hM2⟩ : ∃ M2, q.N.length = M2 := ⟨_, rfl⟩
        have hMb : M2 ≤ 1099511627776 := by have := HFW.out; omega
        have HO2 := Lib.hid hO2; have HM2 := Lib.hid hM2
        rw [hO2] at k0
        rw [hM2] at k1
        have hown2 := hp.o2
        have HXL := Lib.hid hx; have HUL := Lib.hid hul; have HCN := Lib.hid hcn
        rw [hO2] at HGO
        have HNE2 : Hid (Near (if O2 ≤ 16383 then q.N ++ [(put (x :: r), O2)] else q.N)) := Lib.hid (by
          rw [← hO2]; exact HNE.out.step _)
        obtain ⟨N2, hN2⟩ : ∃ N2, (if O2 ≤ 16383 then q.N ++ [(put (x :: r), O2)] else q.N) = N2 := ⟨_, rfl⟩
        rw [hN2] at HGO HNE2
        have HN22 := Lib.hid hN2
        rw [hM2] at hown2
        clear hf hpc hcx hc0 hx hpl hul hrl hp hN2 hO2 hM2
        go_wp2_with fail
        refine CN.out.mono ?_
        rintro e w0 ⟨rfl, rfl⟩
        go_upto_if 23 with fail
        go_cut [4] (fun _ wx => Hid (RPx wx b0 B Z ⟨q.out, N2⟩) ∧ Hid (EffR b0 B Z w0 wx))
        case first =>
          by_cases h16 : O2 ≤ 16383
          · have h16i : (O2 : Int) ≤ 16383 := by omega
            go_wp2_with (at_builtin; refine wpList_append_own _ rfl _ _ 55 rfl b0 9 i0 (.string ByteArray.empty) 1 16 Tryz.underlying55 hi hz0 hz1 hz2 rfl (by decide) _ _ _ rfl (hown2.alloc _) ⟨w0.heap.size, 0, none⟩ 1 1 [.string u] rfl rfl ?c1 ?c2 ?c3 ?c4 ?c5 ?_)
            case c1 => exact cell_one_new _ _ _
            case c2 => simp [Value.oneCell']
            case c3 => unfold maxLen; omega
            case c4 => omega
            case c5 => have := HLW.out; simp; omega
            intro v2' w1 hown' hgrow _
            have hmid : Mid (w1.setCell ⟨B, 1, none⟩ v2') b0 B Z (.slice a1 q.out.length c1) v2' (.slice a3 q.N.length c3) q (put (x :: r), O2) ∧ EffR b0 B Z (w0.alloc (.cells #[.string u] 9)) (w1.setCell ⟨B, 1, none⟩ v2') := by
              refine ((HP.out.alloc (.cells #[.string u] 9)).mid (x := (put (x :: r), O2)) (by rw [HM2.out]; simpa using hgrow) ?_)
              rw [← strN_of O2 HU.out, HM2.out]; exact hown'
            have hg0 := (HP.out.alloc (.cells #[.string u] 9)).grown ((HP.out.alloc _).o2) (by decide) (by rw [HM2.out]; simpa using hgrow)
            have k1' : w1.cell? ⟨B, 1, none⟩ = some (.slice a2 q.N.length c2) := by simp only [World.cell?, hg0]; rfl
            have z1' : w1.frozen? ⟨B, 1, none⟩ = false := by simp only [World.frozen?, hg0]; simp
            obtain ⟨a4, c4, rfl⟩ := own_slice1 hown'
            have HMID := Lib.hid hmid.1
            have HE1 : Hid (EffR b0 B Z w0 (w1.setCell ⟨B, 1, none⟩ (.slice a4 (M2 + 1) c4))) := Lib.hid ((EffR.of_below ((Below.refl _ _).alloc (Nat.le_refl _) _) HLW.out).trans hmid.2)
            clear hown' hgrow hmid hg0 k0 k1 hown2 z1
            go_upto_region 6 with fail
            obtain ⟨W, hW⟩ : ∃ W, w1.setCell ⟨B, 1, none⟩ (.slice a4 (M2 + 1) c4) = W := ⟨_, rfl⟩
            rw [hW] at HMID HE1 ⊢
            clear hW k1' z1'
            have e0 : W.cell? ⟨B, 0, none⟩ = some (.slice a1 O2 c1) := by have h := HMID.out.blk; rw [HO2.out] at h; simp only [World.cell?, h]; rfl
            have e2 : W.cell? ⟨B, 2, none⟩ = some (.slice a3 M2 c3) := by have h := HMID.out.blk; rw [HM2.out] at h; simp only [World.cell?, h]; rfl
            have hltW : B < W.heap.size := HMID.out.lt
            have hb0W : b0 ≤ W.heap.size := by have := HMID.out.low; omega
            have hown3 : W.ownsRow b0 3 1 (.slice a3 M2 c3) M2 (q.N.map intN) := by have h := HMID.out.o3; rw [HM2.out] at h; exact h
            have FIN : Hid (∀ (g3 cp3 : Nat) (w2 : World), w2.ownsRow b0 3 1 (.slice (some ⟨g3, 0, none⟩) (M2 + 1) cp3) (M2 + 1) (List.map intN q.N ++ [.int .i64 (O2 : Int)]) → (W.alloc (.cells #[.int .i64 (O2 : Int)] 3)).drew.grownBy w2 (Value.slice a3 M2 c3).ownBlock → ((Value.slice a3 M2 c3).ownBlock = some g3 ∨ g3 = W.heap.size + 1) →
                w2.cell? ⟨B, 2, none⟩ = some (.slice a3 M2 c3) ∧ w2.frozen? ⟨B, 2, none⟩ = false ∧ B < w2.heap.size ∧ RPx (w2.setCell ⟨B, 2, none⟩ (.slice (some ⟨g3, 0, none⟩) (M2 + 1) cp3)) b0 B Z ⟨q.out, N2⟩ ∧ EffR b0 B Z w0 (w2.setCell ⟨B, 2, none⟩ (.slice (some ⟨g3, 0, none⟩) (M2 + 1) cp3))) := Lib.hid (by
              intro g3 cp3 w2 h1 h2 h9
              have hbW : Below W.heap.size W (W.alloc (.cells #[.int .i64 (O2 : Int)] 3)).drew := ((Below.refl _ _).alloc (Nat.le_refl _) _).drew
              have hm := HMID.out.kept hbW
              rw [HM2.out] at hm
              have hb := hm.grown h2
              have hp3 := hm.put3 (v3' := .slice (some ⟨g3, 0, none⟩) (M2 + 1) cp3) h2 (by rw [HM2.out]; exact h1) (by
                intro k hz e
                have hl := HMID.out.zl k hz
                have h3 := HMID.out.z3 k hz
                rw [HM2.out] at h3
                have e2 : k = g3 := by injection e
                subst e2
                rcases h9 with h | h
                · exact h3 h.symm
                · omega)
              refine ⟨by simp only [World.cell?, hb]; rfl, by simp only [World.frozen?, hb]; simp, (Array.getElem?_eq_some_iff.1 hb).1, ?_, (HE1.out.trans (EffR.of_below hbW hb0W)).trans hp3.2⟩
              have hN := HN22.out
              rw [if_pos h16] at hN
              have hp4 := hp3.1
              rw [hN] at hp4
              exact ⟨HNE2.out, _, _, _, hp4⟩)
            have hown3d : W.drew.ownsRow b0 3 1 (.slice a3 M2 c3) M2 (q.N.map intN) := hown3
            go_region_law (refine step_append_lies _ (by rfl) (.tmp 38) (.tmp 44) 49 (by rfl) b0 3 i1 (.int .i64 0) 1 8 Tryz.underlying49 hj hy0 hy1 hy2 (by rfl) (by decide) (.slice a3 M2 c3) M2 (q.N.map intN) (by simp [Act.eval]) (by first | exact hown3.alloc _ | exact hown3d.alloc _) ⟨W.heap.size, 0, none⟩ 1 1 [.int .i64 (O2 : Int)] (by simp [Act.eval]) (by rfl) (by exact cell_one_new _ _ _) (by simp [Value.oneCell']) (by decide) (by unfold maxLen; omega) (by omega) (by simp; omega) (W.heap.size + 1) (by simp) ?_; intro g3 cp3 w2 hown4 hgr4 hli4 _; have hfin := FIN.out _ _ _ hown4 hgr4 hli4; have q2 := hfin.1; have y2 := hfin.2.1; have hlt2 := hfin.2.2.1; have HFIN := Lib.hid hfin.2.2.2; clear hown4 hgr4 hli4 hfin)
            all_goals
              go_wp2_with fail
              go_meet
              exact ⟨Lib.hid HFIN.out.1, Lib.hid HFIN.out.2⟩
          · have h16i : (16383 : Int) < (O2 : Int) := by omega
            have HF1 : Hid (RPx w0 b0 B Z ⟨q.out, N2⟩) := Lib.hid (by
              rw [← HN22.out, if_neg h16]; exact ⟨HNE.out, _, _, _, HP.out⟩)
            go_wp2_with fail
            go_meet
            exact ⟨HF1, Lib.hid (EffR.refl _ _ _ _)⟩
        case rest =>
          obtain ⟨HP2, HE2⟩ := hcut
          have HEE2 := Lib.hid (HEE.out.trans HE2.out)
          clear k0 k1 hown2 z1
          obtain ⟨hne2, v4, v5, v6, hp2⟩ := HP2.out
          have hsl : (u.extract 0 (1 + x.length)).data.toList = (put (x :: r)).take (1 + x.length) := by
            rw [Lib.extract_data, HU.out]; simp
          have hsz2 : (u.extract 0 (1 + x.length)).size = 1 + x.length := by rw [ByteArray.size_extract]; have := HUL.out; omega
          have hdr : (u.extract (1 + x.length) u.size).data.toList = put r := by
            rw [Lib.extract_data, List.take_of_length_le (by rw [List.length_drop, size_len]; exact Nat.le_refl _), HU.out]
            have h2 := pname.drop_put x r HXL.out.2
            rw [UInt8.toNat_ofNat_of_lt' (by have := HXL.out.2; show x.length < 256; omega)] at h2
            exact h2
          have hds : (u.extract (1 + x.length) u.size).size = (put r).length := by rw [← size_len, hdr]
          have CR := Lib.hid (put_any b0 B Z v4 v5 v6 ⟨q.out, N2⟩ (u.extract 0 (1 + x.length)) wc hp2 hlen (by rw [hsz2]; have := HXL.out.2; omega))
          rw [hsl] at CR
          have HSZ2 := Lib.hid hsz2; have HDR := Lib.hid hdr; have HDS := Lib.hid hds
          obtain ⟨X, hX⟩ : ∃ X, x.length = X := ⟨_, rfl⟩
          rw [hX] at hsl hsz2 hdr hds CR HSZ2 HDR HDS HGO HUL HXL hcn
          have hxi : 1 + (X : Int) ≤ (u.size : Int) := by have := HUL.out; omega
          have hx1 : (1 : Int) ≤ (X : Int) := by have := HXL.out.1; omega
          have hx63 : (X : Int) ≤ 63 := by have := HXL.out.2; omega
          have HK := Lib.hid hX
          obtain ⟨K, hK⟩ : ∃ K, 1 + X = K := ⟨_, rfl⟩
          rw [hK] at CR HSZ2 HDR HDS HGO
          have HKv : Hid (Value.int .i64 (1 + (X : Int)) = Value.int .i64 (K : Int)) := Lib.hid (by congr 1; omega)
          have hKs : K ≤ u.size := by omega
          have HKX := Lib.hid hK
          clear hsl hsz2 hdr hds hX hK hne2 hp2
          go_upto_region 8 with fail
          rw [HKv.out]
          clear HKv hxi hx1 hx63
          have hKi : (K : Int) ≤ (u.size : Int) := by omega
          have hK0 : (0 : Int) ≤ (K : Int) := by omega
          go_wp2_with fail
          refine CR.out.mono ?_
          rintro e w1 ⟨rfl, v7, hb, he⟩
          have HP3 : Hid (RPx w1 b0 B Z ⟨q.out ++ (put (x :: r)).take K, N2⟩) := Lib.hid ⟨HNE2.out, _, _, _, hb⟩
          have HE3 := Lib.hid (HEE2.out.trans he)
          clear hb he
          go_wp2_with fail
          have hg := HG.out
          rw [List.length_cons] at hg
          go_roundg (gk - 1)
          case rel =>
            refine ⟨r, _, _, rfl, ?_, Lib.hid (by omega), HDR, HOKr, Lib.hid ?_, Lib.hid ?_, HGO, HP3, HE3⟩
            · rw [HDS.out]; have := HUL.out; have h4 := HKX.out; omega
            · rw [HDS.out]; have h1 := HUL.out; have h2 := HOO.out; have h3 := HK.out; have h4 := HKX.out; simp only [List.length_append, List.length_take]; omega
            · have h1 := HFW.out; have h2 := HN22.out; have h4 := HKX.out; have h5 := HXL.out.1; have h6 : 1 ≤ (put (x :: r)).length := by simp [put]
              rw [← h2]; simp only [List.length_append, List.length_take]; split <;> ((try simp only [List.length_append, List.length_cons, List.length_nil]); omega)
          case measure => omega
end Go.Proofs.YtnamkladeaohoaaGreat.rpname
namespace Go.Proofs.YtnamkladeaohoaaGreat.cloneB
open Go.RowKit Go.Proofs.YtnamkladeaohoaaGreat.kit Go.Proofs.YtnamkladeaohoaaGreat.nspec Go.Proofs.YtnamkladeaohoaaGreat.bits Go.Proofs.YtnamkladeaohoaaGreat.bld Go.Proofs.YtnamkladeaohoaaGreat.coded
set_option linter.unusedVariables false

set_option maxRecDepth 100000 in
set_option maxHeartbeats 2000000 in
theorem clone_bytes (base : Nat) (v : Value) (out : Bs) (w : World) (h : w.ownsRow base 5 1 v out.length (Lib.byteCells out)) (hpos : 1 ≤ out.length) (hbig : out.length ≤ 1099511627776) :
    Calls Tryz.prog 119 #[v] w fun e w' => ∃ v', e = .returned v' ∧ w'.ownsRow w.heap.size 5 1 v' out.length (Lib.byteCells out) ∧ Below w.heap.size w w' := by
  obtain ⟨i0, hi, hz0, hz1, hz2⟩ := info_parts infoByte
  obtain ⟨g, cap, rfl, hb, hg, _, _, cur, hh⟩ := pdata.own_cells h hpos
  have hcell : Hid (∀ j u, (Lib.byteCells out)[j]? = some u → w.cell? ⟨g, j, none⟩ = some u) := Lib.hid (fun j u hj => by
    have := h.cells (g := g) rfl j u hj
    rw [addr_add] at this; exact this)
  have hbl : (Lib.byteCells out).length = out.length := by simp [Lib.byteCells]
  have HBL := Lib.hid hbl
  have HCU : Hid (∀ u ∈ Lib.byteCells out, ∃ c : UInt8, u = .int .u8 (c.toNat : Int)) := Lib.hid (fun u hu => by
    simp only [Lib.byteCells, List.mem_map] at hu
    obtain ⟨c, _, rfl⟩ := hu; exact ⟨c, rfl⟩)
  obtain ⟨n, hn⟩ : ∃ n, out.length = n := ⟨_, rfl⟩
  rw [hn] at hpos hbig hbl ⊢
  have HN := Lib.hid hn
  have q22 : ∀ (w : World) (a : Option Addr) (n c n' c' : Nat), (binOp .eql 61 (.slice a n c) (.slice none n' c')).run Tryz.prog w = .ok (.bool a.isNone) w := fun w a n c n' c' => Lib.run_eql_slice_nil w _ _ a n c n' c' Tryz.underlying61
  clear h hh hbl hn
  go_enter Tryz.func119, Tryz.ntmps119
  go_wp2_with (at_builtin; refine wpList_append_own _ rfl _ _ 61 rfl w.heap.size 5 i0 (.int .u8 0) 1 1 Tryz.underlying61 hi hz0 hz1 hz2 rfl (by decide) _ _ _ rfl (World.ownsRow_made w #[] 0 (Nat.le_refl _) (Nat.zero_le _) rfl) ⟨g, 0, none⟩ n cap (Lib.byteCells out) rfl ?d1 ?d2 ?d3 ?d4 ?d5 ?d6 ?_)
  case d1 => rw [HBL.out, HN.out]; simp
  case d2 =>
    intro j u hj
    rw [addr_add]
    exact Lib.cell?_alloc_some _ (hcell.out j u hj)
  case d3 => intro u hu; obtain ⟨c, rfl⟩ := HCU.out u hu; rfl
  case d4 => unfold maxLen; omega
  case d5 => omega
  case d6 => simp
  intro v' w1 hown hgrow hnil
  go_wp2_with fail
  go_ret
  refine ⟨v', rfl, by simpa using hown, ?_⟩
  exact ((Below.refl _ w).alloc (Nat.le_refl _) _).grown hgrow (by simp) (by intro k hk; simp [Value.ownBlock] at hk; omega)
end Go.Proofs.YtnamkladeaohoaaGreat.cloneB
namespace Go.Proofs.YtnamkladeaohoaaGreat.signs
open Go.RowKit Go.Proofs.YtnamkladeaohoaaGreat.kit Go.Proofs.YtnamkladeaohoaaGreat.timed Go.Proofs.YtnamkladeaohoaaGreat.nspec Go.Proofs.YtnamkladeaohoaaGreat.fld Go.Proofs.YtnamkladeaohoaaGreat.wireP Go.Proofs.YtnamkladeaohoaaGreat.wireM Go.Proofs.YtnamkladeaohoaaGreat.packP
set_option linter.unusedVariables false

theorem or_bit (a i : Nat) (h : a / 2 ^ i % 2 = 0) : a ||| 2 ^ i = a + 2 ^ i := by
  have e : a = 2 ^ (i + 1) * (a / 2 ^ (i + 1)) + a % 2 ^ i := by
    have h1 := Nat.div_add_mod a (2 ^ i)
    have h2 : a / 2 ^ i = 2 * (a / 2 ^ (i + 1)) := by
      rw [Nat.pow_succ, ← Nat.div_div_eq_div_mul]; omega
    rw [h2] at h1
    have e2 : 2 ^ i * (2 * (a / 2 ^ (i + 1))) = 2 ^ (i + 1) * (a / 2 ^ (i + 1)) := by rw [Nat.pow_succ, Nat.mul_assoc]
    omega
  have hl : a % 2 ^ i < 2 ^ i := Nat.mod_lt _ (Nat.two_pow_pos i)
  have hp : 2 ^ (i + 1) = 2 ^ i + 2 ^ i := by rw [Nat.pow_succ]; omega
  obtain ⟨q, hq⟩ : ∃ q, a / 2 ^ (i + 1) = q := ⟨_, rfl⟩
  obtain ⟨l, hl2⟩ : ∃ l, a % 2 ^ i = l := ⟨_, rfl⟩
  rw [hq, hl2] at e
  rw [hl2] at hl
  have h3 : 2 ^ (i + 1) * q + l = 2 ^ (i + 1) * q ||| l := Nat.two_pow_add_eq_or_of_lt (by omega) q
  have h4 : 2 ^ i * 1 + l = 2 ^ i * 1 ||| l := Nat.two_pow_add_eq_or_of_lt hl 1
  have h5 : 2 ^ (i + 1) * q + (2 ^ i + l) = 2 ^ (i + 1) * q ||| (2 ^ i + l) := Nat.two_pow_add_eq_or_of_lt (by omega) q
  rw [Nat.mul_one] at h4
  rw [e, h3, Nat.or_assoc, Nat.or_comm l, ← h4, ← h5, ← h3]; omega

theorem i64_or_nat (a b : Nat) (ha : a < 4611686018427387904) (hb : b < 4611686018427387904) : bits .or .i64 (a : Int) (b : Int) = ((a ||| b : Nat) : Int) := by
  have hx : a ||| b < 2 ^ 62 := Nat.or_lt_two_pow (by omega) (by omega)
  have h1 : (BitVec.ofInt 64 (a : Int)).toNat = a := by
    rw [BitVec.ofInt_natCast, BitVec.toNat_ofNat]; exact Nat.mod_eq_of_lt (by omega)
  have h2 : (BitVec.ofInt 64 (b : Int)).toNat = b := by
    rw [BitVec.ofInt_natCast, BitVec.toNat_ofNat]; exact Nat.mod_eq_of_lt (by omega)
  show IntKind.i64.wrap ((BitVec.ofInt 64 (a : Int) ||| BitVec.ofInt 64 (b : Int)).toNat : Int) = _
  rw [BitVec.toNat_or, h1, h2, IntKind.wrap_i64]
  omega
set_option maxRecDepth 100000 in
set_option maxHeartbeats 2000000 in
theorem set_any (g V b : Nat) (on : Bool) (w : World) (hc : w.cell? ⟨g, 0, none⟩ = some (.int .i64 (V : Int))) (hz : w.frozen? ⟨g, 0, none⟩ = false) (hg : g < w.heap.size) (hV : V < 1099511627776) (hb : b ≤ 15) (hbit : V / 2 ^ b % 2 = 0) :
    Calls Tryz.prog 176 #[.int .i64 (b : Int), .bool on, .pointer (some ⟨g, 0, none⟩)] w fun e w' => e = .returned (.tuple #[]) ∧ w'.cell? ⟨g, 0, none⟩ = some (.int .i64 ((if on then V + 2 ^ b else V : Nat) : Int)) ∧ w'.frozen? ⟨g, 0, none⟩ = false ∧ w.grownBy w' (some g) := by
  cases on with
  | false =>
    go_enter Tryz.func176, Tryz.ntmps176
    go_wp2_with fail
    go_end0
    exact ⟨rfl, hc, hz, rfl, rfl, rfl, Nat.le_refl _, fun _ _ _ => rfl⟩
  | true =>
    have hbi : (0 : Int) ≤ (b : Int) := by omega
    have hbl : (b : Int) < 64 := by omega
    have hp : 2 ^ b ≤ 32768 := Nat.pow_le_pow_right (n := 2) (by omega) hb
    have he : bits .or .i64 (V : Int) (wrap64 (2 ^ b)) = ((V + 2 ^ b : Nat) : Int) := by
      have h1 : ((2 : Int) ^ b) = ((2 ^ b : Nat) : Int) := by simp
      have h2 : wrap64 ((2 ^ b : Nat) : Int) = ((2 ^ b : Nat) : Int) := by
        clear hbit h1
        generalize 2 ^ b = Q at hp ⊢
        exact IntWalk.wrap64_in _ (by omega)
      rw [h1, h2, i64_or_nat V (2 ^ b) (by omega) (by omega), or_bit V b hbit]
    have HE := Lib.hid he
    clear he
    go_enter Tryz.func176, Tryz.ntmps176
    go_wp2_with fail
    go_region
    rw [HE.out]
    go_end0
    refine ⟨rfl, ?_, by simpa using hz, rfl, rfl, rfl, by simp, fun k hk hne => ?_⟩
    · exact World.cell?_setCell_same' _ _ _ (by rw [hc]; rfl)
    · exact Below.heap_setCell _ _ _ _ (by intro e; exact hne (by rw [e]))

theorem _root_.Go.Proofs.YtnamkladeaohoaaGreat.wireM.BoxM.grown {w w1 : World} {B g : Nat} {p : Pl} {m : Mg} (h : BoxM w B p m) (hg : w.grownBy w1 (some g)) (hne : B ≠ g) : BoxM w1 B p m := by
  have hb := hg.block B h.lt (by intro e; cases e; exact hne rfl)
  have hc : ∀ j, w1.cell? ⟨B, j, none⟩ = w.cell? ⟨B, j, none⟩ := fun j => by simp only [World.cell?, hb]
  exact ⟨Nat.lt_of_lt_of_le h.lt hg.size, (hc 0).trans h.c0, (hc 1).trans h.c1, (hc 2).trans h.c2, (hc 3).trans h.c3, (hc 4).trans h.c4, (hc 5).trans h.c5, (hc 6).trans h.c6, (hc 7).trans h.c7, (hc 8).trans h.c8, (hc 9).trans h.c9, (hc 10).trans h.c10, (hc 11).trans h.c11, (hc 12).trans h.c12, (hc 13).trans h.c13⟩
def bn (b : Bool) (v : Nat) : Nat := if b then v else 0
theorem bn_or (b : Bool) (v : Nat) : bn b v = 0 ∨ bn b v = v := by cases b <;> simp [bn]
theorem bn_if (b : Bool) (V v : Nat) : (if b then V + v else V) = V + bn b v := by cases b <;> simp [bn]
theorem bit_bn (b : Bool) (v : Nat) : bit b v = ((bn b v : Nat) : Int) := by cases b <;> simp [bit, bn]
theorem or11 {x y : Int} (hx₀ : 0 ≤ x) (hx : x % 2048 = 0) (hx₁ : x < 2147483648) (h₀ : 0 ≤ y) (h₁ : y < 2048) : bits .or .i64 x y = x + y :=
  bits_join .i64 31 (by decide) to32.wraps31 11 x y hx₀ hx hx₁ h₀ h₁ (by omega)

set_option maxRecDepth 100000 in
set_option maxHeartbeats 4000000 in
theorem signs_any (p : Pl) (m : Mg) (w : World) (ho0 : 0 ≤ m.op) (ho1 : m.op ≤ 15) (hr0 : 0 ≤ m.rc) (hr1 : m.rc ≤ 15) :
    Calls Tryz.prog 115 #[.agg #[.int .i64 m.id, .bool m.rs, .int .i64 m.op, .bool m.aa, .bool m.tc, .bool m.rd, .bool m.ra, .bool m.ad, .bool m.cd, .int .i64 m.rc, .slice p.qa m.qs.length p.qc, .slice p.na m.an.length p.nc, .slice p.ua m.au.length p.uc, .slice p.ra m.ar.length p.rc]] w fun e w' => e = .returned (.int .i64 (signsV m)) ∧ Below w.heap.size w w' := by
  have hbox := BoxM.fresh w 25 _ rfl p m
  have hbel := (Below.refl w.heap.size w).alloc (Nat.le_refl _) (.cells #[.int .i64 m.id, .bool m.rs, .int .i64 m.op, .bool m.aa, .bool m.tc, .bool m.rd, .bool m.ra, .bool m.ad, .bool m.cd, .int .i64 m.rc, .slice p.qa m.qs.length p.qc, .slice p.na m.an.length p.nc, .slice p.ua m.au.length p.uc, .slice p.ra m.ar.length p.rc] 25)
  obtain ⟨V0, hV0⟩ : ∃ V0 : Nat, m.op * 2048 + m.rc = (V0 : Int) := ⟨(m.op * 2048 + m.rc).toNat, by omega⟩
  obtain ⟨q, hq⟩ : ∃ q : Nat, m.op = (q : Int) := ⟨m.op.toNat, by omega⟩
  obtain ⟨r, hr⟩ : ∃ r : Nat, m.rc = (r : Int) := ⟨m.rc.toNat, by omega⟩
  have hVqr : V0 = q * 2048 + r := by omega
  have hq15 : q ≤ 15 := by omega
  have hr15 : r ≤ 15 := by omega
  have hor : Value.int .i64 (bits .or .i64 (m.op * 2048) m.rc) = Value.int .i64 (V0 : Int) := by rw [or11 (by omega) (by omega) (by omega) (by omega) (by omega), hV0]
  have hb0 := bn_or m.rs 32768
  obtain ⟨x0, hx0⟩ : ∃ x, bn m.rs 32768 = x := ⟨_, rfl⟩
  rw [hx0] at hb0
  obtain ⟨V1, hV1⟩ : ∃ V, V0 + x0 = V := ⟨_, rfl⟩
  have hz0 : V0 / 2 ^ 15 % 2 = 0 := by omega
  have hl0 : V1 < 1099511627776 := by omega
  have S0 := Lib.hid (fun g w hc hz hg => set_any g V0 15 m.rs w hc hz hg (by omega) (by omega) hz0)
  simp only [bn_if] at S0
  rw [show (2 : Nat) ^ 15 = 32768 from rfl, hx0, hV1] at S0
  have hb1 := bn_or m.aa 1024
  obtain ⟨x1, hx1⟩ : ∃ x, bn m.aa 1024 = x := ⟨_, rfl⟩
  rw [hx1] at hb1
  obtain ⟨V2, hV2⟩ : ∃ V, V1 + x1 = V := ⟨_, rfl⟩
  have hz1 : V1 / 2 ^ 10 % 2 = 0 := by omega
  have hl1 : V2 < 1099511627776 := by omega
  have S1 := Lib.hid (fun g w hc hz hg => set_any g V1 10 m.aa w hc hz hg (by omega) (by omega) hz1)
  simp only [bn_if] at S1
  rw [show (2 : Nat) ^ 10 = 1024 from rfl, hx1, hV2] at S1
  have hb2 := bn_or m.tc 512
  obtain ⟨x2, hx2⟩ : ∃ x, bn m.tc 512 = x := ⟨_, rfl⟩
  rw [hx2] at hb2
  obtain ⟨V3, hV3⟩ : ∃ V, V2 + x2 = V := ⟨_, rfl⟩
  have hz2 : V2 / 2 ^ 9 % 2 = 0 := by omega
  have hl2 : V3 < 1099511627776 := by omega
  have S2 := Lib.hid (fun g w hc hz hg => set_any g V2 9 m.tc w hc hz hg (by omega) (by omega) hz2)
  simp only [bn_if] at S2
  rw [show (2 : Nat) ^ 9 = 512 from rfl, hx2, hV3] at S2
  have hb3 := bn_or m.rd 256
  obtain ⟨x3, hx3⟩ : ∃ x, bn m.rd 256 = x := ⟨_, rfl⟩
  rw [hx3] at hb3
  obtain ⟨V4, hV4⟩ : ∃ V, V3 + x3 = V := ⟨_, rfl⟩
  have hz3 : V3 / 2 ^ 8 % 2 = 0 := by omega
  have hl3 : V4 < 1099511627776 := by omega
  have S3 := Lib.hid (fun g w hc hz hg => set_any g V3 8 m.rd w hc hz hg (by omega) (by omega) hz3)
  simp only [bn_if] at S3
  rw [show (2 : Nat) ^ 8 = 256 from rfl, hx3, hV4] at S3
  have hb4 := bn_or m.ra 128
  obtain ⟨x4, hx4⟩ : ∃ x, bn m.ra 128 = x := ⟨_, rfl⟩
  rw [hx4] at hb4
  obtain ⟨V5, hV5⟩ : ∃ V, V4 + x4 = V := ⟨_, rfl⟩
  have hz4 : V4 / 2 ^ 7 % 2 = 0 := by omega
  have hl4 : V5 < 1099511627776 := by omega
  have S4 := Lib.hid (fun g w hc hz hg => set_any g V4 7 m.ra w hc hz hg (by omega) (by omega) hz4)
  simp only [bn_if] at S4
  rw [show (2 : Nat) ^ 7 = 128 from rfl, hx4, hV5] at S4
  have hb5 := bn_or m.ad 32
  obtain ⟨x5, hx5⟩ : ∃ x, bn m.ad 32 = x := ⟨_, rfl⟩
  rw [hx5] at hb5
  obtain ⟨V6, hV6⟩ : ∃ V, V5 + x5 = V := ⟨_, rfl⟩
  have hz5 : V5 / 2 ^ 5 % 2 = 0 := by omega
  have hl5 : V6 < 1099511627776 := by omega
  have S5 := Lib.hid (fun g w hc hz hg => set_any g V5 5 m.ad w hc hz hg (by omega) (by omega) hz5)
  simp only [bn_if] at S5
  rw [show (2 : Nat) ^ 5 = 32 from rfl, hx5, hV6] at S5
  have hb6 := bn_or m.cd 16
  obtain ⟨x6, hx6⟩ : ∃ x, bn m.cd 16 = x := ⟨_, rfl⟩
  rw [hx6] at hb6
  obtain ⟨V7, hV7⟩ : ∃ V, V6 + x6 = V := ⟨_, rfl⟩
  have hz6 : V6 / 2 ^ 4 % 2 = 0 := by omega
  have hl6 : V7 < 1099511627776 := by omega
  have S6 := Lib.hid (fun g w hc hz hg => set_any g V6 4 m.cd w hc hz hg (by omega) (by omega) hz6)
  simp only [bn_if] at S6
  rw [show (2 : Nat) ^ 4 = 16 from rfl, hx6, hV7] at S6
  have HRES : Hid (signsV m = (V7 : Int)) := Lib.hid (by
    simp only [signsV]
    rw [show bit m.rs 32768 = ((bn m.rs 32768 : Nat) : Int) from bit_bn m.rs 32768, show bit m.aa 1024 = ((bn m.aa 1024 : Nat) : Int) from bit_bn m.aa 1024, show bit m.tc 512 = ((bn m.tc 512 : Nat) : Int) from bit_bn m.tc 512, show bit m.rd 256 = ((bn m.rd 256 : Nat) : Int) from bit_bn m.rd 256, show bit m.ra 128 = ((bn m.ra 128 : Nat) : Int) from bit_bn m.ra 128, show bit m.ad 32 = ((bn m.ad 32 : Nat) : Int) from bit_bn m.ad 32, show bit m.cd 16 = ((bn m.cd 16 : Nat) : Int) from bit_bn m.cd 16, hx0, hx1, hx2, hx3, hx4, hx5, hx6]
    omega)
  rw [HRES.out]
  clear hb0 hx0 hV1 hz0 hl0 hb1 hx1 hV2 hz1 hl1 hb2 hx2 hV3 hz2 hl2 hb3 hx3 hV4 hz3 hl3 hb4 hx4 hV5 hz4 hl4 hb5 hx5 hV6 hz5 hl5 hb6 hx6 hV7 hz6 hl6 hVqr hq hr hV0 hq15 hr15
  go_enter Tryz.func115, Tryz.ntmps115
  go_upto_region 1 with (fail)
  obtain ⟨w0, hw0⟩ : ∃ w0, w.alloc (.cells #[.int .i64 m.id, .bool m.rs, .int .i64 m.op, .bool m.aa, .bool m.tc, .bool m.rd, .bool m.ra, .bool m.ad, .bool m.cd, .int .i64 m.rc, .slice p.qa m.qs.length p.qc, .slice p.na m.an.length p.nc, .slice p.ua m.au.length p.uc, .slice p.ra m.ar.length p.rc] 25) = w0 := ⟨_, rfl⟩
  rw [hw0] at hbox hbel ⊢
  have HBOX := Lib.hid hbox; have HBEL := Lib.hid hbel
  have a2 := hbox.c2; have a9 := hbox.c9; have a1 := hbox.c1
  have hlt := hbox.lt
  have hgl := hlt
  clear hbox hbel hw0
  have hne : w.heap.size ≠ w0.heap.size := by omega
  have hc0 : (w0.alloc (.cells #[.int .i64 (V0 : Int)] 3)).cell? ⟨w0.heap.size, 0, none⟩ = some (.int .i64 (V0 : Int)) := by
    have hb : (w0.alloc (.cells #[.int .i64 (V0 : Int)] 3)).heap[w0.heap.size]? = some (.cells #[.int .i64 (V0 : Int)] 3 (0, 0)) := heap_alloc_new _ _
    simp only [World.cell?, hb]; rfl
  have hz0 : (w0.alloc (.cells #[.int .i64 (V0 : Int)] 3)).frozen? ⟨w0.heap.size, 0, none⟩ = false := by
    have hb : (w0.alloc (.cells #[.int .i64 (V0 : Int)] 3)).heap[w0.heap.size]? = some (.cells #[.int .i64 (V0 : Int)] 3 (0, 0)) := heap_alloc_new _ _
    simp only [World.frozen?, hb]; simp
  have hg0 : w0.heap.size < (w0.alloc (.cells #[.int .i64 (V0 : Int)] 3)).heap.size := by simp
  have hbe := (Below.refl w0.heap.size w0).alloc (Nat.le_refl _) (.cells #[.int .i64 (V0 : Int)] 3)
  have HX0 := Lib.hid (HBOX.out.below hbe hgl)
  have HB0 := Lib.hid (HBEL.out.trans (hbe.mono (Nat.le_of_lt hgl)))
  have T0 := Lib.hid (S0.out _ _ hc0 hz0 hg0)
  clear hc0 hz0 hbe S0
  go_wp2_with fail
  refine T0.out.mono ?_
  rintro e w1 ⟨rfl, hc, hz, hgr⟩
  have HX1 := Lib.hid (HX0.out.grown hgr hne)
  have HB1 := Lib.hid (HB0.out.grown hgr HB0.out.size (fun j hj => by cases hj; omega))
  have hg1 := Nat.lt_of_lt_of_le hg0 hgr.size
  have T1 := Lib.hid (S1.out _ _ hc hz hg1)
  have n1 := HX1.out.c3
  clear hgr hc hz S1
  go_wp2_with fail
  refine T1.out.mono ?_
  rintro e w2 ⟨rfl, hc, hz, hgr⟩
  have HX2 := Lib.hid (HX1.out.grown hgr hne)
  have HB2 := Lib.hid (HB1.out.grown hgr HB1.out.size (fun j hj => by cases hj; omega))
  have hg2 := Nat.lt_of_lt_of_le hg1 hgr.size
  have T2 := Lib.hid (S2.out _ _ hc hz hg2)
  have n2 := HX2.out.c4
  clear hgr hc hz S2
  go_wp2_with fail
  refine T2.out.mono ?_
  rintro e w3 ⟨rfl, hc, hz, hgr⟩
  have HX3 := Lib.hid (HX2.out.grown hgr hne)
  have HB3 := Lib.hid (HB2.out.grown hgr HB2.out.size (fun j hj => by cases hj; omega))
  have hg3 := Nat.lt_of_lt_of_le hg2 hgr.size
  have T3 := Lib.hid (S3.out _ _ hc hz hg3)
  have n3 := HX3.out.c5
  clear hgr hc hz S3
  go_wp2_with fail
  refine T3.out.mono ?_
  rintro e w4 ⟨rfl, hc, hz, hgr⟩
  have HX4 := Lib.hid (HX3.out.grown hgr hne)
  have HB4 := Lib.hid (HB3.out.grown hgr HB3.out.size (fun j hj => by cases hj; omega))
  have hg4 := Nat.lt_of_lt_of_le hg3 hgr.size
  have T4 := Lib.hid (S4.out _ _ hc hz hg4)
  have n4 := HX4.out.c6
  clear hgr hc hz S4
  go_wp2_with fail
  refine T4.out.mono ?_
  rintro e w5 ⟨rfl, hc, hz, hgr⟩
  have HX5 := Lib.hid (HX4.out.grown hgr hne)
  have HB5 := Lib.hid (HB4.out.grown hgr HB4.out.size (fun j hj => by cases hj; omega))
  have hg5 := Nat.lt_of_lt_of_le hg4 hgr.size
  have T5 := Lib.hid (S5.out _ _ hc hz hg5)
  have n5 := HX5.out.c7
  clear hgr hc hz S5
  go_wp2_with fail
  refine T5.out.mono ?_
  rintro e w6 ⟨rfl, hc, hz, hgr⟩
  have HX6 := Lib.hid (HX5.out.grown hgr hne)
  have HB6 := Lib.hid (HB5.out.grown hgr HB5.out.size (fun j hj => by cases hj; omega))
  have hg6 := Nat.lt_of_lt_of_le hg5 hgr.size
  have T6 := Lib.hid (S6.out _ _ hc hz hg6)
  have n6 := HX6.out.c8
  clear hgr hc hz S6
  go_wp2_with fail
  refine T6.out.mono ?_
  rintro e w7 ⟨rfl, hc, hz, hgr⟩
  have HX7 := Lib.hid (HX6.out.grown hgr hne)
  have HB7 := Lib.hid (HB6.out.grown hgr HB6.out.size (fun j hj => by cases hj; omega))
  clear hgr hz
  go_wp2_with fail
  go_ret
  exact ⟨rfl, HB7.out⟩
end Go.Proofs.YtnamkladeaohoaaGreat.signs
