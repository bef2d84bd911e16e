/- gazetteerref2: the paper of the reference: put, noted: walks. gazetteerref2: (*paper).name, whole, brief: walks. slices.Clone of bytes: walk. wire.signs: walk. wire.Check: walk. wire.Pack: walk. gazetteerref2: whole, brief, (*paper).record: walks. gazetteerref2.CheckMessage: walk (printed by gen_checkm.py). gazetteerref2.PackMessage: walk. A message laid over another, cell by cell. -/
import Derived.Test.YtnamkladeaohoaaK21
import Derived.Test.YtnamkladeaohoaaK15
import Derived.Test.YtnamkladeaohoaaK20
import Derived.Test.YtnamkladeaohoaaK19
import Derived.Deep.AppendLies
import Derived.Deep.RegionLaw
import Derived.Deep.DeepCutAuto
import Derived.StillTailTactics
import Derived.BigRegion
import Derived.Deep.RegionHeld3
import Derived.Deep.QuietTactic
import Derived.BigQuiet
namespace Go.Proofs.Ytnamkladeaohoaa.rpaper
open Go.RowKit Go.Proofs.Ytnamkladeaohoaa.kit Go.Proofs.Ytnamkladeaohoaa.nspec Go.Proofs.Ytnamkladeaohoaa.bits Go.Proofs.Ytnamkladeaohoaa.bld Go.Proofs.Ytnamkladeaohoaa.coded Go.Proofs.Ytnamkladeaohoaa.fld Go.Proofs.Ytnamkladeaohoaa.packP Go.Proofs.Ytnamkladeaohoaa.buf Go.Proofs.Ytnamkladeaohoaa.big
set_option linter.unusedVariables false

theorem big2 (v : Nat) : bigS v 2 = be2 (v : Int) := by
  simp only [bigS, be2, byte, List.nil_append, List.cons_append]
  have e1 : ((v : Int) / 256 % 256).toNat = v / 256 % 256 := by omega
  have e2 : ((v : Int) % 256).toNat = v % 256 := by omega
  rw [e1, e2]
theorem big4 (v : Nat) : bigS v 4 = be4 (v : Int) := by
  simp only [bigS, be4, be2, byte, List.nil_append, List.cons_append]
  have e1 : ((v : Int) / 65536 / 256 % 256).toNat = v / 256 / 256 / 256 % 256 := by omega
  have e2 : ((v : Int) / 65536 % 256).toNat = v / 256 / 256 % 256 := by omega
  have e3 : ((v : Int) / 256 % 256).toNat = v / 256 % 256 := by omega
  have e4 : ((v : Int) % 256).toNat = v % 256 := by omega
  rw [e1, e2, e3, e4]
def strN (x : Bs × Nat) : Value := .string ⟨x.1.toArray⟩
def intN (x : Bs × Nat) : Value := .int .i64 (x.2 : Int)
/-- no cells of such a type -/
def NotT (e : TypeId) (o : Obj) : Prop := ∀ cur f, o ≠ .cells cur e f
/-- no row of the paper's -/
def NotR (Z : Nat → Prop) (k : Nat) (o : Obj) : Prop := NotT 5 o ∧ NotT 9 o ∧ (NotT 3 o ∨ Z k)
theorem notT_cells {c : Array Value} {e e' : TypeId} {f : Nat × Nat} (h : e' ≠ e) : NotT e (.cells c e' f) := by
  intro cur f' h2; injection h2 with _ e2 _; exact h e2
theorem notR_cells {Z : Nat → Prop} {k : Nat} {c : Array Value} {e' : TypeId} {f : Nat × Nat} (h1 : e' ≠ 5) (h2 : e' ≠ 9) (h3 : e' ≠ 3) : NotR Z k (.cells c e' f) := ⟨notT_cells h1, notT_cells h2, .inl (notT_cells h3)⟩
theorem row_ne {w : World} {b0 : Nat} {e : TypeId} {v : Value} {n : Nat} {xs : List Value} (h : w.ownsRow b0 e 1 v n xs) {k : Nat} {o : Obj} (hk : w.heap[k]? = some o) (hn : NotT e o) : some k ≠ v.ownBlock := by
  intro e
  rcases h.2 with ⟨rfl, _⟩ | ⟨g, cap, cur, rfl, hb, hg, _⟩
  · cases e
  · simp only [Value.ownBlock, Option.some.injEq] at e
    subst e
    rw [hg] at hk; cases hk
    exact hn _ _ rfl
theorem row_low' {w : World} {b0 : Nat} {e : TypeId} {v : Value} {n : Nat} {xs : List Value} (h : w.ownsRow b0 e 1 v n xs) {k : Nat} (hk : k < b0) : some k ≠ v.ownBlock := by
  intro e
  rcases h.2 with ⟨rfl, _⟩ | ⟨g, cap, cur, rfl, hb, hg, _⟩
  · cases e
  · simp only [Value.ownBlock, Option.some.injEq] at e; omega
theorem own_kept {w w1 : World} {b0 : Nat} {e : TypeId} {v : Value} {n : Nat} {xs : List Value} (h : w.ownsRow b0 e 1 v n xs) (hk : ∀ (k : Nat) (cur : Array Value), w.heap[k]? = some (Obj.cells cur e (0, 0)) → w1.heap[k]? = some (Obj.cells cur e (0, 0))) : w1.ownsRow b0 e 1 v n xs := by
  refine ⟨h.1, ?_⟩
  rcases h.2 with h1 | ⟨g, cap, cur, h1, h2, h3, h4⟩
  · exact .inl h1
  · exact .inr ⟨g, cap, cur, h1, h2, hk _ _ h3, h4⟩
/-- what a write on the paper may touch -/
structure EffR (b0 B : Nat) (Z : Nat → Prop) (w w' : World) : Prop where
  os : w'.os = w.os
  tape : w'.tape = w.tape
  output : w'.output = w.output
  size : w.heap.size ≤ w'.heap.size
  low : ∀ k, k < b0 → w'.heap[k]? = w.heap[k]?
  kept : ∀ k o, w.heap[k]? = some o → NotR Z k o → k ≠ B → w'.heap[k]? = some o
theorem EffR.refl (b0 B : Nat) (Z : Nat → Prop) (w : World) : EffR b0 B Z w w := ⟨rfl, rfl, rfl, Nat.le_refl _, fun _ _ => rfl, fun _ _ h _ _ => h⟩
theorem EffR.trans {b0 B : Nat} {Z : Nat → Prop} {w w1 w2 : World} (h : EffR b0 B Z w w1) (g : EffR b0 B Z w1 w2) : EffR b0 B Z w w2 :=
  ⟨g.os.trans h.os, g.tape.trans h.tape, g.output.trans h.output, Nat.le_trans h.size g.size, fun k hk => (g.low k hk).trans (h.low k hk), fun k o hk hn hT => g.kept k o (h.kept k o hk hn hT) hn hT⟩
theorem EffR.of_below {b0 B : Nat} {Z : Nat → Prop} {w w1 : World} (h : Below w.heap.size w w1) (hb : b0 ≤ w.heap.size) : EffR b0 B Z w w1 :=
  ⟨h.os, h.tape, h.output, h.size, fun k hk => h.block k (by omega), fun k o hk hn _ => (h.block k (Array.getElem?_eq_some_iff.1 hk).1).trans hk⟩
theorem EffR.to_below {b0 B : Nat} {Z : Nat → Prop} {w w1 : World} (h : EffR b0 B Z w w1) : Below b0 w w1 := ⟨h.os, h.tape, h.output, h.size, h.low⟩
theorem EffR.drewN (b0 B : Nat) (Z : Nat → Prop) (w : World) (n : Nat) : EffR b0 B Z w (w.drewN n) := ⟨rfl, rfl, rfl, Nat.le_refl _, fun _ _ => rfl, fun _ _ h _ _ => h⟩
/-- a field's row grown, and stored -/
theorem grown_eff {w w1 : World} {b0 B : Nat} {Z : Nat → Prop} {e : TypeId} {v v' : Value} {n : Nat} {xs : List Value} {j : Nat} (ho : w.ownsRow b0 e 1 v n xs) (he : e = 5 ∨ e = 9 ∨ (e = 3 ∧ ∀ k, Z k → some k ≠ v.ownBlock)) (hlow : b0 ≤ B) (hlt : B < w.heap.size) (hg : w.grownBy w1 v.ownBlock) : EffR b0 B Z w (w1.setCell ⟨B, j, none⟩ v') := by
  refine ⟨hg.os, hg.tape, hg.output, by simpa using hg.size, fun k hk => ?_, fun k o hk hn hT => ?_⟩
  · rw [Below.heap_setCell _ _ _ _ (by show k ≠ B; omega)]
    exact hg.block k (by omega) (row_low' ho hk)
  · rw [Below.heap_setCell _ _ _ _ (by show k ≠ B; exact hT)]
    refine (hg.block k (Array.getElem?_eq_some_iff.1 hk).1 ?_).trans hk
    rcases he with rfl | rfl | ⟨rfl, hz⟩
    · exact row_ne ho hk hn.1
    · exact row_ne ho hk hn.2.1
    · rcases hn.2.2 with h | h
      · exact row_ne ho hk h
      · exact hz k h
/-- where a rest stands: -1: nowhere -/
def atN (N : Noted) (n : Bs) : Int := match findN N n with | some k => (k : Int) | none => -1
theorem atN_nil (n : Bs) : atN [] n = -1 := rfl
theorem atN_hit {r : Bs} {k : Nat} {N : Noted} : atN ((r, k) :: N) r = (k : Int) := by simp [atN, findN]
theorem atN_miss {r n : Bs} {k : Nat} {N : Noted} (h : r ≠ n) : atN ((r, k) :: N) n = atN N n := by simp [atN, findN, h]

end Go.Proofs.Ytnamkladeaohoaa.rpaper
namespace Go.Proofs.Ytnamkladeaohoaa.rpname
open Go.RowKit Go.Proofs.Ytnamkladeaohoaa.kit Go.Proofs.Ytnamkladeaohoaa.nspec Go.Proofs.Ytnamkladeaohoaa.bits Go.Proofs.Ytnamkladeaohoaa.bld Go.Proofs.Ytnamkladeaohoaa.coded Go.Proofs.Ytnamkladeaohoaa.fld Go.Proofs.Ytnamkladeaohoaa.packP Go.Proofs.Ytnamkladeaohoaa.buf Go.Proofs.Ytnamkladeaohoaa.big Go.Proofs.Ytnamkladeaohoaa.psmall Go.Proofs.Ytnamkladeaohoaa.rpaper
set_option linter.unusedVariables false

theorem atN_some {N : Noted} {n : Bs} {k : Nat} (h : findN N n = some k) : atN N n = (k : Int) := by simp [atN, h]
theorem atN_none {N : Noted} {n : Bs} (h : findN N n = none) : atN N n = -1 := by simp [atN, h]
theorem put_ne (x : Bs) (r : List Bs) (h : okL (x :: r)) : put (x :: r) ≠ [0] := by
  intro e
  have h1 : (put (x :: r)).length = 1 := by rw [e]; rfl
  have h2 := (okL_cons.1 h).1
  have h3 : (put (x :: r)).length = 1 + x.length + (put r).length := by simp only [put, List.length_cons, List.length_append]; omega
  omega

theorem strN_of {u : ByteArray} {r : Bs} (k : Nat) (h : u.data.toList = r) : Value.string u = strN (r, k) := by
  unfold strN; congr 1; exact ba_ext h

end Go.Proofs.Ytnamkladeaohoaa.rpname
namespace Go.Proofs.Ytnamkladeaohoaa.cloneB
open Go.RowKit Go.Proofs.Ytnamkladeaohoaa.kit Go.Proofs.Ytnamkladeaohoaa.nspec Go.Proofs.Ytnamkladeaohoaa.bits Go.Proofs.Ytnamkladeaohoaa.bld Go.Proofs.Ytnamkladeaohoaa.coded
set_option linter.unusedVariables false

end Go.Proofs.Ytnamkladeaohoaa.cloneB
namespace Go.Proofs.Ytnamkladeaohoaa.signs
open Go.RowKit Go.Proofs.Ytnamkladeaohoaa.kit Go.Proofs.Ytnamkladeaohoaa.timed Go.Proofs.Ytnamkladeaohoaa.nspec Go.Proofs.Ytnamkladeaohoaa.fld Go.Proofs.Ytnamkladeaohoaa.wireP Go.Proofs.Ytnamkladeaohoaa.wireM Go.Proofs.Ytnamkladeaohoaa.packP
set_option linter.unusedVariables false

theorem or_bit (a i : Nat) (h : a / 2 ^ i % 2 = 0) : a ||| 2 ^ i = a + 2 ^ i := by
  have e : a = 2 ^ (i + 1) * (a / 2 ^ (i + 1)) + a % 2 ^ i := by
    have h1 := Nat.div_add_mod a (2 ^ i)
    have h2 : a / 2 ^ i = 2 * (a / 2 ^ (i + 1)) := by
      rw [Nat.pow_succ, ← Nat.div_div_eq_div_mul]; omega
    rw [h2] at h1
    have e2 : 2 ^ i * (2 * (a / 2 ^ (i + 1))) = 2 ^ (i + 1) * (a / 2 ^ (i + 1)) := by rw [Nat.pow_succ, Nat.mul_assoc]
    omega
  have hl : a % 2 ^ i < 2 ^ i := Nat.mod_lt _ (Nat.two_pow_pos i)
  have hp : 2 ^ (i + 1) = 2 ^ i + 2 ^ i := by rw [Nat.pow_succ]; omega
  obtain ⟨q, hq⟩ : ∃ q, a / 2 ^ (i + 1) = q := ⟨_, rfl⟩
  obtain ⟨l, hl2⟩ : ∃ l, a % 2 ^ i = l := ⟨_, rfl⟩
  rw [hq, hl2] at e
  rw [hl2] at hl
  have h3 : 2 ^ (i + 1) * q + l = 2 ^ (i + 1) * q ||| l := Nat.two_pow_add_eq_or_of_lt (by omega) q
  have h4 : 2 ^ i * 1 + l = 2 ^ i * 1 ||| l := Nat.two_pow_add_eq_or_of_lt hl 1
  have h5 : 2 ^ (i + 1) * q + (2 ^ i + l) = 2 ^ (i + 1) * q ||| (2 ^ i + l) := Nat.two_pow_add_eq_or_of_lt (by omega) q
  rw [Nat.mul_one] at h4
  rw [e, h3, Nat.or_assoc, Nat.or_comm l, ← h4, ← h5, ← h3]; omega

theorem i64_or_nat (a b : Nat) (ha : a < 4611686018427387904) (hb : b < 4611686018427387904) : bits .or .i64 (a : Int) (b : Int) = ((a ||| b : Nat) : Int) := by
  have hx : a ||| b < 2 ^ 62 := Nat.or_lt_two_pow (by omega) (by omega)
  have h1 : (BitVec.ofInt 64 (a : Int)).toNat = a := by
    rw [BitVec.ofInt_natCast, BitVec.toNat_ofNat]; exact Nat.mod_eq_of_lt (by omega)
  have h2 : (BitVec.ofInt 64 (b : Int)).toNat = b := by
    rw [BitVec.ofInt_natCast, BitVec.toNat_ofNat]; exact Nat.mod_eq_of_lt (by omega)
  show IntKind.i64.wrap ((BitVec.ofInt 64 (a : Int) ||| BitVec.ofInt 64 (b : Int)).toNat : Int) = _
  rw [BitVec.toNat_or, h1, h2, IntKind.wrap_i64]
  omega
theorem _root_.Go.Proofs.Ytnamkladeaohoaa.wireM.BoxM.grown {w w1 : World} {B g : Nat} {p : Pl} {m : Mg} (h : BoxM w B p m) (hg : w.grownBy w1 (some g)) (hne : B ≠ g) : BoxM w1 B p m := by
  have hb := hg.block B h.lt (by intro e; cases e; exact hne rfl)
  have hc : ∀ j, w1.cell? ⟨B, j, none⟩ = w.cell? ⟨B, j, none⟩ := fun j => by simp only [World.cell?, hb]
  exact ⟨Nat.lt_of_lt_of_le h.lt hg.size, (hc 0).trans h.c0, (hc 1).trans h.c1, (hc 2).trans h.c2, (hc 3).trans h.c3, (hc 4).trans h.c4, (hc 5).trans h.c5, (hc 6).trans h.c6, (hc 7).trans h.c7, (hc 8).trans h.c8, (hc 9).trans h.c9, (hc 10).trans h.c10, (hc 11).trans h.c11, (hc 12).trans h.c12, (hc 13).trans h.c13⟩
def bn (b : Bool) (v : Nat) : Nat := if b then v else 0
theorem bn_or (b : Bool) (v : Nat) : bn b v = 0 ∨ bn b v = v := by cases b <;> simp [bn]
theorem bn_if (b : Bool) (V v : Nat) : (if b then V + v else V) = V + bn b v := by cases b <;> simp [bn]
theorem bit_bn (b : Bool) (v : Nat) : bit b v = ((bn b v : Nat) : Int) := by cases b <;> simp [bit, bn]
theorem or11 {x y : Int} (hx₀ : 0 ≤ x) (hx : x % 2048 = 0) (hx₁ : x < 2147483648) (h₀ : 0 ≤ y) (h₁ : y < 2048) : bits .or .i64 x y = x + y :=
  bits_join .i64 31 (by decide) to32.wraps31 11 x y hx₀ hx hx₁ h₀ h₁ (by omega)

end Go.Proofs.Ytnamkladeaohoaa.signs
namespace Go.Proofs.Ytnamkladeaohoaa.wireC
open Go.RowKit Go.Proofs.Ytnamkladeaohoaa.kit Go.Proofs.Ytnamkladeaohoaa.timed Go.Proofs.Ytnamkladeaohoaa.nspec Go.Proofs.Ytnamkladeaohoaa.rsplit Go.Proofs.Ytnamkladeaohoaa.check Go.Proofs.Ytnamkladeaohoaa.checkAll Go.Proofs.Ytnamkladeaohoaa.fld Go.Proofs.Ytnamkladeaohoaa.wireP Go.Proofs.Ytnamkladeaohoaa.wireR Go.Proofs.Ytnamkladeaohoaa.wireM
set_option linter.unusedVariables false

theorem max4 (a b c d : Nat) (w : World) : Sem.run Try.prog (Builtin.max_ #[3, 3, 3, 3] 3 #[.int .i64 (a : Int), .int .i64 (b : Int), .int .i64 (c : Int), .int .i64 (d : Int)]) w = .ok (.int .i64 ((max (max (max a b) c) d : Nat) : Int)) w := by
  simp [Builtin.max_, Builtin.max2, go_sem]
  (repeat' split) <;> omega
def secL (m : Mg) (k : Nat) : List Rc := match k with | 0 => m.an | 1 => m.au | _ => m.ar
theorem q_cells {w w1 : World} {x : Qn} {t : TypeId} (hB : Below (w.alloc (.cells #[.string x.n, .int .i64 x.t, .int .i64 x.c] t)).heap.size (w.alloc (.cells #[.string x.n, .int .i64 x.t, .int .i64 x.c] t)) w1) :
    w1.cell? ⟨w.heap.size, 0, none⟩ = some (.string x.n) ∧ w1.cell? ⟨w.heap.size, 1, none⟩ = some (.int .i64 x.t) ∧ w1.cell? ⟨w.heap.size, 2, none⟩ = some (.int .i64 x.c) := by
  have hl : w.heap.size < (w.alloc (.cells #[.string x.n, .int .i64 x.t, .int .i64 x.c] t)).heap.size := by simp
  have hb : (w.alloc (.cells #[.string x.n, .int .i64 x.t, .int .i64 x.c] t)).heap[w.heap.size]? = some (.cells #[.string x.n, .int .i64 x.t, .int .i64 x.c] t (0, 0)) := heap_alloc_new _ _
  refine ⟨(hB.cell (p := ⟨w.heap.size, 0, none⟩) hl).trans ?_, (hB.cell (p := ⟨w.heap.size, 1, none⟩) hl).trans ?_, (hB.cell (p := ⟨w.heap.size, 2, none⟩) hl).trans ?_⟩ <;> (simp only [World.cell?, hb]; rfl)

end Go.Proofs.Ytnamkladeaohoaa.wireC
namespace Go.Proofs.Ytnamkladeaohoaa.wpack
open Go.RowKit Go.Maps Go.Proofs.Ytnamkladeaohoaa.kit Go.Proofs.Ytnamkladeaohoaa.timed Go.Proofs.Ytnamkladeaohoaa.takes Go.Proofs.Ytnamkladeaohoaa.nspec Go.Proofs.Ytnamkladeaohoaa.rsplit Go.Proofs.Ytnamkladeaohoaa.check Go.Proofs.Ytnamkladeaohoaa.bits Go.Proofs.Ytnamkladeaohoaa.bld Go.Proofs.Ytnamkladeaohoaa.coded Go.Proofs.Ytnamkladeaohoaa.fld Go.Proofs.Ytnamkladeaohoaa.wireP Go.Proofs.Ytnamkladeaohoaa.wireR Go.Proofs.Ytnamkladeaohoaa.wireM Go.Proofs.Ytnamkladeaohoaa.wireC Go.Proofs.Ytnamkladeaohoaa.packP Go.Proofs.Ytnamkladeaohoaa.buf Go.Proofs.Ytnamkladeaohoaa.pname Go.Proofs.Ytnamkladeaohoaa.psmall Go.Proofs.Ytnamkladeaohoaa.fits Go.Proofs.Ytnamkladeaohoaa.pdata Go.Proofs.Ytnamkladeaohoaa.signs Go.Proofs.Ytnamkladeaohoaa.cloneB
set_option linter.unusedVariables false

theorem right_use {x : Rc} (h : rightB x = true) : (∃ ls, IsN x.o.data.toList ls) ∧ 0 ≤ x.l ∧ x.l ≤ 4294967295 ∧ x.d.size ≤ 65535 ∧ (x.d.size ≠ 0 → Fits (fieldsW x.t) x.d.data.toList) := by
  simp only [rightB, Bool.and_eq_true] at h
  obtain ⟨h1, h2, h3, h4, h5⟩ := h
  have hl : 0 ≤ x.l ∧ x.l ≤ 4294967295 := by simpa [inB] using h4
  refine ⟨?_, hl.1, hl.2, ?_, ?_⟩
  · rcases isB_or x.o with h | h
    · exact h
    · rw [isB_no h] at h1; cases h1
  · split at h5
    · simpa using h5
    · rcases Bool.or_eq_true _ _ ▸ h5 with h | h
      · simp only [emptyB, Bool.and_eq_true, decide_eq_true_eq] at h; omega
      · have h := of_decide_eq_true h
        unfold checkS at h
        split at h
        · omega
        split at h
        · omega
        · rw [← size_len]; omega
  · intro hd
    split at h5
    · rename_i h41
      have e : fieldsW x.t = [] := by rw [h41]; rfl
      rw [e]; trivial
    · rcases Bool.or_eq_true _ _ ▸ h5 with h | h
      · simp only [emptyB, Bool.and_eq_true, decide_eq_true_eq] at h; omega
      · exact fits_w (of_decide_eq_true h)
theorem check_use {m : Mg} (h : checkB m = true) : 0 ≤ m.op ∧ m.op ≤ 15 ∧ 0 ≤ m.rc ∧ m.rc ≤ 15 := by
  simp only [checkB, Bool.and_eq_true] at h
  have h1 : 0 ≤ m.op ∧ m.op ≤ 15 := by simpa [inB] using h.2.1
  have h2 : 0 ≤ m.rc ∧ m.rc ≤ 15 := by simpa [inB] using h.2.2.1
  exact ⟨h1.1, h1.2, h2.1, h2.2⟩
theorem check_len {m : Mg} (h : checkB m = true) : m.qs.length ≤ 65535 ∧ m.qs.all rightQ = true ∧ m.an.all rightB = true ∧ m.au.all rightB = true ∧ m.ar.all rightB = true := by
  simp only [checkB, Bool.and_eq_true] at h
  obtain ⟨_, _, _, h1, h2, h3, h4, h5⟩ := h
  exact ⟨(of_decide_eq_true h1).1, h2, h3, h4, h5⟩
theorem q_use {x : Qn} (h : rightQ x = true) : (∃ ls, IsN x.n.data.toList ls) := by
  simp only [rightQ, Bool.and_eq_true] at h
  rcases isB_or x.n with h1 | h1
  · exact h1
  · rw [isB_no h1] at h; cases h.1
theorem is_len {n : ByteArray} {ls : List Bs} (h : IsN n.data.toList ls) : n.size ≤ 255 := by rw [← size_len]; exact h.2.2
theorem nameP_few' {n : Bs} {ls : List Bs} (h : IsN n ls) {p : Pp} (hp : p.N.length ≤ p.out.length) : (nameP n p).N.length ≤ (nameP n p).out.length := by
  rw [h.1]; exact nameP_few ls p h.2.1 hp
theorem Pp.few_out {p : Pp} (l : Bs) (h : p.N.length ≤ p.out.length) : p.N.length ≤ (p.out ++ l).length := by rw [List.length_append]; omega
def secH (m : Mg) : Nat → Bs
  | 0 => []
  | s + 1 => secH m s ++ be2 ((secL m s).length : Int)
theorem secH_len (m : Mg) : ∀ s, (secH m s).length = 2 * s
  | 0 => rfl
  | s + 1 => by simp only [secH, List.length_append, secH_len m s, be2, List.length_cons, List.length_nil]; omega
def restL (m : Mg) : Nat → List Rc
  | 0 => m.an ++ m.au ++ m.ar
  | 1 => m.au ++ m.ar
  | 2 => m.ar
  | _ => []
theorem restL_step (m : Mg) (s : Nat) (h : s < 3) : restL m s = secL m s ++ restL m (s + 1) := by
  match s, h with
  | 0, _ => simp [restL, secL]
  | 1, _ => simp [restL, secL]
  | 2, _ => simp [restL, secL]
theorem dataP_few : ∀ (fs : List (Option Nat)) (d : Bs) (p : Pp), Fits fs d → p.N.length ≤ p.out.length → (dataP fs d p).N.length ≤ (dataP fs d p).out.length
  | [], d, p, _, h => by simp only [dataP, List.length_append]; omega
  | none :: fs, d, p, hf, h => by
    obtain ⟨ls, d', h1, h2, h3, h4⟩ := hf
    simp only [dataP]
    have e1 : d.take (nameSz d) = put ls := by rw [h3, nameSz_put ls d' h1, List.take_left]
    have e2 : d.drop (nameSz d) = d' := by rw [h3, nameSz_put ls d' h1, List.drop_left]
    rw [e1, e2]
    exact dataP_few fs d' _ h4 (nameP_few ls p h1 h)
  | some k :: fs, d, p, hf, h => by
    simp only [dataP]
    exact dataP_few fs _ _ hf.2 (by simp only [List.length_append]; omega)
/-- what the walk of a record's data leaves is what recP says -/
theorem recP_eq (x : Rc) (p : Pp) (q1 : Pp) (h : q1 = ⟨(nameP x.o.data.toList p).out ++ (be2 x.t ++ be2 x.c ++ be4 x.l), (nameP x.o.data.toList p).N⟩) :
    (⟨patch (dataP (if x.d.size = 0 then [] else fieldsW x.t) x.d.data.toList ⟨q1.out ++ [0, 0], q1.N⟩).out q1.out.length (((dataP (if x.d.size = 0 then [] else fieldsW x.t) x.d.data.toList ⟨q1.out ++ [0, 0], q1.N⟩).out.length : Int) - q1.out.length - 2), (dataP (if x.d.size = 0 then [] else fieldsW x.t) x.d.data.toList ⟨q1.out ++ [0, 0], q1.N⟩).N⟩ : Pp) = recP x p := by
  subst h
  unfold recP
  by_cases hd : x.d.size = 0
  · simp only [if_pos hd]
  · simp only [if_neg hd]
    rw [data_w]
theorem dataP_up : ∀ (fs : List (Option Nat)) (d : Bs) (p : Pp), (dataP fs d p).out.length ≤ p.out.length + d.length + 2 * fs.length
  | [], d, p => by simp [dataP]
  | none :: fs, d, p => by
    simp only [dataP]
    have h1 := dataP_up fs (d.drop (nameSz d)) (nameP (d.take (nameSz d)) p)
    have h2 := (nameF_len ((d.take (nameSz d)).length + 1) (d.take (nameSz d)) p).1
    rw [List.length_drop] at h1
    simp only [List.length_take] at h2
    unfold nameP at h1 ⊢
    simp only [List.length_take, List.length_cons] at h1 ⊢
    omega
  | some k :: fs, d, p => by
    simp only [dataP]
    have h1 := dataP_up fs (d.drop k) ⟨p.out ++ d.take k, p.N⟩
    simp only [List.length_drop, List.length_append, List.length_take, List.length_cons] at h1 ⊢
    omega
theorem patch_len (o : Bs) (k : Nat) (n : Int) : (patch o k n).length = o.length := by simp [patch]
theorem recP_len (x : Rc) (p : Pp) : p.out.length ≤ (recP x p).out.length := by
  unfold recP
  simp only [patch_len]
  refine Nat.le_trans ?_ (dataP_len _ _ _)
  have := (nameF_len (x.o.data.toList.length + 1) x.o.data.toList p).2
  simp only [List.length_append]
  unfold nameP; omega
def outG : Option Pp → Bs × Int
  | none => ([], 12)
  | some p => (p.out, 0)
theorem pack_out {m : Mg} (hc : checkB m = true) : packS m = outG (recsP (restL m 0) (m.qs.foldl (fun p x => quesP x p) ⟨headP m, []⟩)) := by
  unfold packS
  rw [if_neg (by rw [hc]; simp)]
  unfold packP restL
  cases recsP (m.an ++ m.au ++ m.ar) (m.qs.foldl (fun p x => quesP x p) ⟨headP m, []⟩) <;> rfl
theorem short_len (t : Int) : (shortL t).length ≤ 3 := by
  unfold shortL; (repeat' split) <;> simp
theorem recP_up (x : Rc) (p : Pp) (ho : x.o.size ≤ 255) (hd : x.d.size ≤ 65535) : (recP x p).out.length ≤ p.out.length + 70000 := by
  unfold recP
  simp only [patch_len]
  refine Nat.le_trans (dataP_up _ _ _) ?_
  have h := (nameF_len (x.o.data.toList.length + 1) x.o.data.toList p).1
  have hs : (if x.d.size = 0 then [] else shortL x.t).length ≤ 3 := by
    split
    · simp
    · exact short_len _
  simp only [size_len] at h
  unfold nameP
  simp only [List.length_append, be4, be2, List.length_cons, List.length_nil, size_len]
  omega
theorem recsP_big {q : Pp} (h : 65535 < q.out.length) : ∀ L, recsP L q = none
  | [] => by simp only [recsP, if_pos h]
  | x :: L => by simp only [recsP, if_pos h]
theorem recsP_go {q : Pp} {x : Rc} {L : List Rc} (h : ¬ 65535 < q.out.length) : recsP (x :: L) q = recsP L (recP x q) := by simp only [recsP, if_neg h]
theorem recP_few (x : Rc) (p : Pp) (h : rightB x = true) (hp : p.N.length ≤ p.out.length) : (recP x p).N.length ≤ (recP x p).out.length := by
  obtain ⟨⟨ls, hls⟩, _, _, _, hf⟩ := right_use h
  rw [← recP_eq x p _ rfl]
  simp only [patch_len]
  apply dataP_few
  · split
    · trivial
    · exact hf (by assumption)
  · have := nameP_few' hls hp
    simp only [List.length_append]; omega
theorem quesP_len (x : Qn) (p : Pp) : p.out.length ≤ (quesP x p).out.length ∧ (quesP x p).out.length ≤ p.out.length + x.n.size + 6 := by
  have := nameF_len (x.n.data.toList.length + 1) x.n.data.toList p
  rw [size_len] at this
  unfold quesP
  simp only [List.length_append, be2, List.length_cons, List.length_nil]
  unfold nameP; rw [size_len]; omega
theorem quesP_few (x : Qn) (p : Pp) (h : rightQ x = true) (hp : p.N.length ≤ p.out.length) : (quesP x p).N.length ≤ (quesP x p).out.length := by
  obtain ⟨ls, hls⟩ := q_use h
  have := nameP_few' hls hp
  unfold quesP
  simp only [List.length_append]; omega
theorem own_base {w : World} {b base : Nat} {e : TypeId} {size : Nat} {v : Value} {n : Nat} {xs : List Value} (hb : b ≤ base) (h : w.ownsRow base e size v n xs) : w.ownsRow b e size v n xs := by
  refine ⟨h.1, ?_⟩
  rcases h.2 with h1 | ⟨g, cap, cur, h1, h2, h3, h4⟩
  · exact .inl h1
  · exact .inr ⟨g, cap, cur, h1, by omega, h3, h4⟩
end Go.Proofs.Ytnamkladeaohoaa.wpack
namespace Go.Proofs.Ytnamkladeaohoaa.rrec
open Go.RowKit Go.Proofs.Ytnamkladeaohoaa.kit Go.Proofs.Ytnamkladeaohoaa.takes Go.Proofs.Ytnamkladeaohoaa.nspec Go.Proofs.Ytnamkladeaohoaa.rsplit Go.Proofs.Ytnamkladeaohoaa.bits Go.Proofs.Ytnamkladeaohoaa.bld Go.Proofs.Ytnamkladeaohoaa.coded Go.Proofs.Ytnamkladeaohoaa.fld Go.Proofs.Ytnamkladeaohoaa.wireP Go.Proofs.Ytnamkladeaohoaa.packP Go.Proofs.Ytnamkladeaohoaa.buf Go.Proofs.Ytnamkladeaohoaa.big Go.Proofs.Ytnamkladeaohoaa.psmall Go.Proofs.Ytnamkladeaohoaa.fits Go.Proofs.Ytnamkladeaohoaa.rpaper Go.Proofs.Ytnamkladeaohoaa.rpname
set_option linter.unusedVariables false

/-- the parts of data, as numbers -/
def briefL (t : Int) : List Nat := if t = 2 ∨ t = 5 ∨ t = 12 then [0] else if t = 15 then [2, 0] else if t = 6 then [0, 0, 20] else []
def partN (k : Nat) : Option Nat := if k = 0 then none else some k
theorem brief_short (t : Int) : (briefL t).map partN = shortL t := by
  unfold briefL shortL
  by_cases h2 : t = 2 ∨ t = 5 ∨ t = 12
  · rw [if_pos h2, if_pos h2]; rfl
  rw [if_neg h2, if_neg h2]
  by_cases h15 : t = 15
  · rw [if_pos h15, if_pos h15]; rfl
  rw [if_neg h15, if_neg h15]
  by_cases h6 : t = 6
  · rw [if_pos h6, if_pos h6]; rfl
  rw [if_neg h6, if_neg h6]; rfl
theorem fits_short {t : Int} {d : Bs} (h : Fits (fieldsW t) d) : Fits (shortL t) d := by
  by_cases h2 : t = 2 ∨ t = 5 ∨ t = 12
  · have e : fieldsW t = [none] := by simp only [fieldsW, shortB, if_pos h2]; rfl
    rw [e] at h; simp only [shortL, if_pos h2]; exact h
  by_cases h15 : t = 15
  · subst h15; exact h
  by_cases h6 : t = 6
  · subst h6
    obtain ⟨l1, d1, a1, a2, a3, l2, d2, b1, b2, b3, c1, c2, c3⟩ := h
    refine ⟨l1, d1, a1, a2, a3, l2, d2, b1, b2, b3, ?_, trivial⟩
    have hc : 2 * (UInt8.toNat 53 - 48) = 10 := rfl
    rw [hc] at c1 c2
    rw [List.length_drop] at c2; omega
  · simp only [shortL, if_neg h2, if_neg h15, if_neg h6]; trivial
def natC (k : Nat) : Value := .int .i64 (k : Int)
theorem built_row (w : World) (e : TypeId) (xs : List Value) (v : Value) (n : Nat) (hv : v = .slice (some ⟨w.heap.size, 0, none⟩) n n) (hx : xs.length = n) (hn : n ≤ 1000) : (w.alloc (.cells xs.toArray e)).ownsRow w.heap.size e 1 v n xs := by
  subst hv
  refine ⟨by omega, .inr ⟨w.heap.size, n, xs.toArray, rfl, Nat.le_refl _, heap_alloc_new _ _, Nat.le_refl _, by unfold maxLen; omega, by simp [hx], ?_⟩⟩
  rw [Nat.mul_one, ← hx]; simp
theorem _root_.Go.Proofs.Ytnamkladeaohoaa.rpaper.EffR.weak {w w1 : World} {b0 B : Nat} {Z Z' : Nat → Prop} (h : EffR b0 B Z' w w1) (hz : ∀ k, Z k → Z' k) : EffR b0 B Z w w1 :=
  ⟨h.os, h.tape, h.output, h.size, h.low, fun k o hk hn hT => h.kept k o hk ⟨hn.1, hn.2.1, hn.2.2.imp id (hz k)⟩ hT⟩
/-- a guarded row of numbers is kept -/
theorem own_guard {w w1 : World} {b0 B base : Nat} {Z : Nat → Prop} {v : Value} {n : Nat} {xs : List Value} (ho : w.ownsRow base 3 1 v n xs) (he : EffR b0 B Z w w1) (hz : ∀ k, some k = v.ownBlock → Z k ∧ k ≠ B) : w1.ownsRow base 3 1 v n xs := by
  refine ⟨ho.1, ?_⟩
  rcases ho.2 with h1 | ⟨g, cap, cur, h1, h2, h3, h4⟩
  · exact .inl h1
  · have hg := hz g (by rw [h1]; rfl)
    exact .inr ⟨g, cap, cur, h1, h2, he.kept _ _ h3 ⟨notT_cells (by decide), notT_cells (by decide), .inr hg.1⟩ hg.2, h4⟩
end Go.Proofs.Ytnamkladeaohoaa.rrec
namespace Go.Proofs.Ytnamkladeaohoaa.wireD
open Go.RowKit Go.Proofs.Ytnamkladeaohoaa.kit Go.Proofs.Ytnamkladeaohoaa.timed Go.Proofs.Ytnamkladeaohoaa.nspec Go.Proofs.Ytnamkladeaohoaa.rsplit Go.Proofs.Ytnamkladeaohoaa.check Go.Proofs.Ytnamkladeaohoaa.checkAll Go.Proofs.Ytnamkladeaohoaa.fld Go.Proofs.Ytnamkladeaohoaa.wireP Go.Proofs.Ytnamkladeaohoaa.wireR Go.Proofs.Ytnamkladeaohoaa.wireM Go.Proofs.Ytnamkladeaohoaa.wireC
set_option linter.unusedVariables false

theorem drop_all {α : Type} {f : α → Bool} {L : List α} {k : Nat} {x : α} {B Q : Bool} (h : (B && (L.drop k).all f) = Q) (hx : L[k]? = some x) : ((B && f x) && (L.drop (k + 1)).all f) = Q := by
  obtain ⟨h1, h2⟩ := List.getElem?_eq_some_iff.1 hx
  rw [List.drop_eq_getElem_cons h1, h2, List.all_cons] at h
  rw [Bool.and_assoc]; exact h
theorem drop_end {α : Type} {f : α → Bool} {L : List α} {k : Nat} {B Q : Bool} (h : (B && (L.drop k).all f) = Q) (hk : L.length ≤ k) : B = Q := by
  rw [List.drop_eq_nil_iff.2 hk] at h; simpa using h

end Go.Proofs.Ytnamkladeaohoaa.wireD
namespace Go.Proofs.Ytnamkladeaohoaa.rpack
open Go.RowKit Go.Proofs.Ytnamkladeaohoaa.kit Go.Proofs.Ytnamkladeaohoaa.timed Go.Proofs.Ytnamkladeaohoaa.takes Go.Proofs.Ytnamkladeaohoaa.nspec Go.Proofs.Ytnamkladeaohoaa.rsplit Go.Proofs.Ytnamkladeaohoaa.check Go.Proofs.Ytnamkladeaohoaa.bits Go.Proofs.Ytnamkladeaohoaa.bld Go.Proofs.Ytnamkladeaohoaa.coded Go.Proofs.Ytnamkladeaohoaa.fld Go.Proofs.Ytnamkladeaohoaa.wireP Go.Proofs.Ytnamkladeaohoaa.wireM Go.Proofs.Ytnamkladeaohoaa.wireD Go.Proofs.Ytnamkladeaohoaa.packP Go.Proofs.Ytnamkladeaohoaa.buf Go.Proofs.Ytnamkladeaohoaa.big Go.Proofs.Ytnamkladeaohoaa.rpaper Go.Proofs.Ytnamkladeaohoaa.rpname Go.Proofs.Ytnamkladeaohoaa.rrec Go.Proofs.Ytnamkladeaohoaa.wpack Go.Proofs.Ytnamkladeaohoaa.rows
set_option linter.unusedVariables false

def noZ : Nat → Prop := fun _ => False
theorem bit_bd (b : Bool) {v : Int} (h : 0 ≤ v) : 0 ≤ bit b v ∧ bit b v ≤ v := by unfold bit; split <;> omega
theorem w64 (n : Int) (h : 0 ≤ n ∧ n ≤ 1099511627776) : wrap64 n = n := by unfold wrap64; omega
theorem right_num {x : Rc} (h : rightB x = true) : (0 ≤ x.t ∧ x.t ≤ 65535) ∧ (0 ≤ x.c ∧ x.c ≤ 65535) ∧ 0 ≤ x.l ∧ x.l ≤ 4294967295 := by
  simp only [rightB, Bool.and_eq_true] at h
  obtain ⟨h1, h2, h3, h4, h5⟩ := h
  exact ⟨by simpa [inB] using h2, by simpa [inB] using h3, by simpa [inB] using h4⟩
theorem q_num {x : Qn} (h : rightQ x = true) : (0 ≤ x.t ∧ x.t ≤ 65535) ∧ (0 ≤ x.c ∧ x.c ≤ 65535) := by
  simp only [rightQ, Bool.and_eq_true] at h
  exact ⟨by simpa [inB] using h.2.1, by simpa [inB] using h.2.2⟩
theorem check_num {m : Mg} (h : checkB m = true) : (0 ≤ m.id ∧ m.id ≤ 65535) ∧ m.an.length ≤ 65535 ∧ m.au.length ≤ 65535 ∧ m.ar.length ≤ 65535 := by
  simp only [checkB, Bool.and_eq_true] at h
  have h1 := of_decide_eq_true h.2.2.2.1
  exact ⟨by simpa [inB] using h.1, h1.2.1, h1.2.2.1, h1.2.2.2⟩

end Go.Proofs.Ytnamkladeaohoaa.rpack
namespace Go.Proofs.Ytnamkladeaohoaa.putM
open Go.RowKit Go.Proofs.Ytnamkladeaohoaa.kit Go.Proofs.Ytnamkladeaohoaa.wireP Go.Proofs.Ytnamkladeaohoaa.wireM Go.Proofs.Ytnamkladeaohoaa.wpack
set_option linter.unusedVariables false

/-- a message laid over another -/
def putM (w : World) (b : Nat) (p : Pl) (m : Mg) : World := ((((((((((((((w.setCell ⟨b, 0, none⟩ (.int .i64 m.id)).setCell ⟨b, 1, none⟩ (.bool m.rs)).setCell ⟨b, 2, none⟩ (.int .i64 m.op)).setCell ⟨b, 3, none⟩ (.bool m.aa)).setCell ⟨b, 4, none⟩ (.bool m.tc)).setCell ⟨b, 5, none⟩ (.bool m.rd)).setCell ⟨b, 6, none⟩ (.bool m.ra)).setCell ⟨b, 7, none⟩ (.bool m.ad)).setCell ⟨b, 8, none⟩ (.bool m.cd)).setCell ⟨b, 9, none⟩ (.int .i64 m.rc)).setCell ⟨b, 10, none⟩ (.slice p.qa m.qs.length p.qc)).setCell ⟨b, 11, none⟩ (.slice p.na m.an.length p.nc)).setCell ⟨b, 12, none⟩ (.slice p.ua m.au.length p.uc)).setCell ⟨b, 13, none⟩ (.slice p.ra m.ar.length p.rc))
theorem far_one {w : World} {b k j : Nat} {v : Value} (h : k ≠ b) : (w.setCell ⟨b, j, none⟩ v).heap[k]? = w.heap[k]? := Below.heap_setCell _ ⟨b, j, none⟩ _ k h
theorem putM_far {w : World} {b k : Nat} (p : Pl) (m : Mg) (h : k ≠ b) : (putM w b p m).heap[k]? = w.heap[k]? := by
  unfold putM
  rw [far_one h, far_one h, far_one h, far_one h, far_one h, far_one h, far_one h, far_one h, far_one h, far_one h, far_one h, far_one h, far_one h, far_one h]
theorem below_one {w w0 : World} {b B j : Nat} {v : Value} (h : Below B w0 w) (hb : B ≤ b) : Below B w0 (w.setCell ⟨b, j, none⟩ v) := h.setCell (p := ⟨b, j, none⟩) hb v
theorem putM_below {w w0 : World} {b B : Nat} (p : Pl) (m : Mg) (h : Below B w0 w) (hb : B ≤ b) : Below B w0 (putM w b p m) := by
  unfold putM
  exact (below_one (below_one (below_one (below_one (below_one (below_one (below_one (below_one (below_one (below_one (below_one (below_one (below_one (below_one h hb) hb) hb) hb) hb) hb) hb) hb) hb) hb) hb) hb) hb) hb)
end Go.Proofs.Ytnamkladeaohoaa.putM
