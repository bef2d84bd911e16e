/- gazetteerref1.coded, To32: walks. wire.buffer: walks of u8, u16, u32, raw. -/
import Derived.Test.YtabhiangjomaeaaU4
import Derived.Test.YtabhiangjomaeaaU6
import Derived.Test.YtabhiangjomaeaaU10
import Derived.Laws.BytesArg
namespace Go.Proofs.Ytabhiangjomaeaa.coded
open Go.RowKit Go.Proofs.Ytabhiangjomaeaa.kit Go.Proofs.Ytabhiangjomaeaa.bits Go.Proofs.Ytabhiangjomaeaa.ints Go.Proofs.Ytabhiangjomaeaa.bld Go.Proofs.Ytabhiangjomaeaa.to32

theorem own_string {P : Program} {w : World} {base : Nat} {e : TypeId} {v : Value} {l : List UInt8} (h : w.ownsRow base e 1 v l.length (Lib.byteCells l)) (src dst e' : TypeId) (hs : P.underlying src = some (.slice e')) (he : P.underlying e' = some (.int .u8)) (hd : P.underlying dst = some .string) :
    (convert src dst v).run P w = .ok (.string ⟨l.toArray⟩) w := by
  rcases h.2 with ⟨rfl, h0⟩ | ⟨g, cap, cur, rfl, hb, hg, h1, h2, _, htake⟩
  · have : l = [] := List.eq_nil_of_length_eq_zero h0
    subst this
    exact run_convert_bytes_nil w src e' hs he _ _ dst hd
  · refine run_convert_bytes_back w src dst e' ⟨g, 0, none⟩ cap l hs he hd (fun j hj => ?_)
    exact h.cells (g := g) rfl j _ (by simp [Lib.byteCells, hj])

theorem own_snocB {w1 : World} {base : Nat} {e : TypeId} {v' : Value} {acc : List UInt8} {d : UInt8} (h : w1.ownsRow base e 1 v' (acc.length + 1) (Lib.byteCells acc ++ [.int .u8 (d.toNat : Int)])) : w1.ownsRow base e 1 v' (acc ++ [d]).length (Lib.byteCells (acc ++ [d])) := by
  rw [bytes_snoc]; simpa using h

def codeTo (l : List Nat) (n k : Nat) : Nat := ofb ((l ++ List.replicate n 0).take k)
theorem codeTo_succ (l : List Nat) (n k : Nat) (h : k < n) : codeTo l n (k + 1) = 2 * codeTo l n k + l.getD k 0 := by
  have hx : (l ++ List.replicate n 0)[k]? = some (l.getD k 0) := by
    rw [List.getElem?_append]
    by_cases hk : k < l.length
    · simp [hk]
    · rw [if_neg hk, List.getElem?_replicate, if_pos (by omega)]; simp [List.getD, List.getElem?_eq_none (by omega : l.length ≤ k)]
  unfold codeTo
  rw [List.take_add_one, hx, ofb_append]
  simp [ofb]; omega
theorem codeTo_lt (l : List Nat) (n : Nat) (hl : ∀ x ∈ l, x ≤ 1) : ∀ k, k ≤ n → codeTo l n k < 2 ^ k
  | 0, _ => by simp [codeTo, ofb]
  | k + 1, h => by
    have ih := codeTo_lt l n hl k (by omega)
    have hx : l.getD k 0 ≤ 1 := by
      rw [List.getD]
      cases hh : l[k]? with
      | none => simp
      | some x => simpa using hl x (List.mem_of_getElem? hh)
    rw [codeTo_succ l n k (by omega), Nat.pow_succ]; omega
theorem enc_code {n : Nat} {al A R : List UInt8} {l : List Nat} (h : A ++ enc n al l = R) (hn : 1 ≤ n) (hl : 0 < l.length) : (A ++ [al.getD (codeTo l n n) 0]) ++ enc n al (l.drop n) = R := by
  rw [enc_step al hn (List.length_pos_iff.1 hl)] at h
  rw [← h]; simp [codeTo]
theorem pow6 {n : Nat} (h : n ≤ 6) : 2 ^ n ≤ 64 := Nat.pow_le_pow_right (n := 2) (by omega) (show n ≤ 6 from h)

theorem bitsL_01 (d : List UInt8) : ∀ x ∈ bitsL d, x ≤ 1 := by
  have ht : ∀ n v : Nat, ∀ x ∈ tob v n, x ≤ 1 := by
    intro n v
    induction n with
    | zero => intro x hx; simp [tob] at hx
    | succ n ih =>
      intro x hx
      rw [tob, List.mem_cons] at hx
      rcases hx with rfl | hx
      · omega
      · exact ih x hx
  intro x hx
  obtain ⟨c, _, hc⟩ := List.mem_flatMap.1 hx
  exact ht _ _ x hc

end Go.Proofs.Ytabhiangjomaeaa.coded
namespace Go.Proofs.Ytabhiangjomaeaa.buf
open Go.RowKit Go.Proofs.Ytabhiangjomaeaa.kit Go.Proofs.Ytabhiangjomaeaa.nspec Go.Proofs.Ytabhiangjomaeaa.bits Go.Proofs.Ytabhiangjomaeaa.bld Go.Proofs.Ytabhiangjomaeaa.coded Go.Proofs.Ytabhiangjomaeaa.fld Go.Proofs.Ytabhiangjomaeaa.packP
set_option linter.unusedVariables false

/-- no row of bytes -/
def NotU8 (o : Obj) : Prop := ∀ cur f, o ≠ .cells cur 5 f
/-- what a write on the paper may touch: the blocks that T tells, rows of bytes from b0 on, new blocks -/
structure Eff (b0 : Nat) (T : Nat → Prop) (w w' : World) : Prop where
  os : w'.os = w.os
  tape : w'.tape = w.tape
  output : w'.output = w.output
  size : w.heap.size ≤ w'.heap.size
  low : ∀ k, k < b0 → w'.heap[k]? = w.heap[k]?
  kept : ∀ k o, w.heap[k]? = some o → NotU8 o → ¬ T k → w'.heap[k]? = some o
theorem Eff.refl (b0 : Nat) (T : Nat → Prop) (w : World) : Eff b0 T w w := ⟨rfl, rfl, rfl, Nat.le_refl _, fun _ _ => rfl, fun _ _ h _ _ => h⟩
theorem Eff.trans {b0 : Nat} {T : Nat → Prop} {w w1 w2 : World} (h : Eff b0 T w w1) (g : Eff b0 T w1 w2) : Eff b0 T w w2 :=
  ⟨g.os.trans h.os, g.tape.trans h.tape, g.output.trans h.output, Nat.le_trans h.size g.size, fun k hk => (g.low k hk).trans (h.low k hk), fun k o hk hn hT => g.kept k o (h.kept k o hk hn hT) hn hT⟩
theorem Eff.wider {b0 : Nat} {T T' : Nat → Prop} {w w1 : World} (h : Eff b0 T w w1) (hT : ∀ k, T k → T' k) : Eff b0 T' w w1 :=
  ⟨h.os, h.tape, h.output, h.size, h.low, fun k o hk hn hk' => h.kept k o hk hn (fun e => hk' (hT k e))⟩
theorem Eff.of_below {b0 : Nat} {T : Nat → Prop} {w w1 : World} (h : Below w.heap.size w w1) (hb : b0 ≤ w.heap.size) : Eff b0 T w w1 :=
  ⟨h.os, h.tape, h.output, h.size, fun k hk => h.block k (by omega), fun k o hk hn _ => (h.block k (Array.getElem?_eq_some_iff.1 hk).1).trans hk⟩
theorem Eff.to_below {b0 : Nat} {T : Nat → Prop} {w w1 : World} (h : Eff b0 T w w1) : Below b0 w w1 :=
  ⟨h.os, h.tape, h.output, h.size, h.low⟩
/-- the paper's block and its row of bytes -/
structure Buf (w : World) (b0 B : Nat) (v c1 : Value) (out : Bs) : Prop where
  blk : w.heap[B]? = some (.cells #[v, c1] 90 (0, 0))
  own : w.ownsRow b0 5 1 v out.length (Lib.byteCells out)
  low : b0 ≤ B
theorem Buf.lt {w : World} {b0 B : Nat} {v c1 : Value} {out : Bs} (h : Buf w b0 B v c1 out) : B < w.heap.size := (Array.getElem?_eq_some_iff.1 h.blk).1
theorem Buf.c0 {w : World} {b0 B : Nat} {v c1 : Value} {out : Bs} (h : Buf w b0 B v c1 out) : w.cell? ⟨B, 0, none⟩ = some v := by simp only [World.cell?, h.blk]; rfl
theorem Buf.c1' {w : World} {b0 B : Nat} {v c1 : Value} {out : Bs} (h : Buf w b0 B v c1 out) : w.cell? ⟨B, 1, none⟩ = some c1 := by simp only [World.cell?, h.blk]; rfl
theorem Buf.z {w : World} {b0 B : Nat} {v c1 : Value} {out : Bs} (h : Buf w b0 B v c1 out) (j : Nat) : w.frozen? ⟨B, j, none⟩ = false := by simp only [World.frozen?, h.blk]; simp
theorem notU8_packer (c : Array Value) (f : Nat × Nat) : NotU8 (.cells c 90 f) := by
  intro cur f' e; injection e with _ e2 _; exact absurd e2 (by decide)
theorem row_u8 {w : World} {b0 : Nat} {v : Value} {n : Nat} {xs : List Value} (h : w.ownsRow b0 5 1 v n xs) {k : Nat} {o : Obj} (hk : w.heap[k]? = some o) (hn : NotU8 o) : some k ≠ v.ownBlock := by
  intro e
  rcases h.2 with ⟨rfl, _⟩ | ⟨g, cap, cur, rfl, hb, hg, _⟩
  · cases e
  · simp only [Value.ownBlock, Option.some.injEq] at e
    subst e
    rw [hg] at hk; cases hk
    exact hn _ _ rfl
theorem row_low {w : World} {b0 : Nat} {v : Value} {n : Nat} {xs : List Value} (h : w.ownsRow b0 5 1 v n xs) {k : Nat} (hk : k < b0) : some k ≠ v.ownBlock := by
  intro e
  rcases h.2 with ⟨rfl, _⟩ | ⟨g, cap, cur, rfl, hb, hg, _⟩
  · cases e
  · simp only [Value.ownBlock, Option.some.injEq] at e; omega
theorem own_slice1 {w : World} {base : Nat} {e : TypeId} {v : Value} {n : Nat} {xs : List Value} (h : w.ownsRow base e 1 v n xs) : ∃ a c, v = .slice a n c := by
  rcases h.2 with ⟨rfl, rfl⟩ | ⟨g, cap, cur, rfl, _⟩
  · exact ⟨_, _, rfl⟩
  · exact ⟨_, _, rfl⟩
/-- behind an append: the block is as it was -/
theorem Buf.grown {w w1 : World} {b0 B : Nat} {v c1 : Value} {out : Bs} (h : Buf w b0 B v c1 out) (hg : w.grownBy w1 v.ownBlock) : w1.heap[B]? = some (.cells #[v, c1] 90 (0, 0)) :=
  (hg.block B h.lt (row_u8 h.own h.blk (notU8_packer _ _))).trans h.blk
/-- .. and the new row stored -/
theorem Buf.put {w w1 : World} {b0 B : Nat} {v v' c1 : Value} {out out' : Bs} (h : Buf w b0 B v c1 out) (hg : w.grownBy w1 v.ownBlock) (hown : w1.ownsRow b0 5 1 v' out'.length (Lib.byteCells out')) :
    Buf (w1.setCell ⟨B, 0, none⟩ v') b0 B v' c1 out' ∧ Eff b0 (fun k => k = B) w (w1.setCell ⟨B, 0, none⟩ v') := by
  have hb1 := h.grown hg
  have hB := (Array.getElem?_eq_some_iff.1 hb1).1
  refine ⟨⟨?_, ?_, h.low⟩, hg.os, hg.tape, hg.output, by simpa using hg.size, fun k hk => ?_, fun k o hk hn hT => ?_⟩
  · have := heap_setCell_same w1 B 0 #[v, c1] 90 v' hb1
    rw [this]; rfl
  · exact ownsRow_setCell_other hown (fun e => row_u8 hown hb1 (notU8_packer _ _) e.symm) v'
  · rw [Below.heap_setCell _ _ _ _ (by show k ≠ B; have := h.low; omega)]
    have hlt := h.lt; have hlo := h.low
    exact hg.block k (by omega) (row_low h.own hk)
  · rw [Below.heap_setCell _ _ _ _ (by show k ≠ B; exact hT)]
    exact (hg.block k (Array.getElem?_eq_some_iff.1 hk).1 (row_u8 h.own hk hn)).trans hk
theorem Buf.alloc {w : World} {b0 B : Nat} {v c1 : Value} {out : Bs} (h : Buf w b0 B v c1 out) (o : Obj) : Buf (w.alloc o) b0 B v c1 out :=
  ⟨(Below.heap_alloc _ _ _ h.lt).trans h.blk, h.own.alloc o, h.low⟩
theorem Buf.kept {w w1 : World} {b0 B : Nat} {v c1 : Value} {out : Bs} (h : Buf w b0 B v c1 out) (hB : Below w.heap.size w w1) : Buf w1 b0 B v c1 out :=
  ⟨(hB.block B h.lt).trans h.blk, by
    refine ⟨h.own.1, ?_⟩
    rcases h.own.2 with h1 | ⟨g, cap, cur, h1, h2, h3, h4⟩
    · exact .inl h1
    · exact .inr ⟨g, cap, cur, h1, h2, (hB.block g (Array.getElem?_eq_some_iff.1 h3).1).trans h3, h4⟩, h.low⟩
theorem byte_wrap (v : Int) : IntKind.u8.wrap v = ((byte v).toNat : Int) := by
  rw [IntKind.wrap_u8]; unfold byte
  rw [UInt8.toNat_ofNat_of_lt' (by have := Int.emod_lt_of_pos v (show (0 : Int) < 256 by decide); have := Int.emod_nonneg v (show (256 : Int) ≠ 0 by decide); show (v % 256).toNat < 256; omega)]
  have := Int.emod_nonneg v (show (256 : Int) ≠ 0 by decide)
  omega
def u8V (c : UInt8) : Value := .int .u8 (c.toNat : Int)
theorem cells_snoc (out : Bs) (l : Bs) : Lib.byteCells out ++ l.map u8V = Lib.byteCells (out ++ l) := by
  simp [Lib.byteCells, u8V]

theorem cell_two_new (w : World) (e : TypeId) (x y : Value) : ∀ (j : Nat) (u : Value), [x, y][j]? = some u → (w.alloc (.cells #[x, y] e)).cell? ((⟨w.heap.size, 0, none⟩ : Addr).add j) = some u := by
  intro j u h
  have hb : (w.alloc (.cells #[x, y] e)).heap[w.heap.size]? = some (.cells #[x, y] e (0, 0)) := heap_alloc_new _ _
  rw [addr_add]
  simp only [World.cell?, hb]
  simpa using h
set_option maxRecDepth 100000 in
set_option maxHeartbeats 2000000 in
theorem u8_any (b0 B : Nat) (v c1 : Value) (out : Bs) (b : Int) (w : World) (h : Buf w b0 B v c1 out) (hl : out.length ≤ 1099511627776) :
    Calls Try.prog 91 #[.pointer (some ⟨B, 0, none⟩), .int .i64 b] w fun e w' => e = .returned (.tuple #[]) ∧ ∃ v', Buf w' b0 B v' c1 (out ++ [byte b]) ∧ Eff b0 (fun k => k = B) w w' := by
  obtain ⟨i0, hi, hz0, hz1, hz2⟩ := info_parts infoByte
  have k0 := h.c0
  have z0 := h.z 0
  have hlt := h.lt
  have hlo := h.low
  have HB := Lib.hid (h.alloc (.cells #[.int .u8 ((byte b).toNat : Int)] 5))
  have HE : Hid (Eff b0 (fun k => k = B) w (w.alloc (.cells #[.int .u8 ((byte b).toNat : Int)] 5))) := Lib.hid (Eff.of_below ((Below.refl _ _).alloc (Nat.le_refl _) _) (by omega))
  obtain ⟨c, hc⟩ : ∃ c, byte b = c := ⟨_, rfl⟩
  have hcw : IntKind.u8.wrap b = (c.toNat : Int) := by rw [byte_wrap, hc]
  rw [hc] at HB HE
  rw [hc]
  have hcv : Value.int .u8 (IntKind.u8.wrap b) = Value.int .u8 (c.toNat : Int) := by rw [hcw]
  have hown := h.own
  obtain ⟨a, cp, rfl⟩ := own_slice1 hown
  clear hc hcw h
  go_enter Try.func91, Try.ntmps91
  go_wp2_with (at_builtin; refine wpList_append_own _ rfl _ _ 39 rfl b0 5 i0 (.int .u8 0) 1 1 Try.underlying39 hi hz0 hz1 hz2 rfl (by decide) _ _ _ rfl (hown.alloc _) ⟨w.heap.size, 0, none⟩ 1 1 [.int .u8 (c.toNat : Int)] rfl rfl ?c1 ?c2 ?c3 ?c4 ?c5 ?_)
  case c1 => exact cell_one_new _ _ _
  case c2 => simp [Value.oneCell']
  case c3 => unfold maxLen; omega
  case c4 => omega
  case c5 => simp; omega
  intro v' w1 hown' hgrow _
  have hown2 : w1.ownsRow b0 5 1 v' (out ++ [c]).length (Lib.byteCells (out ++ [c])) := by
    rw [← cells_snoc]; simpa [u8V] using hown'
  have hP := HB.out.put hgrow hown2
  have hE := HE.out.trans hP.2
  have hb1 := HB.out.grown hgrow
  have k1 : w1.cell? ⟨B, 0, none⟩ = some (.slice a out.length cp) := by simp only [World.cell?, hb1]; rfl
  have z1 : w1.frozen? ⟨B, 0, none⟩ = false := by simp only [World.frozen?, hb1]; simp
  obtain ⟨a2, c2, rfl⟩ := own_slice1 hown2
  rw [List.length_append] at hP hE
  have HP := Lib.hid hP.1; have HF := Lib.hid hE
  clear hown' hown2 hgrow hown hP hE hb1 hcv k0 z0 HB HE
  go_wp2_with fail
  go_end0
  exact ⟨rfl, _, HP.out, HF.out⟩
set_option maxRecDepth 100000 in
set_option maxHeartbeats 2000000 in
theorem u16_any (b0 B : Nat) (v c1 : Value) (out : Bs) (b : Int) (w : World) (h : Buf w b0 B v c1 out) (hl : out.length ≤ 1099511627776) :
    Calls Try.prog 43 #[.pointer (some ⟨B, 0, none⟩), .int .i64 b] w fun e w' => e = .returned (.tuple #[]) ∧ ∃ v', Buf w' b0 B v' c1 (out ++ be2 b) ∧ Eff b0 (fun k => k = B) w w' := by
  obtain ⟨i0, hi, hz0, hz1, hz2⟩ := info_parts infoByte
  have k0 := h.c0
  have z0 := h.z 0
  have hlt := h.lt
  have hlo := h.low
  have HB := Lib.hid (h.alloc (.cells #[.int .u8 ((byte (b / 256)).toNat : Int), .int .u8 ((byte b).toNat : Int)] 5))
  have HE : Hid (Eff b0 (fun k => k = B) w (w.alloc (.cells #[.int .u8 ((byte (b / 256)).toNat : Int), .int .u8 ((byte b).toNat : Int)] 5))) := Lib.hid (Eff.of_below ((Below.refl _ _).alloc (Nat.le_refl _) _) (by omega))
  have hbe : be2 b = [byte (b / 256), byte b] := rfl
  rw [hbe]
  obtain ⟨c, hc⟩ : ∃ c, byte b = c := ⟨_, rfl⟩
  obtain ⟨d, hd⟩ : ∃ d, byte (b / 256) = d := ⟨_, rfl⟩
  have hdv : Value.int .u8 (IntKind.u8.wrap (b / 256)) = Value.int .u8 (d.toNat : Int) := by rw [byte_wrap, hd]
  have hcw : IntKind.u8.wrap b = (c.toNat : Int) := by rw [byte_wrap, hc]
  rw [hc, hd] at HB HE
  rw [hc, hd]
  have hcv : Value.int .u8 (IntKind.u8.wrap b) = Value.int .u8 (c.toNat : Int) := by rw [hcw]
  have hown := h.own
  obtain ⟨a, cp, rfl⟩ := own_slice1 hown
  clear hc hcw hd hbe h
  go_enter Try.func43, Try.ntmps43
  go_wp2_with (at_builtin; refine wpList_append_own _ rfl _ _ 39 rfl b0 5 i0 (.int .u8 0) 1 1 Try.underlying39 hi hz0 hz1 hz2 rfl (by decide) _ _ _ rfl (hown.alloc _) ⟨w.heap.size, 0, none⟩ 2 2 [.int .u8 (d.toNat : Int), .int .u8 (c.toNat : Int)] rfl rfl ?d1 ?d2 ?d3 ?d4 ?d5 ?_)
  case d1 => first | exact fun j u h => h | exact cell_two_new _ _ _ _
  case d2 => simp [Value.oneCell']
  case d3 => unfold maxLen; omega
  case d4 => omega
  case d5 => simp; omega
  intro v' w1 hown' hgrow _
  have hown2 : w1.ownsRow b0 5 1 v' (out ++ [d, c]).length (Lib.byteCells (out ++ [d, c])) := by
    rw [← cells_snoc]; simpa [u8V] using hown'
  have hP := HB.out.put hgrow hown2
  have hE := HE.out.trans hP.2
  have hb1 := HB.out.grown hgrow
  have k1 : w1.cell? ⟨B, 0, none⟩ = some (.slice a out.length cp) := by simp only [World.cell?, hb1]; rfl
  have z1 : w1.frozen? ⟨B, 0, none⟩ = false := by simp only [World.frozen?, hb1]; simp
  obtain ⟨a2, c2, rfl⟩ := own_slice1 hown2
  rw [List.length_append] at hP hE
  have HP := Lib.hid hP.1; have HF := Lib.hid hE
  clear hown' hown2 hgrow hown hP hE hb1 hcv hdv k0 z0 HB HE
  go_wp2_with fail
  go_end0
  exact ⟨rfl, _, HP.out, HF.out⟩
theorem cells_str (out : Bs) (s : ByteArray) : Lib.byteCells out ++ Lib.strCells s = Lib.byteCells (out ++ s.data.toList) := by
  simp [Lib.byteCells, Lib.strCells]

set_option maxRecDepth 100000 in
set_option maxHeartbeats 2000000 in
theorem raw_any (b0 B : Nat) (v c1 : Value) (out : Bs) (s : ByteArray) (w : World) (h : Buf w b0 B v c1 out) (hl : out.length ≤ 1099511627776) (hs : s.size ≤ 1099511627776) :
    Calls Try.prog 90 #[.pointer (some ⟨B, 0, none⟩), .string s] w fun e w' => e = .returned (.tuple #[]) ∧ ∃ v', Buf w' b0 B v' c1 (out ++ s.data.toList) ∧ Eff b0 (fun k => k = B) w w' := by
  obtain ⟨i0, hi, hz0, hz1, hz2⟩ := info_parts infoByte
  have k0 := h.c0
  have z0 := h.z 0
  have hlt := h.lt
  have hlo := h.low
  have HB := Lib.hid h
  have hown := h.own
  have hsl := size_len s
  obtain ⟨a, cp, rfl⟩ := own_slice1 hown
  clear h
  go_enter Try.func90, Try.ntmps90
  go_wp2_with (at_builtin; refine Lib.wpList_append_own_string _ rfl _ _ 39 9 rfl b0 5 i0 Try.underlying39 Try.underlying9 hi hz0 hz1 hz2 _ _ _ rfl hown s rfl ?e3 ?e4 ?e5 ?_)
  case e3 => unfold maxLen; omega
  case e4 => omega
  case e5 => omega
  intro v' w1 hown' hgrow _
  have hown2 : w1.ownsRow b0 5 1 v' (out ++ s.data.toList).length (Lib.byteCells (out ++ s.data.toList)) := by
    rw [← cells_str, List.length_append, hsl]; exact hown'
  have hP := HB.out.put hgrow hown2
  have hb1 := HB.out.grown hgrow
  have k1 : w1.cell? ⟨B, 0, none⟩ = some (.slice a out.length cp) := by simp only [World.cell?, hb1]; rfl
  have z1 : w1.frozen? ⟨B, 0, none⟩ = false := by simp only [World.frozen?, hb1]; simp
  obtain ⟨a2, c2, rfl⟩ := own_slice1 hown'
  have HP := Lib.hid hP.1; have HF := Lib.hid hP.2
  clear hown' hown2 hgrow hown hP hb1 k0 z0 HB hsl
  go_wp2_with fail
  go_end0
  exact ⟨rfl, _, HP.out, HF.out⟩
end Go.Proofs.Ytabhiangjomaeaa.buf
