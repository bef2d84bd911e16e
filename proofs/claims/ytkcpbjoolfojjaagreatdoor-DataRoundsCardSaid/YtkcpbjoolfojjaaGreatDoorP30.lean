/- strconv.FormatInt at base 16 of a small number: walk. strings.Builder again, with what a write leaves as it was: for a builder that is written in a round of a range over a function. name.Show: walk. The short 'show' methods of data's fields: walks. -/
import Derived.Test.YtkcpbjoolfojjaaGreatDoorP29
import Derived.Test.YtkcpbjoolfojjaaGreatDoorP7
import Derived.Test.YtkcpbjoolfojjaaGreatDoorP4
import Derived.Test.YtkcpbjoolfojjaaGreatDoorP22
import Derived.Test.YtkcpbjoolfojjaaGreatDoorP11
import Derived.Test.YtkcpbjoolfojjaaGreatDoorP24
import Derived.Lib.LaidTab
import Derived.Lib.SmallJoins
namespace Go.Proofs.YtkcpbjoolfojjaaGreatDoor.fmt16
open Go.RowKit Go.Proofs.YtkcpbjoolfojjaaGreatDoor.kit Go.Proofs.YtkcpbjoolfojjaaGreatDoor.nspec Go.Proofs.YtkcpbjoolfojjaaGreatDoor.bits Go.Proofs.YtkcpbjoolfojjaaGreatDoor.dshow Go.Proofs.YtkcpbjoolfojjaaGreatDoor.dshowA
set_option linter.unusedVariables false

def tz64 : List Int := [0, 1, 56, 2, 57, 49, 28, 3, 61, 58, 42, 50, 38, 29, 17, 4, 62, 47, 59, 36, 45, 43, 51, 22, 53, 39, 33, 30, 24, 18, 12, 5, 63, 55, 48, 27, 60, 41, 37, 16, 46, 35, 44, 21, 52, 32, 23, 11, 54, 26, 40, 15, 34, 20, 31, 10, 25, 14, 19, 9, 13, 8, 7, 6]
abbrev TzT (w : World) : Prop := Lib.TabIs Tryz.prog w "math/bits.deBruijn64tab" .u8 tz64
theorem gTz : Tryz.prog.globalNamed "math/bits.deBruijn64tab" = some 6 := by kernel_rfl
theorem tz_below {w w' : World} (h : TzT w) (hb : Below w.heap.size w w') : TzT w' := Go.Joins.tab_stays gTz h hb (Nat.le_refl _)
theorem tz_cell {w : World} (h : TzT w) : w.cell? ⟨6, 15, none⟩ = some (.int .u8 4) := h.cell gTz 15 (by decide)

set_option maxRecDepth 100000 in
set_option maxHeartbeats 1000000 in
theorem tz64_16 (w : World) (h : TzT w) : Calls Tryz.prog 115 #[.int .u64 16] w fun e w' => e = .returned (.int .i64 4) ∧ w' = w := by
  have hc : w.cell? ⟨6, (IntKind.u64.wrap (bits .and .u64 16 (IntKind.u64.wrap (-16)) * 285870213051353865) / 288230376151711744).toNat, none⟩ = some (.int .u8 4) := tz_cell h
  clear h
  go_enter Tryz.func115, Tryz.ntmps115
  go_wp2_with fail
  go_ret
  exact ⟨rfl, rfl⟩
set_option maxRecDepth 100000 in
set_option maxHeartbeats 1000000 in
theorem tz_16 (w : World) (h : TzT w) : Calls Tryz.prog 113 #[.int .u64 16] w fun e w' => e = .returned (.int .i64 4) ∧ w' = w := by
  have C := Lib.hid (tz64_16 w h)
  clear h
  go_enter Tryz.func113, Tryz.ntmps113
  go_wp2_with fail
  refine C.out.mono ?_
  rintro e w1 ⟨rfl, rfl⟩
  go_wp2_with fail
  go_ret
  exact ⟨rfl, rfl⟩
set_option maxRecDepth 100000 in
set_option maxHeartbeats 1000000 in
theorem pow2_16 (w : World) : Calls Tryz.prog 112 #[.int .i64 16] w fun e w' => e = .returned (.bool true) ∧ w' = w := by
  go_enter Tryz.func112, Tryz.ntmps112
  go_wp2_with fail
  go_ret
  exact ⟨rfl, rfl⟩
theorem zeros : Tryz.zeroCells159 = Array.replicate 65 (.int .u8 0) := by kernel_rfl
theorem arr_new (w : World) (ty : TypeId) : Bytes (w.alloc (.cells Tryz.zeroCells159 ty)) w.heap.size (List.replicate 65 0) := by
  rw [zeros]
  intro j c h
  have hj : j < 65 := by have := (List.getElem?_eq_some_iff.1 h).1; simpa using this
  have hc : c = 0 := by rw [List.getElem?_replicate, if_pos hj] at h; exact (Option.some.inj h).symm
  subst hc
  refine ⟨?_, by simp⟩
  rw [World.cell?_alloc_new]
  simp [hj]
theorem wraps40 (n : Int) (h₀ : 0 ≤ n) (h₁ : n < 2 ^ 40) : IntKind.u64.wrap n = n := by rw [IntKind.wrap_u64]; omega
theorem and15u {x : Int} (h₀ : 0 ≤ x) (h₁ : x < 65536) : bits .and .u64 x 15 = x % 16 := bits_mask .u64 40 (by decide) wraps40 4 (by decide) x h₀ (by omega)
theorem idx36 (v : Nat) (h : v < 16) : Value.int .u8 (((⟨#[48, 49, 50, 51, 52, 53, 54, 55, 56, 57, 97, 98, 99, 100, 101, 102, 103, 104, 105, 106, 107, 108, 109, 110, 111, 112, 113, 114, 115, 116, 117, 118, 119, 120, 121, 122]⟩ : ByteArray)[v]'(Nat.lt_of_lt_of_le h (by decide))).toNat : Int) = Value.int .u8 ((set16.getD v 0).toNat : Int) := by
  have key : ∀ v : Fin 16, ((⟨#[48, 49, 50, 51, 52, 53, 54, 55, 56, 57, 97, 98, 99, 100, 101, 102, 103, 104, 105, 106, 107, 108, 109, 110, 111, 112, 113, 114, 115, 116, 117, 118, 119, 120, 121, 122]⟩ : ByteArray)[v.val]'(Nat.lt_of_lt_of_le v.isLt (by decide))) = set16.getD v.val 0 := by decide
  rw [key ⟨v, h⟩]
theorem set_drop {l : List UInt8} {i : Nat} {c : UInt8} (h : i < l.length) : (l.set i c).drop i = c :: l.drop (i + 1) := by
  rw [List.drop_eq_getElem_cons (by simpa using h), List.drop_set_of_lt (by omega)]
  simp
theorem hexNF_small {f u : Nat} (h : u < 16) : hexNF (f + 1) u = [set16.getD u 0] := by rw [hexNF, if_pos h]
theorem hexNF_big {f u : Nat} (h : ¬ u < 16) : hexNF (f + 1) u = hexNF f (u / 16) ++ [set16.getD (u % 16) 0] := by rw [hexNF, if_neg h]

theorem slice65 (B j : Nat) (hj : j < 65) (W : World) : (Instr.sliceAt 159 (.pointer (some ⟨B, 0, none⟩)) (some (.int .i64 (j : Int))) none none).run Tryz.prog W = .ok (.slice (some ⟨B, j, none⟩) (65 - j) (65 - j)) W := by
  have hal : Tryz.prog.arrayLen 159 = 65 := by simp [Program.arrayLen, Tryz.underlying159]
  have hel : Tryz.prog.elem 159 = 5 := by simp [Program.elem, Tryz.underlying159]
  rw [run_sliceAt_array_l W 159 ⟨B, 0, none⟩ (by rw [hal, hel]; exact Tryz.underlying159) .i64 (j : Int) (by omega) (by rw [hal]; omega)]
  rw [hal, hel]
  have hs : (sizeOf 5).run Tryz.prog W = .ok 1 W := by simp [sizeOf, go_sem]; rfl
  rw [hs]
  simp only [Result.andThen, slicedAt, Int.toNat_natCast]
  rw [if_neg (by omega), addr_add, Nat.mul_one]
set_option maxRecDepth 100000 in
set_option maxHeartbeats 2400000 in
theorem bits16_any (n : Nat) (hn : n < 65536) (w : World) (hT : TzT w) :
    Calls Tryz.prog 103 #[.slice none 0 0, .int .u64 (n : Int), .int .i64 16, .bool false, .bool false] w fun e w' => e = .returned (.tuple #[.slice none 0 0, .string ⟨(hexN n).toArray⟩]) ∧ Below w.heap.size w w' := by
  obtain ⟨R, HR⟩ : ∃ R, Hid (hexNF 4 n ++ (List.replicate 65 0).drop 65 = R) := ⟨_, Lib.hid rfl⟩
  have e0 : hexN n = R := by rw [← HR.out]; simp [hexN]
  rw [e0]
  have hBA := (Below.refl w.heap.size w).alloc (Nat.le_refl _) (.cells Tryz.zeroCells159 159)
  have HBA := Lib.hid hBA
  have HARR := Lib.hid (arr_new w 159)
  have CP := Lib.hid pow2_16
  have CT := Lib.hid (tz_16 _ (tz_below hT hBA))
  clear e0 hBA hT
  go_enter Tryz.func103, Tryz.ntmps103
  go_wp2_with fail
  refine (CP.out _).mono ?_
  rintro e w1 ⟨rfl, rfl⟩
  go_wp2_with fail
  refine CT.out.mono ?_
  rintro e w1 ⟨rfl, rfl⟩
  go_wp2_with fail
  go_loopg [1, 13] 4 (fun gas uv iv wr => ∃ (u i f : Nat) (l : Bs), uv = .int .u64 (u : Int) ∧ iv = .int .i64 (i : Int) ∧ l.length = 65 ∧ f = gas ∧ gas + 61 = i ∧ 1 ≤ gas ∧ gas ≤ 4 ∧ Hid (u < 16 ^ f) ∧ u < 65536 ∧ Hid (hexNF f u ++ l.drop i = R) ∧ Hid (Bytes wr w.heap.size l) ∧ Hid (Below w.heap.size w wr))
  case atStart => exact ⟨n, 65, 4, List.replicate 65 0, rfl, rfl, by simp, rfl, rfl, by omega, by omega, Lib.hid (by omega), hn, HR, HARR, HBA⟩
  case round =>
    obtain ⟨u, i, f, l, rfl, rfl, hl, hf, hgi, hg1, hg4, HU, hu, HW, HBY, HB⟩ := hrel
    subst hf
    have HLN := Lib.hid hl; clear hl
    have hsz := HB.out.size
    obtain ⟨j, rfl⟩ : ∃ j, i = j + 1 := ⟨i - 1, by omega⟩
    have hj65 : j < 65 := by omega
    obtain ⟨c0, hc0⟩ : ∃ c, l[j]? = some c := ⟨_, List.getElem?_eq_getElem (by have := HLN.out; omega)⟩
    obtain ⟨hcell, hfrz⟩ := HBY.out j c0 hc0
    have hji : Value.int .i64 ((j : Int) + 1 - 1) = Value.int .i64 (j : Int) := by congr 1; omega
    obtain ⟨f', rfl⟩ : ∃ f', f = f' + 1 := ⟨f - 1, by omega⟩
    clear hc0
    by_cases hbig : u < 16
    · have HW2 := Lib.hid (by have h := HW.out; rwa [hexNF_small hbig] at h)
      have hx := idx36 u hbig
      obtain ⟨d, hd⟩ : ∃ d, set16.getD u 0 = d := ⟨_, rfl⟩
      rw [hd] at hx HW2
      clear hd
      have HBY2 := Lib.hid (bytes_set HBY.out j d)
      have HB2 := Lib.hid (HB.out.setCell (p := ⟨w.heap.size, j, none⟩) (Nat.le_refl _) (.int .u8 (d.toNat : Int)))
      have HR2 : Hid ((l.set j d).drop j = R) := Lib.hid (by rw [set_drop (by have := HLN.out; omega)]; exact HW2.out)
      have hsl := slice65 w.heap.size j hj65 (wr.setCell ⟨w.heap.size, j, none⟩ (.int .u8 (d.toNat : Int)))
      have hll : (l.set j d).length = 65 := by rw [List.length_set]; exact HLN.out
      have hRl : R.length = 65 - j := by rw [← HR2.out, List.length_drop, hll]
      have hcv := run_convert_bytes_back (P := Tryz.prog) (wr.setCell ⟨w.heap.size, j, none⟩ (.int .u8 (d.toNat : Int))) 50 9 5 ⟨w.heap.size, j, none⟩ (65 - j) R Tryz.underlying50 Tryz.underlying5 Tryz.underlying9 (fun k hk => by
        have hx : (l.set j d)[j + k]? = some R[k] := by
          rw [← List.getElem?_drop, HR2.out]; exact List.getElem?_eq_getElem hk
        have := (HBY2.out (j + k) _ hx).1
        have ha : (⟨w.heap.size, j, none⟩ : Addr).add k = ⟨w.heap.size, j + k, none⟩ := by unfold Addr.add; split <;> simp_all
        rw [ha]; exact this)
      rw [hRl] at hcv
      clear hll hRl
      go_wp2_with fail
      go_ret2
      exact ⟨rfl, HB2.out⟩
    · have h16 : (16 : Int) ≤ (u : Int) := by omega
      obtain ⟨v, hv⟩ : ∃ v : Nat, u / 16 = v := ⟨_, rfl⟩
      obtain ⟨z, hz⟩ : ∃ z : Nat, u % 16 = z := ⟨_, rfl⟩
      have hz16 : z < 16 := by omega
      have hf1 : 1 ≤ f' := by
        rcases Nat.lt_or_ge 0 f' with h | h
        · exact h
        · have h0 : f' = 0 := by omega
          have := HU.out
          rw [h0] at this; omega
      have HU2 : Hid (v < 16 ^ f') := Lib.hid (by have h := HU.out; rw [Nat.pow_succ] at h; omega)
      have HW2 := Lib.hid (by have h := HW.out; rwa [hexNF_big hbig, hv, hz, List.append_assoc] at h)
      have hx := idx36 z hz16
      obtain ⟨d, hd⟩ : ∃ d, set16.getD z 0 = d := ⟨_, rfl⟩
      rw [hd] at hx HW2
      clear hd
      have hand := congrArg (Value.int .u64) (show bits .and .u64 (u : Int) 15 = (z : Int) by rw [and15u (by omega) (by omega)]; omega)
      have hdiv := congrArg (Value.int .u64) (show (u : Int) / 16 = (v : Int) by omega)
      have HBY2 := Lib.hid (bytes_set HBY.out j d)
      have HB2 := Lib.hid (HB.out.setCell (p := ⟨w.heap.size, j, none⟩) (Nat.le_refl _) (.int .u8 (d.toNat : Int)))
      have HR2 : Hid (hexNF f' v ++ (l.set j d).drop j = R) := Lib.hid (by rw [set_drop (by have := HLN.out; omega)]; exact HW2.out)
      have hv6 : v < 65536 := by omega
      have HLN2 : Hid ((l.set j d).length = 65) := Lib.hid (by rw [List.length_set]; exact HLN.out)
      clear hv hz
      go_wp2_with fail
      go_roundg f'
      case rel => exact ⟨v, j, f', _, by first | rfl | go_num, by first | rfl | go_num, HLN2.out, by omega, by omega, by omega, by omega, HU2, hv6, HR2, HBY2, HB2⟩
      case measure => omega
set_option maxRecDepth 100000 in
set_option maxHeartbeats 1000000 in
theorem ifmt16_any (n : Nat) (hn : n < 65536) (w : World) (hT : TzT w) :
    Calls Tryz.prog 89 #[.int .i64 (n : Int), .int .i64 16] w fun e w' => e = .returned (.string ⟨(hexN n).toArray⟩) ∧ Below w.heap.size w w' := by
  have C := Lib.hid (bits16_any n hn w hT)
  clear hT
  go_enter Tryz.func89, Tryz.ntmps89
  go_wp2_with fail
  refine C.out.mono ?_
  rintro e w1 ⟨rfl, hB⟩
  have HB := Lib.hid hB
  clear hB
  go_wp2_with fail
  go_ret
  exact ⟨rfl, HB.out⟩
set_option maxRecDepth 100000 in
set_option maxHeartbeats 1000000 in
theorem fmt16_any (n : Nat) (hn : n < 65536) (w : World) (hT : TzT w) :
    Calls Tryz.prog 164 #[.int .i64 (n : Int), .int .i64 16] w fun e w' => e = .returned (.string ⟨(hexN n).toArray⟩) ∧ Below w.heap.size w w' := by
  have C := Lib.hid (ifmt16_any n hn w hT)
  clear hT
  go_enter Tryz.func164, Tryz.ntmps164
  go_wp2_with fail
  refine C.out.mono ?_
  rintro e w1 ⟨rfl, hB⟩
  have HB := Lib.hid hB
  clear hB
  go_wp2_with fail
  go_ret
  exact ⟨rfl, HB.out⟩
end Go.Proofs.YtkcpbjoolfojjaaGreatDoor.fmt16
namespace Go.Proofs.YtkcpbjoolfojjaaGreatDoor.bldN
open Go.RowKit Go.Proofs.YtkcpbjoolfojjaaGreatDoor.kit Go.Proofs.YtkcpbjoolfojjaaGreatDoor.bld

/-- a builder at b, its buffer from N on -/
def BN (N b : Nat) (p : Value) (l : List UInt8) (w : World) : Prop :=
  b < N ∧ ∃ v, w.heap[b]? = some (.cells #[p, v] 52 (0, 0)) ∧ w.ownsRow N 5 1 v l.length (Lib.byteCells l)
def IsBN (N b : Nat) (l : List UInt8) (w : World) : Prop := BN N b (.pointer none) l w ∨ BN N b (.pointer (some ⟨b, 0, none⟩)) l w
/-- a write turns b and the buffer alone -/
structure Eff (N b : Nat) (w w' : World) : Prop where
  below : Below b w w'
  others : KeepsOthers w w'
  low : ∀ k, k < N → k ≠ b → w'.heap[k]? = w.heap[k]?
theorem Eff.refl (N b : Nat) (w : World) : Eff N b w w := ⟨Below.refl _ _, KeepsOthers.refl _, fun _ _ _ => rfl⟩
theorem Eff.trans {N b : Nat} {x y z : World} (h : Eff N b x y) (k : Eff N b y z) : Eff N b x z :=
  ⟨h.below.trans k.below, h.others.trans k.others, fun i h1 h2 => (k.low i h1 h2).trans (h.low i h1 h2)⟩
theorem Eff.setCell {N b : Nat} {x y : World} (h : Eff N b x y) (j : Nat) (v : Value) : Eff N b x (y.setCell ⟨b, j, none⟩ v) :=
  h.trans ⟨(Below.refl b y).setCell (p := ⟨b, j, none⟩) (Nat.le_refl _) v, KeepsOthers.setCell _ _ _, fun k _ hk => Below.heap_setCell y ⟨b, j, none⟩ v k hk⟩
theorem Eff.append {N b k : Nat} {x y z : World} {v : Value} {xs : List Value} {tmp : Obj} {e : TypeId} {size : Nat} (h : Eff N b x y) (hN : N ≤ y.heap.size) (hb : b < N) (hrow : y.ownsRow N e size v k xs) (hgrow : (y.alloc tmp).grownBy z v.ownBlock) : Eff N b x z := by
  have hlt : ∀ j, some j = v.ownBlock → N ≤ j := fun j e => (hrow.lt j e.symm).1
  refine h.trans ⟨?_, ?_, ?_⟩
  · exact ((Below.refl b y).alloc (by omega) tmp).grown hgrow (by simp; omega) fun j ej => by have := hlt j ej.symm; omega
  · refine (KeepsOthers.alloc y tmp).trans (KeepsOthers.of_grownBy hgrow fun j o ej hj => ?_)
    rcases (hrow.alloc tmp).2 with ⟨rfl, _⟩ | ⟨g, cap, cur, rfl, _, hgb, _⟩
    · simp [Value.ownBlock] at ej
    · obtain rfl : g = j := by simpa [Value.ownBlock] using ej
      rw [hgb] at hj; cases hj; rfl
  · intro k hk _
    rw [hgrow.block k (by simp; omega) (fun e => by have := hlt k e; omega), Lib.alloc_old y _ k (by omega)]
theorem BN.used {N b : Nat} {p : Value} {l : List UInt8} {w : World} (h : BN N b p l w) (q : Value) : BN N b q l (w.setCell ⟨b, 0, none⟩ q) := by
  obtain ⟨h1, v, h2, h3⟩ := h
  refine ⟨h1, v, by simp [World.setCell, Array.getElem?_modify, h2], ?_⟩
  exact h3.kept (grownBy_setCell' w b q) (.inr (fun e => by have := (h3.lt b e).1; omega))
theorem BN.put {N b : Nat} {p v v' : Value} {l : List UInt8} {w : World} (h1 : b < N) (h2 : w.heap[b]? = some (.cells #[p, v] 52 (0, 0))) (h3 : w.ownsRow N 5 1 v' l.length (Lib.byteCells l)) : BN N b p l (w.setCell ⟨b, 1, none⟩ v') := by
  refine ⟨h1, v', by simp [World.setCell, Array.getElem?_modify, h2], ?_⟩
  exact h3.kept ⟨rfl, rfl, rfl, by simp [World.setCell], fun k _ hk => Below.heap_setCell _ _ _ _ (fun e => hk (by simp [e]))⟩ (row := some b) (.inr (fun e => by have := (h3.lt b e).1; omega))
theorem BN.lt {N b : Nat} {p : Value} {l : List UInt8} {w : World} (h : BN N b p l w) : b < w.heap.size := by
  obtain ⟨_, v, h2, _⟩ := h; exact (Array.getElem?_eq_some_iff.1 h2).1
theorem BN.at {N b : Nat} {p : Value} {l : List UInt8} {w : World} (h : BN N b p l w) : Lib.BuilderAt 52 5 b b p (Lib.byteCells l) w := by
  obtain ⟨h1, v, h2, h3⟩ := h
  refine ⟨Nat.le_refl _, v, h2, ?_, fun e => by have := (h3.lt b e).1; omega⟩
  rw [Lib.byteCells_length]
  refine ⟨h3.1, h3.2.imp id ?_⟩
  rintro ⟨g, cap, cur, h4, h5, h6⟩
  exact ⟨g, cap, cur, h4, by omega, h6⟩
theorem IsBN.fresh {b : Nat} {w : World} (N : Nat) (h : w.heap[b]? = some (.cells #[.pointer none, .slice none 0 0] 52 (0, 0))) (hb : b < N) : IsBN N b [] w :=
  .inl ⟨hb, _, h, rfl, .inl ⟨rfl, rfl⟩⟩
theorem own_grow {N b : Nat} {p : Value} {l : List UInt8} {W W' : World} {row : Option Nat} (h : BN N b p l W) (hg : W.grownBy W' row) (hr : ∀ r, row = some r → ∃ o : Obj, W.heap[r]? = some o ∧ o.isCells = false) : BN N b p l W' := by
  obtain ⟨h1, v, h2, h3⟩ := h
  refine ⟨h1, v, (hg.block b (Array.getElem?_eq_some_iff.1 h2).1 (fun e => ?_)).trans h2, h3.kept hg ?_⟩
  · obtain ⟨o, ho, hc⟩ := hr b e.symm
    rw [h2] at ho; cases ho; cases hc
  · rcases h3.2 with ⟨rfl, _⟩ | ⟨g, cap, cur, rfl, _, h5, _⟩
    · exact .inl rfl
    · refine .inr (fun e => ?_)
      obtain ⟨o, ho, hc⟩ := hr g e.symm
      rw [h5] at ho; cases ho; cases hc
theorem bn_own {β : Type} (N b : Nat) (f : β → List UInt8) : Own (fun s W => IsBN N b (f s) W) := fun _ _ _ _ hs hg hr =>
  hs.imp (fun h => own_grow h hg hr) (fun h => own_grow h hg hr)

theorem copyCheckN (N b : Nat) (l : List UInt8) (w : World) (h : IsBN N b l w) :
    Calls Tryz.prog 42 #[.pointer (some ⟨b, 0, none⟩)] w fun e w' => e = .returned (.tuple #[]) ∧ BN N b (.pointer (some ⟨b, 0, none⟩)) l w' ∧ Eff N b w w' := by
  rcases h with h | h
  · refine (copyCheck_fresh b w h.at.cell0 h.at.shape h.at.frozen0).mono ?_
    rintro e w' ⟨rfl, rfl⟩
    exact ⟨rfl, h.used _, (Eff.refl _ _ _).setCell _ _⟩
  · refine (copyCheck_used b w h.at.cell0).mono ?_
    rintro e w' ⟨rfl, rfl⟩
    exact ⟨rfl, h, Eff.refl _ _ _⟩

set_option maxHeartbeats 2000000 in
set_option maxRecDepth 100000 in
theorem wbN (N b : Nat) (l : List UInt8) (c : UInt8) (w : World) (h : IsBN N b l w) (hlen : l.length + 1 ≤ 140737488355328) (hN : N ≤ w.heap.size) :
    Calls Tryz.prog 58 #[.pointer (some ⟨b, 0, none⟩), .int .u8 (c.toNat : Int)] w fun e w' => e = .returned .nilIface ∧ IsBN N b (l ++ [c]) w' ∧ Eff N b w w' := by
  obtain ⟨i0, hi, hz0, hz1, hz2⟩ := info_parts infoByte
  obtain ⟨n, hn⟩ : ∃ n : Int, (c.toNat : Int) = n := ⟨_, rfl⟩
  have hbs : Lib.byteCells (l ++ [c]) = Lib.byteCells l ++ [.int .u8 n] := by rw [bytes_snoc, hn]
  rw [hn]
  have HBS := Lib.hid hbs
  clear hbs hn
  go_enter Tryz.func58, Tryz.ntmps58
  go_wp2_with fail
  refine (copyCheckN N b l _ h).mono ?_
  rintro e w1 ⟨rfl, h1, hE1⟩
  obtain ⟨hbN, v, hbk, hown⟩ := h1
  have c0 : w1.cell? ⟨b, 0, none⟩ = some (.pointer (some ⟨b, 0, none⟩)) := by rw [Lib.cell_of_heap hbk]; rfl
  have c1 : w1.cell? ⟨b, 1, none⟩ = some v := by rw [Lib.cell_of_heap hbk]; rfl
  have hsz := hE1.below.size
  go_wp2_with (at_builtin; refine wpList_append_own _ rfl _ _ 50 rfl N 5 i0 (.int .u8 0) 1 1 Tryz.underlying50 hi hz0 hz1 hz2 rfl (by decide) _ _ _ rfl (hown.alloc _) ⟨w1.heap.size, 0, none⟩ 1 1 [.int .u8 n] rfl rfl ?c1 ?c2 ?c3 ?c4 ?c5 ?_)
  case c1 =>
    intro j u hj
    match j, hj with
    | 0, hj => simp at hj; subst hj; simp [Addr.add]
  case c2 => intro u hu; simp at hu; subst hu; rfl
  case c3 => unfold maxLen; omega
  case c4 => omega
  case c5 => simp; omega
  intro v' w2 hown' hgrow _
  have hE2 := hE1.append (by omega) hbN hown hgrow
  have hlt := (Array.getElem?_eq_some_iff.1 hbk).1
  have hb2 : w2.heap[b]? = some (.cells #[.pointer (some ⟨b, 0, none⟩), v] 52 (0, 0)) := by
    rw [hgrow.block b (by simp; omega) (fun e => by have := (hown.lt b e.symm).1; omega), Lib.alloc_old w1 _ b hlt]
    exact hbk
  have d0 : w2.cell? ⟨b, 0, none⟩ = some (.pointer (some ⟨b, 0, none⟩)) := by rw [Lib.cell_of_heap hb2]; rfl
  have d1 : w2.cell? ⟨b, 1, none⟩ = some v := by rw [Lib.cell_of_heap hb2]; rfl
  have f1 : w2.frozen? ⟨b, 1, none⟩ = false := Lib.frozen_of_heap hb2 1
  obtain ⟨g, cap, rfl⟩ : ∃ g cap, v' = .slice (some ⟨g, 0, none⟩) (l.length + 1) cap := by
    rcases hown'.2 with ⟨_, h0⟩ | ⟨g, cap, cur, hv, _⟩
    · omega
    · exact ⟨g, cap, hv⟩
  go_wp2
  go_ret
  refine ⟨rfl, .inr (BN.put hbN hb2 ?_), hE2.setCell _ _⟩
  rw [HBS.out, List.length_append]
  exact hown'

theorem others_freeze (w : World) (g n : Nat) (c : Array Value) (e : TypeId) (fz : Nat × Nat) (hg : w.heap[g]? = some (.cells c e fz)) : KeepsOthers w (w.freeze ⟨g, 0, none⟩ n) := by
  unfold World.freeze
  split
  · exact KeepsOthers.refl _
  · refine ⟨by simp, ?_⟩
    intro k o hk ho
    by_cases e : k = g
    · subst e; rw [hg] at hk; cases hk; cases ho
    · simp [Array.getElem?_modify, Ne.symm e, hk]
set_option maxHeartbeats 2000000 in
set_option maxRecDepth 100000 in
theorem strN (N b : Nat) (l : List UInt8) (w : World) (h : IsBN N b l w) (h0 : l ≠ []) :
    Calls Tryz.prog 20 #[.pointer (some ⟨b, 0, none⟩)] w fun e w' => e = .returned (.string ⟨l.toArray⟩) ∧ Below b w w' ∧ KeepsOthers w w' := by
  obtain ⟨p, hB, v, hbk, hown⟩ : ∃ p, BN N b p l w := by
    rcases h with h | h
    · exact ⟨_, h⟩
    · exact ⟨_, h⟩
  have hl0 : l.length ≠ 0 := by simpa using h0
  obtain ⟨g, cap, cur, rfl, hbg, hg, hnc, hcm, hcs, htake⟩ : ∃ g cap cur, v = .slice (some ⟨g, 0, none⟩) l.length cap ∧ N ≤ g ∧ w.heap[g]? = some (.cells cur 5 (0, 0)) ∧ l.length ≤ cap ∧ cap ≤ maxLen ∧ cur.size = cap * 1 ∧ cur.toList.take (l.length * 1) = Lib.byteCells l := by
    rcases hown.2 with ⟨_, hz⟩ | ⟨g, cap, cur, hv, r⟩
    · exact absurd hz hl0
    · exact ⟨g, cap, cur, hv, r⟩
  have hko := others_freeze w.drew g l.length cur 5 (0, 0) hg
  have c1 : w.drew.cell? ⟨b, 1, none⟩ = some (.slice (some ⟨g, 0, none⟩) l.length cap) := by
    have : w.drew.heap[b]? = some (.cells #[p, .slice (some ⟨g, 0, none⟩) l.length cap] 52 (0, 0)) := hbk
    rw [Lib.cell_of_heap this]; rfl
  have hSD : (Builtin.unsafeSliceData_ #[50] 97 #[.slice (some ⟨g, 0, none⟩) l.length cap]).run Tryz.prog w.drew = .ok (.pointer (some ⟨g, 0, none⟩)) w.drew :=
    Lib.run_unsafeSliceData_row _ _ _ _ _ _ (by omega)
  have hUS : (Builtin.unsafeString_ #[97, 3] 9 #[.pointer (some ⟨g, 0, none⟩), .int .i64 l.length]).run Tryz.prog w.drew = .ok (.string ⟨l.toArray⟩) (w.drew.freeze ⟨g, 0, none⟩ l.length) := by
    refine Lib.run_unsafeString_row w.drew 97 3 9 5 Tryz.underlying97 (by kernel_rfl) g cur.size (by have hg' : w.drew.heap[g]? = some (.cells cur 5 (0, 0)) := hg; simp [World.shape?, hg']) l h0 (by omega) (by unfold maxLen at hcm; omega) ?_
    intro j x hx
    have := hown.cells (g := g) rfl j (.int .u8 x.toNat) (by simp [Lib.byteCells, hx])
    exact this
  clear hown
  go_enter Tryz.func20, Tryz.ntmps20
  go_wp2
  go_region
  all_goals (go_wp2; go_ret; exact ⟨rfl, Lib.below_freeze (Below.drew (Below.refl b w)) (p := ⟨g, 0, none⟩) (by simp; omega) _, ⟨hko.size, hko.same⟩⟩)
end Go.Proofs.YtkcpbjoolfojjaaGreatDoor.bldN
namespace Go.Proofs.YtkcpbjoolfojjaaGreatDoor.nshow
open Go.RowKit Go.Shelf Go.Proofs.YtkcpbjoolfojjaaGreatDoor.kit Go.Proofs.YtkcpbjoolfojjaaGreatDoor.labels Go.Proofs.YtkcpbjoolfojjaaGreatDoor.check Go.Proofs.YtkcpbjoolfojjaaGreatDoor.nspec Go.Proofs.YtkcpbjoolfojjaaGreatDoor.rsplit Go.Proofs.YtkcpbjoolfojjaaGreatDoor.low Go.Proofs.YtkcpbjoolfojjaaGreatDoor.refA Go.Proofs.YtkcpbjoolfojjaaGreatDoor.nameA Go.Proofs.YtkcpbjoolfojjaaGreatDoor.nameL Go.Proofs.YtkcpbjoolfojjaaGreatDoor.showA Go.Proofs.YtkcpbjoolfojjaaGreatDoor.showB Go.Proofs.YtkcpbjoolfojjaaGreatDoor.bld Go.Proofs.YtkcpbjoolfojjaaGreatDoor.bldN Go.Proofs.YtkcpbjoolfojjaaGreatDoor.rcmp
attribute [local go_sem] Oper.semAt_some

theorem labs_room {N : Nat} (pre : List (Lab N)) : room (labsOf (raw pre)) ≤ 64 * pre.length := by
  induction pre with
  | nil => simp [labsOf, raw, room]
  | cons x r ih =>
    have hx := x.property.2
    have hx2 : x.val.2.data.toList.length ≤ 63 := by rw [size_len]; exact hx
    simp only [labsOf, raw, room, List.map_cons, List.filter_cons, List.length_cons] at ih ⊢
    split
    · simp only [List.map_cons, List.sum_cons]; omega
    · omega
theorem labs_stop : ∀ (k : Nat) (ls : List Bs) (l : List (Nat × ByteArray)) (y : Nat × ByteArray), okL ls → (l ++ [y]) <+: pairsL k ls → y.2.data.toList = [] → labsOf l = ls
  | k, [], l, y, _, h, hy => by
    simp only [pairsL] at h
    have := h.length_le
    simp at this
    obtain rfl : l = [] := by
      cases l with
      | nil => rfl
      | cons a b => simp at this
    rfl
  | k, x :: r, l, y, ho, h, hy => by
    obtain ⟨⟨h1, _⟩, h3⟩ := okL_cons.1 ho
    simp only [pairsL] at h
    cases l with
    | nil =>
      simp only [List.nil_append, List.cons_prefix_cons] at h
      rw [h.1] at hy
      simp at hy
      subst hy; simp at h1
    | cons a b =>
      rw [List.cons_append, List.cons_prefix_cons] at h
      have ih := labs_stop _ r b y h3 h.2 hy
      have hx : x.isEmpty = false := by
        cases x with
        | nil => simp at h1
        | cons a b => rfl
      rw [h.1]
      simp only [labsOf, List.map_cons, List.filter_cons, hx] at ih ⊢
      rw [ih]; rfl
theorem idx_all : ∀ (l : List UInt8) (c : UInt8), -1 ≤ Lib.indexByte l c ∧ ((0 ≤ Lib.indexByte l c) ↔ l.contains c = true)
  | [], c => by simp [Lib.indexByte]
  | b :: l, c => by
    have ih := idx_all l c
    simp only [Lib.indexByte]
    by_cases h : b = c
    · simp [h]
    · have h' : (b == c) = false := by simpa using h
      rw [h', if_neg (by simp)]
      have hc : (b :: l).contains c = l.contains c := by simp [Ne.symm h]
      rw [hc, ← ih.2]
      by_cases h2 : Lib.indexByte l c = -1
      · rw [if_pos (by simpa using h2), h2]; omega
      · rw [if_neg (by simpa using h2)]; omega
theorem idx_ge (c : UInt8) : (0 ≤ Lib.indexByte spec8 c) ↔ spec8.contains c = true := (idx_all spec8 c).2
theorem show_ne {ls : List Bs} (h : ls ≠ []) : showL ls ≠ [] := by
  cases ls with
  | nil => exact absurd rfl h
  | cons x r => simp [showL, labSh]
theorem show_snoc (ls : List Bs) (x : Bs) : showL (ls ++ [x]) = showL ls ++ (x.flatMap escB ++ [46]) := by simp [showL, labSh]

set_option maxRecDepth 100000 in
set_option maxHeartbeats 4000000 in
theorem nshow_yes (s : ByteArray) (ls : List Bs) (w : World) (h : IsN s.data.toList ls) (h0 : ls ≠ []) :
    CallsIn Fence.wide 3 Tryz.prog 144 #[.string s] w fun e w' => e = .returned (.string ⟨(showL ls).toArray⟩) ∧ Below w.heap.size w w' := by
  have hll := split_len h
  have hs : s.size ≤ 255 := by have := h.2.2; rwa [size_len] at this
  have HP := Lib.hid (pairs_isN h)
  have HO := Lib.hid h.2.1
  have HK := Lib.hid (chk_yes h)
  have hroot : (s.toList == [0]) = false := by
    rw [Lib.toList_data, h.1]
    cases ls with
    | nil => exact absurd rfl h0
    | cons x r =>
      have := put_pos r
      simp only [put, beq_eq_false_iff_ne, ne_eq, List.cons.injEq, List.append_eq_nil_iff, not_and]
      intro _ _ h; rw [h] at this; simp at this
  have H0 := Lib.hid h0
  clear h h0
  refine callsIn_of_wp_marks Tryz.func144 rfl trivial ?_ rfl
  simp only [Tryz.ntmps144, List.size_toArray, List.length_cons, List.length_nil, Nat.reduceAdd, Nat.reduceSub, Array.replicate_succ, Array.replicate_zero, List.push_toArray, List.append_toArray, List.nil_append, List.cons_append]
  gi_wp2_with fail
  refine ⟨trivial, ?_⟩
  refine (callsIn_wide.2 (check_any s _ (by omega))).mono ?_
  rintro e w1 ⟨rfl, hB1⟩
  rw [HK.out]
  have hz1' := hB1.size
  gi_wp2_with fail
  refine ⟨trivial, ?_⟩
  refine (labels_in Fence.wide _ trivial rfl _ _).mono ?_
  rintro e w' ⟨rfl, rfl⟩
  gi_wp2
  obtain ⟨w2, hw2⟩ : ∃ w2, (w1.alloc (.cells #[.pointer none, .slice none 0 0] 52)).alloc (.cells #[.string s] 9) = w2 := ⟨_, rfl⟩
  rw [hw2]
  have hz : w2.heap.size = w1.heap.size + 2 := by rw [← hw2]; simp
  have hB : Below w.heap.size w w2 := by rw [← hw2]; exact (hB1.alloc (by omega) _).alloc (by simp; omega) _
  have hbh : w2.heap[w1.heap.size]? = some (.cells #[.pointer none, .slice none 0 0] 52 (0, 0)) := by
    rw [← hw2, Lib.alloc_old _ _ _ (by rw [World.size_alloc]; omega)]; exact Array.getElem?_push_size
  have h1 : IsBN w2.heap.size w1.heap.size [] w2 := IsBN.fresh _ hbh (by omega)
  have h3 : w2.cell? ⟨w1.heap.size + 1, 0, none⟩ = some (.string s) := by
    rw [← hw2]; have := (Boxed.new (w1.alloc (.cells #[.pointer none, .slice none 0 0] 52)) 9 (.string s)).cell; rw [World.size_alloc] at this; exact this
  clear hw2 hbh
  refine wpIn_rangeFunc_ownG rfl (by omega) (gf := 60) (lb := #[.pointer (some ⟨w1.heap.size + 1, 0, none⟩)]) rfl trivial (enters_of Tryz.func60 (by kernel_rfl) rfl)
    (labels_stops Fence.wide _ trivial rfl (by omega) (w1.heap.size + 1) s (by omega) w2 (by omega) h3) (keepBox_t _) (fun W l o o' hl _ _ _ => keepBox_b W l o' (by omega)) (Below.refl _ _) (fun _ => rfl)
    (fun pre W => IsBN w2.heap.size w1.heap.size (showL (labsOf (raw pre))) W ∧ Below w.heap.size w W ∧ w2.heap.size ≤ W.heap.size ∧ (labsOf (raw pre)).length = pre.length)
    (fun c pre W => (c = .exit 0 ∧ ∃ p x, pre = p ++ [x] ∧ x.val.2.data.toList = [] ∧ IsBN w2.heap.size w1.heap.size (showL (labsOf (raw p))) W) ∧ Below w.heap.size w W)
    (((bn_own _ _ (fun pre : List (Lab s.size) => showL (labsOf (raw pre)))).from _).and ((ownFrom_below (Nat.le_refl _) (by omega)).and (OwnFrom.and (fun _ _ _ _ hs hg _ => Nat.le_trans hs hg.size) (ownFrom_pure _ _))))
    (fun c => OwnFrom.and (fun pre X Y row hs hg hr => by
      obtain ⟨h0, p, x, h1, h2, h3⟩ := hs
      exact ⟨h0, p, x, h1, h2, ((bn_own w2.heap.size w1.heap.size (fun _ : Unit => showL (labsOf (raw p)))).from w2.heap.size) () X Y row h3 hg hr⟩) (ownFrom_below (Nat.le_refl _) (by omega)))
    ⟨h1, hB, Nat.le_refl _, rfl⟩
    (fun x => { tmps := #[.string s, undef, .string ⟨#[]⟩, .pointer (some ⟨w1.heap.size, 0, none⟩), undef, .string x.val.2, undef, undef, .string s, .int .i64 0, .bool false, .string s, .bool false, .string s, .func (.func 60) #[] #[.pointer (some ⟨w1.heap.size + 1, 0, none⟩)], .int .i64 (x.val.1 : Int), .string x.val.2, undef, undef, undef, undef, undef, undef, undef, undef, undef, undef, undef, undef, undef, undef, undef, undef, undef, undef, undef, undef, undef, undef, undef, undef, undef, undef, undef, undef, undef, undef, undef, undef, undef, undef, undef, undef, undef, undef, undef, undef, undef, undef, undef], defers := [] }) ?assign ?body ?done ?stop
  case assign =>
    intro l x W K hK
    gi_wp2
    simpa using hK
  case body =>
    rintro l pre x W ⟨hbn, hBl, hW2, hcnt⟩ hlen
    have hx63 := x.property.2
    have hrm := labs_room pre
    have hsl := show_len (labsOf (raw pre))
    by_cases he : x.val.2.toList = []
    · have he' : x.val.2.data.toList = [] := by rw [← Lib.toList_data]; exact he
      gi_wp2
      exact ⟨KeepsFrom.refl _ _, ⟨rfl, pre, x, rfl, he', hbn⟩, hBl⟩
    · have he' : x.val.2.toList.isEmpty = false := by simpa using he
      have HY := Lib.hid (labsOf_yes (pre := pre) he')
      clear he
      obtain ⟨P, hP⟩ : ∃ P, showL (labsOf (raw pre)) = P := ⟨_, rfl⟩
      rw [hP] at hbn hsl
      have HPP := Lib.hid hP; clear hP
      have hPl : P.length ≤ 70000 := by omega
      clear hsl hrm
      gi_wp2
      obtain ⟨X, hX⟩ : ∃ X, x.val.2 = X := ⟨_, rfl⟩
      rw [hX] at hx63 HY
      rw [hX]
      have HXX := Lib.hid hX; clear hX he'
      have hP0 : P ++ (X.data.toList.take 0).flatMap escB = P := by rw [List.take_zero]; exact List.append_nil P
      gi_loopg [21] (X.size + 1) (fun gas kv wr => ∃ (k : Nat), kv = .int .i64 k ∧ k ≤ X.size ∧ k + gas = X.size + 1 ∧ IsBN w2.heap.size w1.heap.size (P ++ (X.data.toList.take k).flatMap escB) wr ∧ Eff w2.heap.size w1.heap.size W wr)
      case atStart => exact ⟨0, rfl, by omega, by omega, by rw [hP0]; exact hbn, Eff.refl _ _ _⟩
      case round =>
        clear hbn hP0
        obtain ⟨k, rfl, hk, hkg, hb0, hE0⟩ := hrel
        have HKG := Lib.hid hkg; clear hkg
        by_cases hlt : k < X.size
        · obtain ⟨c, hc⟩ : ∃ c, X[k] = c := ⟨_, rfl⟩
          have hck : X.data.toList[k]? = some c := by rw [← hc]; exact List.getElem?_eq_getElem (by rw [size_len]; exact hlt)
          have htk : (X.data.toList.take (k + 1)).flatMap escB = (X.data.toList.take k).flatMap escB ++ escB c := by
            rw [List.take_add_one, hck]; simp
          have HTK := Lib.hid htk
          have hql := esc_len (X.data.toList.take k)
          rw [List.length_take, size_len] at hql
          obtain ⟨Q, hQ⟩ : ∃ Q, P ++ (X.data.toList.take k).flatMap escB = Q := ⟨_, rfl⟩
          have hQl : Q.length ≤ 80000 := by rw [← hQ, List.length_append]; omega
          rw [hQ] at hb0
          have HQ := Lib.hid hQ
          clear htk hck hQ hql
          obtain ⟨i, hi⟩ : ∃ i, Lib.indexByte spec8 c = i := ⟨_, rfl⟩
          have hge := idx_ge c
          rw [hi] at hge
          have hix := Tryz.strings_IndexByte ⟨#[46, 92, 34, 40, 41, 59, 64, 36]⟩ (c.toNat : Int) wr
          rw [show Lib.indexByte (⟨#[46, 92, 34, 40, 41, 59, 64, 36]⟩ : ByteArray).data.toList ((c.toNat : Int).toNat.toUInt8) = i from by rw [← hi]; simp [spec8]] at hix
          have HIX := Lib.hid hix; clear hix hi
          have hEc := escB_cases c
          have d1 := Lib.hid (dig c)
          have hc256 := byte_lt c
          have hc0 : (0 : Int) ≤ (c.toNat : Int) := by omega
          gi_wp2_with fail
          refine ⟨trivial, ?_⟩
          refine ((callsIn_wide.2 HIX.out).inRound l).mono ?_
          rintro e v0 ⟨rfl, rfl⟩
          rcases hEc with ⟨hsp, hE⟩ | ⟨hsp, hE, hlo⟩ | ⟨hsp, hE, hlo, hhi⟩
          · have HE := Lib.hid hE; clear hE
            have hi0 : 0 ≤ i := hge.2 hsp
            clear hge hsp
            gi_wp2_with fail
            refine ⟨trivial, ?_⟩
            refine ((callsIn_wide.2 (wbN _ _ _ (92 : UInt8) _ hb0 (by omega) (by have := hE0.below.size; omega))).inRound l).mono ?_
            rintro e v1 ⟨rfl, hb1, hF1⟩
            have hE1 := hE0.trans hF1
            clear hF1 hb0 hE0
            gi_wp2_with fail
            refine ⟨trivial, ?_⟩
            refine ((callsIn_wide.2 (wbN _ _ _ c _ hb1 (by rw [List.length_append]; simp; omega) (by have := hE1.below.size; omega))).inRound l).mono ?_
            rintro e v2 ⟨rfl, hb2, hF2⟩
            have hE2 := hE1.trans hF2
            clear hF2 hb1 hE1
            gi_wp2
            have hkg := HKG.out
            gi_roundg (gk - 1)
            case rel => exact ⟨k + 1, by go_num, by omega, by omega, by rw [HTK.out, ← List.append_assoc, HQ.out, HE.out]; simpa only [List.append_assoc, List.cons_append, List.nil_append] using hb2, hE2⟩
            case measure => omega
          · have HE := Lib.hid hE; clear hE
            have hi0 : ¬ 0 ≤ i := fun h => by rw [hge.1 h] at hsp; cases hsp
            clear hge hsp
            rcases hlo with hlo | hlo
            · have hlo' : decide ((c.toNat : Int) < 33) = true := by simpa using hlo
              gi_wp2_with fail
              refine ⟨trivial, ?_⟩
              refine ((callsIn_wide.2 (wbN _ _ _ (92 : UInt8) _ hb0 (by omega) (by have := hE0.below.size; omega))).inRound l).mono ?_
              rintro e v1 ⟨rfl, hb1, hF1⟩
              have hE1 := hE0.trans hF1
              clear hF1 hb0 hE0
              have hw2 := wbN _ _ _ (48 + c / 100) _ hb1 (by simp only [List.length_append, List.length_cons, List.length_nil]; omega) (by have := hE1.below.size; omega)
              rw [d1.out.1] at hw2
              have HW2 := Lib.hid hw2
              clear hw2
              gi_wp2_with fail
              refine ⟨trivial, ?_⟩
              refine ((callsIn_wide.2 HW2.out).inRound l).mono ?_
              rintro e v2 ⟨rfl, hb2, hF2⟩
              have hE2 := hE1.trans hF2
              clear hF2 hb1 hE1 HW2
              have hw3 := wbN _ _ _ (48 + c / 10 % 10) _ hb2 (by simp only [List.length_append, List.length_cons, List.length_nil]; omega) (by have := hE2.below.size; omega)
              rw [d1.out.2.1] at hw3
              have HW3 := Lib.hid hw3
              clear hw3
              gi_wp2_with fail
              refine ⟨trivial, ?_⟩
              refine ((callsIn_wide.2 HW3.out).inRound l).mono ?_
              rintro e v3 ⟨rfl, hb3, hF3⟩
              have hE3 := hE2.trans hF3
              clear hF3 hb2 hE2 HW3
              have hw4 := wbN _ _ _ (48 + c % 10) _ hb3 (by simp only [List.length_append, List.length_cons, List.length_nil]; omega) (by have := hE3.below.size; omega)
              rw [d1.out.2.2] at hw4
              have HW4 := Lib.hid hw4
              clear hw4
              gi_wp2_with fail
              refine ⟨trivial, ?_⟩
              refine ((callsIn_wide.2 HW4.out).inRound l).mono ?_
              rintro e v4 ⟨rfl, hb4, hF4⟩
              have hE4 := hE3.trans hF4
              clear hF4 hb3 hE3 HW4
              gi_wp2
              have hkg := HKG.out
              gi_roundg (gk - 1)
              case rel => exact ⟨k + 1, by go_num, by omega, by omega, by rw [HTK.out, ← List.append_assoc, HQ.out, HE.out]; simpa only [List.append_assoc, List.cons_append, List.nil_append, escL] using hb4, hE4⟩
              case measure => omega
            · have hlo' : ¬ (c.toNat : Int) < 33 := by omega
              gi_wp2_with fail
              refine ⟨trivial, ?_⟩
              refine ((callsIn_wide.2 (wbN _ _ _ (92 : UInt8) _ hb0 (by omega) (by have := hE0.below.size; omega))).inRound l).mono ?_
              rintro e v1 ⟨rfl, hb1, hF1⟩
              have hE1 := hE0.trans hF1
              clear hF1 hb0 hE0
              have hw2 := wbN _ _ _ (48 + c / 100) _ hb1 (by simp only [List.length_append, List.length_cons, List.length_nil]; omega) (by have := hE1.below.size; omega)
              rw [d1.out.1] at hw2
              have HW2 := Lib.hid hw2
              clear hw2
              gi_wp2_with fail
              refine ⟨trivial, ?_⟩
              refine ((callsIn_wide.2 HW2.out).inRound l).mono ?_
              rintro e v2 ⟨rfl, hb2, hF2⟩
              have hE2 := hE1.trans hF2
              clear hF2 hb1 hE1 HW2
              have hw3 := wbN _ _ _ (48 + c / 10 % 10) _ hb2 (by simp only [List.length_append, List.length_cons, List.length_nil]; omega) (by have := hE2.below.size; omega)
              rw [d1.out.2.1] at hw3
              have HW3 := Lib.hid hw3
              clear hw3
              gi_wp2_with fail
              refine ⟨trivial, ?_⟩
              refine ((callsIn_wide.2 HW3.out).inRound l).mono ?_
              rintro e v3 ⟨rfl, hb3, hF3⟩
              have hE3 := hE2.trans hF3
              clear hF3 hb2 hE2 HW3
              have hw4 := wbN _ _ _ (48 + c % 10) _ hb3 (by simp only [List.length_append, List.length_cons, List.length_nil]; omega) (by have := hE3.below.size; omega)
              rw [d1.out.2.2] at hw4
              have HW4 := Lib.hid hw4
              clear hw4
              gi_wp2_with fail
              refine ⟨trivial, ?_⟩
              refine ((callsIn_wide.2 HW4.out).inRound l).mono ?_
              rintro e v4 ⟨rfl, hb4, hF4⟩
              have hE4 := hE3.trans hF4
              clear hF4 hb3 hE3 HW4
              gi_wp2
              have hkg := HKG.out
              gi_roundg (gk - 1)
              case rel => exact ⟨k + 1, by go_num, by omega, by omega, by rw [HTK.out, ← List.append_assoc, HQ.out, HE.out]; simpa only [List.append_assoc, List.cons_append, List.nil_append, escL] using hb4, hE4⟩
              case measure => omega
          · have HE := Lib.hid hE; clear hE
            have hi0 : ¬ 0 ≤ i := fun h => by rw [hge.1 h] at hsp; cases hsp
            clear hge hsp
            gi_wp2_with fail
            refine ⟨trivial, ?_⟩
            refine ((callsIn_wide.2 (wbN _ _ _ c _ hb0 (by omega) (by have := hE0.below.size; omega))).inRound l).mono ?_
            rintro e v1 ⟨rfl, hb1, hF1⟩
            have hE1 := hE0.trans hF1
            clear hF1 hb0 hE0
            gi_wp2
            have hkg := HKG.out
            gi_roundg (gk - 1)
            case rel => exact ⟨k + 1, by go_num, by omega, by omega, by rw [HTK.out, ← List.append_assoc, HQ.out, HE.out]; simpa only [List.append_assoc, List.cons_append, List.nil_append] using hb1, hE1⟩
            case measure => omega
        · have hkk : k = X.size := by omega
          subst hkk
          rw [show X.data.toList.take X.size = X.data.toList from by rw [← size_len]; exact List.take_length] at hb0
          have hql := esc_len X.data.toList
          rw [size_len] at hql
          have hsn := show_snoc (labsOf (raw pre)) X.data.toList
          rw [← HY.out, HPP.out, ← List.append_assoc] at hsn
          have HSN := Lib.hid hsn
          obtain ⟨Q, hQ⟩ : ∃ Q, P ++ X.data.toList.flatMap escB = Q := ⟨_, rfl⟩
          have hQl : Q.length ≤ 80000 := by rw [← hQ, List.length_append]; omega
          rw [hQ] at hb0
          have HQ := Lib.hid hQ
          clear hQ hql hsn
          gi_wp2_with fail
          refine ⟨trivial, ?_⟩
          refine ((callsIn_wide.2 (wbN _ _ _ (46 : UInt8) _ hb0 (by omega) (by have := hE0.below.size; omega))).inRound l).mono ?_
          rintro e v1 ⟨rfl, hb1, hF1⟩
          have hE1 := hE0.trans hF1
          clear hF1 hb0 hE0
          gi_wp2
          refine ⟨hE1.others.from _, World.cell?_of_block (hE1.low (w1.heap.size + 1) (by omega) (by omega)), ?_, hBl.trans (hE1.below.mono (by omega)), Nat.le_trans hW2 hE1.below.size, ?_⟩
          · rw [HSN.out, HQ.out]; exact hb1
          · rw [HY.out, List.length_append, List.length_append, hcnt]; rfl
  case done =>
    rintro D ys W hD hS ⟨hb1, hBl, hW2, hcnt⟩ hK
    rw [hS, HP.out, labsOf_pairs 0 ls HO.out] at hcnt
    have hlen : ys.length = ls.length + 1 := by rw [← raw_length, hS, HP.out, pairsL_length]
    exact absurd hcnt (by omega)
  case stop =>
    rintro D c pre W hD hS ⟨⟨rfl, p, x, rfl, hx0, hb4⟩, hBl⟩ hK
    rw [HP.out, raw_snoc] at hS
    have HT := Lib.hid (labs_stop 0 ls (raw p) x.val HO.out hS hx0)
    rw [HT.out] at hb4
    gi_wp2_with fail
    refine ⟨trivial, ?_⟩
    refine (callsIn_wide.2 (strN _ _ _ _ hb4 (show_ne H0.out))).mono ?_
    rintro e W2 ⟨rfl, hB2, hKO⟩
    have hK2 := hKO.same _ _ hK rfl
    have hBf := hBl.trans (hB2.mono (by omega))
    gi_wp2
    refine ⟨by simp, .inl ⟨_, _, rfl, run_takeDeferred hK2, ?_⟩⟩
    exact ⟨_, by simp [results, Tryz.results144, go_sem], rfl, below_putObj hBf (by omega) _⟩

set_option maxRecDepth 100000 in
theorem nshow_root (s : ByteArray) (w : World) (h : IsN s.data.toList []) :
    Calls Tryz.prog 144 #[.string s] w fun e w' => e = .returned (.string ⟨#[46]⟩) ∧ Below w.heap.size w w' := by
  have hs : s.size ≤ 255 := by have := h.2.2; rwa [size_len] at this
  have HK := Lib.hid (chk_yes h)
  have hroot : (s.toList == [0]) = true := by
    rw [Lib.toList_data, h.1]; rfl
  clear h
  go_enter Tryz.func144, Tryz.ntmps144
  go_wp2_with fail
  refine (check_any s _ (by omega)).mono ?_
  rintro e w1 ⟨rfl, hB1⟩
  rw [HK.out]
  go_wp2
  go_ret
  exact ⟨rfl, hB1⟩
set_option maxRecDepth 100000 in
theorem nshow_no (s : ByteArray) (w : World) (hs : s.size ≤ 1099511627776) (h : split s.data.toList = none) :
    Calls Tryz.prog 144 #[.string s] w fun e w' => e = .returned (.string ⟨#[]⟩) ∧ Below w.heap.size w w' := by
  have HK := Lib.hid (chk_no h)
  clear h
  go_enter Tryz.func144, Tryz.ntmps144
  go_wp2_with fail
  refine (check_any s _ hs).mono ?_
  rintro e w1 ⟨rfl, hB1⟩
  rw [HK.out]
  go_wp2
  go_ret
  exact ⟨rfl, hB1⟩
theorem showS_no {l : Bs} (h : split l = none) : showS l = [] := by unfold showS; rw [h]
theorem showS_root {l : Bs} (h : IsN l []) : showS l = [46] := by unfold showS; rw [split_iff.2 h]
theorem showS_yes {l : Bs} {ls : List Bs} (h : IsN l ls) (h0 : ls ≠ []) : showS l = showL ls := by
  unfold showS; rw [split_iff.2 h]
  cases ls with
  | nil => exact absurd rfl h0
  | cons a b => rfl
theorem nshow_any (s : ByteArray) (w : World) (hs : s.size ≤ 1099511627776) :
    Calls Tryz.prog 144 #[.string s] w fun e w' => e = .returned (.string ⟨(showS s.data.toList).toArray⟩) ∧ Below w.heap.size w w' := by
  rcases isB_or s with ⟨ls, h⟩ | h
  · cases ls with
    | nil => rw [showS_root h]; exact nshow_root s w h
    | cons a b => rw [showS_yes h (by simp)]; exact callsIn_wide.1 (nshow_yes s _ w h (by simp))
  · rw [showS_no h]; exact nshow_no s w hs h

end Go.Proofs.YtkcpbjoolfojjaaGreatDoor.nshow
namespace Go.Proofs.YtkcpbjoolfojjaaGreatDoor.dshowB
open Go.RowKit Go.Proofs.YtkcpbjoolfojjaaGreatDoor.kit Go.Proofs.YtkcpbjoolfojjaaGreatDoor.nspec Go.Proofs.YtkcpbjoolfojjaaGreatDoor.bits Go.Proofs.YtkcpbjoolfojjaaGreatDoor.bld Go.Proofs.YtkcpbjoolfojjaaGreatDoor.dshow Go.Proofs.YtkcpbjoolfojjaaGreatDoor.showA Go.Proofs.YtkcpbjoolfojjaaGreatDoor.showB Go.Proofs.YtkcpbjoolfojjaaGreatDoor.rsplit Go.Proofs.YtkcpbjoolfojjaaGreatDoor.dshowA Go.Proofs.YtkcpbjoolfojjaaGreatDoor.tname Go.Proofs.YtkcpbjoolfojjaaGreatDoor.small Go.Proofs.YtkcpbjoolfojjaaGreatDoor.val Go.Proofs.YtkcpbjoolfojjaaGreatDoor.nshow Go.Proofs.YtkcpbjoolfojjaaGreatDoor.fld Go.Proofs.YtkcpbjoolfojjaaGreatDoor.to32 Go.Proofs.YtkcpbjoolfojjaaGreatDoor.textsT
set_option linter.unusedVariables false

abbrev PowT (w : World) : Prop := Lib.TabIs Tryz.prog w "internal/strconv.uint64pow10" .u64 Lib.pow10Tab
theorem pow_below {w w' : World} (h : PowT w) (hb : Below w.heap.size w w') : PowT w' := by
  unfold PowT Lib.TabIs World.var? at h ⊢
  cases hg : Tryz.prog.globalNamed "internal/strconv.uint64pow10" with
  | none => rw [hg] at h; cases h
  | some g =>
    rw [hg] at h
    simp only [Option.bind_some] at h ⊢
    have hlt : g < w.heap.size := by
      rcases Nat.lt_or_ge g w.heap.size with h' | h'
      · exact h'
      · rw [Array.getElem?_eq_none h'] at h; cases h
    rw [hb.block g hlt]; exact h
/-- a list of texts of the call's own -/
def LV (w : World) (v : Value) (base : Nat) (ls : List Bs) : Prop :=
  (ls = [] ∧ v = .slice none 0 0) ∨ ∃ g c, v = .slice (some ⟨g, 0, none⟩) ls.length c ∧ ls.length ≤ c ∧ c ≤ maxLen ∧ base ≤ g ∧ g < w.heap.size ∧ ∀ (j : Nat) (x : Bs), ls[j]? = some x → w.cell? ⟨g, j, none⟩ = some (strV x)
theorem LV.of_own {w : World} {base : Nat} {v : Value} {ls : List Bs} (h : w.ownsRow base 9 1 v ls.length (ls.map strV)) : LV w v base ls := by
  rcases h.2 with ⟨rfl, h0⟩ | ⟨g, cap, cur, rfl, hb, hg, h1, h2, _, htake⟩
  · exact .inl ⟨List.eq_nil_of_length_eq_zero h0, rfl⟩
  · refine .inr ⟨g, cap, rfl, h1, h2, hb, (Array.getElem?_eq_some_iff.1 hg).1, ?_⟩
    intro j x hx
    have := h.cells (g := g) rfl j (strV x) (by rw [List.getElem?_map, hx]; rfl)
    have hadd : (⟨g, 0, none⟩ : Addr).add j = ⟨g, j, none⟩ := by unfold Addr.add; split <;> simp_all
    rw [hadd] at this
    exact this
theorem LV.below {w w' : World} {v : Value} {base : Nat} {ls : List Bs} (h : LV w v base ls) (hB : Below w.heap.size w w') : LV w' v base ls := by
  rcases h with h | ⟨g, c, h1, h2, h3, h4, h5, h6⟩
  · exact .inl h
  · exact .inr ⟨g, c, h1, h2, h3, h4, Nat.lt_of_lt_of_le h5 hB.size, fun j x hx => (hB.cell (p := ⟨g, j, none⟩) h5).trans (h6 j x hx)⟩
theorem LV.mono {w : World} {v : Value} {base b' : Nat} {ls : List Bs} (h : LV w v base ls) (hb : b' ≤ base) : LV w v b' ls := by
  rcases h with h | ⟨g, c, h1, h2, h3, h4, h5⟩
  · exact .inl h
  · exact .inr ⟨g, c, h1, h2, h3, Nat.le_trans hb h4, h5⟩
theorem LV.drew {w : World} {v : Value} {base : Nat} {ls : List Bs} (h : LV w v base ls) : LV w.drew v base ls := h.below ((Below.refl _ _).drew)
/-- what a field's 'show' leaves -/
def ShowPost (w : World) (ls : List Bs) (e : Ending) (w' : World) : Prop := Below w.heap.size w w' ∧ ∃ v, e = .returned v ∧ LV w' v w.heap.size ls
theorem show_one {w w2 : World} (hB : Below w.heap.size w w2) {x : Bs} {X : ByteArray} (hx : X.data.toList = x) (ty : TypeId) : ShowPost w [x] (.returned (.slice (some ⟨w2.heap.size, 0, none⟩) 1 1)) (w2.alloc (.cells #[.string X] ty)) := by
  refine ⟨hB.alloc hB.size _, _, rfl, .inr ⟨w2.heap.size, 1, rfl, Nat.le_refl _, by unfold maxLen; omega, hB.size, by rw [World.size_alloc]; omega, ?_⟩⟩
  intro j y hj
  match j, hj with
  | 0, hj =>
    have : x = y := by simpa using hj
    subst this
    rw [World.cell?_alloc_new]
    unfold strV
    rw [← hx]
    rfl
/-- an append of a list of texts to a list of the call's own -/
theorem wpList_append_lv {w : World} {ops : Array Oper} {rest : List Oper} {o : Oper} {a : Act} {Q : Exit → Act → World → Prop} (hgd : o.guard = none) (s x : Operand)
    (ho : o.op = .call { callee := .builtin .append, args := #[s, x], argTypes := #[70, 70] })
    (base : Nat) (v : Value) (L : List Bs) (hs : a.eval s = v) (hown : w.ownsRow base 9 1 v L.length (L.map strV)) (bx : Nat) (M : List Bs) (u : Value) (hx : a.eval x = u) (hlv : LV w u bx M)
    (hlen : L.length + M.length ≤ 1000000000) (hbase : base ≤ w.heap.size)
    (h : ∀ v' w', w'.ownsRow base 9 1 v' (L ++ M).length ((L ++ M).map strV) → w.grownBy w' v.ownBlock → wpList Tryz.prog ops Q rest (a.put o.dst v') w') : wpList Tryz.prog ops Q (o :: rest) a w := by
  obtain ⟨i0, hi, hz0, hz1, hz2⟩ := info_parts infoStr
  rcases hlv with ⟨rfl, rfl⟩ | ⟨g, c, rfl, h1, h2, h3, h4, h5⟩
  · refine wpList_append_src hgd s x 70 ho base 9 i0 (.string ByteArray.empty) 1 16 Tryz.underlying70 hi hz0 hz1 hz2 rfl (by decide) v L.length (L.map strV) hs hown none 0 0 [] hx rfl (.inl ⟨rfl, rfl, rfl⟩) (by simp) (by unfold maxLen; omega) (by omega) hbase ?_
    intro v' w' h6 h7
    exact h v' w' (by simpa using h6) h7
  · refine wpList_append_src hgd s x 70 ho base 9 i0 (.string ByteArray.empty) 1 16 Tryz.underlying70 hi hz0 hz1 hz2 rfl (by decide) v L.length (L.map strV) hs hown (some ⟨g, 0, none⟩) M.length c (M.map strV) hx (by simp) (.inr ⟨_, rfl, ?_⟩) ?_ (by unfold maxLen; omega) (by omega) hbase ?_
    · intro j z hz
      rw [List.getElem?_map] at hz
      obtain ⟨y, hy, rfl⟩ := Option.map_eq_some_iff.1 hz
      rw [addr_add]
      exact h5 j y hy
    · intro z hz
      obtain ⟨y, _, rfl⟩ := List.mem_map.1 hz
      rfl
    · intro v' w' h6 h7
      exact h v' w' (by simpa using h6) h7
theorem itoa_cast (n : Nat) : Lib.itoa (n : Int) = Lib.decDigits n := by rw [itoa_nat (by omega)]; rfl
theorem digits_nat (n : Nat) (h : n ≤ 9223372036854775807) (w : World) (hP : PowT w) :
    Calls Tryz.prog 28 #[.int .i64 (n : Int)] w fun e w' => e = .returned (.string ⟨(Lib.decDigits n).toArray⟩) ∧ Below w.heap.size w w' := by
  have h := digits_any (n : Int) (by omega) (by omega) w hP
  rw [itoa_cast] at h
  exact h
set_option maxRecDepth 100000 in
set_option maxHeartbeats 1000000 in
theorem num_show (k : Nat) (s : ByteArray) (w : World) (hs : s.size ≤ 4) (hP : PowT w) :
    Calls Tryz.prog 133 #[.int .i64 (k : Int), .string s] w (ShowPost w (showF (.num k) s.data.toList)) := by
  obtain ⟨n, hn⟩ : ∃ n, valL s.data.toList 0 = n := ⟨_, rfl⟩
  have hn4 : n < 4294967296 := by rw [← hn]; exact valL_four (by rw [size_len]; exact hs)
  have CS := Lib.hid (fun w => small_any s w hs)
  rw [hn] at CS
  have CD := Lib.hid (digits_nat n (by omega) w hP)
  have e0 : showF (.num k) s.data.toList = [Lib.decDigits n] := by rw [showF, hn]
  rw [e0]
  clear e0 hn hP
  go_enter Tryz.func133, Tryz.ntmps133
  go_wp2_with fail
  refine (CS.out _).mono ?_
  rintro e w1 ⟨rfl, rfl⟩
  go_wp2_with fail
  refine CD.out.mono ?_
  rintro e w1 ⟨rfl, hB1⟩
  have HB1 := Lib.hid hB1
  clear hB1
  go_wp2_with fail
  go_ret
  exact show_one HB1.out rfl _
set_option maxRecDepth 100000 in
set_option maxHeartbeats 1000000 in
theorem host_show (s : ByteArray) (w : World) (hs : s.size ≤ 65535) :
    Calls Tryz.prog 141 #[.agg #[], .string s] w (ShowPost w (showF .host s.data.toList)) := by
  have HBA := Lib.hid ((Below.refl w.heap.size w).alloc (Nat.le_refl _) (.cells #[] 84))
  rw [showF]
  go_enter Tryz.func141, Tryz.ntmps141
  go_wp2_with fail
  refine (nshow_any s _ (by omega)).mono ?_
  rintro e w1 ⟨rfl, hB1⟩
  have HB1 := Lib.hid (HBA.out.trans (hB1.mono HBA.out.size))
  clear hB1
  go_wp2_with fail
  go_ret
  exact show_one HB1.out rfl _
set_option maxRecDepth 100000 in
set_option maxHeartbeats 1000000 in
theorem text_show (s : ByteArray) (w : World) (hs : s.size ≤ 65535) (h1 : 1 ≤ s.size) :
    Calls Tryz.prog 152 #[.agg #[], .string s] w (ShowPost w (showF .text s.data.toList)) := by
  have HBA := Lib.hid ((Below.refl w.heap.size w).alloc (Nat.le_refl _) (.cells #[] 85))
  rw [showF]
  have hd : (s.extract 1 s.size).data.toList = s.data.toList.drop 1 := ext_end s 1
  obtain ⟨u, hu⟩ : ∃ u, s.extract 1 s.size = u := ⟨_, rfl⟩
  rw [hu] at hd
  have hus : u.size ≤ s.size := by rw [← hu, ByteArray.size_extract]; omega
  obtain ⟨D, hD⟩ : ∃ D, s.data.toList.drop 1 = D := ⟨_, rfl⟩
  rw [hD] at hd ⊢
  have C := Lib.hid (fun w => quoted_any u w (by omega))
  rw [hd] at C
  clear hd
  go_enter Tryz.func152, Tryz.ntmps152
  go_wp2_with fail
  refine (C.out _).mono ?_
  rintro e w1 ⟨rfl, hB1⟩
  have HB1 := Lib.hid (HBA.out.trans (hB1.mono HBA.out.size))
  clear hB1
  go_wp2_with fail
  go_ret
  exact show_one HB1.out rfl _
set_option maxRecDepth 100000 in
set_option maxHeartbeats 1000000 in
theorem tail_show (s : ByteArray) (w : World) (hs : s.size ≤ 65535) :
    Calls Tryz.prog 213 #[.agg #[], .string s] w (ShowPost w (showF .tail s.data.toList)) := by
  have HBA := Lib.hid ((Below.refl w.heap.size w).alloc (Nat.le_refl _) (.cells #[] 94))
  rw [showF]
  go_enter Tryz.func213, Tryz.ntmps213
  go_wp2_with fail
  refine (quoted_any s _ (by omega)).mono ?_
  rintro e w1 ⟨rfl, hB1⟩
  have HB1 := Lib.hid (HBA.out.trans (hB1.mono HBA.out.size))
  clear hB1
  go_wp2_with fail
  go_ret
  exact show_one HB1.out rfl _
set_option maxRecDepth 100000 in
set_option maxHeartbeats 1000000 in
theorem hexes_show (s : ByteArray) (w : World) (hs : s.size ≤ 65535) :
    Calls Tryz.prog 167 #[.agg #[], .string s] w (ShowPost w (showF .hexes s.data.toList)) := by
  have HBA := Lib.hid ((Below.refl w.heap.size w).alloc (Nat.le_refl _) (.cells #[] 88))
  rw [showF]
  go_enter Tryz.func167, Tryz.ntmps167
  go_wp2_with fail
  refine (hex_any s _ (by omega)).mono ?_
  rintro e w1 ⟨rfl, hB1⟩
  have HB1 := Lib.hid (HBA.out.trans (hB1.mono HBA.out.size))
  clear hB1
  go_wp2_with fail
  go_ret
  exact show_one HB1.out rfl _
set_option maxRecDepth 100000 in
set_option maxHeartbeats 1000000 in
theorem hash_show (s : ByteArray) (w : World) (hs : s.size ≤ 65535) (h1 : 1 ≤ s.size) :
    Calls Tryz.prog 208 #[.agg #[], .string s] w (ShowPost w (showF .hash s.data.toList)) := by
  have HBA := Lib.hid ((Below.refl w.heap.size w).alloc (Nat.le_refl _) (.cells #[] 93))
  rw [showF]
  have hd : (s.extract 1 s.size).data.toList = s.data.toList.drop 1 := ext_end s 1
  obtain ⟨u, hu⟩ : ∃ u, s.extract 1 s.size = u := ⟨_, rfl⟩
  rw [hu] at hd
  have hus : u.size ≤ s.size := by rw [← hu, ByteArray.size_extract]; omega
  obtain ⟨D, hD⟩ : ∃ D, s.data.toList.drop 1 = D := ⟨_, rfl⟩
  rw [hD] at hd ⊢
  have C := Lib.hid (fun w => nto32_any u w (by omega))
  rw [hd] at C
  clear hd
  go_enter Tryz.func208, Tryz.ntmps208
  go_wp2_with fail
  refine (C.out _).mono ?_
  rintro e w1 ⟨rfl, hB1⟩
  have HB1 := Lib.hid (HBA.out.trans (hB1.mono HBA.out.size))
  clear hB1
  go_wp2_with fail
  go_ret
  exact show_one HB1.out rfl _
set_option maxRecDepth 100000 in
set_option maxHeartbeats 1000000 in
theorem salt_show (s : ByteArray) (w : World) (hs : s.size ≤ 65535) (h1 : 1 ≤ s.size) :
    Calls Tryz.prog 205 #[.agg #[], .string s] w (ShowPost w (showF .salt s.data.toList)) := by
  have HBA := Lib.hid ((Below.refl w.heap.size w).alloc (Nat.le_refl _) (.cells #[] 92))
  rw [showF]
  have hd : (s.extract 1 s.size).data.toList = s.data.toList.drop 1 := ext_end s 1
  obtain ⟨u, hu⟩ : ∃ u, s.extract 1 s.size = u := ⟨_, rfl⟩
  rw [hu] at hd
  have hus : u.size ≤ s.size := by rw [← hu, ByteArray.size_extract]; omega
  obtain ⟨D, hD⟩ : ∃ D, s.data.toList.drop 1 = D := ⟨_, rfl⟩
  rw [hD] at hd
  have C := Lib.hid (fun w => hex_any u w (by omega))
  rw [hd] at C
  by_cases he : s.size = 1
  · have e0 : saltS s.data.toList = [45] := by unfold saltS; rw [if_pos (by rw [size_len]; exact he)]
    rw [e0]
    have hb : ((s.size : Int) == 1) = true := by rw [beq_iff_eq]; omega
    clear e0 hd C
    go_enter Tryz.func205, Tryz.ntmps205
    go_wp2_with fail
    go_ret
    have h := show_one HBA.out (x := [45]) (X := ⟨#[45]⟩) rfl 9
    rw [World.size_alloc] at h
    exact h
  · have e0 : saltS s.data.toList = hexS (s.data.toList.drop 1) := by unfold saltS; rw [if_neg (by rw [size_len]; exact he)]
    rw [e0, hD]
    have hb : ((s.size : Int) == 1) = false := by rw [beq_eq_false_iff_ne]; omega
    clear e0 hd
    go_enter Tryz.func205, Tryz.ntmps205
    go_wp2_with fail
    refine (C.out _).mono ?_
    rintro e w1 ⟨rfl, hB1⟩
    have HB1 := Lib.hid (HBA.out.trans (hB1.mono HBA.out.size))
    clear hB1
    go_wp2_with fail
    go_ret
    exact show_one HB1.out rfl _
set_option maxRecDepth 100000 in
set_option maxHeartbeats 1000000 in
theorem kind_show (s : ByteArray) (w : World) (hs : s.size ≤ 2) (hP : PowT w) :
    Calls Tryz.prog 171 #[.agg #[], .string s] w (ShowPost w (showF .kind s.data.toList)) := by
  have HBA := Lib.hid ((Below.refl w.heap.size w).alloc (Nat.le_refl _) (.cells #[] 89))
  obtain ⟨n, hn⟩ : ∃ n, valL s.data.toList 0 = n := ⟨_, rfl⟩
  have hn4 : n < 65536 := by rw [← hn]; exact valL_two (by rw [size_len]; exact hs)
  have CS := Lib.hid (fun w => small_any s w (by omega))
  rw [hn] at CS
  have CD := Lib.hid (dtname_any (n : Int) (by omega) (by omega) _ (pow_below hP HBA.out))
  rw [showF, hn]
  clear hn hP
  go_enter Tryz.func171, Tryz.ntmps171
  go_wp2_with fail
  refine (CS.out _).mono ?_
  rintro e w1 ⟨rfl, rfl⟩
  go_wp2_with fail
  refine CD.out.mono ?_
  rintro e w1 ⟨rfl, hB1⟩
  have HB1 := Lib.hid (HBA.out.trans (hB1.mono HBA.out.size))
  clear hB1
  go_wp2_with fail
  go_ret
  exact show_one HB1.out rfl _
end Go.Proofs.YtkcpbjoolfojjaaGreatDoor.dshowB
