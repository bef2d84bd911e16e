/- strconv.FormatInt at base 16 of a small number: walk. The short 'show' methods of data's fields: walks. data.ip6's 'show': walk. -/
import Derived.Test.YtjejmgdpjfdhjaaGreatDoorP18
import Derived.Test.YtjejmgdpjfdhjaaGreatDoorP8
import Derived.Test.YtjejmgdpjfdhjaaGreatDoorP7
import Derived.Lib.LaidTab
import Derived.Lib.SmallJoins
namespace Go.Proofs.YtjejmgdpjfdhjaaGreatDoor.fmt16
open Go.RowKit Go.Proofs.YtjejmgdpjfdhjaaGreatDoor.kit Go.Proofs.YtjejmgdpjfdhjaaGreatDoor.nspec Go.Proofs.YtjejmgdpjfdhjaaGreatDoor.bits Go.Proofs.YtjejmgdpjfdhjaaGreatDoor.dshow Go.Proofs.YtjejmgdpjfdhjaaGreatDoor.dshowA
set_option linter.unusedVariables false

def tz64 : List Int := [0, 1, 56, 2, 57, 49, 28, 3, 61, 58, 42, 50, 38, 29, 17, 4, 62, 47, 59, 36, 45, 43, 51, 22, 53, 39, 33, 30, 24, 18, 12, 5, 63, 55, 48, 27, 60, 41, 37, 16, 46, 35, 44, 21, 52, 32, 23, 11, 54, 26, 40, 15, 34, 20, 31, 10, 25, 14, 19, 9, 13, 8, 7, 6]
abbrev TzT (w : World) : Prop := Lib.TabIs Tryz.prog w "math/bits.deBruijn64tab" .u8 tz64
theorem gTz : Tryz.prog.globalNamed "math/bits.deBruijn64tab" = some 3 := by kernel_rfl
theorem tz_below {w w' : World} (h : TzT w) (hb : Below w.heap.size w w') : TzT w' := Go.Joins.tab_stays gTz h hb (Nat.le_refl _)
theorem tz_cell {w : World} (h : TzT w) : w.cell? ⟨3, 15, none⟩ = some (.int .u8 4) := h.cell gTz 15 (by decide)

set_option maxRecDepth 100000 in
set_option maxHeartbeats 1000000 in
theorem tz64_16 (w : World) (h : TzT w) : Calls Tryz.prog 81 #[.int .u64 16] w fun e w' => e = .returned (.int .i64 4) ∧ w' = w := by
  have hc : w.cell? ⟨3, (IntKind.u64.wrap (bits .and .u64 16 (IntKind.u64.wrap (-16)) * 285870213051353865) / 288230376151711744).toNat, none⟩ = some (.int .u8 4) := tz_cell h
  clear h
  go_enter Tryz.func81, Tryz.ntmps81
  go_wp2_with fail
  go_ret
  exact ⟨rfl, rfl⟩
set_option maxRecDepth 100000 in
set_option maxHeartbeats 1000000 in
theorem tz_16 (w : World) (h : TzT w) : Calls Tryz.prog 79 #[.int .u64 16] w fun e w' => e = .returned (.int .i64 4) ∧ w' = w := by
  have C := Lib.hid (tz64_16 w h)
  clear h
  go_enter Tryz.func79, Tryz.ntmps79
  go_wp2_with fail
  refine C.out.mono ?_
  rintro e w1 ⟨rfl, rfl⟩
  go_wp2_with fail
  go_ret
  exact ⟨rfl, rfl⟩
set_option maxRecDepth 100000 in
set_option maxHeartbeats 1000000 in
theorem pow2_16 (w : World) : Calls Tryz.prog 78 #[.int .i64 16] w fun e w' => e = .returned (.bool true) ∧ w' = w := by
  go_enter Tryz.func78, Tryz.ntmps78
  go_wp2_with fail
  go_ret
  exact ⟨rfl, rfl⟩
theorem zeros : Tryz.zeroCells113 = Array.replicate 65 (.int .u8 0) := by kernel_rfl
theorem arr_new (w : World) (ty : TypeId) : Bytes (w.alloc (.cells Tryz.zeroCells113 ty)) w.heap.size (List.replicate 65 0) := by
  rw [zeros]
  intro j c h
  have hj : j < 65 := by have := (List.getElem?_eq_some_iff.1 h).1; simpa using this
  have hc : c = 0 := by rw [List.getElem?_replicate, if_pos hj] at h; exact (Option.some.inj h).symm
  subst hc
  refine ⟨?_, by simp⟩
  rw [World.cell?_alloc_new]
  simp [hj]
theorem wraps40 (n : Int) (h₀ : 0 ≤ n) (h₁ : n < 2 ^ 40) : IntKind.u64.wrap n = n := by rw [IntKind.wrap_u64]; omega
theorem and15u {x : Int} (h₀ : 0 ≤ x) (h₁ : x < 65536) : bits .and .u64 x 15 = x % 16 := bits_mask .u64 40 (by decide) wraps40 4 (by decide) x h₀ (by omega)
theorem idx36 (v : Nat) (h : v < 16) : Value.int .u8 (((⟨#[48, 49, 50, 51, 52, 53, 54, 55, 56, 57, 97, 98, 99, 100, 101, 102, 103, 104, 105, 106, 107, 108, 109, 110, 111, 112, 113, 114, 115, 116, 117, 118, 119, 120, 121, 122]⟩ : ByteArray)[v]'(Nat.lt_of_lt_of_le h (by decide))).toNat : Int) = Value.int .u8 ((set16.getD v 0).toNat : Int) := by
  have key : ∀ v : Fin 16, ((⟨#[48, 49, 50, 51, 52, 53, 54, 55, 56, 57, 97, 98, 99, 100, 101, 102, 103, 104, 105, 106, 107, 108, 109, 110, 111, 112, 113, 114, 115, 116, 117, 118, 119, 120, 121, 122]⟩ : ByteArray)[v.val]'(Nat.lt_of_lt_of_le v.isLt (by decide))) = set16.getD v.val 0 := by decide
  rw [key ⟨v, h⟩]
theorem set_drop {l : List UInt8} {i : Nat} {c : UInt8} (h : i < l.length) : (l.set i c).drop i = c :: l.drop (i + 1) := by
  rw [List.drop_eq_getElem_cons (by simpa using h), List.drop_set_of_lt (by omega)]
  simp
theorem hexNF_small {f u : Nat} (h : u < 16) : hexNF (f + 1) u = [set16.getD u 0] := by rw [hexNF, if_pos h]
theorem hexNF_big {f u : Nat} (h : ¬ u < 16) : hexNF (f + 1) u = hexNF f (u / 16) ++ [set16.getD (u % 16) 0] := by rw [hexNF, if_neg h]

theorem slice65 (B j : Nat) (hj : j < 65) (W : World) : (Instr.sliceAt 113 (.pointer (some ⟨B, 0, none⟩)) (some (.int .i64 (j : Int))) none none).run Tryz.prog W = .ok (.slice (some ⟨B, j, none⟩) (65 - j) (65 - j)) W := by
  have hal : Tryz.prog.arrayLen 113 = 65 := by simp [Program.arrayLen, Tryz.underlying113]
  have hel : Tryz.prog.elem 113 = 5 := by simp [Program.elem, Tryz.underlying113]
  rw [run_sliceAt_array_l W 113 ⟨B, 0, none⟩ (by rw [hal, hel]; exact Tryz.underlying113) .i64 (j : Int) (by omega) (by rw [hal]; omega)]
  rw [hal, hel]
  have hs : (sizeOf 5).run Tryz.prog W = .ok 1 W := by simp [sizeOf, go_sem]; rfl
  rw [hs]
  simp only [Result.andThen, slicedAt, Int.toNat_natCast]
  rw [if_neg (by omega), addr_add, Nat.mul_one]
set_option maxRecDepth 100000 in
set_option maxHeartbeats 2400000 in
theorem bits16_any (n : Nat) (hn : n < 65536) (w : World) (hT : TzT w) :
    Calls Tryz.prog 74 #[.slice none 0 0, .int .u64 (n : Int), .int .i64 16, .bool false, .bool false] w fun e w' => e = .returned (.tuple #[.slice none 0 0, .string ⟨(hexN n).toArray⟩]) ∧ Below w.heap.size w w' := by
  obtain ⟨R, HR⟩ : ∃ R, Hid (hexNF 4 n ++ (List.replicate 65 0).drop 65 = R) := ⟨_, Lib.hid rfl⟩
  have e0 : hexN n = R := by rw [← HR.out]; simp [hexN]
  rw [e0]
  have hBA := (Below.refl w.heap.size w).alloc (Nat.le_refl _) (.cells Tryz.zeroCells113 113)
  have HBA := Lib.hid hBA
  have HARR := Lib.hid (arr_new w 113)
  have CP := Lib.hid pow2_16
  have CT := Lib.hid (tz_16 _ (tz_below hT hBA))
  clear e0 hBA hT
  go_enter Tryz.func74, Tryz.ntmps74
  go_wp2_with fail
  refine (CP.out _).mono ?_
  rintro e w1 ⟨rfl, rfl⟩
  go_wp2_with fail
  refine CT.out.mono ?_
  rintro e w1 ⟨rfl, rfl⟩
  go_wp2_with fail
  go_loopg [1, 13] 4 (fun gas uv iv wr => ∃ (u i f : Nat) (l : Bs), uv = .int .u64 (u : Int) ∧ iv = .int .i64 (i : Int) ∧ l.length = 65 ∧ f = gas ∧ gas + 61 = i ∧ 1 ≤ gas ∧ gas ≤ 4 ∧ Hid (u < 16 ^ f) ∧ u < 65536 ∧ Hid (hexNF f u ++ l.drop i = R) ∧ Hid (Bytes wr w.heap.size l) ∧ Hid (Below w.heap.size w wr))
  case atStart => exact ⟨n, 65, 4, List.replicate 65 0, rfl, rfl, by simp, rfl, rfl, by omega, by omega, Lib.hid (by omega), hn, HR, HARR, HBA⟩
  case round =>
    obtain ⟨u, i, f, l, rfl, rfl, hl, hf, hgi, hg1, hg4, HU, hu, HW, HBY, HB⟩ := hrel
    subst hf
    have HLN := Lib.hid hl; clear hl
    have hsz := HB.out.size
    obtain ⟨j, rfl⟩ : ∃ j, i = j + 1 := ⟨i - 1, by omega⟩
    have hj65 : j < 65 := by omega
    obtain ⟨c0, hc0⟩ : ∃ c, l[j]? = some c := ⟨_, List.getElem?_eq_getElem (by have := HLN.out; omega)⟩
    obtain ⟨hcell, hfrz⟩ := HBY.out j c0 hc0
    have hji : Value.int .i64 ((j : Int) + 1 - 1) = Value.int .i64 (j : Int) := by congr 1; omega
    obtain ⟨f', rfl⟩ : ∃ f', f = f' + 1 := ⟨f - 1, by omega⟩
    clear hc0
    by_cases hbig : u < 16
    · have HW2 := Lib.hid (by have h := HW.out; rwa [hexNF_small hbig] at h)
      have hx := idx36 u hbig
      obtain ⟨d, hd⟩ : ∃ d, set16.getD u 0 = d := ⟨_, rfl⟩
      rw [hd] at hx HW2
      clear hd
      have HBY2 := Lib.hid (bytes_set HBY.out j d)
      have HB2 := Lib.hid (HB.out.setCell (p := ⟨w.heap.size, j, none⟩) (Nat.le_refl _) (.int .u8 (d.toNat : Int)))
      have HR2 : Hid ((l.set j d).drop j = R) := Lib.hid (by rw [set_drop (by have := HLN.out; omega)]; exact HW2.out)
      have hsl := slice65 w.heap.size j hj65 (wr.setCell ⟨w.heap.size, j, none⟩ (.int .u8 (d.toNat : Int)))
      have hll : (l.set j d).length = 65 := by rw [List.length_set]; exact HLN.out
      have hRl : R.length = 65 - j := by rw [← HR2.out, List.length_drop, hll]
      have hcv := run_convert_bytes_back (P := Tryz.prog) (wr.setCell ⟨w.heap.size, j, none⟩ (.int .u8 (d.toNat : Int))) 51 9 5 ⟨w.heap.size, j, none⟩ (65 - j) R Tryz.underlying51 Tryz.underlying5 Tryz.underlying9 (fun k hk => by
        have hx : (l.set j d)[j + k]? = some R[k] := by
          rw [← List.getElem?_drop, HR2.out]; exact List.getElem?_eq_getElem hk
        have := (HBY2.out (j + k) _ hx).1
        have ha : (⟨w.heap.size, j, none⟩ : Addr).add k = ⟨w.heap.size, j + k, none⟩ := by unfold Addr.add; split <;> simp_all
        rw [ha]; exact this)
      rw [hRl] at hcv
      clear hll hRl
      go_wp2_with fail
      go_ret2
      exact ⟨rfl, HB2.out⟩
    · have h16 : (16 : Int) ≤ (u : Int) := by omega
      obtain ⟨v, hv⟩ : ∃ v : Nat, u / 16 = v := ⟨_, rfl⟩
      obtain ⟨z, hz⟩ : ∃ z : Nat, u % 16 = z := ⟨_, rfl⟩
      have hz16 : z < 16 := by omega
      have hf1 : 1 ≤ f' := by
        rcases Nat.lt_or_ge 0 f' with h | h
        · exact h
        · have h0 : f' = 0 := by omega
          have := HU.out
          rw [h0] at this; omega
      have HU2 : Hid (v < 16 ^ f') := Lib.hid (by have h := HU.out; rw [Nat.pow_succ] at h; omega)
      have HW2 := Lib.hid (by have h := HW.out; rwa [hexNF_big hbig, hv, hz, List.append_assoc] at h)
      have hx := idx36 z hz16
      obtain ⟨d, hd⟩ : ∃ d, set16.getD z 0 = d := ⟨_, rfl⟩
      rw [hd] at hx HW2
      clear hd
      have hand := congrArg (Value.int .u64) (show bits .and .u64 (u : Int) 15 = (z : Int) by rw [and15u (by omega) (by omega)]; omega)
      have hdiv := congrArg (Value.int .u64) (show (u : Int) / 16 = (v : Int) by omega)
      have HBY2 := Lib.hid (bytes_set HBY.out j d)
      have HB2 := Lib.hid (HB.out.setCell (p := ⟨w.heap.size, j, none⟩) (Nat.le_refl _) (.int .u8 (d.toNat : Int)))
      have HR2 : Hid (hexNF f' v ++ (l.set j d).drop j = R) := Lib.hid (by rw [set_drop (by have := HLN.out; omega)]; exact HW2.out)
      have hv6 : v < 65536 := by omega
      have HLN2 : Hid ((l.set j d).length = 65) := Lib.hid (by rw [List.length_set]; exact HLN.out)
      clear hv hz
      go_wp2_with fail
      go_roundg f'
      case rel => exact ⟨v, j, f', _, by first | rfl | go_num, by first | rfl | go_num, HLN2.out, by omega, by omega, by omega, by omega, HU2, hv6, HR2, HBY2, HB2⟩
      case measure => omega
set_option maxRecDepth 100000 in
set_option maxHeartbeats 1000000 in
theorem ifmt16_any (n : Nat) (hn : n < 65536) (w : World) (hT : TzT w) :
    Calls Tryz.prog 67 #[.int .i64 (n : Int), .int .i64 16] w fun e w' => e = .returned (.string ⟨(hexN n).toArray⟩) ∧ Below w.heap.size w w' := by
  have C := Lib.hid (bits16_any n hn w hT)
  clear hT
  go_enter Tryz.func67, Tryz.ntmps67
  go_wp2_with fail
  refine C.out.mono ?_
  rintro e w1 ⟨rfl, hB⟩
  have HB := Lib.hid hB
  clear hB
  go_wp2_with fail
  go_ret
  exact ⟨rfl, HB.out⟩
set_option maxRecDepth 100000 in
set_option maxHeartbeats 1000000 in
theorem fmt16_any (n : Nat) (hn : n < 65536) (w : World) (hT : TzT w) :
    Calls Tryz.prog 118 #[.int .i64 (n : Int), .int .i64 16] w fun e w' => e = .returned (.string ⟨(hexN n).toArray⟩) ∧ Below w.heap.size w w' := by
  have C := Lib.hid (ifmt16_any n hn w hT)
  clear hT
  go_enter Tryz.func118, Tryz.ntmps118
  go_wp2_with fail
  refine C.out.mono ?_
  rintro e w1 ⟨rfl, hB⟩
  have HB := Lib.hid hB
  clear hB
  go_wp2_with fail
  go_ret
  exact ⟨rfl, HB.out⟩
end Go.Proofs.YtjejmgdpjfdhjaaGreatDoor.fmt16
namespace Go.Proofs.YtjejmgdpjfdhjaaGreatDoor.dshowB
open Go.RowKit Go.Proofs.YtjejmgdpjfdhjaaGreatDoor.kit Go.Proofs.YtjejmgdpjfdhjaaGreatDoor.nspec Go.Proofs.YtjejmgdpjfdhjaaGreatDoor.bits Go.Proofs.YtjejmgdpjfdhjaaGreatDoor.bld Go.Proofs.YtjejmgdpjfdhjaaGreatDoor.dshow Go.Proofs.YtjejmgdpjfdhjaaGreatDoor.showA Go.Proofs.YtjejmgdpjfdhjaaGreatDoor.showB Go.Proofs.YtjejmgdpjfdhjaaGreatDoor.rsplit Go.Proofs.YtjejmgdpjfdhjaaGreatDoor.dshowA Go.Proofs.YtjejmgdpjfdhjaaGreatDoor.tname Go.Proofs.YtjejmgdpjfdhjaaGreatDoor.small Go.Proofs.YtjejmgdpjfdhjaaGreatDoor.val Go.Proofs.YtjejmgdpjfdhjaaGreatDoor.nshow Go.Proofs.YtjejmgdpjfdhjaaGreatDoor.fld Go.Proofs.YtjejmgdpjfdhjaaGreatDoor.to32 Go.Proofs.YtjejmgdpjfdhjaaGreatDoor.textsT
set_option linter.unusedVariables false

abbrev PowT (w : World) : Prop := Lib.TabIs Tryz.prog w "internal/strconv.uint64pow10" .u64 Lib.pow10Tab
theorem pow_below {w w' : World} (h : PowT w) (hb : Below w.heap.size w w') : PowT w' := by
  unfold PowT Lib.TabIs World.var? at h ⊢
  cases hg : Tryz.prog.globalNamed "internal/strconv.uint64pow10" with
  | none => rw [hg] at h; cases h
  | some g =>
    rw [hg] at h
    simp only [Option.bind_some] at h ⊢
    have hlt : g < w.heap.size := by
      rcases Nat.lt_or_ge g w.heap.size with h' | h'
      · exact h'
      · rw [Array.getElem?_eq_none h'] at h; cases h
    rw [hb.block g hlt]; exact h
/-- a list of texts of the call's own -/
def LV (w : World) (v : Value) (base : Nat) (ls : List Bs) : Prop :=
  (ls = [] ∧ v = .slice none 0 0) ∨ ∃ g c, v = .slice (some ⟨g, 0, none⟩) ls.length c ∧ ls.length ≤ c ∧ c ≤ maxLen ∧ base ≤ g ∧ g < w.heap.size ∧ ∀ (j : Nat) (x : Bs), ls[j]? = some x → w.cell? ⟨g, j, none⟩ = some (strV x)
theorem LV.of_own {w : World} {base : Nat} {v : Value} {ls : List Bs} (h : w.ownsRow base 9 1 v ls.length (ls.map strV)) : LV w v base ls := by
  rcases h.2 with ⟨rfl, h0⟩ | ⟨g, cap, cur, rfl, hb, hg, h1, h2, _, htake⟩
  · exact .inl ⟨List.eq_nil_of_length_eq_zero h0, rfl⟩
  · refine .inr ⟨g, cap, rfl, h1, h2, hb, (Array.getElem?_eq_some_iff.1 hg).1, ?_⟩
    intro j x hx
    have := h.cells (g := g) rfl j (strV x) (by rw [List.getElem?_map, hx]; rfl)
    have hadd : (⟨g, 0, none⟩ : Addr).add j = ⟨g, j, none⟩ := by unfold Addr.add; split <;> simp_all
    rw [hadd] at this
    exact this
theorem LV.below {w w' : World} {v : Value} {base : Nat} {ls : List Bs} (h : LV w v base ls) (hB : Below w.heap.size w w') : LV w' v base ls := by
  rcases h with h | ⟨g, c, h1, h2, h3, h4, h5, h6⟩
  · exact .inl h
  · exact .inr ⟨g, c, h1, h2, h3, h4, Nat.lt_of_lt_of_le h5 hB.size, fun j x hx => (hB.cell (p := ⟨g, j, none⟩) h5).trans (h6 j x hx)⟩
theorem LV.mono {w : World} {v : Value} {base b' : Nat} {ls : List Bs} (h : LV w v base ls) (hb : b' ≤ base) : LV w v b' ls := by
  rcases h with h | ⟨g, c, h1, h2, h3, h4, h5⟩
  · exact .inl h
  · exact .inr ⟨g, c, h1, h2, h3, Nat.le_trans hb h4, h5⟩
theorem LV.drew {w : World} {v : Value} {base : Nat} {ls : List Bs} (h : LV w v base ls) : LV w.drew v base ls := h.below ((Below.refl _ _).drew)
/-- what a field's 'show' leaves -/
def ShowPost (w : World) (ls : List Bs) (e : Ending) (w' : World) : Prop := Below w.heap.size w w' ∧ ∃ v, e = .returned v ∧ LV w' v w.heap.size ls
theorem show_one {w w2 : World} (hB : Below w.heap.size w w2) {x : Bs} {X : ByteArray} (hx : X.data.toList = x) (ty : TypeId) : ShowPost w [x] (.returned (.slice (some ⟨w2.heap.size, 0, none⟩) 1 1)) (w2.alloc (.cells #[.string X] ty)) := by
  refine ⟨hB.alloc hB.size _, _, rfl, .inr ⟨w2.heap.size, 1, rfl, Nat.le_refl _, by unfold maxLen; omega, hB.size, by rw [World.size_alloc]; omega, ?_⟩⟩
  intro j y hj
  match j, hj with
  | 0, hj =>
    have : x = y := by simpa using hj
    subst this
    rw [World.cell?_alloc_new]
    unfold strV
    rw [← hx]
    rfl
/-- an append of a list of texts to a list of the call's own -/
theorem wpList_append_lv {w : World} {ops : Array Oper} {rest : List Oper} {o : Oper} {a : Act} {Q : Exit → Act → World → Prop} (hgd : o.guard = none) (s x : Operand)
    (ho : o.op = .call { callee := .builtin .append, args := #[s, x], argTypes := #[37, 37] })
    (base : Nat) (v : Value) (L : List Bs) (hs : a.eval s = v) (hown : w.ownsRow base 9 1 v L.length (L.map strV)) (bx : Nat) (M : List Bs) (u : Value) (hx : a.eval x = u) (hlv : LV w u bx M)
    (hlen : L.length + M.length ≤ 1000000000) (hbase : base ≤ w.heap.size)
    (h : ∀ v' w', w'.ownsRow base 9 1 v' (L ++ M).length ((L ++ M).map strV) → w.grownBy w' v.ownBlock → wpList Tryz.prog ops Q rest (a.put o.dst v') w') : wpList Tryz.prog ops Q (o :: rest) a w := by
  obtain ⟨i0, hi, hz0, hz1, hz2⟩ := info_parts infoStr
  rcases hlv with ⟨rfl, rfl⟩ | ⟨g, c, rfl, h1, h2, h3, h4, h5⟩
  · refine wpList_append_src hgd s x 37 ho base 9 i0 (.string ByteArray.empty) 1 16 Tryz.underlying37 hi hz0 hz1 hz2 rfl (by decide) v L.length (L.map strV) hs hown none 0 0 [] hx rfl (.inl ⟨rfl, rfl, rfl⟩) (by simp) (by unfold maxLen; omega) (by omega) hbase ?_
    intro v' w' h6 h7
    exact h v' w' (by simpa using h6) h7
  · refine wpList_append_src hgd s x 37 ho base 9 i0 (.string ByteArray.empty) 1 16 Tryz.underlying37 hi hz0 hz1 hz2 rfl (by decide) v L.length (L.map strV) hs hown (some ⟨g, 0, none⟩) M.length c (M.map strV) hx (by simp) (.inr ⟨_, rfl, ?_⟩) ?_ (by unfold maxLen; omega) (by omega) hbase ?_
    · intro j z hz
      rw [List.getElem?_map] at hz
      obtain ⟨y, hy, rfl⟩ := Option.map_eq_some_iff.1 hz
      rw [addr_add]
      exact h5 j y hy
    · intro z hz
      obtain ⟨y, _, rfl⟩ := List.mem_map.1 hz
      rfl
    · intro v' w' h6 h7
      exact h v' w' (by simpa using h6) h7
theorem itoa_cast (n : Nat) : Lib.itoa (n : Int) = Lib.decDigits n := by rw [itoa_nat (by omega)]; rfl
theorem digits_nat (n : Nat) (h : n ≤ 9223372036854775807) (w : World) (hP : PowT w) :
    Calls Tryz.prog 13 #[.int .i64 (n : Int)] w fun e w' => e = .returned (.string ⟨(Lib.decDigits n).toArray⟩) ∧ Below w.heap.size w w' := by
  have h := digits_any (n : Int) (by omega) (by omega) w hP
  rw [itoa_cast] at h
  exact h
set_option maxRecDepth 100000 in
set_option maxHeartbeats 1000000 in
theorem num_show (k : Nat) (s : ByteArray) (w : World) (hs : s.size ≤ 4) (hP : PowT w) :
    Calls Tryz.prog 99 #[.int .i64 (k : Int), .string s] w (ShowPost w (showF (.num k) s.data.toList)) := by
  obtain ⟨n, hn⟩ : ∃ n, valL s.data.toList 0 = n := ⟨_, rfl⟩
  have hn4 : n < 4294967296 := by rw [← hn]; exact valL_four (by rw [size_len]; exact hs)
  have CS := Lib.hid (fun w => small_any s w hs)
  rw [hn] at CS
  have CD := Lib.hid (digits_nat n (by omega) w hP)
  have e0 : showF (.num k) s.data.toList = [Lib.decDigits n] := by rw [showF, hn]
  rw [e0]
  clear e0 hn hP
  go_enter Tryz.func99, Tryz.ntmps99
  go_wp2_with fail
  refine (CS.out _).mono ?_
  rintro e w1 ⟨rfl, rfl⟩
  go_wp2_with fail
  refine CD.out.mono ?_
  rintro e w1 ⟨rfl, hB1⟩
  have HB1 := Lib.hid hB1
  clear hB1
  go_wp2_with fail
  go_ret
  exact show_one HB1.out rfl _
set_option maxRecDepth 100000 in
set_option maxHeartbeats 1000000 in
theorem host_show (s : ByteArray) (w : World) (hs : s.size ≤ 65535) :
    Calls Tryz.prog 106 #[.agg #[], .string s] w (ShowPost w (showF .host s.data.toList)) := by
  have HBA := Lib.hid ((Below.refl w.heap.size w).alloc (Nat.le_refl _) (.cells #[] 67))
  rw [showF]
  go_enter Tryz.func106, Tryz.ntmps106
  go_wp2_with fail
  refine (nshow_any s _ (by omega)).mono ?_
  rintro e w1 ⟨rfl, hB1⟩
  have HB1 := Lib.hid (HBA.out.trans (hB1.mono HBA.out.size))
  clear hB1
  go_wp2_with fail
  go_ret
  exact show_one HB1.out rfl _
set_option maxRecDepth 100000 in
set_option maxHeartbeats 1000000 in
theorem text_show (s : ByteArray) (w : World) (hs : s.size ≤ 65535) (h1 : 1 ≤ s.size) :
    Calls Tryz.prog 109 #[.agg #[], .string s] w (ShowPost w (showF .text s.data.toList)) := by
  have HBA := Lib.hid ((Below.refl w.heap.size w).alloc (Nat.le_refl _) (.cells #[] 68))
  rw [showF]
  have hd : (s.extract 1 s.size).data.toList = s.data.toList.drop 1 := ext_end s 1
  obtain ⟨u, hu⟩ : ∃ u, s.extract 1 s.size = u := ⟨_, rfl⟩
  rw [hu] at hd
  have hus : u.size ≤ s.size := by rw [← hu, ByteArray.size_extract]; omega
  obtain ⟨D, hD⟩ : ∃ D, s.data.toList.drop 1 = D := ⟨_, rfl⟩
  rw [hD] at hd ⊢
  have C := Lib.hid (fun w => quoted_any u w (by omega))
  rw [hd] at C
  clear hd
  go_enter Tryz.func109, Tryz.ntmps109
  go_wp2_with fail
  refine (C.out _).mono ?_
  rintro e w1 ⟨rfl, hB1⟩
  have HB1 := Lib.hid (HBA.out.trans (hB1.mono HBA.out.size))
  clear hB1
  go_wp2_with fail
  go_ret
  exact show_one HB1.out rfl _
set_option maxRecDepth 100000 in
set_option maxHeartbeats 1000000 in
theorem tail_show (s : ByteArray) (w : World) (hs : s.size ≤ 65535) :
    Calls Tryz.prog 141 #[.agg #[], .string s] w (ShowPost w (showF .tail s.data.toList)) := by
  have HBA := Lib.hid ((Below.refl w.heap.size w).alloc (Nat.le_refl _) (.cells #[] 77))
  rw [showF]
  go_enter Tryz.func141, Tryz.ntmps141
  go_wp2_with fail
  refine (quoted_any s _ (by omega)).mono ?_
  rintro e w1 ⟨rfl, hB1⟩
  have HB1 := Lib.hid (HBA.out.trans (hB1.mono HBA.out.size))
  clear hB1
  go_wp2_with fail
  go_ret
  exact show_one HB1.out rfl _
set_option maxRecDepth 100000 in
set_option maxHeartbeats 1000000 in
theorem hexes_show (s : ByteArray) (w : World) (hs : s.size ≤ 65535) :
    Calls Tryz.prog 120 #[.agg #[], .string s] w (ShowPost w (showF .hexes s.data.toList)) := by
  have HBA := Lib.hid ((Below.refl w.heap.size w).alloc (Nat.le_refl _) (.cells #[] 71))
  rw [showF]
  go_enter Tryz.func120, Tryz.ntmps120
  go_wp2_with fail
  refine (hex_any s _ (by omega)).mono ?_
  rintro e w1 ⟨rfl, hB1⟩
  have HB1 := Lib.hid (HBA.out.trans (hB1.mono HBA.out.size))
  clear hB1
  go_wp2_with fail
  go_ret
  exact show_one HB1.out rfl _
set_option maxRecDepth 100000 in
set_option maxHeartbeats 1000000 in
theorem hash_show (s : ByteArray) (w : World) (hs : s.size ≤ 65535) (h1 : 1 ≤ s.size) :
    Calls Tryz.prog 137 #[.agg #[], .string s] w (ShowPost w (showF .hash s.data.toList)) := by
  have HBA := Lib.hid ((Below.refl w.heap.size w).alloc (Nat.le_refl _) (.cells #[] 76))
  rw [showF]
  have hd : (s.extract 1 s.size).data.toList = s.data.toList.drop 1 := ext_end s 1
  obtain ⟨u, hu⟩ : ∃ u, s.extract 1 s.size = u := ⟨_, rfl⟩
  rw [hu] at hd
  have hus : u.size ≤ s.size := by rw [← hu, ByteArray.size_extract]; omega
  obtain ⟨D, hD⟩ : ∃ D, s.data.toList.drop 1 = D := ⟨_, rfl⟩
  rw [hD] at hd ⊢
  have C := Lib.hid (fun w => nto32_any u w (by omega))
  rw [hd] at C
  clear hd
  go_enter Tryz.func137, Tryz.ntmps137
  go_wp2_with fail
  refine (C.out _).mono ?_
  rintro e w1 ⟨rfl, hB1⟩
  have HB1 := Lib.hid (HBA.out.trans (hB1.mono HBA.out.size))
  clear hB1
  go_wp2_with fail
  go_ret
  exact show_one HB1.out rfl _
set_option maxRecDepth 100000 in
set_option maxHeartbeats 1000000 in
theorem salt_show (s : ByteArray) (w : World) (hs : s.size ≤ 65535) (h1 : 1 ≤ s.size) :
    Calls Tryz.prog 134 #[.agg #[], .string s] w (ShowPost w (showF .salt s.data.toList)) := by
  have HBA := Lib.hid ((Below.refl w.heap.size w).alloc (Nat.le_refl _) (.cells #[] 75))
  rw [showF]
  have hd : (s.extract 1 s.size).data.toList = s.data.toList.drop 1 := ext_end s 1
  obtain ⟨u, hu⟩ : ∃ u, s.extract 1 s.size = u := ⟨_, rfl⟩
  rw [hu] at hd
  have hus : u.size ≤ s.size := by rw [← hu, ByteArray.size_extract]; omega
  obtain ⟨D, hD⟩ : ∃ D, s.data.toList.drop 1 = D := ⟨_, rfl⟩
  rw [hD] at hd
  have C := Lib.hid (fun w => hex_any u w (by omega))
  rw [hd] at C
  by_cases he : s.size = 1
  · have e0 : saltS s.data.toList = [45] := by unfold saltS; rw [if_pos (by rw [size_len]; exact he)]
    rw [e0]
    have hb : ((s.size : Int) == 1) = true := by rw [beq_iff_eq]; omega
    clear e0 hd C
    go_enter Tryz.func134, Tryz.ntmps134
    go_wp2_with fail
    go_ret
    have h := show_one HBA.out (x := [45]) (X := ⟨#[45]⟩) rfl 9
    rw [World.size_alloc] at h
    exact h
  · have e0 : saltS s.data.toList = hexS (s.data.toList.drop 1) := by unfold saltS; rw [if_neg (by rw [size_len]; exact he)]
    rw [e0, hD]
    have hb : ((s.size : Int) == 1) = false := by rw [beq_eq_false_iff_ne]; omega
    clear e0 hd
    go_enter Tryz.func134, Tryz.ntmps134
    go_wp2_with fail
    refine (C.out _).mono ?_
    rintro e w1 ⟨rfl, hB1⟩
    have HB1 := Lib.hid (HBA.out.trans (hB1.mono HBA.out.size))
    clear hB1
    go_wp2_with fail
    go_ret
    exact show_one HB1.out rfl _
set_option maxRecDepth 100000 in
set_option maxHeartbeats 1000000 in
theorem kind_show (s : ByteArray) (w : World) (hs : s.size ≤ 2) (hP : PowT w) :
    Calls Tryz.prog 124 #[.agg #[], .string s] w (ShowPost w (showF .kind s.data.toList)) := by
  have HBA := Lib.hid ((Below.refl w.heap.size w).alloc (Nat.le_refl _) (.cells #[] 72))
  obtain ⟨n, hn⟩ : ∃ n, valL s.data.toList 0 = n := ⟨_, rfl⟩
  have hn4 : n < 65536 := by rw [← hn]; exact valL_two (by rw [size_len]; exact hs)
  have CS := Lib.hid (fun w => small_any s w (by omega))
  rw [hn] at CS
  have CD := Lib.hid (dtname_any (n : Int) (by omega) (by omega) _ (pow_below hP HBA.out))
  rw [showF, hn]
  clear hn hP
  go_enter Tryz.func124, Tryz.ntmps124
  go_wp2_with fail
  refine (CS.out _).mono ?_
  rintro e w1 ⟨rfl, rfl⟩
  go_wp2_with fail
  refine CD.out.mono ?_
  rintro e w1 ⟨rfl, hB1⟩
  have HB1 := Lib.hid (HBA.out.trans (hB1.mono HBA.out.size))
  clear hB1
  go_wp2_with fail
  go_ret
  exact show_one HB1.out rfl _
end Go.Proofs.YtjejmgdpjfdhjaaGreatDoor.dshowB
namespace Go.Proofs.YtjejmgdpjfdhjaaGreatDoor.ip6
open Go.RowKit Go.Proofs.YtjejmgdpjfdhjaaGreatDoor.kit Go.Proofs.YtjejmgdpjfdhjaaGreatDoor.nspec Go.Proofs.YtjejmgdpjfdhjaaGreatDoor.bits Go.Proofs.YtjejmgdpjfdhjaaGreatDoor.bld Go.Proofs.YtjejmgdpjfdhjaaGreatDoor.dshow Go.Proofs.YtjejmgdpjfdhjaaGreatDoor.rsplit Go.Proofs.YtjejmgdpjfdhjaaGreatDoor.dshowA Go.Proofs.YtjejmgdpjfdhjaaGreatDoor.dshowB Go.Proofs.YtjejmgdpjfdhjaaGreatDoor.fld Go.Proofs.YtjejmgdpjfdhjaaGreatDoor.small Go.Proofs.YtjejmgdpjfdhjaaGreatDoor.val Go.Proofs.YtjejmgdpjfdhjaaGreatDoor.fmt16
set_option linter.unusedVariables false

theorem zAt_eq (d : Bs) (p : Nat) (h : p < 8) : zAt (zs6 d) p = zeroG d p := by
  unfold zAt zs6
  rw [List.getD, List.getElem?_map, List.getElem?_range h]; rfl
theorem hAt_eq (d : Bs) (p : Nat) (h : p < 8) : (hs6 d).getD p [] = hexN (group d p) := by
  unfold hs6
  rw [List.getD, List.getElem?_map, List.getElem?_range h]; rfl
theorem zero_at (s : ByteArray) (p q : Nat) (h : q + 1 < s.size) (hq : 2 * p = q) : zeroG s.data.toList p = (((s[q]'(by omega)).toNat : Int) == 0 && ((s[q + 1]'h).toNat : Int) == 0) := by
  unfold zeroG
  rw [hq, getD_at s q (by omega), getD_at s (q + 1) h]
  have e : ∀ c : UInt8, (c == 0) = ((c.toNat : Int) == 0) := by
    intro c
    by_cases hc : c = 0
    · subst hc; rfl
    · have h1 : (c == 0) = false := by rw [beq_eq_false_iff_ne]; exact hc
      have h2 : ((c.toNat : Int) == 0) = false := by
        rw [beq_eq_false_iff_ne]; intro h; exact hc (UInt8.toNat.inj (by show c.toNat = 0; omega))
      rw [h1, h2]
  rw [e, e]
theorem pair_val (s : ByteArray) (k q : Nat) (hq : 2 * k = q) (h : q + 2 ≤ s.size) : valL (s.extract q (q + 2)).data.toList 0 = group s.data.toList k := by
  unfold group
  rw [hq, getD_at s q (by omega), getD_at s (q + 1) (by omega), Lib.extract_data, drop_cons s q (by omega), drop_cons s (q + 1) (by omega)]
  have e : q + 2 - q = 2 := by omega
  rw [e]
  simp [valL]
theorem run_go {z : List Bool} {f k n N : Nat} (h : n + runZ z (f + 1) (k + n) = N) (h8 : k + n < 8) (hz : zAt z (k + n) = true) : n + 1 + runZ z f (k + (n + 1)) = N := by
  rw [runZ, if_pos ⟨h8, hz⟩] at h
  rw [← h]
  have : k + (n + 1) = k + n + 1 := by omega
  rw [this]; omega
theorem run_end {z : List Bool} {f k n N : Nat} (h : n + runZ z f (k + n) = N) (h8 : ¬ (k + n < 8 ∧ zAt z (k + n) = true)) : n = N := by
  cases f with
  | zero => simpa [runZ] using h
  | succ f => rw [runZ, if_neg h8] at h; simpa using h
theorem run_le (z : List Bool) : ∀ f k, k ≤ 8 → runZ z f k ≤ 8 - k
  | 0, k, _ => by simp [runZ]
  | f + 1, k, h => by
    simp only [runZ]
    split
    · rename_i hc
      have := run_le z f (k + 1) (by omega)
      omega
    · omega
theorem best_go {z : List Bool} {f k : Nat} {a : Int} {m : Nat} {P : Int × Nat} (h : bestF z (f + 1) k a m = P) : (m < runZ z 8 k ∧ bestF z f (k + 1) k (runZ z 8 k) = P) ∨ (¬ m < runZ z 8 k ∧ bestF z f (k + 1) a m = P) := by
  rw [bestF] at h
  split at h
  · rename_i hc; exact .inl ⟨hc, h⟩
  · rename_i hc; exact .inr ⟨hc, h⟩

set_option maxRecDepth 100000 in
set_option maxHeartbeats 1000000 in
theorem ip6_show (s : ByteArray) (w : World) (hs : s.size = 16) (hT : TzT w) :
    Calls Tryz.prog 116 #[.agg #[], .string s] w (ShowPost w (showF .ip6 s.data.toList)) := by
  have HBA := Lib.hid ((Below.refl w.heap.size w).alloc (Nat.le_refl _) (.cells #[] 70))
  obtain ⟨z, hz⟩ : ∃ z, zs6 s.data.toList = z := ⟨_, rfl⟩
  obtain ⟨H, hH⟩ : ∃ H, hs6 s.data.toList = H := ⟨_, rfl⟩
  obtain ⟨BA, BM, hbest⟩ : ∃ BA BM, bestS z = (BA, BM) := ⟨_, _, rfl⟩
  obtain ⟨R, hR⟩ : ∃ R, outS H BA BM = R := ⟨_, rfl⟩
  have e0 : showF .ip6 s.data.toList = [R] := by rw [showF, ip6S, hz, hH, hbest]; exact congrArg (fun x => [x]) hR
  rw [e0]
  have HZ := Lib.hid hz; have HH := Lib.hid hH; have HBEST := Lib.hid hbest; have HR := Lib.hid hR
  have HSZ := Lib.hid hs
  have HT := Lib.hid hT
  have h16 : (s.size : Int) = 16 := by omega
  clear e0 hz hH hbest hR hT
  go_enter Tryz.func116, Tryz.ntmps116
  go_wp2_with fail
  go_loopg [5, 6, 7, 8] 9 (fun gas av mv kv _ wr => ∃ (k m : Nat) (a : Int), kv = .int .i64 k ∧ mv = .int .i64 m ∧ av = .int .i64 a ∧ k ≤ 8 ∧ k + gas = 9 ∧ m ≤ 8 ∧ 1 ≤ m ∧ -1 ≤ a ∧ a ≤ 8 ∧ (0 ≤ a ∨ m = 1) ∧ Hid (bestF z (8 - k) k a m = (BA, BM)) ∧ wr = w.alloc (.cells #[] 70))
  case atStart => exact ⟨0, 1, -1, rfl, rfl, rfl, by omega, by omega, by omega, by omega, by omega, by omega, .inr rfl, HBEST, rfl⟩
  case round =>
    obtain ⟨k, m, a, rfl, rfl, rfl, hk, hkg, hm, hm1, ha, ha8, ham1, HW, rfl⟩ := hrel
    have HAM := Lib.hid ham1; clear ham1
    obtain ⟨gk', hgk'⟩ : ∃ g, g = gk := ⟨_, rfl⟩
    rw [← hgk'] at hkg
    have HKG := Lib.hid hkg; clear hkg
    by_cases h8 : k < 8
    · obtain ⟨N, hN⟩ : ∃ N, runZ z 8 k = N := ⟨_, rfl⟩
      have hN8 : N ≤ 8 - k := by rw [← hN]; exact run_le z 8 k hk
      have hW2 := HW.out
      rw [show 8 - k = 7 - k + 1 by omega] at hW2
      have HB2 := Lib.hid (best_go hW2)
      clear hW2
      rw [hN] at HB2
      have HN : Hid (0 + runZ z 8 (k + 0) = N) := Lib.hid (by simpa using hN)
      clear hN
      have h8d : decide ((k : Int) < 8) = true := by simp; omega
      go_wp2_with fail
      go_loopg [8] 9 (fun gas nv wq => ∃ (n : Nat), nv = .int .i64 n ∧ n ≤ 8 - k ∧ n + gas = 9 ∧ Hid (n + runZ z (8 - n) (k + n) = N) ∧ wq = w.alloc (.cells #[] 70))
      case atStart => exact ⟨0, rfl, by omega, by omega, HN, rfl⟩
      case round =>
        obtain ⟨n, rfl, hn, hng, HV, rfl⟩ := hrel
        have HNG := Lib.hid hng; clear hng
        obtain ⟨p, HP⟩ : ∃ p, Hid (k + n = p) := ⟨_, Lib.hid rfl⟩
        by_cases hp8 : p < 8
        · obtain ⟨q, HQ⟩ : ∃ q, Hid (2 * p = q) := ⟨_, Lib.hid rfl⟩
          have hq16 : q + 1 < s.size := by have := HSZ.out; have := HQ.out; omega
          have hq15 : q < s.size := by omega
          have HZA := Lib.hid (zAt_eq s.data.toList p hp8)
          have HZ2 := Lib.hid (zero_at s p q hq16 HQ.out)
          have hpv := congrArg (Value.int .i64) (show (k : Int) + (n : Int) = (p : Int) by have := HP.out; omega)
          have hqv := congrArg (Value.int .i64) (show 2 * (p : Int) = (q : Int) by have := HQ.out; omega)
          have hqi : 0 ≤ (q : Int) := by omega
          have hqs : (q : Int) + 1 < (s.size : Int) := by omega
          obtain ⟨b1, hb1⟩ : ∃ b : Bool, ((s[q].toNat : Int) == 0) = b := ⟨_, rfl⟩
          obtain ⟨b2, hb2⟩ : ∃ b : Bool, ((s[q + 1].toNat : Int) == 0) = b := ⟨_, rfl⟩
          have HB12 : Hid (zAt z p = (b1 && b2)) := Lib.hid (by rw [← HZ.out, HZA.out, HZ2.out, hb1, hb2])
          have hlt8 : (p : Int) < 8 := by omega
          clear HZA HZ2
          cases b1 with
          | false =>
            have HE := Lib.hid (run_end HV.out (fun h => by rw [HP.out, HB12.out] at h; simp at h))
            have HBX := Lib.hid (by have h := HB2.out; rw [← HE.out] at h; exact h)
            by_cases hmn : m < n
            · have HBY : Hid (bestF z (8 - (k + 1)) (k + 1) (k : Int) n = (BA, BM)) := Lib.hid (by
                rcases HBX.out with ⟨_, h⟩ | ⟨h, _⟩
                · rw [show 8 - (k + 1) = 7 - k by omega]; exact h
                · exact absurd hmn h)
              clear HBX
              go_wp2_with fail
              have hkg := HKG.out
              go_roundg (gk' - 1)
              case rel => exact ⟨k + 1, n, k, by go_num, rfl, rfl, by omega, by omega, by omega, by omega, by omega, by omega, .inl (by omega), HBY, rfl⟩
              case measure => omega
            · have HBY : Hid (bestF z (8 - (k + 1)) (k + 1) a m = (BA, BM)) := Lib.hid (by
                rcases HBX.out with ⟨h, _⟩ | ⟨_, h⟩
                · exact absurd h hmn
                · rw [show 8 - (k + 1) = 7 - k by omega]; exact h)
              clear HBX
              go_wp2_with fail
              have hkg := HKG.out
              go_roundg (gk' - 1)
              case rel => exact ⟨k + 1, m, a, by go_num, rfl, rfl, by omega, by omega, by omega, by omega, by omega, by omega, HAM.out, HBY, rfl⟩
              case measure => omega
          | true =>
            cases b2 with
            | false =>
              have HE := Lib.hid (run_end HV.out (fun h => by rw [HP.out, HB12.out] at h; simp at h))
              have HBX := Lib.hid (by have h := HB2.out; rw [← HE.out] at h; exact h)
              by_cases hmn : m < n
              · have HBY : Hid (bestF z (8 - (k + 1)) (k + 1) (k : Int) n = (BA, BM)) := Lib.hid (by
                  rcases HBX.out with ⟨_, h⟩ | ⟨h, _⟩
                  · rw [show 8 - (k + 1) = 7 - k by omega]; exact h
                  · exact absurd hmn h)
                clear HBX
                go_wp2_with fail
                have hkg := HKG.out
                go_roundg (gk' - 1)
                case rel => exact ⟨k + 1, n, k, by go_num, rfl, rfl, by omega, by omega, by omega, by omega, by omega, by omega, .inl (by omega), HBY, rfl⟩
                case measure => omega
              · have HBY : Hid (bestF z (8 - (k + 1)) (k + 1) a m = (BA, BM)) := Lib.hid (by
                  rcases HBX.out with ⟨h, _⟩ | ⟨_, h⟩
                  · exact absurd h hmn
                  · rw [show 8 - (k + 1) = 7 - k by omega]; exact h)
                clear HBX
                go_wp2_with fail
                have hkg := HKG.out
                go_roundg (gk' - 1)
                case rel => exact ⟨k + 1, m, a, by go_num, rfl, rfl, by omega, by omega, by omega, by omega, by omega, by omega, HAM.out, HBY, rfl⟩
                case measure => omega
            | true =>
              have hn8 : n < 8 := by have := HP.out; omega
              have hpk : k + n < 8 := by have := HP.out; omega
              have hV := HV.out
              rw [show 8 - n = 7 - n + 1 by omega] at hV
              have HV2 := Lib.hid (run_go hV hpk (by rw [HP.out]; exact HB12.out))
              clear hV
              go_wp2_with fail
              have hng := HNG.out
              go_roundg (gk - 1)
              case rel => exact ⟨n + 1, by go_num, by omega, by omega, Lib.hid (by rw [show 8 - (n + 1) = 7 - n by omega]; exact HV2.out), rfl⟩
              case measure => omega
        · have hge : 8 ≤ (k : Int) + (n : Int) := by have := HP.out; omega
          have HE := Lib.hid (run_end HV.out (fun h => by rw [HP.out] at h; omega))
          have HBX := Lib.hid (by have h := HB2.out; rw [← HE.out] at h; exact h)
          by_cases hmn : m < n
          · have HBY : Hid (bestF z (8 - (k + 1)) (k + 1) (k : Int) n = (BA, BM)) := Lib.hid (by
              rcases HBX.out with ⟨_, h⟩ | ⟨h, _⟩
              · rw [show 8 - (k + 1) = 7 - k by omega]; exact h
              · exact absurd hmn h)
            clear HBX
            go_wp2_with fail
            have hkg := HKG.out
            go_roundg (gk' - 1)
            case rel => exact ⟨k + 1, n, k, by go_num, rfl, rfl, by omega, by omega, by omega, by omega, by omega, by omega, .inl (by omega), HBY, rfl⟩
            case measure => omega
          · have HBY : Hid (bestF z (8 - (k + 1)) (k + 1) a m = (BA, BM)) := Lib.hid (by
              rcases HBX.out with ⟨h, _⟩ | ⟨_, h⟩
              · exact absurd h hmn
              · rw [show 8 - (k + 1) = 7 - k by omega]; exact h)
            clear HBX
            go_wp2_with fail
            have hkg := HKG.out
            go_roundg (gk' - 1)
            case rel => exact ⟨k + 1, m, a, by go_num, rfl, rfl, by omega, by omega, by omega, by omega, by omega, by omega, HAM.out, HBY, rfl⟩
            case measure => omega
    · have hke : k = 8 := by omega
      have HEQ : Hid (a = BA ∧ m = BM) := Lib.hid (by
        have h := HW.out
        rw [hke] at h
        simpa [bestF] using h)
      subst hke
      obtain ⟨rfl, rfl⟩ := HEQ.out
      clear HW HEQ HBEST
      have hfb := Lib.hid (Lib.fresh_isBuilder 53 5 (w.alloc (.cells #[] 70)))
      have HBB := Lib.hid (HBA.out.alloc HBA.out.size (.cells #[.pointer none, .slice none 0 0] 53))
      have HA0 : Hid (Bld (w.heap.size + 1) (w.heap.size + 1) [] ((w.alloc (.cells #[] 70)).alloc (.cells #[.pointer none, .slice none 0 0] 53))) := Lib.hid (by have h := hfb.out; rw [World.size_alloc] at h; exact h)
      have HR0 : Hid ([] ++ outF H a m 9 0 = R) := Lib.hid HR.out
      have hRl : R.length ≤ 45 := by rw [← HR.out, ← HH.out]; exact outF_len _ (hs6_len _) _ _ 9 0
      clear hfb
      go_wp2_with fail
      go_loopg [10] 9 (fun gas kv wr => ∃ (k : Nat) (A : Bs), kv = .int .i64 k ∧ k ≤ 16 ∧ 9 ≤ k + gas ∧ 1 ≤ gas ∧ Hid (A ++ outF H a m gas k = R) ∧ Hid (Bld (w.heap.size + 1) (w.heap.size + 1) A wr) ∧ Hid (Below w.heap.size w wr))
      case atStart => exact ⟨0, [], rfl, by omega, by omega, by omega, HR0, HA0, HBB⟩
      case round =>
        clear HA0 HBB HR0
        obtain ⟨k, A, rfl, hk, hkg, hg1, HW, HA, HB⟩ := hrel
        obtain ⟨f, rfl⟩ : ∃ f, gk = f + 1 := ⟨gk - 1, by omega⟩
        have HKG := Lib.hid hkg; clear hkg hg1
        have hsz := HB.out.size
        have hsz1 : w.heap.size + 1 ≤ wr.heap.size := by
          have h := HA.out
          rcases h with h | h
          · have := h.lt; omega
          · have := h.lt; omega
        have hAl : A.length ≤ R.length := by rw [← HW.out]; simp
        by_cases h8 : k < 8
        · have hf1 : 1 ≤ f := by have := HKG.out; omega
          by_cases hka : (k : Int) = a
          · have HN : Hid ((A ++ [58, 58]) ++ outF H a m f (k + m) = R) := Lib.hid (by
              have h := HW.out
              rw [outF, if_neg (by omega), if_pos hka] at h
              rw [← h]; simp)
            have hb : ((k : Int) == a) = true := by rw [beq_iff_eq]; exact hka
            have CW := Lib.hid (ws (w.heap.size + 1) (w.heap.size + 1) A ⟨#[58, 58]⟩ wr HA.out (by have : (⟨#[58, 58]⟩ : ByteArray).size = 2 := rfl; omega) hsz1)
            clear hka
            go_wp2_with fail
            refine CW.out.mono ?_
            rintro e w2 ⟨rfl, hb2, hE2⟩
            have HB2 := Lib.hid (HB.out.trans (hE2.mono (Nat.le_succ _)))
            have HA2 : Hid (Bld (w.heap.size + 1) (w.heap.size + 1) (A ++ [58, 58]) w2) := Lib.hid hb2
            clear hE2 hb2
            go_wp2_with fail
            have hkg := HKG.out
            go_roundg f
            case rel => exact ⟨k + m, _, by first | rfl | go_num | (congr 1; omega), by omega, by omega, by omega, HN, HA2, HB2⟩
            case measure => omega
          · have hb : ((k : Int) == a) = false := by rw [beq_eq_false_iff_ne]; exact hka
            obtain ⟨q, HQ⟩ : ∃ q, Hid (2 * k = q) := ⟨_, Lib.hid rfl⟩
            have hq16 : q + 2 ≤ s.size := by have := HSZ.out; have := HQ.out; omega
            obtain ⟨x, HX⟩ : ∃ x, Hid (s.extract q (q + 2) = x) := ⟨_, Lib.hid rfl⟩
            have hxs : x.size = 2 := by rw [← HX.out, ByteArray.size_extract]; omega
            obtain ⟨g, HG⟩ : ∃ g, Hid (group s.data.toList k = g) := ⟨_, Lib.hid rfl⟩
            have CS := Lib.hid (fun w => small_any x w (by omega))
            have hval : valL x.data.toList 0 = g := by rw [← HX.out, ← HG.out]; exact pair_val s k q HQ.out hq16
            rw [hval] at CS
            have hg : g < 65536 := by rw [← hval]; exact valL_two (by rw [size_len, hxs]; exact Nat.le_refl 2)
            obtain ⟨D, hD⟩ : ∃ D : ByteArray, (⟨(hexN g).toArray⟩ : ByteArray) = D := ⟨_, rfl⟩
            have hDl : D.size ≤ 4 := by rw [← hD, mk_size]; exact (hexN_len g).2
            have hDd : D.data.toList = hexN g := by rw [← hD]
            have HGET : Hid (H.getD k [] = D.data.toList) := Lib.hid (by rw [hDd, ← HG.out, ← HH.out]; exact hAt_eq _ k h8)
            have HN : Hid ((A ++ (if 0 < k ∧ (k : Int) ≠ a + m then [58] else if 0 < k ∧ a < 0 then [58] else [])) ++ D.data.toList ++ outF H a m f (k + 1) = R) := Lib.hid (by
              have h := HW.out
              rw [outF, if_neg (by omega), if_neg hka, HGET.out] at h
              rw [← h]; simp)
            have CF := Lib.hid (fun wx (h : TzT wx) => fmt16_any g hg wx h)
            rw [hD] at CF
            have hqv := congrArg (Value.int .i64) (show 2 * (k : Int) = (q : Int) by have := HQ.out; omega)
            have hq0 : 0 ≤ (q : Int) := by omega
            have hqs : (q : Int) + 2 ≤ (s.size : Int) := by omega
            have hx := congrArg Value.string HX.out
            clear hD hDd hval
            by_cases h0 : 0 < k
            · by_cases ham : (k : Int) = a + m
              · have hb2 : ((k : Int) == a + (m : Int)) = true := by rw [beq_iff_eq]; exact ham
                by_cases han : a < 0
                · exfalso; have := HAM.out; omega
                · rw [if_neg (by intro h; exact h.2 ham), if_neg (by intro h; exact han h.2), List.append_nil] at HN
                  clear ham
                  go_wp2_with fail
                  refine (CS.out _).mono ?_
                  rintro e w3 ⟨rfl, rfl⟩
                  go_wp2_with fail
                  refine (CF.out _ (tz_below HT.out HB.out)).mono ?_
                  rintro e w4 ⟨rfl, hE4⟩
                  have HA4 := Lib.hid (bld_below HA.out hE4)
                  have HB4 := Lib.hid (HB.out.trans (hE4.mono HB.out.size))
                  have hsz4 : w.heap.size + 1 ≤ w4.heap.size := Nat.le_trans hsz1 hE4.size
                  clear hE4
                  have CW := Lib.hid (ws (w.heap.size + 1) (w.heap.size + 1) A D w4 HA4.out (by omega) hsz4)
                  go_wp2_with fail
                  refine CW.out.mono ?_
                  rintro e w5 ⟨rfl, hb5, hE5⟩
                  have HB5 := Lib.hid (HB4.out.trans (hE5.mono (Nat.le_succ _)))
                  have HA5 := Lib.hid hb5
                  clear hE5 hb5
                  go_wp2_with fail
                  have hkg := HKG.out
                  go_roundg f
                  case rel => exact ⟨k + 1, _, by go_num, by omega, by omega, by omega, HN, HA5, HB5⟩
                  case measure => omega
              · have hb2 : ((k : Int) == a + (m : Int)) = false := by rw [beq_eq_false_iff_ne]; exact ham
                rw [if_pos ⟨h0, ham⟩] at HN
                clear ham
                have CC := Lib.hid (wbi (w.heap.size + 1) (w.heap.size + 1) A 58 58 rfl wr HA.out (by omega) hsz1)
                go_wp2_with fail
                refine CC.out.mono ?_
                rintro e w1 ⟨rfl, hb1, hE1⟩
                have HBs := Lib.hid (HB.out.trans (hE1.mono (Nat.le_succ _)))
                have HAs := Lib.hid hb1
                have hszs : w.heap.size + 1 ≤ w1.heap.size := Nat.le_trans hsz1 hE1.size
                clear hE1 hb1
                go_wp2_with fail
                refine (CS.out _).mono ?_
                rintro e w3 ⟨rfl, rfl⟩
                go_wp2_with fail
                refine (CF.out _ (tz_below HT.out HBs.out)).mono ?_
                rintro e w4 ⟨rfl, hE4⟩
                have HA4 := Lib.hid (bld_below HAs.out hE4)
                have HB4 := Lib.hid (HBs.out.trans (hE4.mono HBs.out.size))
                have hsz4 : w.heap.size + 1 ≤ w4.heap.size := Nat.le_trans hszs hE4.size
                clear hE4
                have CW := Lib.hid (ws (w.heap.size + 1) (w.heap.size + 1) (A ++ [58]) D w4 HA4.out (by rw [List.length_append, List.length_singleton]; omega) hsz4)
                go_wp2_with fail
                refine CW.out.mono ?_
                rintro e w5 ⟨rfl, hb5, hE5⟩
                have HB5 := Lib.hid (HB4.out.trans (hE5.mono (Nat.le_succ _)))
                have HA5 := Lib.hid hb5
                clear hE5 hb5
                go_wp2_with fail
                have hkg := HKG.out
                go_roundg f
                case rel => exact ⟨k + 1, _, by go_num, by omega, by omega, by omega, HN, HA5, HB5⟩
                case measure => omega
            · rw [if_neg (by intro h; exact h0 h.1), if_neg (by intro h; exact h0 h.1), List.append_nil] at HN
              go_wp2_with fail
              refine (CS.out _).mono ?_
              rintro e w3 ⟨rfl, rfl⟩
              go_wp2_with fail
              refine (CF.out _ (tz_below HT.out HB.out)).mono ?_
              rintro e w4 ⟨rfl, hE4⟩
              have HA4 := Lib.hid (bld_below HA.out hE4)
              have HB4 := Lib.hid (HB.out.trans (hE4.mono HB.out.size))
              have hsz4 : w.heap.size + 1 ≤ w4.heap.size := Nat.le_trans hsz1 hE4.size
              clear hE4
              have CW := Lib.hid (ws (w.heap.size + 1) (w.heap.size + 1) A D w4 HA4.out (by omega) hsz4)
              go_wp2_with fail
              refine CW.out.mono ?_
              rintro e w5 ⟨rfl, hb5, hE5⟩
              have HB5 := Lib.hid (HB4.out.trans (hE5.mono (Nat.le_succ _)))
              have HA5 := Lib.hid hb5
              clear hE5 hb5
              go_wp2_with fail
              have hkg := HKG.out
              go_roundg f
              case rel => exact ⟨k + 1, _, by go_num, by omega, by omega, by omega, HN, HA5, HB5⟩
              case measure => omega
        · have HE : Hid (A = R) := Lib.hid (by
            have h := HW.out
            rw [outF, if_pos (by omega), List.append_nil] at h; exact h)
          rw [HE.out] at HA
          go_wp2_with fail
          refine (Tryz.Builder_String_any _ _ R _ HA.out hsz1).mono ?_
          rintro e w2 ⟨rfl, hE2⟩
          have HB2 := Lib.hid (HB.out.trans (hE2.mono (Nat.le_succ _)))
          clear hE2
          go_wp2_with fail
          go_ret
          exact show_one HB2.out rfl _
end Go.Proofs.YtjejmgdpjfdhjaaGreatDoor.ip6
