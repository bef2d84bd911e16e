/- data.Set: walk. data's readers: texts, kinds, host; words.generic: walks. -/
import Derived.Test.YtkcpbjoolfojjaaGreatDoorP6
import Derived.Test.YtkcpbjoolfojjaaGreatDoorP9
import Derived.Test.YtkcpbjoolfojjaaGreatDoorShelf
import Derived.Test.YtkcpbjoolfojjaaGreatDoorP18
import Derived.Sort.OwnSortedInts
import Derived.BigRegion
import Derived.Deep.DeepCutAuto
import Derived.StillTailTactics
namespace Go.Proofs.YtkcpbjoolfojjaaGreatDoor.setW
open Go.RowKit Go.Proofs.YtkcpbjoolfojjaaGreatDoor.kit Go.Proofs.YtkcpbjoolfojjaaGreatDoor.nspec Go.Proofs.YtkcpbjoolfojjaaGreatDoor.bits Go.Proofs.YtkcpbjoolfojjaaGreatDoor.ints Go.Proofs.YtkcpbjoolfojjaaGreatDoor.bld Go.Proofs.YtkcpbjoolfojjaaGreatDoor.coded Go.Proofs.YtkcpbjoolfojjaaGreatDoor.fld Go.Proofs.YtkcpbjoolfojjaaGreatDoor.typesP Go.Proofs.YtkcpbjoolfojjaaGreatDoor.setP
set_option linter.unusedVariables false

/-- a list of numbers, of any sign, can be read from address a on -/
def RdI (w : World) (a : Option Addr) (ls : List Int) : Prop :=
  ∀ (j : Nat) (x : Int), ls[j]? = some x → ∃ g o, a = some ⟨g, o, none⟩ ∧ g < w.heap.size ∧ w.cell? ⟨g, o + j, none⟩ = some (.int .i64 x)
theorem RdI.below {w w' : World} {a : Option Addr} {B : Nat} {ls : List Int} (h : RdI w a ls) (hB : Below B w w') (hz : B = w.heap.size) : RdI w' a ls := by
  intro j x hx
  obtain ⟨g, o, h1, h3, h4⟩ := h j x hx
  exact ⟨g, o, h1, Nat.lt_of_lt_of_le h3 hB.size, (hB.cell (p := ⟨g, o + j, none⟩) (by rw [hz]; exact h3)).trans h4⟩
theorem RdI.of_own {w : World} {base : Nat} {v : Value} {ls : List Int} {n : Nat} (hn : n = ls.length) (h : w.ownsRow base 3 1 v n (ls.map (Value.int .i64))) : ∃ a c, v = .slice a n c ∧ n ≤ c ∧ c ≤ maxLen ∧ RdI w a ls := by
  subst hn
  rcases h.2 with ⟨rfl, h0⟩ | ⟨g, cap, cur, rfl, hb, hg, h1, h2, _, htake⟩
  · have : ls = [] := List.eq_nil_of_length_eq_zero h0
    subst this
    exact ⟨none, 0, rfl, Nat.le_refl _, Nat.zero_le _, by intro j x h; simp at h⟩
  · refine ⟨_, cap, rfl, h1, h2, ?_⟩
    intro j x hx
    refine ⟨g, 0, rfl, (Array.getElem?_eq_some_iff.1 hg).1, ?_⟩
    have := h.cells (g := g) rfl j (.int .i64 x) (by rw [List.getElem?_map, hx]; rfl)
    have hadd : (⟨g, 0, none⟩ : Addr).add j = ⟨g, 0 + j, none⟩ := by unfold Addr.add; split <;> simp_all
    rw [hadd] at this
    exact this
theorem clone_any (a : Option Addr) (n c : Nat) (L : List Int) (w : World) (hn : n = L.length) (hr : RdI w a L) (ha : a = none → n = 0) (hbig : n * 8 ≤ 140737488355328) :
    Calls Tryz.prog 183 #[.slice a n c] w fun e w' => ∃ v', e = .returned v' ∧ w'.ownsRow w.heap.size 3 1 v' n (L.map (Value.int .i64)) ∧ Below w.heap.size w w' := by
  subst hn
  cases a with
  | none =>
    have h0 := ha rfl
    have : L = [] := List.eq_nil_of_length_eq_zero h0
    subst this
    exact (Tryz.slices_Clone_int_nil _ _ _).mono (by rintro e w' ⟨rfl, rfl⟩; exact ⟨_, rfl, World.ownsRow_nil _ _ _ _, Below.refl _ _⟩)
  | some ad =>
    cases L with
    | nil =>
      exact (Tryz.slices_Clone_int_zero _ _ _).mono (by rintro e w' ⟨v', h1, h2, _, h4⟩; exact ⟨v', h1, h2, h4⟩)
    | cons x L =>
      obtain ⟨g, o, h1, _⟩ := hr 0 x rfl
      cases h1
      refine (Tryz.slices_Clone_int g o _ c (x :: L) w (Nat.le_refl _) hbig ?_).mono ?_
      · intro j hj
        obtain ⟨g', o', h1, _, h3⟩ := hr j _ (List.getElem?_eq_getElem hj)
        cases h1
        rw [h3, List.getD_eq_getElem?_getD, List.getElem?_eq_getElem hj]; rfl
      · rintro e w' ⟨v', h1, h2, _, h4⟩
        rw [List.take_of_length_le (Nat.le_refl _)] at h2
        exact ⟨v', h1, h2, h4⟩
theorem sort_any (base : Nat) (v : Value) (n : Nat) (L : List Int) (w : World) (hn : n = L.length) (h : w.ownsRow base 3 1 v n (L.map (Value.int .i64))) (hbig : n * 8 ≤ 140737488355328) :
    Calls Tryz.prog 184 #[v] w fun e w' => e = .returned (.tuple #[]) ∧ w'.ownsRow base 3 1 v n ((sortL L).map (Value.int .i64)) ∧ w.grownBy w' v.ownBlock := by
  subst hn
  rcases h.2 with ⟨rfl, h0⟩ | ⟨g, cap, cur, rfl, hb, hg, h1, h2, h3, htake⟩
  · have : L = [] := List.eq_nil_of_length_eq_zero h0
    subst this
    exact (Tryz.slices_Sort_int_none _ _ _).mono (by
      rintro e w' ⟨rfl, rfl⟩
      refine ⟨rfl, by simpa [sortL] using h, rfl, rfl, rfl, Nat.le_refl _, fun _ _ _ => rfl⟩)
  · refine (Tryz.slices_Sort_int g 0 cap L w (holds_of_blockI hg (by rw [Nat.mul_one] at htake; exact htake)) (Array.getElem?_eq_some_iff.1 hg).1 (by omega)).mono ?_
    rintro e w' ⟨rfl, m, os, rfl⟩
    exact ⟨rfl, ownsRow_sortedI (sortL_len L) hb hg h1 h2 h3, grownBy_sortedI _⟩

/-- a cell of one's own row, written -/
theorem ownsRow_set {w : World} {base : Nat} {e : TypeId} {g n cap : Nat} {xs : List Value} (h : w.ownsRow base e 1 (.slice (some ⟨g, 0, none⟩) n cap) n xs) (k : Nat) (hk : k < n) (u : Value) :
    (w.setCell ⟨g, k, none⟩ u).ownsRow base e 1 (.slice (some ⟨g, 0, none⟩) n cap) n (xs.set k u) := by
  obtain ⟨h1, h2⟩ := h
  rcases h2 with ⟨h2, _⟩ | ⟨g', cap', cur, hv, hg, hh, r1, r2, r3, r4⟩
  · cases h2
  · cases hv
    refine ⟨by rw [List.length_set]; exact h1, .inr ⟨g, cap, _, rfl, hg, heap_setCell_same w g k cur e u hh, r1, r2, by simpa using r3, ?_⟩⟩
    rw [← r4, Nat.mul_one, Array.toList_setIfInBounds, List.take_set]
theorem own_addr {w : World} {base : Nat} {e : TypeId} {v : Value} {n : Nat} {xs : List Value} (h : w.ownsRow base e 1 v n xs) (hn : 1 ≤ n) : ∃ g cap, v = .slice (some ⟨g, 0, none⟩) n cap ∧ base ≤ g ∧ g < w.heap.size ∧ n ≤ cap ∧ cap ≤ maxLen ∧ (∀ j u, xs[j]? = some u → w.cell? ⟨g, j, none⟩ = some u) ∧ (∀ j, w.frozen? ⟨g, j, none⟩ = false) := by
  rcases h.2 with ⟨_, h0⟩ | ⟨g, cap, cur, rfl, hb, hg, h1, h2, _, _⟩
  · omega
  · refine ⟨g, cap, rfl, hb, (Array.getElem?_eq_some_iff.1 hg).1, h1, h2, fun j u hj => ?_, fun j => by simp [World.frozen?, hg]⟩
    have := h.cells (g := g) rfl j u hj
    have hadd : (⟨g, 0, none⟩ : Addr).add j = ⟨g, j, none⟩ := by unfold Addr.add; split <;> simp_all
    rw [hadd] at this
    exact this
theorem own_slice {w : World} {base : Nat} {e : TypeId} {v : Value} {n : Nat} {xs : List Value} (h : w.ownsRow base e 1 v n xs) : ∃ a c, v = .slice a n c := by
  rcases h.2 with ⟨rfl, rfl⟩ | ⟨g, cap, cur, rfl, _⟩
  · exact ⟨_, _, rfl⟩
  · exact ⟨_, _, rfl⟩
/-- the row of bytes under way: what stands ahead of the block, and the block -/
structure Row (w0 w : World) (v : Value) (A B : Bs) (h N : Nat) : Prop where
  own : w.ownsRow w0.heap.size 5 1 v N (Lib.byteCells (A ++ B))
  hA : A.length = h
  hN : h + B.length = N
  below : Below w0.heap.size w0 w
theorem Row.open {w0 w : World} {v : Value} {A B : Bs} {h N : Nat} (r : Row w0 w v A B h N) : ∃ a c, v = .slice a N c := own_slice r.own
theorem Row.make {w0 w : World} {v : Value} {A B O : Bs} (h : w.ownsRow w0.heap.size 5 1 v O.length (Lib.byteCells O)) (hO : O = A ++ B) (hb : Below w0.heap.size w0 w) : Row w0 w v A B A.length (A.length + B.length) := by
  subst hO; rw [List.length_append] at h; exact ⟨h, rfl, rfl, hb⟩
theorem cell_two_new (w : World) (e : TypeId) (x y : Value) : ∀ (j : Nat) (u : Value), [x, y][j]? = some u → (w.alloc (.cells #[x, y] e)).cell? ((⟨w.heap.size, 0, none⟩ : Addr).add j) = some u := by
  intro j u h
  match j, h with
  | 0, h => simp at h; subst h; simp [World.cell?, World.alloc, Addr.add, -World.alloc_eq]
  | 1, h => simp at h; subst h; simp [World.cell?, World.alloc, Addr.add, -World.alloc_eq]
theorem and255 {x : Int} (h₀ : 0 ≤ x) (h₁ : x < 2147483648) : bits .and .i64 x 255 = x % 256 := bits_mask .i64 31 (by decide) to32.wraps31 8 (by decide) x h₀ h₁
theorem cells_get (l : Bs) (j : Nat) (h : j < l.length) : (Lib.byteCells l)[j]? = some (.int .u8 ((l.getD j 0).toNat : Int)) := by
  simp [Lib.byteCells, List.getD_eq_getElem?_getD, List.getElem?_eq_getElem h]
theorem cells_set (l : Bs) (k : Nat) (c : UInt8) : (Lib.byteCells l).set k (.int .u8 (c.toNat : Int)) = Lib.byteCells (l.set k c) := by
  simp [Lib.byteCells, List.map_set]
theorem or_mark (c : UInt8) (T : Nat) : bits .or .u8 (c.toNat : Int) ((128 : Int) / 2 ^ (T % 8)) = ((c ||| markT T).toNat : Int) := by
  have h : ∀ j, j < 8 → ((128 : Int) / 2 ^ j) = ((2 ^ (7 - j) : Nat) : Int) ∧ 2 ^ (7 - j) < 256 := by decide
  obtain ⟨h1, h2⟩ := h (T % 8) (by omega)
  rw [h1, u8_or_nat _ _ c.toNat_lt h2]
  simp only [markT, UInt8.toNat_or]
  rw [UInt8.toNat_ofNat_of_lt' h2]
theorem foldl_drop {L : List Int} {k : Nat} {t : Int} {s : St} {R : St} (h : (L.drop k).foldl setStep s = R) (hk : L[k]? = some t) : (L.drop (k + 1)).foldl setStep (setStep s t) = R := by
  obtain ⟨h1, h2⟩ := List.getElem?_eq_some_iff.1 hk
  rw [List.drop_eq_getElem_cons h1, h2] at h; exact h

set_option maxRecDepth 100000 in
set_option maxHeartbeats 8000000 in
theorem set_any (a : Option Addr) (n c : Nat) (L : List Int) (w : World) (hn : n = L.length) (hr : RdI w a L) (ha : a = none → n = 0) (hbig : n ≤ 1073741824) (hw : ∀ x ∈ L, (Lit.int .i64 x).wf = true) :
    Calls Tryz.prog 181 #[.slice a n c] w fun e w' => e = .returned (.string ⟨(setL (sortL L)).toArray⟩) ∧ Below w.heap.size w w' := by
  obtain ⟨i0, hi, hz0, hz1, hz2⟩ := info_parts infoByte
  have C1 := Lib.hid (fun w hr => clone_any a n c L w hn hr ha (by omega))
  have C2 := Lib.hid (fun base v w h => sort_any base v n L w hn h (by omega))
  obtain ⟨S, hS⟩ : ∃ S, sortL L = S := ⟨_, rfl⟩
  have hSl : S.length = n := by rw [← hS, sortL_len, hn]
  have hSw : ∀ x ∈ S, (Lit.int .i64 x).wf = true := fun x hx => hw x ((sortL_mem L x).1 (by rw [hS]; exact hx))
  rw [hS] at C2 ⊢
  obtain ⟨R, hR⟩ : ∃ R, S.foldl setStep set0 = R := ⟨_, rfl⟩
  have HE : Hid (setL S = R.A ++ R.B) := Lib.hid (by unfold setL; rw [hR])
  have HSW := Lib.hid hSw; have HSL := Lib.hid hSl; have HR := Lib.hid hR
  clear hw hS hSl hSw hR hn
  go_enter Tryz.func181, Tryz.ntmps181
  go_wp2_with fail
  refine (C1.out _ hr).mono ?_
  rintro e w1 ⟨v1, rfl, hown1, hB1⟩
  go_wp2_with fail
  refine (C2.out _ _ _ hown1).mono ?_
  rintro e w2 ⟨rfl, hown2, hgr⟩
  have hB2 := below_append' hB1 hB1.size hown1 hgr
  obtain ⟨a2, c2, rfl, hc2, hcm, hr2⟩ := RdI.of_own HSL.out.symm hown2
  have HRD := Lib.hid hr2; have HB2 := Lib.hid hB2
  clear C1 C2 hown1 hown2 hgr hB1 hB2 hr2 hr
  go_wp2_with fail
  go_loopg [3, 5, 6, 8, 15] (n + 1) (fun gas ov bv hv _ kv wr => ∃ (k : Nat) (A B : Bs) (b : Int) (h N : Nat), kv = .int .i64 k ∧ bv = .int .i64 b ∧ hv = .int .i64 (h : Int) ∧ k ≤ n ∧ n + 1 ≤ k + gas ∧ -1 ≤ b ∧ b ≤ 255 ∧ h ≤ 34 * k ∧ N ≤ h + 34 ∧ Hid (b = -1 ∨ 2 ≤ B.length) ∧ Hid ((S.drop k).foldl setStep ⟨A, b, B⟩ = R) ∧ Hid (Row w2 wr ov A B h N))
  case atStart => exact ⟨0, [], [], -1, 0, 0, rfl, rfl, rfl, by omega, by omega, by omega, by omega, by omega, by omega, Lib.hid (.inl rfl), HR, Lib.hid ⟨World.ownsRow_nil _ _ _ _, rfl, rfl, Below.refl _ _⟩⟩
  case round =>
    obtain ⟨k, A, B, b, h, N, rfl, rfl, rfl, hk, hkg, hb1, hb2, hAl, hBl, hbB, HF, HRW⟩ := hrel
    obtain ⟨gk', hgk'⟩ : ∃ g, g = gk := ⟨_, rfl⟩
    rw [← hgk'] at hkg
    have HKG := Lib.hid hkg; clear hkg
    obtain ⟨ao, co, rfl⟩ := HRW.out.open
    by_cases hlt : k < n
    · obtain ⟨t, hSt⟩ : ∃ t, S[k]? = some t := ⟨_, List.getElem?_eq_getElem (by have := HSL.out; omega)⟩
      have htw := HSW.out t (List.mem_of_getElem? hSt)
      have HST := Lib.hid (foldl_drop HF.out hSt)
      have HLL := Lib.hid hlt
      have hlti : (k : Int) < (n : Int) := by omega
      obtain ⟨g2, o2, ha2, hg2, hcell2⟩ := HRD.out k t hSt
      have hcell := (HRW.out.below.cell (p := ⟨g2, o2 + k, none⟩) hg2).trans hcell2
      subst ha2
      clear hSt hlt hcell2
      by_cases h1 : t < 1
      · have HST2 : Hid ((S.drop (k + 1)).foldl setStep ⟨A, b, B⟩ = R) := Lib.hid (by
          have h := HST.out
          rw [step_no _ (by unfold isT; omega)] at h; exact h)
        go_wp2_with fail
        have hkg := HKG.out; have hlt := HLL.out
        go_roundg (gk' - 1)
        case rel => exact ⟨k + 1, A, B, b, h, N, by go_num, rfl, rfl, by omega, by omega, hb1, hb2, by omega, hBl, hbB, HST2, HRW⟩
        case measure => omega
      · by_cases h2 : 65535 < t
        · have HST2 : Hid ((S.drop (k + 1)).foldl setStep ⟨A, b, B⟩ = R) := Lib.hid (by
            have h := HST.out
            rw [step_no _ (by unfold isT; omega)] at h; exact h)
          have h1i : (1 : Int) ≤ t := by omega
          go_wp2_with fail
          have hkg := HKG.out; have hlt := HLL.out
          go_roundg (gk' - 1)
          case rel => exact ⟨k + 1, A, B, b, h, N, by go_num, rfl, rfl, by omega, by omega, hb1, hb2, by omega, hBl, hbB, HST2, HRW⟩
          case measure => omega
        · obtain ⟨T, rfl⟩ : ∃ T : Nat, t = (T : Int) := ⟨t.toNat, by omega⟩
          have hT1 : 1 ≤ T := by omega
          have hT2 : T ≤ 65535 := by omega
          clear h1 h2 htw
          go_upto_if 28 with (fail)
          go_cut [3, 5, 6] (fun ov bv hv wx => ∃ (A1 B1 : Bs) (h1 N1 : Nat) (b1 : Int), bv = .int .i64 b1 ∧ hv = .int .i64 (h1 : Int) ∧ -1 ≤ b1 ∧ b1 ≤ 255 ∧ h1 ≤ 34 * (k + 1) ∧ N1 ≤ h1 + 34 ∧ h1 + 2 ≤ N1 ∧ Hid (setStep ⟨A, b, B⟩ (T : Int) = ⟨A1, b1, putT B1 T⟩) ∧ Hid (Row w2 wx ov A1 B1 h1 N1))
          case first =>
            have hv : isT (T : Int) := by unfold isT; omega
            by_cases hb : (T : Int) / 256 = b
            · have HS : Hid (setStep ⟨A, b, B⟩ (T : Int) = ⟨A, b, putT B T⟩) := Lib.hid (by
                simp only [setStep, if_pos hv]
                rw [if_pos hb, Int.toNat_natCast])
              have hB2 : h + 2 ≤ N := by have := hbB.out; have := HRW.out.hN; omega
              have hbb : ((T : Int) / 256 != b) = false := by rw [hb]; simp
              clear hv hb
              go_wp2_with fail
              go_meet
              exact ⟨A, B, h, N, b, rfl, rfl, hb1, hb2, by omega, hBl, hB2, HS, HRW⟩
            · have HS : Hid (setStep ⟨A, b, B⟩ (T : Int) = ⟨A ++ B, (T : Int) / 256, putT [UInt8.ofNat (T / 256), 0] T⟩) := Lib.hid (by
                simp only [setStep, if_pos hv]
                rw [if_neg hb, Int.toNat_natCast])
              obtain ⟨c8, hc8⟩ : ∃ c8, UInt8.ofNat (T / 256) = c8 := ⟨_, rfl⟩
              have hcT : (c8.toNat : Int) = (T : Int) / 256 := by
                rw [← hc8, UInt8.toNat_ofNat_of_lt' (by omega : T / 256 < 256)]; omega
              rw [hc8, ← hcT] at HS
              have hTc : Value.int .i64 ((T : Int) / 256) = Value.int .i64 (c8.toNat : Int) := by rw [hcT]
              have hc256 := byte_lt c8
              have hsz := HRW.out.below.size
              have hbb : ((T : Int) / 256 != b) = true := by simpa using hb
              have hown := HRW.out.own
              clear hv hb hcT hc8
              go_wp2_with (at_builtin; refine wpList_append_own _ rfl _ _ 50 rfl w2.heap.size 5 i0 (.int .u8 0) 1 1 Tryz.underlying50 hi hz0 hz1 hz2 rfl (by decide) _ _ _ rfl (hown.alloc _) ⟨wr.heap.size, 0, none⟩ 2 2 [.int .u8 (c8.toNat : Int), .int .u8 0] rfl rfl ?c1 ?c2 ?c3 ?c4 ?c5 ?_)
              case c1 => first | exact fun j u h => h | exact cell_two_new _ _ _ _
              case c2 => simp [Value.oneCell']
              case c3 => unfold maxLen; omega
              case c4 => omega
              case c5 => first | omega | (simp; omega)
              intro v' w1' hown' hgrow _
              have HB3 := below_append HRW.out.below hsz hown hgrow
              have HRW2 : Hid (Row w2 w1' v' (A ++ B) [c8, 0] N (N + 2)) := Lib.hid (by
                have h1 := HRW.out.hA; have h2 := HRW.out.hN
                exact ⟨by simpa [Lib.byteCells] using hown', by rw [List.length_append]; omega, rfl, HB3⟩)
              clear hown' hgrow hown hTc HB3
              go_wp2_with fail
              go_meet
              exact ⟨A ++ B, _, N, N + 2, _, rfl, rfl, by omega, by omega, by omega, by omega, by omega, HS, HRW2⟩
          case rest =>
            obtain ⟨A1, B1, h1, N1, b1, rfl, rfl, hb3, hb4, hA1, hB1, hB1', HS, HRW1⟩ := hcut
            clear HRW hbB HF
            obtain ⟨q, hq⟩ : ∃ q, T % 256 / 8 = q := ⟨_, rfl⟩
            have hq31 : q ≤ 31 := by omega
            obtain ⟨m, hm⟩ : ∃ m, q + 3 - B1.length = m := ⟨_, rfl⟩
            have hm34 : m ≤ 34 := by omega
            obtain ⟨r, hr⟩ : ∃ r, T % 256 = r := ⟨_, rfl⟩
            have hr256 : r < 256 := by omega
            have hQ1 : Value.int .i64 (bits .and .i64 (T : Int) 255) = Value.int .i64 (r : Int) := by
              rw [and255 (by omega) (by omega), ← hr]; rfl
            have hQ2 : Value.int .i64 ((r : Int) / 8) = Value.int .i64 (q : Int) := by congr 1; omega
            have HQ := Lib.hid hq; have HM := Lib.hid hm; have HRR := Lib.hid hr
            clear hq hm hr
            go_wp2_with fail
            go_loopg [3] (m + 1) (fun gas ov wq => ∃ (j : Nat), j ≤ m ∧ m + 1 ≤ j + gas ∧ Hid (Row w2 wq ov A1 (B1 ++ List.replicate j 0) h1 (N1 + j)))
            case atStart => exact ⟨0, by omega, by omega, by simpa using HRW1⟩
            case round =>
              clear HRW1
              obtain ⟨j, hj, hjg, HRq⟩ := hrel
              have HJG := Lib.hid hjg; clear hjg
              obtain ⟨ao, co, rfl⟩ := HRq.out.open
              have hN1 := HRq.out.hN
              rw [List.length_append, List.length_replicate] at hN1
              by_cases hjm : j < m
              · have hlen : (N1 : Int) + (j : Int) < (h1 : Int) + 3 + (q : Int) := by
                  have := HM.out; omega
                clear hN1
                have hown := HRq.out.own
                have hsz := HRq.out.below.size
                go_wp2_with (at_builtin; refine wpList_append_own _ rfl _ _ 50 rfl w2.heap.size 5 i0 (.int .u8 0) 1 1 Tryz.underlying50 hi hz0 hz1 hz2 rfl (by decide) _ _ _ rfl (hown.alloc _) ⟨wr.heap.size, 0, none⟩ 1 1 [.int .u8 0] rfl rfl ?d1 ?d2 ?d3 ?d4 ?d5 ?_)
                case d1 => exact cell_one_new _ _ _
                case d2 => simp [Value.oneCell']
                case d3 => unfold maxLen; omega
                case d4 => omega
                case d5 => first | omega | (simp; omega)
                intro v' w1' hown' hgrow _
                have HB3 := below_append HRq.out.below hsz hown hgrow
                have HR2 : Hid (Row w2 w1' v' A1 (B1 ++ List.replicate (j + 1) 0) h1 (N1 + (j + 1))) := Lib.hid (by
                  have h2 := HRq.out.hN
                  refine ⟨?_, HRq.out.hA, by rw [List.length_append, List.length_replicate] at h2 ⊢; omega, HB3⟩
                  rw [List.replicate_succ', ← List.append_assoc, ← List.append_assoc]
                  simpa [Lib.byteCells, Nat.add_assoc] using hown')
                clear hown' hgrow hown HB3
                go_wp2_with fail
                have hjg := HJG.out
                go_roundg (gk - 1)
                case rel => exact ⟨j + 1, by omega, by omega, HR2⟩
                case measure => omega
              · have hC : (putT B1 T = (((B1 ++ List.replicate j 0).set (q + 2) ((B1 ++ List.replicate j 0).getD (q + 2) 0 ||| markT T)).set 1 (UInt8.ofNat (N1 + j - h1 - 2)))) := (by
                  have h2 := HRq.out.hN
                  have hjm2 : j = q + 3 - B1.length := by have := HM.out; omega
                  have hq := HQ.out
                  simp only [putT, hq, ← hjm2]
                  congr 2
                  simp only [List.length_set]; omega)
                obtain ⟨C, hCC⟩ : ∃ C, B1 ++ List.replicate j 0 = C := ⟨_, rfl⟩
                have hlen : (h1 : Int) + 3 + (q : Int) ≤ (N1 : Int) + (j : Int) := by
                  have := HM.out; omega
                obtain ⟨N2, hN2⟩ : ∃ N2, N1 + j = N2 := ⟨_, rfl⟩
                have hN2i : Value.int .i64 ((N1 : Int) + (j : Int)) = Value.int .i64 (N2 : Int) := by congr 1; omega
                have hN34 : N2 ≤ h1 + 34 := by
                  have := HM.out; omega
                have hlen2 : (h1 : Int) + 3 + (q : Int) ≤ (N2 : Int) := by omega
                rw [hCC] at hC HRq
                have HN2 := Lib.hid hN2
                rw [hN2] at hC HRq ⊢
                obtain ⟨g, cap, hgv, hg0, hg1, hcap, hcapm, hcells, hfz⟩ := own_addr HRq.out.own (by omega)
                cases hgv
                obtain ⟨x, hx⟩ : ∃ x, C.getD (q + 2) 0 = x := ⟨_, rfl⟩
                rw [hx] at hC
                obtain ⟨p, hp⟩ : ∃ p, h1 + 2 + q = p := ⟨_, rfl⟩
                have hA1l := HRq.out.hA
                have hcN := HRq.out.hN
                have hcx : wr.cell? ⟨g, p, none⟩ = some (.int .u8 (x.toNat : Int)) := by
                  refine hcells p _ ?_
                  rw [cells_get _ _ (by rw [List.length_append]; omega), List.getD_eq_getElem?_getD, List.getElem?_append_right (by omega), show p - A1.length = q + 2 by omega, ← List.getD_eq_getElem?_getD, hx]
                have hfz1 := hfz p
                have hfz2 := hfz (h1 + 1)
                have hpi : Value.int .i64 ((h1 : Int) + 2 + (q : Int)) = Value.int .i64 (p : Int) := by congr 1; omega
                obtain ⟨y, hy⟩ : ∃ y, x ||| markT T = y := ⟨_, rfl⟩
                rw [hy] at hC
                have hor : Value.int .u8 (bits .or .u8 (x.toNat : Int) ((128 : Int) / 2 ^ (T % 8))) = Value.int .u8 (y.toNat : Int) := by rw [or_mark, hy]
                have hpN : (p : Int) < (N2 : Int) := by omega
                clear hN2i hjm hN1 hcells hfz hx hy hCC hN2
                obtain ⟨z, hz⟩ : ∃ z, UInt8.ofNat (N2 - h1 - 2) = z := ⟨_, rfl⟩
                have hzi : Value.int .i64 ((N2 : Int) - (h1 : Int) - 2) = Value.int .i64 (z.toNat : Int) := by
                  rw [← hz, UInt8.toNat_ofNat_of_lt' (by omega : N2 - h1 - 2 < 256)]; congr 1; omega
                have hz256 := byte_lt z
                have hR3 : Row w2 (wr.setCell ⟨g, p, none⟩ (.int .u8 (y.toNat : Int))).drew (.slice (some ⟨g, 0, none⟩) N2 co) A1 (C.set (q + 2) y) h1 N2 := by
                  refine ⟨?_, hA1l, by rw [List.length_set]; exact hcN, (HRq.out.below.setCell (p := ⟨g, p, none⟩) hg0 _).drew⟩
                  have h := ownsRow_set HRq.out.own p (by omega) (.int .u8 (y.toNat : Int))
                  rw [cells_set, List.set_append_right _ _ (by omega), show p - A1.length = q + 2 by omega] at h
                  exact h
                rw [hz] at hC
                have HC := Lib.hid hC; clear hC
                have HR3 := Lib.hid hR3
                clear hz hR3 hp
                go_wp2_with fail
                go_region
                obtain ⟨w3, hw3⟩ : ∃ w3, (wr.setCell ⟨g, p, none⟩ (.int .u8 (y.toNat : Int))).drew = w3 := ⟨_, rfl⟩
                rw [hw3] at HR3 ⊢
                obtain ⟨g', cap', hgv, hg0', hg1', _, _, hcells, hfz⟩ := own_addr HR3.out.own (by omega)
                cases hgv
                have hlc := HR3.out.hN
                have hc1 : w3.cell? ⟨g, h1 + 1, none⟩ = some (.int .u8 (((C.set (q + 2) y).getD 1 0).toNat : Int)) := by
                  refine hcells (h1 + 1) _ ?_
                  rw [cells_get _ _ (by rw [List.length_append]; omega), List.getD_eq_getElem?_getD, List.getElem?_append_right (by omega), show h1 + 1 - A1.length = 1 by omega, ← List.getD_eq_getElem?_getD]
                have hfz1 := hfz (h1 + 1)
                have h1N : (h1 : Int) + 1 < (N2 : Int) := by omega
                clear hcells hfz hw3 hcx hfz2 hor hpi hpN
                have HR4 : Hid (Row w2 (w3.setCell ⟨g, h1 + 1, none⟩ (.int .u8 (z.toNat : Int))) (.slice (some ⟨g, 0, none⟩) N2 co) A1 (putT B1 T) h1 N2) := Lib.hid (by
                  rw [HC.out]
                  refine ⟨?_, HR3.out.hA, by rw [List.length_set]; exact HR3.out.hN, HR3.out.below.setCell (p := ⟨g, h1 + 1, none⟩) hg0' _⟩
                  have h := ownsRow_set HR3.out.own (h1 + 1) (by omega) (.int .u8 (z.toNat : Int))
                  rw [cells_set, List.set_append_right _ _ (by omega), show h1 + 1 - A1.length = 1 by omega] at h
                  exact h)
                have HST2 : Hid ((S.drop (k + 1)).foldl setStep ⟨A1, b1, putT B1 T⟩ = R) := Lib.hid (by rw [← HS.out]; exact HST.out)
                have HBB : Hid (b1 = -1 ∨ 2 ≤ (putT B1 T).length) := Lib.hid (.inr (by rw [putT_len]; omega))
                go_wp2_with fail
                have hkg := HKG.out; have hlt := HLL.out
                go_roundg (gk' - 1)
                case rel => exact ⟨k + 1, A1, _, b1, h1, N2, by go_num, rfl, rfl, by omega, by omega, hb3, hb4, by omega, by omega, HBB, HST2, HR4⟩
                case measure => omega
    · have hke : k = n := by omega
      have hown := HRW.out.own
      have HFE : Hid ((⟨A, b, B⟩ : St) = R) := Lib.hid (by
        have h := HF.out
        rw [hke, List.drop_eq_nil_iff.2 (by rw [HSL.out]; exact Nat.le_refl _)] at h; exact h)
      have hNl : N = (A ++ B).length := by rw [List.length_append, HRW.out.hA, HRW.out.hN]
      rw [hNl] at hown
      have hst := own_string (P := Tryz.prog) hown 50 9 5 Tryz.underlying50 Tryz.underlying5 Tryz.underlying9
      rw [← hNl] at hst
      have hRes : Value.string ⟨(A ++ B).toArray⟩ = Value.string ⟨(setL S).toArray⟩ := by
        rw [HE.out, ← HFE.out]
      have HB := Lib.hid (HB2.out.trans (HRW.out.below.mono HB2.out.size))
      have hki : (n : Int) ≤ (k : Int) := by omega
      clear hown hke hNl
      go_wp2_with fail
      go_ret
      exact ⟨rfl, HB.out⟩
end Go.Proofs.YtkcpbjoolfojjaaGreatDoor.setW
namespace Go.Proofs.YtkcpbjoolfojjaaGreatDoor.wdG
open Go.RowKit Go.Proofs.YtkcpbjoolfojjaaGreatDoor.kit Go.Proofs.YtkcpbjoolfojjaaGreatDoor.nspec Go.Proofs.YtkcpbjoolfojjaaGreatDoor.fld Go.Proofs.YtkcpbjoolfojjaaGreatDoor.bits Go.Proofs.YtkcpbjoolfojjaaGreatDoor.ints Go.Proofs.YtkcpbjoolfojjaaGreatDoor.bld Go.Proofs.YtkcpbjoolfojjaaGreatDoor.setP Go.Proofs.YtkcpbjoolfojjaaGreatDoor.setW Go.Proofs.YtkcpbjoolfojjaaGreatDoor.rdP Go.Proofs.YtkcpbjoolfojjaaGreatDoor.rdQ Go.Proofs.YtkcpbjoolfojjaaGreatDoor.wd Go.Proofs.YtkcpbjoolfojjaaGreatDoor.wdA Go.Proofs.YtkcpbjoolfojjaaGreatDoor.wdB Go.Proofs.YtkcpbjoolfojjaaGreatDoor.wdC Go.Proofs.YtkcpbjoolfojjaaGreatDoor.wdD Go.Proofs.YtkcpbjoolfojjaaGreatDoor.wdL Go.Proofs.YtkcpbjoolfojjaaGreatDoor.wdE Go.Proofs.YtkcpbjoolfojjaaGreatDoor.wdF
set_option linter.unusedVariables false

theorem post_err {C : Nat} {a : Option Addr} {L : List Wo} {cap : Nat} {O : ByteArray} {w w' : World} {x : Int × Int} (he : EffW C w w') : Post C a L cap O w (.error x) (faultE x.1 x.2) w' := ⟨he, rfl⟩
theorem post_ok {C : Nat} {a : Option Addr} {L : List Wo} {cap : Nat} {O : ByteArray} {w w' : World} {d : Bs} {k : Nat} (he : EffW C w w') (hA : AtW w' C a L cap O k) : Post C a L cap O w (.ok (d, k)) (.returned (.string ⟨d.toArray⟩)) w' := ⟨he, rfl, hA⟩
def textsE (n : Nat) (R : Got Bs) : Got (Bs × Nat) := match R with
  | .error e => .error e
  | .ok d => .ok (d, n)
def kindsE (n : Nat) (R : Got (List Int)) : Got (Bs × Nat) := match R with
  | .error e => .error e
  | .ok l => .ok (setL (sortL l), n)
def addT (A : Bs) (x : Got Bs) : Got Bs := match x with
  | .error e => .error e
  | .ok d => .ok (A ++ d)
theorem addT_nil (x : Got Bs) : addT [] x = x := by cases x <;> rfl
theorem texts_cons {W : List Wo} {k : Nat} {w : Wo} (h : W[k]? = some w) : textsL (W.drop k) k = match lenR (looseS w.s.data.toList) with
    | none => .error (k, 2)
    | some d => match textsL (W.drop (k + 1)) (k + 1) with
      | .error e => .error e
      | .ok x => .ok (d ++ x) := by
  obtain ⟨hk, rfl⟩ := List.getElem?_eq_some_iff.1 h
  rw [List.drop_eq_getElem_cons hk]
  rfl
theorem texts_bad {W : List Wo} {k : Nat} {w : Wo} {A : Bs} {R : Got Bs} (h : addT A (textsL (W.drop k) k) = R) (hw : W[k]? = some w) (hl : lenR (looseS w.s.data.toList) = none) : R = .error (k, 2) := by
  rw [← h, texts_cons hw, hl]; rfl
theorem texts_go {W : List Wo} {k : Nat} {w : Wo} {A d : Bs} {R : Got Bs} (h : addT A (textsL (W.drop k) k) = R) (hw : W[k]? = some w) (hl : lenR (looseS w.s.data.toList) = some d) : addT (A ++ d) (textsL (W.drop (k + 1)) (k + 1)) = R := by
  rw [← h, texts_cons hw, hl]
  cases textsL (W.drop (k + 1)) (k + 1) <;> simp [addT]
theorem texts_end {W : List Wo} {k : Nat} {A : Bs} {R : Got Bs} (h : addT A (textsL (W.drop k) k) = R) (hk : W.length ≤ k) : R = .ok A := by
  rw [← h, List.drop_eq_nil_of_le hk]; simp [addT, textsL]
theorem lenR_len {o : Option Bs} {d : Bs} (h : lenR o = some d) : d.length ≤ 256 := by
  unfold lenR at h
  cases o with
  | none => cases h
  | some x =>
    simp only at h
    split at h
    · cases h
    · cases h; simp; omega
section
variable (C : Nat) (a : Option Addr) (L : List Wo) (cap : Nat) (O : ByteArray) (k : Nat) (w : World) (h : AtW w C a L cap O k) (org : Bs)
include h
set_option maxRecDepth 100000 in
set_option maxHeartbeats 2400000 in
theorem texts_read : Calls Tryz.prog 156 #[.agg #[], .pointer (some ⟨C, 0, none⟩)] w (Post C a L cap O w (fieldR org L k .texts)) := by
  have CT := Lib.hid (fun wx j hx => text_read C a L cap O j wx hx org)
  have h1 := at_alloc h (boxO 86)
  have HE0 := Lib.hid (EffW.alloc C w (boxO 86))
  obtain ⟨W1, hW1⟩ : ∃ W1, w.alloc (boxO 86) = W1 := ⟨_, rfl⟩
  rw [hW1] at h1 HE0
  have HW1 := Lib.hid hW1
  have H1 := Lib.hid h1
  have HFB := Lib.hid (Lib.fresh_isBuilder 52 5 W1)
  have hBa := ((Below.refl W1.heap.size W1).alloc (Nat.le_refl _) (.cells #[.pointer none, .slice none 0 0] 52))
  have HA2 := Lib.hid (h1.below hBa)
  have HE2 := Lib.hid (EffW.of_below (C := C) hBa)
  have hltC := h1.lt
  have hfew := h.few
  have hkl := h.kl
  obtain ⟨n, hn⟩ : ∃ n, L.length = n := ⟨_, rfl⟩
  rw [hn] at hfew hkl
  have HLN := Lib.hid hn
  by_cases hnk : n ≤ k
  · have hR : fieldR org L k .texts = .error (n, 2) := by show textsR L k = _; unfold textsR; rw [if_pos (by omega), hn]
    rw [hR]
    have CT2 := Lib.hid (fun wx hx => CT.out wx k hx)
    have hno : fieldR org L k .text = .error (n, 2) := by show looseW L k lenR = _; unfold looseW; rw [List.getElem?_eq_none (by omega), hn]
    unfold Post at CT2
    rw [hno] at CT2
    clear hR h h1 hBa hn hno CT hW1 HLN
    go_enter Tryz.func156, Tryz.ntmps156
    go_upto_region 1 with fail
    change Code.wp _ _ _ _ (w.alloc (boxO _))
    rw [HW1.out]
    go_wp2_with fail
    go_loopg [6] 1 (fun gas bv wr => bv = .bool true ∧ gas = 1 ∧ Hid (AtW wr C a L cap O k) ∧ Hid (EffW C W1 wr))
    case atStart => exact ⟨rfl, rfl, HA2, HE2⟩
    case round =>
      clear HA2 HE2
      obtain ⟨rfl, rfl, HA, HE⟩ := hrel
      go_wp2_with fail
      go_quiet (fail)
      go_wp2_with fail
      refine (CT2.out _ (HA.out.drewN _)).mono ?_
      rintro e w3 ⟨he, rfl⟩
      unfold faultE
      go_wp2_with fail
      exact ⟨rfl, post_err (x := ((n : Int), 2)) (HE0.out.trans (HE.out.trans ((EffW.drewN C wr nq).trans he)))⟩
  · obtain ⟨R, HR⟩ : ∃ R, Hid (addT [] (textsL (L.drop k) k) = R) := ⟨_, Lib.hid rfl⟩
    have HR0 : Hid (fieldR org L k .texts = textsE n R) := Lib.hid (by
      show textsR L k = _
      unfold textsR
      rw [if_neg (by omega), ← HR.out, addT_nil, hn]; rfl)
    rw [HR0.out]
    have hkn : k < n := by omega
    clear h h1 hBa hn hW1 hnk
    go_enter Tryz.func156, Tryz.ntmps156
    go_upto_region 1 with fail
    change Code.wp _ _ _ _ (w.alloc (boxO _))
    rw [HW1.out]
    go_wp2_with fail
    go_loopg [6] (n + 1 - k) (fun gas bv wr => ∃ (j : Nat) (A : Bs) (b : Bool), bv = .bool b ∧ (b = true → j < n) ∧ k ≤ j ∧ j ≤ n ∧ j + gas = n + 1 ∧ A.length ≤ 256 * j ∧ Hid (addT A (textsL (L.drop j) j) = R) ∧ Hid (Bld W1.heap.size W1.heap.size A wr) ∧ Hid (AtW wr C a L cap O j) ∧ Hid (EffW C W1 wr))
    case atStart => exact ⟨k, [], true, rfl, fun _ => by omega, Nat.le_refl _, by omega, by omega, by simp, HR, HFB, HA2, HE2⟩
    case round =>
      clear HFB HA2 HE2
      obtain ⟨j, A, b, rfl, hbj, hkj, hj, hjg, hAl, HW, HB, HA, HE⟩ := hrel
      have HG := Lib.hid hjg; clear hjg
      have k0 := HA.out.c0; have k1 := HA.out.c1
      rw [HLN.out] at k0
      have hltJ := HA.out.lt
      by_cases hjn : j < n
      · obtain ⟨x, hx⟩ : ∃ x, L[j]? = some x := ⟨_, List.getElem?_eq_getElem (by rw [HLN.out]; exact hjn)⟩
        have hjl : (j : Int) < (n : Int) := by omega
        have CT2 := Lib.hid (fun wx hx => CT.out wx j hx)
        unfold Post at CT2
        have hfn : lenR (looseS x.s.data.toList) = none → fieldR org L j .text = .error (j, 2) := fun e => by show looseW L j lenR = _; unfold looseW; simp only [hx, e]
        have hfs : ∀ d, lenR (looseS x.s.data.toList) = some d → fieldR org L j .text = .ok (d, j + 1) := fun d e => by show looseW L j lenR = _; unfold looseW; simp only [hx, e]
        cases hl : lenR (looseS x.s.data.toList) with
        | none =>
          have hR := texts_bad HW.out hx hl
          rw [hfn hl] at CT2
          clear hfn hfs hl hx
          subst hR
          cases b
          all_goals
            clear hbj
            go_wp2_with fail
            go_quiet (fail)
            go_wp2_with fail
            refine (CT2.out _ (HA.out.drewN _)).mono ?_
            rintro e w3 ⟨he, rfl⟩
            unfold faultE
            go_wp2_with fail
            exact ⟨rfl, post_err (x := ((j : Int), 2)) (HE0.out.trans (HE.out.trans ((EffW.drewN C wr nq).trans he)))⟩
        | some d =>
          have HF := Lib.hid (texts_go HW.out hx hl)
          have hdl := lenR_len hl
          rw [hfs d hl] at CT2
          obtain ⟨D, hD⟩ : ∃ D : ByteArray, (⟨d.toArray⟩ : ByteArray) = D := ⟨_, rfl⟩
          have hDd : D.data.toList = d := by rw [← hD]
          have hDs : D.size ≤ 256 := by rw [← hD, mk_size]; exact hdl
          simp only [hD] at CT2
          rw [← hDd] at HF
          clear hfn hfs hl hx hD hDd hdl
          cases b
          all_goals
            clear hbj
            go_wp2_with fail
            go_quiet (fail)
            go_wp2_with fail
            refine (CT2.out _ (HA.out.drewN _)).mono ?_
            rintro e w3 ⟨he, rfl, hA3⟩
            have HE3 := Lib.hid (HE.out.trans ((EffW.drewN C wr nq).trans he))
            have HB3 := Lib.hid (bld_eff (bld_drewN HB.out nq) he H1.out.lt)
            have HA3 := Lib.hid hA3
            have HWS := Lib.hid (ws W1.heap.size W1.heap.size A D w3 HB3.out (by omega) HE3.out.size)
            clear he hA3
            go_wp2_with fail
            refine HWS.out.mono ?_
            rintro e w4 ⟨rfl, hb4, hB4⟩
            obtain ⟨hA4, he4⟩ := on_below H1.out HA3.out HE3.out hB4
            have HB4 := Lib.hid hb4; have HA4 := Lib.hid hA4; have HE4 := Lib.hid he4
            clear hb4 hB4 hA4 he4
            go_wp2_with fail
            have hjg := HG.out
            go_roundg (gk - 1)
            case rel => exact ⟨j + 1, _, false, rfl, (fun e => by cases e), by omega, by omega, by omega, by rw [List.length_append, size_len]; omega, HF, HB4, HA4, HE4⟩
            case measure => omega
      · have hje : j = n := by omega
        subst hje
        have hbf : b = false := by cases b with
          | false => rfl
          | true => exact absurd (hbj rfl) hjn
        subst hbf
        clear hbj
        have hR := texts_end HW.out (Nat.le_of_eq HLN.out)
        subst hR
        have CS := Lib.hid (fun n => Tryz.Builder_String_any _ _ A (wr.drewN n) (bld_drewN HB.out n) (show W1.heap.size ≤ (wr.drewN n).heap.size from HE.out.size))
        go_wp2_with fail
        go_quiet (fail)
        go_wp2_with fail
        refine (CS.out _).mono ?_
        rintro e w2 ⟨rfl, hE2⟩
        obtain ⟨hA3, he3⟩ := on_below H1.out (HA.out.drewN nq) (HE.out.trans (EffW.drewN C wr nq)) hE2
        go_wp2_with fail
        go_ret
        exact post_ok (HE0.out.trans he3) hA3
end
def addK (A : List Int) (x : Got (List Int)) : Got (List Int) := match x with
  | .error e => .error e
  | .ok d => .ok (A ++ d)
theorem addK_nil (x : Got (List Int)) : addK [] x = x := by cases x <;> rfl
theorem kinds_cons {W : List Wo} {k : Nat} {w : Wo} (h : W[k]? = some w) : kindsL (W.drop k) k = if w.q ∨ typeofP.typeOfD w.s.data.toList = 0 then .error (k, 2) else match kindsL (W.drop (k + 1)) (k + 1) with
    | .error e => .error e
    | .ok x => .ok (typeofP.typeOfD w.s.data.toList :: x) := by
  obtain ⟨hk, rfl⟩ := List.getElem?_eq_some_iff.1 h
  rw [List.drop_eq_getElem_cons hk]
  rfl
theorem kinds_bad {W : List Wo} {k : Nat} {w : Wo} {A : List Int} {R : Got (List Int)} (h : addK A (kindsL (W.drop k) k) = R) (hw : W[k]? = some w) (hl : w.q = true ∨ typeofP.typeOfD w.s.data.toList = 0) : R = .error (k, 2) := by
  rw [← h, kinds_cons hw, if_pos hl]; rfl
theorem kinds_go {W : List Wo} {k : Nat} {w : Wo} {A : List Int} {R : Got (List Int)} (h : addK A (kindsL (W.drop k) k) = R) (hw : W[k]? = some w) (hq : w.q = false) (ht : typeofP.typeOfD w.s.data.toList ≠ 0) : addK (A ++ [typeofP.typeOfD w.s.data.toList]) (kindsL (W.drop (k + 1)) (k + 1)) = R := by
  rw [← h, kinds_cons hw, if_neg (by rintro (e | e); · rw [hq] at e; cases e
                                     · exact ht e)]
  cases kindsL (W.drop (k + 1)) (k + 1) <;> simp [addK]
theorem kinds_end {W : List Wo} {k : Nat} {A : List Int} {R : Got (List Int)} (h : addK A (kindsL (W.drop k) k) = R) (hk : W.length ≤ k) : R = .ok A := by
  rw [← h, List.drop_eq_nil_of_le hk]; simp [addK, kindsL]
theorem int_snoc (l : List Int) (x : Int) : (l ++ [x]).map (Value.int .i64) = l.map (Value.int .i64) ++ [.int .i64 x] := by simp
section
variable (C : Nat) (a : Option Addr) (L : List Wo) (cap : Nat) (O : ByteArray) (k : Nat) (w : World) (h : AtW w C a L cap O k) (org : Bs)
include h
set_option maxRecDepth 100000 in
set_option maxHeartbeats 2400000 in
theorem kinds_read (ht : TabW C w) : Calls Tryz.prog 178 #[.agg #[], .pointer (some ⟨C, 0, none⟩)] w (Post C a L cap O w (fieldR org L k .kinds)) := by
  obtain ⟨i0, hi, hz0, hz1, hz2⟩ := info_parts infoInt
  have CP := Lib.hid (fun wx j hx => plain_any C a L cap O j wx hx)
  unfold PostP at CP
  have h1 := at_alloc h (boxO 91)
  have HE0 := Lib.hid (EffW.alloc C w (boxO 91))
  have HT := Lib.hid (ht.eff HE0.out)
  obtain ⟨W1, hW1⟩ : ∃ W1, w.alloc (boxO 91) = W1 := ⟨_, rfl⟩
  rw [hW1] at h1 HE0 HT
  have HW1 := Lib.hid hW1
  have H1 := Lib.hid h1
  have hltC := h1.lt
  have hfew := h.few
  have hkl := h.kl
  obtain ⟨n, hn⟩ : ∃ n, L.length = n := ⟨_, rfl⟩
  rw [hn] at hfew hkl
  have HLN := Lib.hid hn
  obtain ⟨R, HR⟩ : ∃ R, Hid (addK [] (kindsL (L.drop k) k) = R) := ⟨_, Lib.hid rfl⟩
  have HR0 : Hid (fieldR org L k .kinds = kindsE n R) := Lib.hid (by
    show kindsR L k = _
    unfold kindsR
    rw [← HR.out, addK_nil, hn]
    cases kindsL (L.drop k) k <;> rfl)
  rw [HR0.out]
  clear h h1 hn hW1 ht
  go_enter Tryz.func178, Tryz.ntmps178
  go_upto_region 1 with fail
  change Code.wp _ _ _ _ (w.alloc (boxO _))
  rw [HW1.out]
  go_wp2_with fail
  go_loopg [5] (n + 1 - k) (fun gas lv wr => ∃ (j : Nat) (A : List Int), k ≤ j ∧ j ≤ n ∧ j + gas = n + 1 ∧ A.length ≤ j ∧ Hid (addK A (kindsL (L.drop j) j) = R) ∧ Hid (wr.ownsRow W1.heap.size 3 1 lv A.length (A.map (Value.int .i64))) ∧ Hid (∀ x ∈ A, (Lit.int .i64 x).wf = true) ∧ Hid (AtW wr C a L cap O j) ∧ Hid (EffW C W1 wr))
  case atStart => exact ⟨k, [], Nat.le_refl _, by omega, by omega, by simp, HR, Lib.hid (World.ownsRow_nil _ _ _ _), Lib.hid (fun x hx => by simp at hx), H1, Lib.hid (EffW.refl _ _)⟩
  case round =>
    obtain ⟨j, A, hkj, hj, hjg, hAl, HW, HO, HWF, HA, HE⟩ := hrel
    have HG := Lib.hid hjg; clear hjg
    obtain ⟨av, cv, rfl⟩ := own_slice HO.out
    have k0 := HA.out.c0; have k1 := HA.out.c1
    rw [HLN.out] at k0
    have hltJ := HA.out.lt
    by_cases hjn : j < n
    · obtain ⟨x, hx⟩ : ∃ x, L[j]? = some x := ⟨_, List.getElem?_eq_getElem (by rw [HLN.out]; exact hjn)⟩
      have hjl : (j : Int) < (n : Int) := by omega
      have hxs := (HA.out.one hx).1
      have CP2 := Lib.hid (fun wx hx => CP.out wx j hx)
      rw [hx] at CP2
      have CB := Lib.hid (fun w => bad_is C a L cap O j 2 w)
      obtain ⟨s, q⟩ := x
      simp only at CP2 hxs
      cases q with
      | true =>
        have hR := kinds_bad HW.out hx (.inl rfl)
        clear hx
        subst hR
        go_wp2_with fail
        go_quiet (fail)
        go_wp2_with fail
        refine (CP2.out _ (HA.out.drewN _)).mono ?_
        rintro e w3 ⟨he, rfl⟩
        unfold faultE
        go_wp2_with fail
        exact ⟨rfl, post_err (x := ((j : Int), 2)) (HE0.out.trans (HE.out.trans ((EffW.drewN C wr nq).trans he)))⟩
      | false =>
        simp only [Bool.false_eq_true, if_false] at CP2
        have CT := Lib.hid (fun w (h : TabS w) => typeofD.typeof_any s w hxs h.utf h.pow)
        obtain ⟨V, hV⟩ : ∃ V, typeofP.typeOfD s.data.toList = V := ⟨_, rfl⟩
        rw [hV] at CT
        have hVle : 0 ≤ V ∧ V ≤ 65535 := by rw [← hV]; exact typeof_le _
        obtain ⟨hV0, hV1⟩ := hVle
        by_cases h0 : V = 0
        · have hR := kinds_bad HW.out hx (.inr (by rw [hV]; exact h0))
          clear hx hV
          subst hR
          subst h0
          go_wp2_with fail
          go_quiet (fail)
          go_wp2_with fail
          refine (CP2.out _ (HA.out.drewN _)).mono ?_
          rintro e w3 ⟨he, rfl, hA3⟩
          have HE3 := Lib.hid (HE.out.trans ((EffW.drewN C wr nq).trans he))
          have HA3 := Lib.hid hA3
          have HT3 := Lib.hid (HT.out.eff HE3.out)
          clear he hA3
          go_wp2_with fail
          refine (CT.out _ HT3.out.tab).mono ?_
          rintro e w4 ⟨rfl, hB4⟩
          have HE4 := Lib.hid (HE3.out.trans (EffW.of_below hB4))
          have HA4 := Lib.hid (HA3.out.below hB4)
          clear hB4
          go_wp2_with fail
          refine (CB.out _ HA4.out).mono ?_
          rintro e w5 ⟨rfl, rfl⟩
          unfold faultE
          go_wp2_with fail
          exact ⟨rfl, post_err (x := ((j : Int), 2)) (HE0.out.trans HE4.out)⟩
        · have hF := kinds_go HW.out hx rfl (by rw [hV]; exact h0)
          simp only [hV] at hF
          have HF := Lib.hid hF
          have hb : (V == 0) = false := by rw [beq_eq_false_iff_ne]; exact h0
          have HVW : Hid ((Lit.int .i64 V).wf = true) := Lib.hid (by simp only [Lit.wf, Bool.and_eq_true, decide_eq_true_eq]; exact ⟨by show (-9223372036854775808 : Int) ≤ V; omega, by show V ≤ 9223372036854775807; omega⟩)
          clear hx hV hF h0
          go_wp2_with fail
          go_quiet (fail)
          go_wp2_with fail
          refine (CP2.out _ (HA.out.drewN _)).mono ?_
          rintro e w3 ⟨he, rfl, hA3⟩
          have HE3 := Lib.hid (HE.out.trans ((EffW.drewN C wr nq).trans he))
          have HA3 := Lib.hid hA3
          have HT3 := Lib.hid (HT.out.eff HE3.out)
          have HO3 := Lib.hid (own_eff (w := wr.drewN nq) HO.out he H1.out.lt)
          clear he hA3
          go_wp2_with fail
          refine (CT.out _ HT3.out.tab).mono ?_
          rintro e w4 ⟨rfl, hB4⟩
          have HE4 := Lib.hid (HE3.out.trans (EffW.of_below hB4))
          have HA4 := Lib.hid (HA3.out.below hB4)
          have hown := own_below HO3.out hB4
          have hsz4 := HE4.out.size
          clear hB4
          go_wp2_with (at_builtin; refine wpList_append_own _ rfl _ _ 99 rfl W1.heap.size 3 i0 (.int .i64 0) 1 8 Tryz.underlying99 hi hz0 hz1 hz2 rfl (by decide) _ _ _ rfl (hown.alloc _) ⟨w4.heap.size, 0, none⟩ 1 1 [.int .i64 V] rfl rfl ?c1 ?c2 ?c3 ?c4 ?c5 ?_)
          case c1 => exact cell_one_new _ _ _
          case c2 => simp [Value.oneCell']
          case c3 => unfold maxLen; omega
          case c4 => omega
          case c5 => simp; omega
          intro v' w5 hown' hgrow _
          rw [← int_snoc] at hown'
          have hB5 : Below W1.heap.size w4 w5 := ((Below.refl W1.heap.size w4).alloc hsz4 _).grown hgrow (by rw [World.size_alloc]; omega) (fun i hi => (hown.lt i hi).1)
          obtain ⟨hA5, he5⟩ := on_below H1.out HA4.out HE4.out hB5
          have HO5 : Hid (w5.ownsRow W1.heap.size 3 1 v' (A ++ [V]).length ((A ++ [V]).map (Value.int .i64))) := Lib.hid (by rw [List.length_append]; exact hown')
          have HA5 := Lib.hid hA5; have HE5 := Lib.hid he5
          have HWF5 : Hid (∀ x ∈ A ++ [V], (Lit.int .i64 x).wf = true) := Lib.hid (fun x hx => by
            rcases List.mem_append.1 hx with hx | hx
            · exact HWF.out x hx
            · simp only [List.mem_singleton] at hx; subst hx; exact HVW.out)
          clear hown' hgrow hB5 hA5 he5 hown
          go_wp2_with fail
          have hjg := HG.out
          go_roundg (gk - 1)
          case rel => exact ⟨j + 1, _, by omega, by omega, by omega, by simp; omega, HF, HO5, HWF5, HA5, HE5⟩
          case measure => omega
    · have hje : j = n := by omega
      subst hje
      have hR := kinds_end HW.out (Nat.le_of_eq HLN.out)
      subst hR
      have CS := Lib.hid (fun wx (hr : RdI wx av A) (hnil : av = none → A.length = 0) => set_any av A.length cv A wx rfl hr hnil (by omega) HWF.out)
      have HRD : Hid (RdI (wr.drewN 0) av A ∧ (av = none → A.length = 0)) := Lib.hid (by
        obtain ⟨a', c', e1, _, _, hrd⟩ := RdI.of_own rfl (show (wr.drewN 0).ownsRow W1.heap.size 3 1 (.slice av A.length cv) A.length (A.map (Value.int .i64)) from HO.out)
        cases e1
        refine ⟨hrd, ?_⟩
        rintro rfl
        rcases HO.out.2 with ⟨_, h0⟩ | ⟨g, cap', cur, hv, _⟩
        · exact h0
        · cases hv)
      go_wp2_with fail
      go_quiet (fail)
      go_wp2_with fail
      refine (CS.out (wr.drewN nq) HRD.out.1 HRD.out.2).mono ?_
      rintro e w3 ⟨rfl, hB3⟩
      have HE3 := Lib.hid (HE.out.trans ((EffW.drewN C wr nq).trans (EffW.of_below hB3)))
      have HA3 := Lib.hid ((HA.out.drewN nq).below hB3)
      clear hB3
      go_wp2_with fail
      go_ret
      exact post_ok (HE0.out.trans HE3.out) HA3.out
end
end Go.Proofs.YtkcpbjoolfojjaaGreatDoor.wdG
