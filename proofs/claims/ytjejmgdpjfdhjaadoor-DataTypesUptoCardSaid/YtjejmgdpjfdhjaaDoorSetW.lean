/- data.Set: walk. -/
import Derived.Test.YtjejmgdpjfdhjaaDoorSetP
import Derived.Test.YtjejmgdpjfdhjaaDoorCoded
import Derived.Test.YtjejmgdpjfdhjaaDoorShelf
import Derived.Sort.OwnSortedInts
import Derived.BigRegion
import Derived.Deep.DeepCutAuto
import Derived.StillTailTactics
namespace Go.Proofs.YtjejmgdpjfdhjaaDoor.setW
open Go.RowKit Go.Proofs.YtjejmgdpjfdhjaaDoor.kit Go.Proofs.YtjejmgdpjfdhjaaDoor.nspec Go.Proofs.YtjejmgdpjfdhjaaDoor.bits Go.Proofs.YtjejmgdpjfdhjaaDoor.ints Go.Proofs.YtjejmgdpjfdhjaaDoor.bld Go.Proofs.YtjejmgdpjfdhjaaDoor.coded Go.Proofs.YtjejmgdpjfdhjaaDoor.fld Go.Proofs.YtjejmgdpjfdhjaaDoor.typesP Go.Proofs.YtjejmgdpjfdhjaaDoor.setP
set_option linter.unusedVariables false

/-- a list of numbers, of any sign, can be read from address a on -/
def RdI (w : World) (a : Option Addr) (ls : List Int) : Prop :=
  ∀ (j : Nat) (x : Int), ls[j]? = some x → ∃ g o, a = some ⟨g, o, none⟩ ∧ g < w.heap.size ∧ w.cell? ⟨g, o + j, none⟩ = some (.int .i64 x)
theorem RdI.below {w w' : World} {a : Option Addr} {B : Nat} {ls : List Int} (h : RdI w a ls) (hB : Below B w w') (hz : B = w.heap.size) : RdI w' a ls := by
  intro j x hx
  obtain ⟨g, o, h1, h3, h4⟩ := h j x hx
  exact ⟨g, o, h1, Nat.lt_of_lt_of_le h3 hB.size, (hB.cell (p := ⟨g, o + j, none⟩) (by rw [hz]; exact h3)).trans h4⟩
theorem RdI.of_own {w : World} {base : Nat} {v : Value} {ls : List Int} {n : Nat} (hn : n = ls.length) (h : w.ownsRow base 3 1 v n (ls.map (Value.int .i64))) : ∃ a c, v = .slice a n c ∧ n ≤ c ∧ c ≤ maxLen ∧ RdI w a ls := by
  subst hn
  rcases h.2 with ⟨rfl, h0⟩ | ⟨g, cap, cur, rfl, hb, hg, h1, h2, _, htake⟩
  · have : ls = [] := List.eq_nil_of_length_eq_zero h0
    subst this
    exact ⟨none, 0, rfl, Nat.le_refl _, Nat.zero_le _, by intro j x h; simp at h⟩
  · refine ⟨_, cap, rfl, h1, h2, ?_⟩
    intro j x hx
    refine ⟨g, 0, rfl, (Array.getElem?_eq_some_iff.1 hg).1, ?_⟩
    have := h.cells (g := g) rfl j (.int .i64 x) (by rw [List.getElem?_map, hx]; rfl)
    have hadd : (⟨g, 0, none⟩ : Addr).add j = ⟨g, 0 + j, none⟩ := by unfold Addr.add; split <;> simp_all
    rw [hadd] at this
    exact this
theorem rdI_nat {w : World} {a : Option Addr} {ls : List Nat} (h : RdN w a ls) : RdI w a (ls.map fun x : Nat => (x : Int)) := by
  intro j x hx
  rw [List.getElem?_map] at hx
  obtain ⟨y, h1, rfl⟩ := Option.map_eq_some_iff.1 hx
  exact h j y h1

theorem clone_any (a : Option Addr) (n c : Nat) (L : List Int) (w : World) (hn : n = L.length) (hr : RdI w a L) (ha : a = none → n = 0) (hbig : n * 8 ≤ 140737488355328) :
    Calls Tryd.prog 24 #[.slice a n c] w fun e w' => ∃ v', e = .returned v' ∧ w'.ownsRow w.heap.size 3 1 v' n (L.map (Value.int .i64)) ∧ Below w.heap.size w w' := by
  subst hn
  cases a with
  | none =>
    have h0 := ha rfl
    have : L = [] := List.eq_nil_of_length_eq_zero h0
    subst this
    exact (Tryd.slices_Clone_int_nil _ _ _).mono (by rintro e w' ⟨rfl, rfl⟩; exact ⟨_, rfl, World.ownsRow_nil _ _ _ _, Below.refl _ _⟩)
  | some ad =>
    cases L with
    | nil =>
      exact (Tryd.slices_Clone_int_zero _ _ _).mono (by rintro e w' ⟨v', h1, h2, _, h4⟩; exact ⟨v', h1, h2, h4⟩)
    | cons x L =>
      obtain ⟨g, o, h1, _⟩ := hr 0 x rfl
      cases h1
      refine (Tryd.slices_Clone_int g o _ c (x :: L) w (Nat.le_refl _) hbig ?_).mono ?_
      · intro j hj
        obtain ⟨g', o', h1, _, h3⟩ := hr j _ (List.getElem?_eq_getElem hj)
        cases h1
        rw [h3, List.getD_eq_getElem?_getD, List.getElem?_eq_getElem hj]; rfl
      · rintro e w' ⟨v', h1, h2, _, h4⟩
        rw [List.take_of_length_le (Nat.le_refl _)] at h2
        exact ⟨v', h1, h2, h4⟩
theorem sort_any (base : Nat) (v : Value) (n : Nat) (L : List Int) (w : World) (hn : n = L.length) (h : w.ownsRow base 3 1 v n (L.map (Value.int .i64))) (hbig : n * 8 ≤ 140737488355328) :
    Calls Tryd.prog 25 #[v] w fun e w' => e = .returned (.tuple #[]) ∧ w'.ownsRow base 3 1 v n ((sortL L).map (Value.int .i64)) ∧ w.grownBy w' v.ownBlock := by
  subst hn
  rcases h.2 with ⟨rfl, h0⟩ | ⟨g, cap, cur, rfl, hb, hg, h1, h2, h3, htake⟩
  · have : L = [] := List.eq_nil_of_length_eq_zero h0
    subst this
    exact (Tryd.slices_Sort_int_none _ _ _).mono (by
      rintro e w' ⟨rfl, rfl⟩
      refine ⟨rfl, by simpa [sortL] using h, rfl, rfl, rfl, Nat.le_refl _, fun _ _ _ => rfl⟩)
  · refine (Tryd.slices_Sort_int g 0 cap L w (holds_of_blockI hg (by rw [Nat.mul_one] at htake; exact htake)) (Array.getElem?_eq_some_iff.1 hg).1 (by omega)).mono ?_
    rintro e w' ⟨rfl, m, os, rfl⟩
    exact ⟨rfl, ownsRow_sortedI (sortL_len L) hb hg h1 h2 h3, grownBy_sortedI _⟩

/-- a cell of one's own row, written -/
theorem ownsRow_set {w : World} {base : Nat} {e : TypeId} {g n cap : Nat} {xs : List Value} (h : w.ownsRow base e 1 (.slice (some ⟨g, 0, none⟩) n cap) n xs) (k : Nat) (hk : k < n) (u : Value) :
    (w.setCell ⟨g, k, none⟩ u).ownsRow base e 1 (.slice (some ⟨g, 0, none⟩) n cap) n (xs.set k u) := by
  obtain ⟨h1, h2⟩ := h
  rcases h2 with ⟨h2, _⟩ | ⟨g', cap', cur, hv, hg, hh, r1, r2, r3, r4⟩
  · cases h2
  · cases hv
    refine ⟨by rw [List.length_set]; exact h1, .inr ⟨g, cap, _, rfl, hg, heap_setCell_same w g k cur e u hh, r1, r2, by simpa using r3, ?_⟩⟩
    rw [← r4, Nat.mul_one, Array.toList_setIfInBounds, List.take_set]
theorem own_addr {w : World} {base : Nat} {e : TypeId} {v : Value} {n : Nat} {xs : List Value} (h : w.ownsRow base e 1 v n xs) (hn : 1 ≤ n) : ∃ g cap, v = .slice (some ⟨g, 0, none⟩) n cap ∧ base ≤ g ∧ g < w.heap.size ∧ n ≤ cap ∧ cap ≤ maxLen ∧ (∀ j u, xs[j]? = some u → w.cell? ⟨g, j, none⟩ = some u) ∧ (∀ j, w.frozen? ⟨g, j, none⟩ = false) := by
  rcases h.2 with ⟨_, h0⟩ | ⟨g, cap, cur, rfl, hb, hg, h1, h2, _, _⟩
  · omega
  · refine ⟨g, cap, rfl, hb, (Array.getElem?_eq_some_iff.1 hg).1, h1, h2, fun j u hj => ?_, fun j => by simp [World.frozen?, hg]⟩
    have := h.cells (g := g) rfl j u hj
    have hadd : (⟨g, 0, none⟩ : Addr).add j = ⟨g, j, none⟩ := by unfold Addr.add; split <;> simp_all
    rw [hadd] at this
    exact this
theorem own_slice {w : World} {base : Nat} {e : TypeId} {v : Value} {n : Nat} {xs : List Value} (h : w.ownsRow base e 1 v n xs) : ∃ a c, v = .slice a n c := by
  rcases h.2 with ⟨rfl, rfl⟩ | ⟨g, cap, cur, rfl, _⟩
  · exact ⟨_, _, rfl⟩
  · exact ⟨_, _, rfl⟩
/-- the row of bytes under way: what stands ahead of the block, and the block -/
structure Row (w0 w : World) (v : Value) (A B : Bs) (h N : Nat) : Prop where
  own : w.ownsRow w0.heap.size 5 1 v N (Lib.byteCells (A ++ B))
  hA : A.length = h
  hN : h + B.length = N
  below : Below w0.heap.size w0 w
theorem Row.open {w0 w : World} {v : Value} {A B : Bs} {h N : Nat} (r : Row w0 w v A B h N) : ∃ a c, v = .slice a N c := own_slice r.own
theorem Row.make {w0 w : World} {v : Value} {A B O : Bs} (h : w.ownsRow w0.heap.size 5 1 v O.length (Lib.byteCells O)) (hO : O = A ++ B) (hb : Below w0.heap.size w0 w) : Row w0 w v A B A.length (A.length + B.length) := by
  subst hO; rw [List.length_append] at h; exact ⟨h, rfl, rfl, hb⟩
theorem cell_two_new (w : World) (e : TypeId) (x y : Value) : ∀ (j : Nat) (u : Value), [x, y][j]? = some u → (w.alloc (.cells #[x, y] e)).cell? ((⟨w.heap.size, 0, none⟩ : Addr).add j) = some u := by
  intro j u h
  match j, h with
  | 0, h => simp at h; subst h; simp [World.cell?, World.alloc, Addr.add, -World.alloc_eq]
  | 1, h => simp at h; subst h; simp [World.cell?, World.alloc, Addr.add, -World.alloc_eq]
theorem and255 {x : Int} (h₀ : 0 ≤ x) (h₁ : x < 2147483648) : bits .and .i64 x 255 = x % 256 := bits_mask .i64 31 (by decide) to32.wraps31 8 (by decide) x h₀ h₁
theorem cells_get (l : Bs) (j : Nat) (h : j < l.length) : (Lib.byteCells l)[j]? = some (.int .u8 ((l.getD j 0).toNat : Int)) := by
  simp [Lib.byteCells, List.getD_eq_getElem?_getD, List.getElem?_eq_getElem h]
theorem cells_set (l : Bs) (k : Nat) (c : UInt8) : (Lib.byteCells l).set k (.int .u8 (c.toNat : Int)) = Lib.byteCells (l.set k c) := by
  simp [Lib.byteCells, List.map_set]
theorem or_mark (c : UInt8) (T : Nat) : bits .or .u8 (c.toNat : Int) ((128 : Int) / 2 ^ (T % 8)) = ((c ||| markT T).toNat : Int) := by
  have h : ∀ j, j < 8 → ((128 : Int) / 2 ^ j) = ((2 ^ (7 - j) : Nat) : Int) ∧ 2 ^ (7 - j) < 256 := by decide
  obtain ⟨h1, h2⟩ := h (T % 8) (by omega)
  rw [h1, u8_or_nat _ _ c.toNat_lt h2]
  simp only [markT, UInt8.toNat_or]
  rw [UInt8.toNat_ofNat_of_lt' h2]
theorem foldl_drop {L : List Int} {k : Nat} {t : Int} {s : St} {R : St} (h : (L.drop k).foldl setStep s = R) (hk : L[k]? = some t) : (L.drop (k + 1)).foldl setStep (setStep s t) = R := by
  obtain ⟨h1, h2⟩ := List.getElem?_eq_some_iff.1 hk
  rw [List.drop_eq_getElem_cons h1, h2] at h; exact h

set_option maxRecDepth 100000 in
set_option maxHeartbeats 8000000 in
theorem set_any (a : Option Addr) (n c : Nat) (L : List Int) (w : World) (hn : n = L.length) (hr : RdI w a L) (ha : a = none → n = 0) (hbig : n ≤ 1073741824) (hw : ∀ x ∈ L, (Lit.int .i64 x).wf = true) :
    Calls Tryd.prog 11 #[.slice a n c] w fun e w' => e = .returned (.string ⟨(setL (sortL L)).toArray⟩) ∧ Below w.heap.size w w' := by
  obtain ⟨i0, hi, hz0, hz1, hz2⟩ := info_parts infoByte
  have C1 := Lib.hid (fun w hr => clone_any a n c L w hn hr ha (by omega))
  have C2 := Lib.hid (fun base v w h => sort_any base v n L w hn h (by omega))
  obtain ⟨S, hS⟩ : ∃ S, sortL L = S := ⟨_, rfl⟩
  have hSl : S.length = n := by rw [← hS, sortL_len, hn]
  have hSw : ∀ x ∈ S, (Lit.int .i64 x).wf = true := fun x hx => hw x ((sortL_mem L x).1 (by rw [hS]; exact hx))
  rw [hS] at C2 ⊢
  obtain ⟨R, hR⟩ : ∃ R, S.foldl setStep set0 = R := ⟨_, rfl⟩
  have HE : Hid (setL S = R.A ++ R.B) := Lib.hid (by unfold setL; rw [hR])
  have HSW := Lib.hid hSw; have HSL := Lib.hid hSl; have HR := Lib.hid hR
  clear hw hS hSl hSw hR hn
  go_enter Tryd.func11, Tryd.ntmps11
  go_wp2_with fail
  refine (C1.out _ hr).mono ?_
  rintro e w1 ⟨v1, rfl, hown1, hB1⟩
  go_wp2_with fail
  refine (C2.out _ _ _ hown1).mono ?_
  rintro e w2 ⟨rfl, hown2, hgr⟩
  have hB2 := below_append' hB1 hB1.size hown1 hgr
  obtain ⟨a2, c2, rfl, hc2, hcm, hr2⟩ := RdI.of_own HSL.out.symm hown2
  have HRD := Lib.hid hr2; have HB2 := Lib.hid hB2
  clear C1 C2 hown1 hown2 hgr hB1 hB2 hr2 hr
  go_wp2_with fail
  go_loopg [3, 5, 6, 8, 15] (n + 1) (fun gas ov bv hv _ kv wr => ∃ (k : Nat) (A B : Bs) (b : Int) (h N : Nat), kv = .int .i64 k ∧ bv = .int .i64 b ∧ hv = .int .i64 (h : Int) ∧ k ≤ n ∧ n + 1 ≤ k + gas ∧ -1 ≤ b ∧ b ≤ 255 ∧ h ≤ 34 * k ∧ N ≤ h + 34 ∧ Hid (b = -1 ∨ 2 ≤ B.length) ∧ Hid ((S.drop k).foldl setStep ⟨A, b, B⟩ = R) ∧ Hid (Row w2 wr ov A B h N))
  case atStart => exact ⟨0, [], [], -1, 0, 0, rfl, rfl, rfl, by omega, by omega, by omega, by omega, by omega, by omega, Lib.hid (.inl rfl), HR, Lib.hid ⟨World.ownsRow_nil _ _ _ _, rfl, rfl, Below.refl _ _⟩⟩
  case round =>
    obtain ⟨k, A, B, b, h, N, rfl, rfl, rfl, hk, hkg, hb1, hb2, hAl, hBl, hbB, HF, HRW⟩ := hrel
    obtain ⟨gk', hgk'⟩ : ∃ g, g = gk := ⟨_, rfl⟩
    rw [← hgk'] at hkg
    have HKG := Lib.hid hkg; clear hkg
    obtain ⟨ao, co, rfl⟩ := HRW.out.open
    by_cases hlt : k < n
    · obtain ⟨t, hSt⟩ : ∃ t, S[k]? = some t := ⟨_, List.getElem?_eq_getElem (by have := HSL.out; omega)⟩
      have htw := HSW.out t (List.mem_of_getElem? hSt)
      have HST := Lib.hid (foldl_drop HF.out hSt)
      have HLL := Lib.hid hlt
      have hlti : (k : Int) < (n : Int) := by omega
      obtain ⟨g2, o2, ha2, hg2, hcell2⟩ := HRD.out k t hSt
      have hcell := (HRW.out.below.cell (p := ⟨g2, o2 + k, none⟩) hg2).trans hcell2
      subst ha2
      clear hSt hlt hcell2
      by_cases h1 : t < 1
      · have HST2 : Hid ((S.drop (k + 1)).foldl setStep ⟨A, b, B⟩ = R) := Lib.hid (by
          have h := HST.out
          rw [step_no _ (by unfold isT; omega)] at h; exact h)
        go_wp2_with fail
        have hkg := HKG.out; have hlt := HLL.out
        go_roundg (gk' - 1)
        case rel => exact ⟨k + 1, A, B, b, h, N, by go_num, rfl, rfl, by omega, by omega, hb1, hb2, by omega, hBl, hbB, HST2, HRW⟩
        case measure => omega
      · by_cases h2 : 65535 < t
        · have HST2 : Hid ((S.drop (k + 1)).foldl setStep ⟨A, b, B⟩ = R) := Lib.hid (by
            have h := HST.out
            rw [step_no _ (by unfold isT; omega)] at h; exact h)
          have h1i : (1 : Int) ≤ t := by omega
          go_wp2_with fail
          have hkg := HKG.out; have hlt := HLL.out
          go_roundg (gk' - 1)
          case rel => exact ⟨k + 1, A, B, b, h, N, by go_num, rfl, rfl, by omega, by omega, hb1, hb2, by omega, hBl, hbB, HST2, HRW⟩
          case measure => omega
        · obtain ⟨T, rfl⟩ : ∃ T : Nat, t = (T : Int) := ⟨t.toNat, by omega⟩
          have hT1 : 1 ≤ T := by omega
          have hT2 : T ≤ 65535 := by omega
          clear h1 h2 htw
          go_upto_if 28 with (fail)
          go_cut [3, 5, 6] (fun ov bv hv wx => ∃ (A1 B1 : Bs) (h1 N1 : Nat) (b1 : Int), bv = .int .i64 b1 ∧ hv = .int .i64 (h1 : Int) ∧ -1 ≤ b1 ∧ b1 ≤ 255 ∧ h1 ≤ 34 * (k + 1) ∧ N1 ≤ h1 + 34 ∧ h1 + 2 ≤ N1 ∧ Hid (setStep ⟨A, b, B⟩ (T : Int) = ⟨A1, b1, putT B1 T⟩) ∧ Hid (Row w2 wx ov A1 B1 h1 N1))
          case first =>
            have hv : isT (T : Int) := by unfold isT; omega
            by_cases hb : (T : Int) / 256 = b
            · have HS : Hid (setStep ⟨A, b, B⟩ (T : Int) = ⟨A, b, putT B T⟩) := Lib.hid (by
                simp only [setStep, if_pos hv]
                rw [if_pos hb, Int.toNat_natCast])
              have hB2 : h + 2 ≤ N := by have := hbB.out; have := HRW.out.hN; omega
              have hbb : ((T : Int) / 256 != b) = false := by rw [hb]; simp
              clear hv hb
              go_wp2_with fail
              go_meet
              exact ⟨A, B, h, N, b, rfl, rfl, hb1, hb2, by omega, hBl, hB2, HS, HRW⟩
            · have HS : Hid (setStep ⟨A, b, B⟩ (T : Int) = ⟨A ++ B, (T : Int) / 256, putT [UInt8.ofNat (T / 256), 0] T⟩) := Lib.hid (by
                simp only [setStep, if_pos hv]
                rw [if_neg hb, Int.toNat_natCast])
              obtain ⟨c8, hc8⟩ : ∃ c8, UInt8.ofNat (T / 256) = c8 := ⟨_, rfl⟩
              have hcT : (c8.toNat : Int) = (T : Int) / 256 := by
                rw [← hc8, UInt8.toNat_ofNat_of_lt' (by omega : T / 256 < 256)]; omega
              rw [hc8, ← hcT] at HS
              have hTc : Value.int .i64 ((T : Int) / 256) = Value.int .i64 (c8.toNat : Int) := by rw [hcT]
              have hc256 := byte_lt c8
              have hsz := HRW.out.below.size
              have hbb : ((T : Int) / 256 != b) = true := by simpa using hb
              have hown := HRW.out.own
              clear hv hb hcT hc8
              go_wp2_with (at_builtin; refine wpList_append_own _ rfl _ _ 38 rfl w2.heap.size 5 i0 (.int .u8 0) 1 1 Tryd.underlying38 hi hz0 hz1 hz2 rfl (by decide) _ _ _ rfl (hown.alloc _) ⟨wr.heap.size, 0, none⟩ 2 2 [.int .u8 (c8.toNat : Int), .int .u8 0] rfl rfl ?c1 ?c2 ?c3 ?c4 ?c5 ?_)
              case c1 => first | exact fun j u h => h | exact cell_two_new _ _ _ _
              case c2 => simp [Value.oneCell']
              case c3 => unfold maxLen; omega
              case c4 => omega
              case c5 => first | omega | (simp; omega)
              intro v' w1' hown' hgrow _
              have HB3 := below_append HRW.out.below hsz hown hgrow
              have HRW2 : Hid (Row w2 w1' v' (A ++ B) [c8, 0] N (N + 2)) := Lib.hid (by
                have h1 := HRW.out.hA; have h2 := HRW.out.hN
                exact ⟨by simpa [Lib.byteCells] using hown', by rw [List.length_append]; omega, rfl, HB3⟩)
              clear hown' hgrow hown hTc HB3
              go_wp2_with fail
              go_meet
              exact ⟨A ++ B, _, N, N + 2, _, rfl, rfl, by omega, by omega, by omega, by omega, by omega, HS, HRW2⟩
          case rest =>
            obtain ⟨A1, B1, h1, N1, b1, rfl, rfl, hb3, hb4, hA1, hB1, hB1', HS, HRW1⟩ := hcut
            clear HRW hbB HF
            obtain ⟨q, hq⟩ : ∃ q, T % 256 / 8 = q := ⟨_, rfl⟩
            have hq31 : q ≤ 31 := by omega
            obtain ⟨m, hm⟩ : ∃ m, q + 3 - B1.length = m := ⟨_, rfl⟩
            have hm34 : m ≤ 34 := by omega
            obtain ⟨r, hr⟩ : ∃ r, T % 256 = r := ⟨_, rfl⟩
            have hr256 : r < 256 := by omega
            have hQ1 : Value.int .i64 (bits .and .i64 (T : Int) 255) = Value.int .i64 (r : Int) := by
              rw [and255 (by omega) (by omega), ← hr]; rfl
            have hQ2 : Value.int .i64 ((r : Int) / 8) = Value.int .i64 (q : Int) := by congr 1; omega
            have HQ := Lib.hid hq; have HM := Lib.hid hm; have HRR := Lib.hid hr
            clear hq hm hr
            go_wp2_with fail
            go_loopg [3] (m + 1) (fun gas ov wq => ∃ (j : Nat), j ≤ m ∧ m + 1 ≤ j + gas ∧ Hid (Row w2 wq ov A1 (B1 ++ List.replicate j 0) h1 (N1 + j)))
            case atStart => exact ⟨0, by omega, by omega, by simpa using HRW1⟩
            case round =>
              clear HRW1
              obtain ⟨j, hj, hjg, HRq⟩ := hrel
              have HJG := Lib.hid hjg; clear hjg
              obtain ⟨ao, co, rfl⟩ := HRq.out.open
              have hN1 := HRq.out.hN
              rw [List.length_append, List.length_replicate] at hN1
              by_cases hjm : j < m
              · have hlen : (N1 : Int) + (j : Int) < (h1 : Int) + 3 + (q : Int) := by
                  have := HM.out; omega
                clear hN1
                have hown := HRq.out.own
                have hsz := HRq.out.below.size
                go_wp2_with (at_builtin; refine wpList_append_own _ rfl _ _ 38 rfl w2.heap.size 5 i0 (.int .u8 0) 1 1 Tryd.underlying38 hi hz0 hz1 hz2 rfl (by decide) _ _ _ rfl (hown.alloc _) ⟨wr.heap.size, 0, none⟩ 1 1 [.int .u8 0] rfl rfl ?d1 ?d2 ?d3 ?d4 ?d5 ?_)
                case d1 => exact cell_one_new _ _ _
                case d2 => simp [Value.oneCell']
                case d3 => unfold maxLen; omega
                case d4 => omega
                case d5 => first | omega | (simp; omega)
                intro v' w1' hown' hgrow _
                have HB3 := below_append HRq.out.below hsz hown hgrow
                have HR2 : Hid (Row w2 w1' v' A1 (B1 ++ List.replicate (j + 1) 0) h1 (N1 + (j + 1))) := Lib.hid (by
                  have h2 := HRq.out.hN
                  refine ⟨?_, HRq.out.hA, by rw [List.length_append, List.length_replicate] at h2 ⊢; omega, HB3⟩
                  rw [List.replicate_succ', ← List.append_assoc, ← List.append_assoc]
                  simpa [Lib.byteCells, Nat.add_assoc] using hown')
                clear hown' hgrow hown HB3
                go_wp2_with fail
                have hjg := HJG.out
                go_roundg (gk - 1)
                case rel => exact ⟨j + 1, by omega, by omega, HR2⟩
                case measure => omega
              · have hC : (putT B1 T = (((B1 ++ List.replicate j 0).set (q + 2) ((B1 ++ List.replicate j 0).getD (q + 2) 0 ||| markT T)).set 1 (UInt8.ofNat (N1 + j - h1 - 2)))) := (by
                  have h2 := HRq.out.hN
                  have hjm2 : j = q + 3 - B1.length := by have := HM.out; omega
                  have hq := HQ.out
                  simp only [putT, hq, ← hjm2]
                  congr 2
                  simp only [List.length_set]; omega)
                obtain ⟨C, hCC⟩ : ∃ C, B1 ++ List.replicate j 0 = C := ⟨_, rfl⟩
                have hlen : (h1 : Int) + 3 + (q : Int) ≤ (N1 : Int) + (j : Int) := by
                  have := HM.out; omega
                obtain ⟨N2, hN2⟩ : ∃ N2, N1 + j = N2 := ⟨_, rfl⟩
                have hN2i : Value.int .i64 ((N1 : Int) + (j : Int)) = Value.int .i64 (N2 : Int) := by congr 1; omega
                have hN34 : N2 ≤ h1 + 34 := by
                  have := HM.out; omega
                have hlen2 : (h1 : Int) + 3 + (q : Int) ≤ (N2 : Int) := by omega
                rw [hCC] at hC HRq
                have HN2 := Lib.hid hN2
                rw [hN2] at hC HRq ⊢
                obtain ⟨g, cap, hgv, hg0, hg1, hcap, hcapm, hcells, hfz⟩ := own_addr HRq.out.own (by omega)
                cases hgv
                obtain ⟨x, hx⟩ : ∃ x, C.getD (q + 2) 0 = x := ⟨_, rfl⟩
                rw [hx] at hC
                obtain ⟨p, hp⟩ : ∃ p, h1 + 2 + q = p := ⟨_, rfl⟩
                have hA1l := HRq.out.hA
                have hcN := HRq.out.hN
                have hcx : wr.cell? ⟨g, p, none⟩ = some (.int .u8 (x.toNat : Int)) := by
                  refine hcells p _ ?_
                  rw [cells_get _ _ (by rw [List.length_append]; omega), List.getD_eq_getElem?_getD, List.getElem?_append_right (by omega), show p - A1.length = q + 2 by omega, ← List.getD_eq_getElem?_getD, hx]
                have hfz1 := hfz p
                have hfz2 := hfz (h1 + 1)
                have hpi : Value.int .i64 ((h1 : Int) + 2 + (q : Int)) = Value.int .i64 (p : Int) := by congr 1; omega
                obtain ⟨y, hy⟩ : ∃ y, x ||| markT T = y := ⟨_, rfl⟩
                rw [hy] at hC
                have hor : Value.int .u8 (bits .or .u8 (x.toNat : Int) ((128 : Int) / 2 ^ (T % 8))) = Value.int .u8 (y.toNat : Int) := by rw [or_mark, hy]
                have hpN : (p : Int) < (N2 : Int) := by omega
                clear hN2i hjm hN1 hcells hfz hx hy hCC hN2
                obtain ⟨z, hz⟩ : ∃ z, UInt8.ofNat (N2 - h1 - 2) = z := ⟨_, rfl⟩
                have hzi : Value.int .i64 ((N2 : Int) - (h1 : Int) - 2) = Value.int .i64 (z.toNat : Int) := by
                  rw [← hz, UInt8.toNat_ofNat_of_lt' (by omega : N2 - h1 - 2 < 256)]; congr 1; omega
                have hz256 := byte_lt z
                have hR3 : Row w2 (wr.setCell ⟨g, p, none⟩ (.int .u8 (y.toNat : Int))).drew (.slice (some ⟨g, 0, none⟩) N2 co) A1 (C.set (q + 2) y) h1 N2 := by
                  refine ⟨?_, hA1l, by rw [List.length_set]; exact hcN, (HRq.out.below.setCell (p := ⟨g, p, none⟩) hg0 _).drew⟩
                  have h := ownsRow_set HRq.out.own p (by omega) (.int .u8 (y.toNat : Int))
                  rw [cells_set, List.set_append_right _ _ (by omega), show p - A1.length = q + 2 by omega] at h
                  exact h
                rw [hz] at hC
                have HC := Lib.hid hC; clear hC
                have HR3 := Lib.hid hR3
                clear hz hR3 hp
                go_wp2_with fail
                go_region
                obtain ⟨w3, hw3⟩ : ∃ w3, (wr.setCell ⟨g, p, none⟩ (.int .u8 (y.toNat : Int))).drew = w3 := ⟨_, rfl⟩
                rw [hw3] at HR3 ⊢
                obtain ⟨g', cap', hgv, hg0', hg1', _, _, hcells, hfz⟩ := own_addr HR3.out.own (by omega)
                cases hgv
                have hlc := HR3.out.hN
                have hc1 : w3.cell? ⟨g, h1 + 1, none⟩ = some (.int .u8 (((C.set (q + 2) y).getD 1 0).toNat : Int)) := by
                  refine hcells (h1 + 1) _ ?_
                  rw [cells_get _ _ (by rw [List.length_append]; omega), List.getD_eq_getElem?_getD, List.getElem?_append_right (by omega), show h1 + 1 - A1.length = 1 by omega, ← List.getD_eq_getElem?_getD]
                have hfz1 := hfz (h1 + 1)
                have h1N : (h1 : Int) + 1 < (N2 : Int) := by omega
                clear hcells hfz hw3 hcx hfz2 hor hpi hpN
                have HR4 : Hid (Row w2 (w3.setCell ⟨g, h1 + 1, none⟩ (.int .u8 (z.toNat : Int))) (.slice (some ⟨g, 0, none⟩) N2 co) A1 (putT B1 T) h1 N2) := Lib.hid (by
                  rw [HC.out]
                  refine ⟨?_, HR3.out.hA, by rw [List.length_set]; exact HR3.out.hN, HR3.out.below.setCell (p := ⟨g, h1 + 1, none⟩) hg0' _⟩
                  have h := ownsRow_set HR3.out.own (h1 + 1) (by omega) (.int .u8 (z.toNat : Int))
                  rw [cells_set, List.set_append_right _ _ (by omega), show h1 + 1 - A1.length = 1 by omega] at h
                  exact h)
                have HST2 : Hid ((S.drop (k + 1)).foldl setStep ⟨A1, b1, putT B1 T⟩ = R) := Lib.hid (by rw [← HS.out]; exact HST.out)
                have HBB : Hid (b1 = -1 ∨ 2 ≤ (putT B1 T).length) := Lib.hid (.inr (by rw [putT_len]; omega))
                go_wp2_with fail
                have hkg := HKG.out; have hlt := HLL.out
                go_roundg (gk' - 1)
                case rel => exact ⟨k + 1, A1, _, b1, h1, N2, by go_num, rfl, rfl, by omega, by omega, hb3, hb4, by omega, by omega, HBB, HST2, HR4⟩
                case measure => omega
    · have hke : k = n := by omega
      have hown := HRW.out.own
      have HFE : Hid ((⟨A, b, B⟩ : St) = R) := Lib.hid (by
        have h := HF.out
        rw [hke, List.drop_eq_nil_iff.2 (by rw [HSL.out]; exact Nat.le_refl _)] at h; exact h)
      have hNl : N = (A ++ B).length := by rw [List.length_append, HRW.out.hA, HRW.out.hN]
      rw [hNl] at hown
      have hst := own_string (P := Tryd.prog) hown 38 9 5 Tryd.underlying38 Tryd.underlying5 Tryd.underlying9
      rw [← hNl] at hst
      have hRes : Value.string ⟨(A ++ B).toArray⟩ = Value.string ⟨(setL S).toArray⟩ := by
        rw [HE.out, ← HFE.out]
      have HB := Lib.hid (HB2.out.trans (HRW.out.below.mono HB2.out.size))
      have hki : (n : Int) ≤ (k : Int) := by omega
      clear hown hke hNl
      go_wp2_with fail
      go_ret
      exact ⟨rfl, HB.out⟩
end Go.Proofs.YtjejmgdpjfdhjaaDoor.setW
