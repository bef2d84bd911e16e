/- The law gazetteerlaw1.DataTypes: walk. -/
import Derived.Test.YtjejmgdpjfdhjaaDoorTypeOfD
import Derived.Test.YtjejmgdpjfdhjaaDoorRSet
import Derived.Test.YtjejmgdpjfdhjaaDoorTypesR
import Derived.Test.YtjejmgdpjfdhjaaDoorDataSets
namespace Go.Proofs.YtjejmgdpjfdhjaaDoor.dtypes
open Go.RowKit Go.Proofs.YtjejmgdpjfdhjaaDoor.kit Go.Proofs.YtjejmgdpjfdhjaaDoor.nspec Go.Proofs.YtjejmgdpjfdhjaaDoor.bits Go.Proofs.YtjejmgdpjfdhjaaDoor.ints Go.Proofs.YtjejmgdpjfdhjaaDoor.fld Go.Proofs.YtjejmgdpjfdhjaaDoor.typesP Go.Proofs.YtjejmgdpjfdhjaaDoor.typesW Go.Proofs.YtjejmgdpjfdhjaaDoor.setP Go.Proofs.YtjejmgdpjfdhjaaDoor.setW Go.Proofs.YtjejmgdpjfdhjaaDoor.dataSets
set_option linter.unusedVariables false

abbrev PowT (w : World) : Prop := Lib.TabIs Tryd.prog w "internal/strconv.uint64pow10" .u64 Lib.pow10Tab
theorem own_same {w w1 : World} {b0 : Nat} {e : TypeId} {sz n : Nat} {v : Value} {xs : List Value} (h : w.ownsRow b0 e sz v n xs) (hB : Below w.heap.size w w1) : w1.ownsRow b0 e sz v n xs := by
  refine ⟨h.1, ?_⟩
  rcases h.2 with h1 | ⟨g, cap, cur, rfl, h2, h3, h4⟩
  · exact .inl h1
  · exact .inr ⟨g, cap, cur, rfl, h2, (hB.block g (Array.getElem?_eq_some_iff.1 h3).1).trans h3, h4⟩
theorem own_keep {w w1 : World} {b0 : Nat} {e : TypeId} {sz n : Nat} {v : Value} {xs : List Value} (h : w.ownsRow b0 e sz v n xs) (hk : ∀ k, v.ownBlock = some k → w1.heap[k]? = w.heap[k]?) : w1.ownsRow b0 e sz v n xs := by
  refine ⟨h.1, ?_⟩
  rcases h.2 with h1 | ⟨g, cap, cur, rfl, h2, h3, h4⟩
  · exact .inl h1
  · exact .inr ⟨g, cap, cur, rfl, h2, (hk g rfl).trans h3, h4⟩
theorem src_of {w : World} {a : Option Addr} {n c : Nat} {L : List Int} (hn : n = L.length) (hr : RdI w a L) (ha : a = none → n = 0 ∧ c = 0) :
    (a = none ∧ n = 0 ∧ c = 0) ∨ ∃ ad, a = some ad ∧ ∀ (j : Nat) (u : Value), (L.map (Value.int .i64))[j]? = some u → w.cell? (ad.add j) = some u := by
  cases a with
  | none => exact .inl ⟨rfl, ha rfl⟩
  | some ad =>
    refine .inr ⟨ad, rfl, fun j u hu => ?_⟩
    rw [List.getElem?_map] at hu
    obtain ⟨x, hx, rfl⟩ := Option.map_eq_some_iff.1 hu
    obtain ⟨g, o, h1, _, h3⟩ := hr j x hx
    cases h1
    have e : (⟨g, o, none⟩ : Addr).add j = ⟨g, o + j, none⟩ := by unfold Addr.add; split <;> simp_all
    rw [e]; exact h3
/-- all is kept but what lies from B0 to B1 -/
structure EffZ (B0 B1 : Nat) (w w' : World) : Prop where
  os : w'.os = w.os
  tape : w'.tape = w.tape
  output : w'.output = w.output
  size : w.heap.size ≤ w'.heap.size
  kept : ∀ k, k < w.heap.size → (k < B0 ∨ B1 ≤ k) → w'.heap[k]? = w.heap[k]?
theorem EffZ.refl (B0 B1 : Nat) (w : World) : EffZ B0 B1 w w := ⟨rfl, rfl, rfl, Nat.le_refl _, fun _ _ _ => rfl⟩
theorem EffZ.set {B0 B1 g i : Nat} {w w' : World} {v : Value} (h : EffZ B0 B1 w w') (h0 : B0 ≤ g) (h1 : g < B1) : EffZ B0 B1 w (w'.setCell ⟨g, i, none⟩ v) :=
  ⟨h.os, h.tape, h.output, by have := h.size; simp [World.setCell]; exact this, fun k hk hz => (Below.heap_setCell w' ⟨g, i, none⟩ v k (by show k ≠ g; omega)).trans (h.kept k hk hz)⟩
theorem EffZ.below {B0 B1 : Nat} {w w' : World} (h : EffZ B0 B1 w w') (hB : B0 ≤ w.heap.size) : Below B0 w w' := ⟨h.os, h.tape, h.output, h.size, fun k hk => h.kept k (Nat.lt_of_lt_of_le hk hB) (.inl hk)⟩
/-- what Types answers, in one form -/
def tyL (d : Bs) : List Nat := (typesS d).getD []
def tyZ (d : Bs) : Int := if (typesS d).isSome then 0 else 7
def TyP (w : World) (d : Bs) (e : Ending) (w' : World) : Prop := ∃ v, e = .returned (.tuple #[v, .int .i64 (tyZ d)]) ∧ w'.ownsRow w.heap.size 3 1 v (tyL d).length ((tyL d).map bitV) ∧ Below w.heap.size w w'
theorem ty_uni {w w' : World} {d : Bs} {e : Ending} (h : TypesPost w d e w') : TyP w d e w' := by
  obtain ⟨hB, ⟨v, l, hl, rfl, hO⟩ | ⟨hl, rfl⟩⟩ := h
  · refine ⟨v, ?_, ?_, hB⟩
    · unfold tyZ; rw [hl]; rfl
    · unfold tyL; rw [hl]; exact hO
  · refine ⟨.slice none 0 0, ?_, ?_, hB⟩
    · unfold tyZ; rw [hl]; rfl
    · unfold tyL; rw [hl]; exact World.ownsRow_nil _ _ _ _
theorem tyL_len (d : Bs) : (tyL d).length ≤ 8 * d.length := by
  unfold tyL
  cases h : typesS d with
  | none => simp
  | some l => exact typesS_len h
set_option maxRecDepth 100000 in
set_option maxHeartbeats 4000000 in
theorem walk (t : Int) (text set : ByteArray) (a : Option Addr) (n c : Nat) (L : List Int) (w : World) (h0 : -9223372036854775808 ≤ t) (h1 : t ≤ 9223372036854775807) (ht : text.size ≤ 1048576) (hs : set.size ≤ 1048576)
    (hn : n = L.length) (hr : RdI w a L) (ha : a = none → n = 0 ∧ c = 0) (hbig : n ≤ 1048576) (hw : ∀ x ∈ L, (Lit.int .i64 x).wf = true) (hT : Lib.Utf8Tabs 1 2 w) (hP : PowT w) :
    Calls Tryd.prog 3 #[.int .i64 t, .string text, .string set, .slice a n c] w fun e w' => e = .returned (.bool true) ∧ Below w.heap.size w w' := by
  have CD1 := Lib.hid (tname.dtname_any t h0 h1 w hP)
  have CR1 := Lib.hid (fun w => tname.rtname_any t w)
  obtain ⟨NM, hNM⟩ : ∃ NM : ByteArray, (⟨(tname.tnameS t).toArray⟩ : ByteArray) = NM := ⟨_, rfl⟩
  rw [hNM] at CD1 CR1
  have CD2 := Lib.hid (fun w hT hP => typeofD.typeof_any text w ht hT hP)
  have CR2 := Lib.hid (fun w => typeofR.rtypeof_any text w ht)
  obtain ⟨ty, hty⟩ : ∃ ty, typeofR.typeOfS text.data.toList = ty := ⟨_, rfl⟩
  rw [typeofP.typeof_same, hty] at CD2
  rw [hty] at CR2
  have CT1 := Lib.hid (fun w => (types_any set w hs).mono fun e w' h => ty_uni h)
  have CT2 := Lib.hid (fun w => (typesR.rtypes_any set w hs).mono fun e w' h => ty_uni h)
  have HT := Lib.hid hT; have HP := Lib.hid hP; have HRD := Lib.hid hr; have HN := Lib.hid hn; have HWF := Lib.hid hw; have HA := Lib.hid ha
  have hnn : (NM.toList != NM.toList) = false := by simp
  have htt : (ty != ty) = false := by simp
  clear hNM hty hT hP hr hn hw ha
  go_enter Tryd.func3, Tryd.ntmps3
  go_upto_region 3 with (first
    | (go_at_call 4; refine CD1.out.mono ?_; rintro e w1 ⟨rfl, hB1⟩)
    | (go_at_call 5; refine (CR1.out _).mono ?_; rintro e w2 ⟨rfl, hB2⟩; have hB02 := hB1.trans (hB2.mono hB1.size))
    | (go_at_call 6; refine (CD2.out _ (typeofD.utf_below HT.out hB02) (typeofD.pow_below HP.out hB02)).mono ?_; rintro e w3 ⟨rfl, hB3⟩)
    | (go_at_call 7; refine (CR2.out _).mono ?_; rintro e w4 ⟨rfl, hB4⟩))
  have HB4 : Hid (Below w.heap.size w w4) := Lib.hid ((hB02.trans (hB3.mono hB02.size)).trans (hB4.mono (hB02.trans (hB3.mono hB02.size)).size))
  clear hB1 hB2 hB02 hB3 hB4
  obtain ⟨l, hl⟩ : ∃ l, tyL set.data.toList = l := ⟨_, rfl⟩
  obtain ⟨z, hz⟩ : ∃ z, tyZ set.data.toList = z := ⟨_, rfl⟩
  obtain ⟨q, hq⟩ : ∃ q, l.length = q := ⟨_, rfl⟩
  have hqb : q ≤ 8388608 := by
    rw [← hq, ← hl]
    have := tyL_len set.data.toList
    rw [size_len] at this; omega
  have hzz : (z != z) = false := by simp
  have HL := Lib.hid hl; have HZ := Lib.hid hz; have HQ := Lib.hid hq
  clear hl hz hq
  go_wp2_with fail
  refine (CT1.out _).mono ?_
  rintro e w5 ⟨v5, rfl, hO5, hB5⟩
  rw [HL.out] at hO5
  rw [HZ.out]
  have HO5 := Lib.hid hO5; have HB5 := Lib.hid hB5
  clear hO5 hB5
  go_wp2_with fail
  refine (CT2.out _).mono ?_
  rintro e w6 ⟨v6, rfl, hO6, hB6⟩
  rw [HL.out] at hO6
  rw [HZ.out]
  obtain ⟨a5, c5, rfl, h51, h52, hr5⟩ := RdN.of_own (own_same HO5.out hB6)
  obtain ⟨a6, c6, rfl, h61, h62, hr6⟩ := RdN.of_own hO6
  have CS := Lib.hid (same_ints a5 a6 l.length c5 c6 (l.map fun x : Nat => (x : Int)) w6 (by rw [List.length_map]) (rdI_nat hr5) (rdI_nat hr6) (by rw [HQ.out]; omega))
  rw [HQ.out] at CS ⊢
  have HO6 := Lib.hid hO6; have HB6 := Lib.hid hB6
  clear hO6 hB6 hr5 hr6
  go_upto_region 7 with (go_at_call 10; refine CS.out.mono ?_; rintro e w7 ⟨rfl, hB7⟩)
  have HB47 : Hid (Below w4.heap.size w4 w7) := Lib.hid ((HB5.out.trans (HB6.out.mono HB5.out.size)).trans (hB7.mono (Nat.le_trans HB5.out.size HB6.out.size)))
  have HO57 : Hid (w7.ownsRow w4.heap.size 3 1 (.slice a5 q c5) q (l.map bitV)) := Lib.hid (by
    have h := own_same (own_same HO5.out HB6.out) hB7
    rw [HQ.out] at h; exact h)
  have HO67 : Hid (w7.ownsRow w5.heap.size 3 1 (.slice a6 q c6) q (l.map bitV)) := Lib.hid (by
    have h := own_same HO6.out hB7
    rw [HQ.out] at h; exact h)
  have HS5 : Hid (∀ k, (Value.slice a5 q c5).ownBlock = some k → k < w5.heap.size) := Lib.hid (fun k hk => (HO5.out.lt k (by rw [HQ.out]; exact hk)).2)
  have HZ45 : Hid (w4.heap.size ≤ w5.heap.size) := Lib.hid HB5.out.size
  clear hB7 CS h51 h52 h61 h62
  go_wp2_with fail
  go_loopg [49] (q + 1) (fun gas kv wr => ∃ k : Nat, kv = .int .i64 (k : Int) ∧ k ≤ q ∧ k + gas = q + 1 ∧ Hid (∃ ys, wr.ownsRow w4.heap.size 3 1 (.slice a5 q c5) q ys) ∧ Hid (EffZ w4.heap.size w5.heap.size w7 wr))
  case atStart => exact ⟨0, rfl, by omega, by omega, Lib.hid ⟨_, HO57.out⟩, Lib.hid (EffZ.refl _ _ _)⟩
  case round =>
    obtain ⟨k, rfl, hk, hkg, HY, HE⟩ := hrel
    have HKG := Lib.hid hkg
    clear hkg
    by_cases hlt : k < q
    · obtain ⟨ys, hy⟩ := HY.out
      obtain ⟨g, cap, hv, hg0, hg1, _, _, hcell, hfz⟩ := own_addr hy (by omega)
      simp only [Value.slice.injEq] at hv
      have ha5 := hv.1
      clear hv
      subst ha5
      obtain ⟨u, hu⟩ : ∃ u, ys[k]? = some u := ⟨_, List.getElem?_eq_getElem (by rw [hy.1]; omega)⟩
      have c0 := hcell k u hu
      have f0 := hfz k
      have HY2 := Lib.hid (ownsRow_set hy k hlt (.int .i64 (-1)))
      have HE2 := Lib.hid (HE.out.set (i := k) (v := .int .i64 (-1)) hg0 (HS5.out g rfl))
      have zk : (0 : Int) ≤ (k : Int) := by omega
      have zl : (k : Int) < (q : Int) := by omega
      clear hy hcell hfz hu
      go_wp2_with fail
      have hkg := HKG.out
      go_roundg (gk - 1)
      case rel => exact ⟨k + 1, by go_num, by omega, by omega, Lib.hid ⟨_, HY2.out⟩, HE2⟩
      case measure => omega
    · have HB9 : Hid (Below w.heap.size w wr) := Lib.hid ((HB4.out.trans (HB47.out.mono HB4.out.size)).trans ((HE.out.below (Nat.le_trans HB47.out.size (Nat.le_refl _))).mono HB4.out.size))
      have HO69 : Hid (wr.ownsRow w5.heap.size 3 1 (.slice a6 q c6) q (l.map bitV)) := Lib.hid (own_keep HO67.out (fun k hk => HE.out.kept k (HO67.out.lt k hk).2 (.inr (HO67.out.lt k hk).1)))
      clear HY HE HO57 HO67 HB47 HS5 HO5 HO6 HB5 HB6
      go_upto_region 12 with fail
      go_wp2_with fail
      refine (CT1.out _).mono ?_
      rintro e w10 ⟨v10, rfl, hO10, hB10⟩
      rw [HL.out] at hO10
      rw [HZ.out]
      have hO10' : w10.ownsRow wr.heap.size 3 1 v10 l.length (l.map bitV) := hO10
      obtain ⟨a10, c10, rfl, h101, h102, hr10⟩ := RdN.of_own hO10'
      have h6' : w10.ownsRow w5.heap.size 3 1 (.slice a6 q c6) l.length (l.map bitV) := by rw [HQ.out]; exact own_same HO69.out hB10
      obtain ⟨a11, c11, hv11, h111, h112, hr11⟩ := RdN.of_own h6'
      simp only [Value.slice.injEq] at hv11
      have ha11 := hv11.1
      clear hv11
      subst ha11
      have CS2 := Lib.hid (same_ints a10 a6 l.length c10 c6 (l.map fun x : Nat => (x : Int)) w10 (by rw [List.length_map]) (rdI_nat hr10) (rdI_nat hr11) (by rw [HQ.out]; omega))
      rw [HQ.out] at CS2 ⊢
      have HB10 : Hid (Below w.heap.size w w10) := Lib.hid (HB9.out.trans (hB10.mono HB9.out.size))
      clear hO10 hO10' h6' hr10 hr11 hB10 h101 h102 h111 h112
      go_upto_region 15 with (go_at_call 10; refine CS2.out.mono ?_; rintro e w11 ⟨rfl, hB11⟩)
      have HB11 : Hid (Below w.heap.size w w11) := Lib.hid (HB10.out.trans (hB11.mono HB10.out.size))
      clear hB11 CS2
      have hsrc := src_of HN.out (HRD.out.below HB11.out rfl) HA.out
      have HSRC := Lib.hid hsrc
      obtain ⟨i0, hi, hz0, hz1, hz2⟩ := info_parts infoInt
      have hLn : (L.map (Value.int .i64)).length = n * 1 := by rw [List.length_map, HN.out]; omega
      go_wp2_with (at_builtin; refine wpList_append_src rfl (.const (.slice none 0 0)) (.tmp 65) 22 rfl w11.heap.size 3 i0 _ 1 8 Tryd.underlying22 hi hz0 hz1 hz2 rfl (by decide) (.slice none 0 0) 0 [] rfl (World.ownsRow_nil _ _ _ _) a n c (L.map (Value.int .i64)) rfl hLn HSRC.out ?a1 ?a2 ?a3 (Nat.le_refl _) ?_)
      case a1 => intro u hu; obtain ⟨x, _, rfl⟩ := List.mem_map.1 hu; rfl
      case a2 => unfold maxLen; omega
      case a3 => omega
      intro v14 w12 hO14 hg14
      have hB12 : Below w11.heap.size w11 w12 := (Below.refl _ _).grown hg14 (Nat.le_refl _) (fun k hk => by cases hk)
      have HB12 : Hid (Below w.heap.size w w12) := Lib.hid (HB11.out.trans (hB12.mono HB11.out.size))
      have HO14 := Lib.hid hO14
      have HSRC2 := Lib.hid (src_of HN.out (HRD.out.below HB12.out rfl) HA.out)
      clear hO14 hg14 hB12 hsrc HSRC
      go_upto_region 16 with fail
      go_wp2_with (first
        | (at_builtin; refine wpList_append_src rfl (.const (.slice none 0 0)) (.tmp 67) 22 rfl w12.heap.size 3 i0 _ 1 8 Tryd.underlying22 hi hz0 hz1 hz2 rfl (by decide) (.slice none 0 0) 0 [] rfl (World.ownsRow_nil _ _ _ _) a n c (L.map (Value.int .i64)) rfl hLn HSRC2.out ?b1 ?b2 ?b3 (Nat.le_refl _) ?_))
      case b1 => intro u hu; obtain ⟨x, _, rfl⟩ := List.mem_map.1 hu; rfl
      case b2 => unfold maxLen; omega
      case b3 => omega
      intro v15 w13 hO15 hg15
      have hB13 : Below w12.heap.size w12 w13 := (Below.refl _ _).grown hg15 (Nat.le_refl _) (fun k hk => by cases hk)
      have HZ13 : Hid (w12.heap.size ≤ w13.heap.size) := Lib.hid hB13.size
      go_wp2_with (at_builtin; refine wpList_append_lies _ rfl (.tmp 68) (.tmp 69) 22 rfl w12.heap.size 3 i0 _ 1 8 Tryd.underlying22 hi hz0 hz1 hz2 rfl (by decide) v15 n (L.map (Value.int .i64)) rfl (hO15.alloc _) ⟨w13.heap.size, 0, none⟩ 2 2 [.int .i64 (-7), .int .i64 (-8)] rfl rfl ?e1 ?e2 (by decide) ?e3 ?e4 ?e5 _ rfl ?_)
      try (case e1 => exact World.news_of_block (heap_alloc_new _ _))
      case e2 => first | exact ⟨rfl, rfl⟩ | (intro u hu; simp only [List.mem_cons, List.not_mem_nil, or_false] at hu; rcases hu with rfl | rfl <;> rfl)
      case e3 => unfold maxLen; omega
      case e4 => omega
      case e5 => first | (have := HZ13.out; omega) | (have := HZ13.out; simp; omega)
      intro g cp w14 hO16 hg16 hat16 hlt16
      have hB14 : Below w12.heap.size w12 w14 := (hB13.alloc HZ13.out _).grown hg16 (by have := HZ13.out; simp; omega) (fun k hk => (hO15.lt k hk).1)
      have hO14 := own_same HO14.out hB14
      have hn2 : n + 2 = (L ++ [-7, -8] : List Int).length := by rw [List.length_append, ← HN.out]; rfl
      obtain ⟨af, cf, hvf, hf1, hf2, hrf⟩ := RdI.of_own (ls := L ++ [-7, -8]) hn2 (by rw [List.map_append]; exact hO16)
      simp only [Value.slice.injEq] at hvf
      have haf := hvf.1
      have hcf : cp = cf := by first | exact hvf.2.2 | exact hvf.2
      clear hvf
      subst haf; subst hcf
      have hrL : RdI w14 (some ⟨g, 0, none⟩) L := fun j x hx => hrf j x (by rw [List.getElem?_append_left (List.getElem?_eq_some_iff.1 hx).1]; exact hx)
      obtain ⟨g', o', hg', _, hc7⟩ := hrf n (-7) (by rw [List.getElem?_append_right (by rw [HN.out]; exact Nat.le_refl _), HN.out]; simp)
      obtain ⟨g'', o'', hg'', _, hc8⟩ := hrf (n + 1) (-8) (by rw [List.getElem?_append_right (by rw [HN.out]; omega), HN.out]; simp)
      cases hg'; cases hg''
      obtain ⟨ao, co, rfl, ho1, ho2, hro⟩ := RdI.of_own HN.out hO14
      obtain ⟨S, hS⟩ : ∃ S : ByteArray, (⟨(setL (sortL L)).toArray⟩ : ByteArray) = S := ⟨_, rfl⟩
      have CX1 := Lib.hid (set_any (some ⟨g, 0, none⟩) n cp L w14 HN.out hrL (fun h => by cases h) (by omega) HWF.out)
      have CX2 := Lib.hid (fun w15 hB => rset.rset_any ao n co L w15 HN.out (hro.below (w' := w15) hB rfl) (by omega))
      have CX3 := Lib.hid (fun w16 hB => same_ints (some ⟨g, 0, none⟩) ao n cp co L w16 HN.out (hrL.below (w' := w16) hB rfl) (hro.below (w' := w16) hB rfl) (by omega))
      rw [hS] at CX1 CX2
      have hss : (S.toList == S.toList) = true := by simp
      have HB14 : Hid (Below w.heap.size w w14) := Lib.hid (HB12.out.trans (hB14.mono HB12.out.size))
      have HC7 := Lib.hid hc7; have HC8 := Lib.hid hc8
      have hnc : n ≤ cp := by omega
      have hnci : (n : Int) ≤ (cp : Int) := by omega
      have hn0 : (0 : Int) ≤ (n : Int) := by omega
      clear hS hO16 hg16 hat16 hB13 hO15 hO14 hrf hrL hro hB14 hc7 hc8 hn2 hf1 hf2 ho1 ho2
      go_wp2_with (first
        | (go_at_call 11; refine CX1.out.mono ?_; rintro e w15 ⟨rfl, hB15⟩)
        | (go_at_call 12; refine (CX2.out _ hB15).mono ?_; rintro e w16 ⟨rfl, hB16⟩; have hB146 := hB15.trans (hB16.mono hB15.size))
        | (go_at_call 10; refine (CX3.out _ hB146).mono ?_; rintro e w17 ⟨rfl, hB17⟩; have hB147 := hB146.trans (hB17.mono hB146.size); have d7 := (hB147.cell (p := ⟨g, 0 + n, none⟩) hlt16).trans HC7.out; have d8 := (hB147.cell (p := ⟨g, 0 + (n + 1), none⟩) hlt16).trans HC8.out; rw [Nat.zero_add] at d7 d8))
      go_ret
      exact ⟨rfl, HB14.out.trans (hB147.mono HB14.out.size)⟩
end Go.Proofs.YtjejmgdpjfdhjaaDoor.dtypes
