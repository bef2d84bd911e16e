/- The law NameOrder: its walk. -/
import Derived.Test.YtjflojefpaffeaaOrderLaw
namespace Go.Proofs.Ytjflojefpaffeaa.nord
open Go.RowKit Go.Proofs.Ytjflojefpaffeaa.kit Go.Proofs.Ytjflojefpaffeaa.check Go.Proofs.Ytjflojefpaffeaa.nspec Go.Proofs.Ytjflojefpaffeaa.rsplit Go.Proofs.Ytjflojefpaffeaa.low Go.Proofs.Ytjflojefpaffeaa.refA Go.Proofs.Ytjflojefpaffeaa.refB Go.Proofs.Ytjflojefpaffeaa.nameA Go.Proofs.Ytjflojefpaffeaa.nameB Go.Proofs.Ytjflojefpaffeaa.nameC Go.Proofs.Ytjflojefpaffeaa.ncmp Go.Proofs.Ytjflojefpaffeaa.rcmp Go.Proofs.Ytjflojefpaffeaa.ordl

theorem facts {a b c : Bs} {la lb lc : List Bs} {x y z : Int} {e : Bool} (ha : IsN a la) (hb : IsN b lb) (hc : IsN c lc) (hx : cmpS a b = x) (hy : cmpS b c = y) (hz : cmpS a c = z) (he : equalS a b = e) :
    (x = -1 ∧ y = -1 ∧ z = -1 ∧ e = false) ∨ (x = -1 ∧ y = 0 ∧ z = -1 ∧ e = false) ∨ (x = -1 ∧ y = 1 ∧ z = -1 ∧ e = false) ∨ (x = -1 ∧ y = 1 ∧ z = 0 ∧ e = false) ∨ (x = -1 ∧ y = 1 ∧ z = 1 ∧ e = false) ∨ (x = 0 ∧ y = -1 ∧ z = -1 ∧ e = true) ∨ (x = 0 ∧ y = 0 ∧ z = 0 ∧ e = true) ∨ (x = 0 ∧ y = 1 ∧ z = 1 ∧ e = true) ∨ (x = 1 ∧ y = -1 ∧ z = -1 ∧ e = false) ∨ (x = 1 ∧ y = -1 ∧ z = 0 ∧ e = false) ∨ (x = 1 ∧ y = -1 ∧ z = 1 ∧ e = false) ∨ (x = 1 ∧ y = 0 ∧ z = 1 ∧ e = false) ∨ (x = 1 ∧ y = 1 ∧ z = 1 ∧ e = false) := by
  rw [cmpS_yes ha hb] at hx
  rw [cmpS_yes hb hc] at hy
  rw [cmpS_yes ha hc] at hz
  have he2 : e = decide (x = 0) := by
    rw [← he, ← hx]
    unfold equalS
    rw [split_iff.2 ha, split_iff.2 hb]
    simp only [cr_eq0, List.reverse_inj]
  generalize (la.map lowL).reverse = A at *
  generalize (lb.map lowL).reverse = B at *
  generalize (lc.map lowL).reverse = C at *
  have gx := cr_ge A B
  have gy := cr_ge B C
  have gz := cr_ge A C
  have t1 := cr_trans A B C
  have n1 := cr_neg A B
  have n2 := cr_neg B C
  have n3 := cr_neg A C
  have t2 := cr_trans C B A
  have q1 : cmpR A B = 0 → cmpR A C = cmpR B C := fun h => by rw [(cr_eq0 A B).1 h]
  have q2 : cmpR B C = 0 → cmpR A C = cmpR A B := fun h => by rw [(cr_eq0 B C).1 h]
  rw [hx] at gx t1 n1 q1 q2
  rw [hy] at gy t1 n2 q1 q2
  rw [hz] at gz t1 n3 q1 q2
  rw [n1, n2, n3] at t2
  have cx : x = -1 ∨ x = 0 ∨ x = 1 := by omega
  have cy : y = -1 ∨ y = 0 ∨ y = 1 := by omega
  have cz : z = -1 ∨ z = 0 ∨ z = 1 := by omega
  clear hx hy hz he n1 n2 n3 gx gy gz
  rcases cx with rfl | rfl | rfl <;> rcases cy with rfl | rfl | rfl <;> rcases cz with rfl | rfl | rfl <;> simp at t1 t2 q1 q2 he2 <;> simp [he2]
theorem back {a b : Bs} {la lb : List Bs} {x : Int} (ha : IsN a la) (hb : IsN b lb) (hx : cmpS a b = x) : cmpS b a = -x := by
  rw [cmpS_yes hb ha, cr_neg, ← cmpS_yes ha hb, hx]
theorem first {a b : Bs} {la lb : List Bs} {x : Int} (ha : IsN a la) (hb : IsN b lb) (hx : cmpS a b = x) (h : withinS b a = true) : x ≤ 0 := by
  rw [← hx, cmpS_yes ha hb]
  exact cr_pre _ _ ((withinS_iff hb ha).1 h)
theorem stands {a b c : Bs} {la lb lc : List Bs} {x y : Int} (ha : IsN a la) (hb : IsN b lb) (hc : IsN c lc) (hx : cmpS a b = x) (hy : cmpS b c = y) (h1 : x ≤ 0) (h2 : y ≤ 0) (h : withinS c a = true) : withinS b a = true := by
  rw [← hx, cmpS_yes ha hb] at h1
  rw [← hy, cmpS_yes hb hc] at h2
  exact (withinS_iff hb ha).2 (cr_mid _ _ _ h1 h2 ((withinS_iff hc ha).1 h))
theorem k1 : cmpS (⟨#[1, 66, 1, 97, 0]⟩ : ByteArray).data.toList (⟨#[1, 97, 0]⟩ : ByteArray).data.toList = 1 := by decide +kernel
theorem k2 : cmpS (⟨#[1, 97, 0]⟩ : ByteArray).data.toList (⟨#[1, 66, 0]⟩ : ByteArray).data.toList = -1 := by decide +kernel

set_option maxRecDepth 100000 in
set_option maxHeartbeats 8000000 in
theorem walk (a b c : ByteArray) (w : World) (ha : a.size ≤ 1048576) (hb : b.size ≤ 1048576) (hc : c.size ≤ 1048576) :
    Calls Try.prog 12 #[.string a, .string b, .string c] w fun e w' => e = .returned (.bool true) ∧ Below w.heap.size w w' := by
  have K1 := Lib.hid k1
  have K2 := Lib.hid k2
  have Sa := ha
  have Sb := hb
  have Sc := hc
  go_enter Try.func12, Try.ntmps12
  go_wp2_with fail
  refine (ncmp_any ⟨#[1, 66, 1, 97, 0]⟩ ⟨#[1, 97, 0]⟩ _ (by decide) (by decide)).mono ?_
  rintro e v1 ⟨rfl, hA1⟩
  rw [K1.out]
  go_wp2_with fail
  refine (ncmp_any ⟨#[1, 97, 0]⟩ ⟨#[1, 66, 0]⟩ _ (by decide) (by decide)).mono ?_
  rintro e v2 ⟨rfl, hA2⟩
  rw [K2.out]
  have hA := hA1.trans (hA2.mono hA1.size)
  clear hA1 hA2
  go_wp2_with fail
  refine (check_any a _ (by omega)).mono ?_
  rintro e w1 ⟨rfl, hB1⟩
  have hC1 := hA.trans (hB1.mono hA.size)
  rcases isB_or a with ⟨la, ha⟩ | ha
  · have Ha := Lib.hid ha
    rw [chk_yes ha]
    clear ha
    go_wp2_with fail
    refine (check_any b _ (by omega)).mono ?_
    rintro e w2 ⟨rfl, hB2⟩
    have hC2 := hC1.trans (hB2.mono hC1.size)
    rcases isB_or b with ⟨lb, hb⟩ | hb
    · have Hb := Lib.hid hb
      rw [chk_yes hb]
      clear hb
      go_wp2_with fail
      refine (check_any c _ (by omega)).mono ?_
      rintro e w3 ⟨rfl, hB3⟩
      have hC3 := hC2.trans (hB3.mono hC2.size)
      rcases isB_or c with ⟨lc, hc⟩ | hc
      · have Hc := Lib.hid hc
        rw [chk_yes hc]
        clear hc
        obtain ⟨x, HX⟩ : ∃ x, Hid (cmpS a.data.toList b.data.toList = x) := ⟨_, Lib.hid rfl⟩
        obtain ⟨y, HY⟩ : ∃ y, Hid (cmpS b.data.toList c.data.toList = y) := ⟨_, Lib.hid rfl⟩
        obtain ⟨z, HZ⟩ : ∃ z, Hid (cmpS a.data.toList c.data.toList = z) := ⟨_, Lib.hid rfl⟩
        obtain ⟨eq, HEQ⟩ : ∃ eq, Hid (equalS a.data.toList b.data.toList = eq) := ⟨_, Lib.hid rfl⟩
        obtain ⟨wba, HI⟩ : ∃ i, Hid (withinS b.data.toList a.data.toList = i) := ⟨_, Lib.hid rfl⟩
        obtain ⟨wca, HJ⟩ : ∃ i, Hid (withinS c.data.toList a.data.toList = i) := ⟨_, Lib.hid rfl⟩
        have HF := Lib.hid (facts Ha.out Hb.out Hc.out HX.out HY.out HZ.out HEQ.out)
        have HBA := Lib.hid (back Ha.out Hb.out HX.out)
        have H3 := Lib.hid (fun h : wba = true => first Ha.out Hb.out HX.out (HI.out.trans h))
        have H4 := Lib.hid (fun (h1 : x ≤ 0) (h2 : y ≤ 0) (h : wca = true) => HI.out.symm.trans (stands Ha.out Hb.out Hc.out HX.out HY.out h1 h2 (HJ.out.trans h)))
        have HS1 := Lib.hid (within_same b.data.toList a.data.toList)
        have HS2 := Lib.hid (within_same c.data.toList a.data.toList)
        go_wp2_with fail
        refine (ncmp_any a b _ (by omega) (by omega)).mono ?_
        rintro e w4 ⟨rfl, hB4⟩
        rw [HX.out]
        have hC4 := hC3.trans (hB4.mono hC3.size)
        clear hB4 hC3
        go_wp2_with fail
        refine (ncmp_any b c _ (by omega) (by omega)).mono ?_
        rintro e w5 ⟨rfl, hB5⟩
        rw [HY.out]
        have hC5 := hC4.trans (hB5.mono hC4.size)
        clear hB5 hC4
        go_wp2_with fail
        refine (ncmp_any a c _ (by omega) (by omega)).mono ?_
        rintro e w6 ⟨rfl, hB6⟩
        rw [HZ.out]
        have hC6 := hC5.trans (hB6.mono hC5.size)
        clear hB6 hC5
        rcases HF.out with ⟨rfl, rfl, rfl, rfl⟩ | ⟨rfl, rfl, rfl, rfl⟩ | ⟨rfl, rfl, rfl, rfl⟩ | ⟨rfl, rfl, rfl, rfl⟩ | ⟨rfl, rfl, rfl, rfl⟩ | ⟨rfl, rfl, rfl, rfl⟩ | ⟨rfl, rfl, rfl, rfl⟩ | ⟨rfl, rfl, rfl, rfl⟩ | ⟨rfl, rfl, rfl, rfl⟩ | ⟨rfl, rfl, rfl, rfl⟩ | ⟨rfl, rfl, rfl, rfl⟩ | ⟨rfl, rfl, rfl, rfl⟩ | ⟨rfl, rfl, rfl, rfl⟩
        · go_wp2_with fail
          refine (ncmp_any b a _ (by omega) (by omega)).mono ?_
          rintro e w7 ⟨rfl, hB7⟩
          rw [HBA.out]
          have hC7 := hC6.trans (hB7.mono hC6.size)
          clear hB7 hC6
          go_wp2_with fail
          refine (nequal_any a b _ (by omega) (by omega)).mono ?_
          rintro e w8 ⟨rfl, hB8⟩
          rw [HEQ.out]
          have hC8 := hC7.trans (hB8.mono hC7.size)
          clear hB8 hC7
          go_wp2_with fail
          refine (nwithin_any b a _ (by omega) (by omega)).mono ?_
          rintro e w9 ⟨rfl, hB9⟩
          rw [HS1.out, HI.out]
          have hC9 := hC8.trans (hB9.mono hC8.size)
          clear hB9 hC8
          cases wba
          · go_wp2_with fail
            refine (nwithin_any c a _ (by omega) (by omega)).mono ?_
            rintro e w10 ⟨rfl, hB10⟩
            rw [HS2.out, HJ.out]
            have hC10 := hC9.trans (hB10.mono hC9.size)
            clear hB10 hC9
            cases wca
            · go_wp2
              go_ret
              exact ⟨rfl, hC10⟩
            · exact absurd (H4.out (by omega) (by omega) rfl) (by simp)
          · go_wp2_with fail
            refine (nwithin_any c a _ (by omega) (by omega)).mono ?_
            rintro e w11 ⟨rfl, hB11⟩
            rw [HS2.out, HJ.out]
            have hC11 := hC9.trans (hB11.mono hC9.size)
            clear hB11 hC9
            cases wca
            · go_wp2
              go_ret
              exact ⟨rfl, hC11⟩
            · go_wp2_with fail
              refine (nwithin_any b a _ (by omega) (by omega)).mono ?_
              rintro e w12 ⟨rfl, hB12⟩
              rw [HS1.out, HI.out]
              have hC12 := hC11.trans (hB12.mono hC11.size)
              clear hB12 hC11
              go_wp2
              go_ret
              exact ⟨rfl, hC12⟩
        · go_wp2_with fail
          refine (ncmp_any b a _ (by omega) (by omega)).mono ?_
          rintro e w13 ⟨rfl, hB13⟩
          rw [HBA.out]
          have hC13 := hC6.trans (hB13.mono hC6.size)
          clear hB13 hC6
          go_wp2_with fail
          refine (nequal_any a b _ (by omega) (by omega)).mono ?_
          rintro e w14 ⟨rfl, hB14⟩
          rw [HEQ.out]
          have hC14 := hC13.trans (hB14.mono hC13.size)
          clear hB14 hC13
          go_wp2_with fail
          refine (nwithin_any b a _ (by omega) (by omega)).mono ?_
          rintro e w15 ⟨rfl, hB15⟩
          rw [HS1.out, HI.out]
          have hC15 := hC14.trans (hB15.mono hC14.size)
          clear hB15 hC14
          cases wba
          · go_wp2_with fail
            refine (nwithin_any c a _ (by omega) (by omega)).mono ?_
            rintro e w16 ⟨rfl, hB16⟩
            rw [HS2.out, HJ.out]
            have hC16 := hC15.trans (hB16.mono hC15.size)
            clear hB16 hC15
            cases wca
            · go_wp2
              go_ret
              exact ⟨rfl, hC16⟩
            · exact absurd (H4.out (by omega) (by omega) rfl) (by simp)
          · go_wp2_with fail
            refine (nwithin_any c a _ (by omega) (by omega)).mono ?_
            rintro e w17 ⟨rfl, hB17⟩
            rw [HS2.out, HJ.out]
            have hC17 := hC15.trans (hB17.mono hC15.size)
            clear hB17 hC15
            cases wca
            · go_wp2
              go_ret
              exact ⟨rfl, hC17⟩
            · go_wp2_with fail
              refine (nwithin_any b a _ (by omega) (by omega)).mono ?_
              rintro e w18 ⟨rfl, hB18⟩
              rw [HS1.out, HI.out]
              have hC18 := hC17.trans (hB18.mono hC17.size)
              clear hB18 hC17
              go_wp2
              go_ret
              exact ⟨rfl, hC18⟩
        · go_wp2_with fail
          refine (ncmp_any b a _ (by omega) (by omega)).mono ?_
          rintro e w19 ⟨rfl, hB19⟩
          rw [HBA.out]
          have hC19 := hC6.trans (hB19.mono hC6.size)
          clear hB19 hC6
          go_wp2_with fail
          refine (nequal_any a b _ (by omega) (by omega)).mono ?_
          rintro e w20 ⟨rfl, hB20⟩
          rw [HEQ.out]
          have hC20 := hC19.trans (hB20.mono hC19.size)
          clear hB20 hC19
          go_wp2_with fail
          refine (nwithin_any b a _ (by omega) (by omega)).mono ?_
          rintro e w21 ⟨rfl, hB21⟩
          rw [HS1.out, HI.out]
          have hC21 := hC20.trans (hB21.mono hC20.size)
          clear hB21 hC20
          cases wba
          · go_wp2
            go_ret
            exact ⟨rfl, hC21⟩
          · go_wp2
            go_ret
            exact ⟨rfl, hC21⟩
        · go_wp2_with fail
          refine (ncmp_any b a _ (by omega) (by omega)).mono ?_
          rintro e w22 ⟨rfl, hB22⟩
          rw [HBA.out]
          have hC22 := hC6.trans (hB22.mono hC6.size)
          clear hB22 hC6
          go_wp2_with fail
          refine (nequal_any a b _ (by omega) (by omega)).mono ?_
          rintro e w23 ⟨rfl, hB23⟩
          rw [HEQ.out]
          have hC23 := hC22.trans (hB23.mono hC22.size)
          clear hB23 hC22
          go_wp2_with fail
          refine (nwithin_any b a _ (by omega) (by omega)).mono ?_
          rintro e w24 ⟨rfl, hB24⟩
          rw [HS1.out, HI.out]
          have hC24 := hC23.trans (hB24.mono hC23.size)
          clear hB24 hC23
          cases wba
          · go_wp2
            go_ret
            exact ⟨rfl, hC24⟩
          · go_wp2
            go_ret
            exact ⟨rfl, hC24⟩
        · go_wp2_with fail
          refine (ncmp_any b a _ (by omega) (by omega)).mono ?_
          rintro e w25 ⟨rfl, hB25⟩
          rw [HBA.out]
          have hC25 := hC6.trans (hB25.mono hC6.size)
          clear hB25 hC6
          go_wp2_with fail
          refine (nequal_any a b _ (by omega) (by omega)).mono ?_
          rintro e w26 ⟨rfl, hB26⟩
          rw [HEQ.out]
          have hC26 := hC25.trans (hB26.mono hC25.size)
          clear hB26 hC25
          go_wp2_with fail
          refine (nwithin_any b a _ (by omega) (by omega)).mono ?_
          rintro e w27 ⟨rfl, hB27⟩
          rw [HS1.out, HI.out]
          have hC27 := hC26.trans (hB27.mono hC26.size)
          clear hB27 hC26
          cases wba
          · go_wp2
            go_ret
            exact ⟨rfl, hC27⟩
          · go_wp2
            go_ret
            exact ⟨rfl, hC27⟩
        · go_wp2_with fail
          refine (ncmp_any b a _ (by omega) (by omega)).mono ?_
          rintro e w28 ⟨rfl, hB28⟩
          rw [HBA.out]
          have hC28 := hC6.trans (hB28.mono hC6.size)
          clear hB28 hC6
          go_wp2_with fail
          refine (nequal_any a b _ (by omega) (by omega)).mono ?_
          rintro e w29 ⟨rfl, hB29⟩
          rw [HEQ.out]
          have hC29 := hC28.trans (hB29.mono hC28.size)
          clear hB29 hC28
          go_wp2_with fail
          refine (nwithin_any b a _ (by omega) (by omega)).mono ?_
          rintro e w30 ⟨rfl, hB30⟩
          rw [HS1.out, HI.out]
          have hC30 := hC29.trans (hB30.mono hC29.size)
          clear hB30 hC29
          cases wba
          · go_wp2_with fail
            refine (nwithin_any c a _ (by omega) (by omega)).mono ?_
            rintro e w31 ⟨rfl, hB31⟩
            rw [HS2.out, HJ.out]
            have hC31 := hC30.trans (hB31.mono hC30.size)
            clear hB31 hC30
            cases wca
            · go_wp2
              go_ret
              exact ⟨rfl, hC31⟩
            · exact absurd (H4.out (by omega) (by omega) rfl) (by simp)
          · go_wp2_with fail
            refine (nwithin_any c a _ (by omega) (by omega)).mono ?_
            rintro e w32 ⟨rfl, hB32⟩
            rw [HS2.out, HJ.out]
            have hC32 := hC30.trans (hB32.mono hC30.size)
            clear hB32 hC30
            cases wca
            · go_wp2
              go_ret
              exact ⟨rfl, hC32⟩
            · go_wp2_with fail
              refine (nwithin_any b a _ (by omega) (by omega)).mono ?_
              rintro e w33 ⟨rfl, hB33⟩
              rw [HS1.out, HI.out]
              have hC33 := hC32.trans (hB33.mono hC32.size)
              clear hB33 hC32
              go_wp2
              go_ret
              exact ⟨rfl, hC33⟩
        · go_wp2_with fail
          refine (ncmp_any b a _ (by omega) (by omega)).mono ?_
          rintro e w34 ⟨rfl, hB34⟩
          rw [HBA.out]
          have hC34 := hC6.trans (hB34.mono hC6.size)
          clear hB34 hC6
          go_wp2_with fail
          refine (nequal_any a b _ (by omega) (by omega)).mono ?_
          rintro e w35 ⟨rfl, hB35⟩
          rw [HEQ.out]
          have hC35 := hC34.trans (hB35.mono hC34.size)
          clear hB35 hC34
          go_wp2_with fail
          refine (nwithin_any b a _ (by omega) (by omega)).mono ?_
          rintro e w36 ⟨rfl, hB36⟩
          rw [HS1.out, HI.out]
          have hC36 := hC35.trans (hB36.mono hC35.size)
          clear hB36 hC35
          cases wba
          · go_wp2_with fail
            refine (nwithin_any c a _ (by omega) (by omega)).mono ?_
            rintro e w37 ⟨rfl, hB37⟩
            rw [HS2.out, HJ.out]
            have hC37 := hC36.trans (hB37.mono hC36.size)
            clear hB37 hC36
            cases wca
            · go_wp2
              go_ret
              exact ⟨rfl, hC37⟩
            · exact absurd (H4.out (by omega) (by omega) rfl) (by simp)
          · go_wp2_with fail
            refine (nwithin_any c a _ (by omega) (by omega)).mono ?_
            rintro e w38 ⟨rfl, hB38⟩
            rw [HS2.out, HJ.out]
            have hC38 := hC36.trans (hB38.mono hC36.size)
            clear hB38 hC36
            cases wca
            · go_wp2
              go_ret
              exact ⟨rfl, hC38⟩
            · go_wp2_with fail
              refine (nwithin_any b a _ (by omega) (by omega)).mono ?_
              rintro e w39 ⟨rfl, hB39⟩
              rw [HS1.out, HI.out]
              have hC39 := hC38.trans (hB39.mono hC38.size)
              clear hB39 hC38
              go_wp2
              go_ret
              exact ⟨rfl, hC39⟩
        · go_wp2_with fail
          refine (ncmp_any b a _ (by omega) (by omega)).mono ?_
          rintro e w40 ⟨rfl, hB40⟩
          rw [HBA.out]
          have hC40 := hC6.trans (hB40.mono hC6.size)
          clear hB40 hC6
          go_wp2_with fail
          refine (nequal_any a b _ (by omega) (by omega)).mono ?_
          rintro e w41 ⟨rfl, hB41⟩
          rw [HEQ.out]
          have hC41 := hC40.trans (hB41.mono hC40.size)
          clear hB41 hC40
          go_wp2_with fail
          refine (nwithin_any b a _ (by omega) (by omega)).mono ?_
          rintro e w42 ⟨rfl, hB42⟩
          rw [HS1.out, HI.out]
          have hC42 := hC41.trans (hB42.mono hC41.size)
          clear hB42 hC41
          cases wba
          · go_wp2
            go_ret
            exact ⟨rfl, hC42⟩
          · go_wp2
            go_ret
            exact ⟨rfl, hC42⟩
        · go_wp2_with fail
          refine (ncmp_any b a _ (by omega) (by omega)).mono ?_
          rintro e w43 ⟨rfl, hB43⟩
          rw [HBA.out]
          have hC43 := hC6.trans (hB43.mono hC6.size)
          clear hB43 hC6
          go_wp2_with fail
          refine (nequal_any a b _ (by omega) (by omega)).mono ?_
          rintro e w44 ⟨rfl, hB44⟩
          rw [HEQ.out]
          have hC44 := hC43.trans (hB44.mono hC43.size)
          clear hB44 hC43
          go_wp2_with fail
          refine (nwithin_any b a _ (by omega) (by omega)).mono ?_
          rintro e w45 ⟨rfl, hB45⟩
          rw [HS1.out, HI.out]
          have hC45 := hC44.trans (hB45.mono hC44.size)
          clear hB45 hC44
          cases wba
          · go_wp2
            go_ret
            exact ⟨rfl, hC45⟩
          · exact absurd (H3.out rfl) (by omega)
        · go_wp2_with fail
          refine (ncmp_any b a _ (by omega) (by omega)).mono ?_
          rintro e w46 ⟨rfl, hB46⟩
          rw [HBA.out]
          have hC46 := hC6.trans (hB46.mono hC6.size)
          clear hB46 hC6
          go_wp2_with fail
          refine (nequal_any a b _ (by omega) (by omega)).mono ?_
          rintro e w47 ⟨rfl, hB47⟩
          rw [HEQ.out]
          have hC47 := hC46.trans (hB47.mono hC46.size)
          clear hB47 hC46
          go_wp2_with fail
          refine (nwithin_any b a _ (by omega) (by omega)).mono ?_
          rintro e w48 ⟨rfl, hB48⟩
          rw [HS1.out, HI.out]
          have hC48 := hC47.trans (hB48.mono hC47.size)
          clear hB48 hC47
          cases wba
          · go_wp2
            go_ret
            exact ⟨rfl, hC48⟩
          · exact absurd (H3.out rfl) (by omega)
        · go_wp2_with fail
          refine (ncmp_any b a _ (by omega) (by omega)).mono ?_
          rintro e w49 ⟨rfl, hB49⟩
          rw [HBA.out]
          have hC49 := hC6.trans (hB49.mono hC6.size)
          clear hB49 hC6
          go_wp2_with fail
          refine (nequal_any a b _ (by omega) (by omega)).mono ?_
          rintro e w50 ⟨rfl, hB50⟩
          rw [HEQ.out]
          have hC50 := hC49.trans (hB50.mono hC49.size)
          clear hB50 hC49
          go_wp2_with fail
          refine (nwithin_any b a _ (by omega) (by omega)).mono ?_
          rintro e w51 ⟨rfl, hB51⟩
          rw [HS1.out, HI.out]
          have hC51 := hC50.trans (hB51.mono hC50.size)
          clear hB51 hC50
          cases wba
          · go_wp2
            go_ret
            exact ⟨rfl, hC51⟩
          · exact absurd (H3.out rfl) (by omega)
        · go_wp2_with fail
          refine (ncmp_any b a _ (by omega) (by omega)).mono ?_
          rintro e w52 ⟨rfl, hB52⟩
          rw [HBA.out]
          have hC52 := hC6.trans (hB52.mono hC6.size)
          clear hB52 hC6
          go_wp2_with fail
          refine (nequal_any a b _ (by omega) (by omega)).mono ?_
          rintro e w53 ⟨rfl, hB53⟩
          rw [HEQ.out]
          have hC53 := hC52.trans (hB53.mono hC52.size)
          clear hB53 hC52
          go_wp2_with fail
          refine (nwithin_any b a _ (by omega) (by omega)).mono ?_
          rintro e w54 ⟨rfl, hB54⟩
          rw [HS1.out, HI.out]
          have hC54 := hC53.trans (hB54.mono hC53.size)
          clear hB54 hC53
          cases wba
          · go_wp2
            go_ret
            exact ⟨rfl, hC54⟩
          · exact absurd (H3.out rfl) (by omega)
        · go_wp2_with fail
          refine (ncmp_any b a _ (by omega) (by omega)).mono ?_
          rintro e w55 ⟨rfl, hB55⟩
          rw [HBA.out]
          have hC55 := hC6.trans (hB55.mono hC6.size)
          clear hB55 hC6
          go_wp2_with fail
          refine (nequal_any a b _ (by omega) (by omega)).mono ?_
          rintro e w56 ⟨rfl, hB56⟩
          rw [HEQ.out]
          have hC56 := hC55.trans (hB56.mono hC55.size)
          clear hB56 hC55
          go_wp2_with fail
          refine (nwithin_any b a _ (by omega) (by omega)).mono ?_
          rintro e w57 ⟨rfl, hB57⟩
          rw [HS1.out, HI.out]
          have hC57 := hC56.trans (hB57.mono hC56.size)
          clear hB57 hC56
          cases wba
          · go_wp2
            go_ret
            exact ⟨rfl, hC57⟩
          · exact absurd (H3.out rfl) (by omega)
      · rw [chk_no hc]
        clear hc
        go_wp2
        go_ret
        exact ⟨rfl, hC3⟩
    · rw [chk_no hb]
      clear hb
      go_wp2
      go_ret
      exact ⟨rfl, hC2⟩
  · rw [chk_no ha]
    clear ha
    go_wp2
    go_ret
    exact ⟨rfl, hC1⟩
end Go.Proofs.Ytjflojefpaffeaa.nord
