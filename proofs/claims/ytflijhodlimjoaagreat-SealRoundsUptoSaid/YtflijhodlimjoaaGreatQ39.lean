/- The law gazetteerlaw4.SealRounds: walk. -/
import Derived.Test.YtflijhodlimjoaaGreatQ36
import Derived.Test.YtflijhodlimjoaaGreatQ38
import Derived.Deep.RegionHeld3
import Derived.Deep.DeepCutAuto
import Derived.Deep.AppendLies
import Derived.BigRegion
namespace Go.Proofs.YtflijhodlimjoaaGreat.sealRounds
open Go.RowKit Go.Proofs.YtflijhodlimjoaaGreat.kit Go.Proofs.YtflijhodlimjoaaGreat.timed Go.Proofs.YtflijhodlimjoaaGreat.nspec Go.Proofs.YtflijhodlimjoaaGreat.wireP Go.Proofs.YtflijhodlimjoaaGreat.wireM Go.Proofs.YtflijhodlimjoaaGreat.rows Go.Proofs.YtflijhodlimjoaaGreat.right Go.Proofs.YtflijhodlimjoaaGreat.rsplit Go.Proofs.YtflijhodlimjoaaGreat.sealS Go.Proofs.YtflijhodlimjoaaGreat.signP Go.Proofs.YtflijhodlimjoaaGreat.verP Go.Proofs.YtflijhodlimjoaaGreat.pub Go.Proofs.YtflijhodlimjoaaGreat.recsArg Go.Proofs.YtflijhodlimjoaaGreat.keepN Go.Proofs.YtflijhodlimjoaaGreat.setW Go.Proofs.YtflijhodlimjoaaGreat.sroundsP Go.Proofs.YtflijhodlimjoaaGreat.sroundsM
set_option linter.unusedVariables false

theorem key_own (f : Int) (hf : f = 256 ∨ f = 257) (w : World) : Calls Tryz.prog 18 #[.int .i64 251, .int .i64 263, .int .i64 3, .int .i64 f] w fun e w' => e = .returned (.tuple #[.agg #[.int .i64 f, .int .i64 66013, .int .i64 3, .int .i64 43667], .int .i64 0]) ∧ Below w.heap.size w w' := by
  refine (newKey.nkey_any 251 263 3 f w).mono ?_
  rintro e w' ⟨hB, ⟨h1, _⟩ | ⟨h1, d, h2, rfl⟩⟩
  · exact absurd (good_own hf) h1
  · obtain rfl := own_d h2
    exact ⟨rfl, hB⟩
theorem ok_own {f : Int} (hf : f = 256 ∨ f = 257) : KeyOk f 66013 3 43667 :=
  key_ok (p := 251) (q := 263) (e := 3) (f := f) (d := 43667) (good_own hf) ⟨by decide, by decide⟩
/-- the second key, or none -/
theorem key_two (p q e f : Int) (w : World) : Calls Tryz.prog 18 #[.int .i64 p, .int .i64 q, .int .i64 e, .int .i64 f] w fun en w' => Below w.heap.size w w' ∧ ∃ kf km ke ks cd, en = .returned (.tuple #[.agg #[.int .i64 kf, .int .i64 km, .int .i64 ke, .int .i64 ks], .int .i64 cd]) ∧ (cd = 0 → KeyOk kf km ke ks) := by
  refine (newKey.nkey_any p q e f w).mono ?_
  rintro en w' ⟨hB, ⟨_, rfl⟩ | ⟨h1, d, h2, rfl⟩⟩
  · exact ⟨hB, _, _, _, _, _, rfl, fun h => absurd h (by decide)⟩
  · exact ⟨hB, f, p * q, e, (d : Int), 0, rfl, fun _ => key_ok h1 h2⟩
abbrev keyO (kf km ke ks : Int) : Obj := .cells #[.int .i64 kf, .int .i64 km, .int .i64 ke, .int .i64 ks] 32
abbrev recO (x : Rc) : Obj := .cells #[.string x.o, .int .i64 x.t, .int .i64 x.c, .int .i64 x.l, .string x.d] 34
theorem key_cells {w : World} {X : Nat} {kf km ke ks : Int} (h : w.heap[X]? = some (keyO kf km ke ks)) : w.cell? ⟨X, 0, none⟩ = some (.int .i64 kf) ∧ w.cell? ⟨X, 1, none⟩ = some (.int .i64 km) ∧ w.cell? ⟨X, 2, none⟩ = some (.int .i64 ke) ∧ w.cell? ⟨X, 3, none⟩ = some (.int .i64 ks) ∧ w.frozen? ⟨X, 0, none⟩ = false ∧ w.frozen? ⟨X, 1, none⟩ = false ∧ w.frozen? ⟨X, 2, none⟩ = false ∧ w.frozen? ⟨X, 3, none⟩ = false := by
  refine ⟨?_, ?_, ?_, ?_, ?_, ?_, ?_, ?_⟩ <;> first | (simp only [World.cell?, h]; rfl) | simp [World.frozen?, h]
/-- a key laid over four cells -/
def overK (w : World) (Y : Nat) (v0 v1 v2 v3 : Value) : World := (((w.setCell ⟨Y, 0, none⟩ v0).setCell ⟨Y, 1, none⟩ v1).setCell ⟨Y, 2, none⟩ v2).setCell ⟨Y, 3, none⟩ v3
theorem over_key {w : World} {Y : Nat} {kf km ke ks : Int} (h : w.heap[Y]? = some (keyO kf km ke ks)) (jf jm je js : Int) : (overK w Y (.int .i64 jf) (.int .i64 jm) (.int .i64 je) (.int .i64 js)).heap[Y]? = some (keyO jf jm je js) := by
  simp [overK, World.setCell, Array.getElem?_modify, h]
theorem over_keyB {w : World} {Y B : Nat} (h : B ≤ Y) (v0 v1 v2 v3 : Value) : Below B w (overK w Y v0 v1 v2 v3) :=
  ((((Below.refl B w).setCell (p := ⟨Y, 0, none⟩) h v0).setCell (p := ⟨Y, 1, none⟩) h v1).setCell (p := ⟨Y, 2, none⟩) h v2).setCell (p := ⟨Y, 3, none⟩) h v3
set_option maxRecDepth 100000 in
set_option maxHeartbeats 8000000 in
theorem sealRounds_any (p q e f : Int) (sn : ByteArray) (a : Option Addr) (n c : Nat) (L : List Rc) (ta : Option Addr) (tn tc : Nat) (T : List Int) (ag bg en now : Int) (w : World) {b : Nat} (hpw : (Lit.int .i64 p).wf = true) (hqw : (Lit.int .i64 q).wf = true) (hew : (Lit.int .i64 e).wf = true) (hfw : (Lit.int .i64 f).wf = true) (hsn : sn.size ≤ 1048576) (hi : InR w a n c L b) (hb : b ≤ 1048576) (htn : tn = T.length) (htr : RdI w ta T) (hta : ta = none → tn = 0) (htb : tn ≤ 1073741824) (htw : ∀ x ∈ T, (Lit.int .i64 x).wf = true) (hag : (Lit.int .i64 ag).wf = true) (hbg : (Lit.int .i64 bg).wf = true) (hen : (Lit.int .i64 en).wf = true) (hnow : (Lit.int .i64 now).wf = true) :
    Calls Tryz.prog 6 #[.int .i64 p, .int .i64 q, .int .i64 e, .int .i64 f, .string sn, .slice a n c, .slice ta tn tc, .int .i64 ag, .int .i64 bg, .int .i64 en, .int .i64 now] w fun e w' => e = .returned (.bool true) ∧ Below w.heap.size w w' := by
  obtain ⟨ho, hn1, hbk⟩ := hi.ok hb
  have HO := Lib.hid ho; have HBK := Lib.hid hbk; have HN := Lib.hid hi.len; have HR := Lib.hid hi.rd; have HNIL := Lib.hid hi.nil
  have HTN := Lib.hid htn; have HTR := Lib.hid htr
  have C1 := Lib.hid (key_own 257 (.inr rfl) w)
  clear ho hbk hi hpw hqw hew hfw htn htr hta htw hag hbg hen hnow
  go_enter Tryz.func6, Tryz.ntmps6
  go_wp2_with fail
  refine C1.out.mono ?_
  rintro e1 w1 ⟨rfl, hB1⟩
  clear C1
  have HB1 := Lib.hid hB1
  have hb2 := (Below.refl w1.heap.size w1).alloc (Nat.le_refl _) (keyO 257 66013 3 43667)
  have hk2 := heap_alloc_new w1 (keyO 257 66013 3 43667)
  obtain ⟨X, hX⟩ : ∃ X, w1.heap.size = X := ⟨_, rfl⟩
  obtain ⟨w2, hw2⟩ : ∃ w2, w1.alloc (keyO 257 66013 3 43667) = w2 := ⟨_, rfl⟩
  rw [hw2] at hb2 hk2
  rw [hX] at hk2
  have hwX : w.heap.size ≤ X := by rw [← hX]; exact hB1.size
  have HB2 := Lib.hid (HB1.out.trans (hb2.mono HB1.out.size))
  have HX := Lib.hid hX; have HW2 := Lib.hid hw2; have HK2 := Lib.hid hk2
  clear hB1 hb2 hk2 hX hw2
  trace "1"
  go_upto_region 2 with fail
  rw [HW2.out]
  try rw [HX.out]
  have C2 := Lib.hid (key_two p q e f w2)
  have HXl : X < w2.heap.size := (Array.getElem?_eq_some_iff.1 HK2.out).1
  obtain ⟨x0, x1, x2, x3, f0, f1, f2, f3⟩ := key_cells HK2.out
  trace "2"
  go_upto_region 4 with fail
  clear x0 x1 x2 x3 f0 f1 f2 f3
  trace "3"
  go_wp2_with fail
  refine C2.out.mono ?_
  rintro e3 w3 ⟨hB3, jf, jm, je, js, cd, rfl, hok⟩
  have hk3 := (hB3.block X HXl).trans HK2.out
  have HB3 := Lib.hid (HB2.out.trans (hB3.mono HB2.out.size))
  have HXl3 : X < w3.heap.size := (Array.getElem?_eq_some_iff.1 hk3).1
  have HJOK := Lib.hid hok
  have hb4 := (Below.refl w3.heap.size w3).alloc (Nat.le_refl _) (keyO jf jm je js)
  have hy4 := heap_alloc_new w3 (keyO jf jm je js)
  obtain ⟨Y, hY⟩ : ∃ Y, w3.heap.size = Y := ⟨_, rfl⟩
  obtain ⟨w4, hw4⟩ : ∃ w4, w3.alloc (keyO jf jm je js) = w4 := ⟨_, rfl⟩
  rw [hw4] at hb4 hy4
  rw [hY] at hy4
  have hk4 := (hb4.block X HXl3).trans hk3
  have HB4 := Lib.hid (HB3.out.trans (hb4.mono HB3.out.size))
  have HY := Lib.hid hY; have HW4 := Lib.hid hw4; have HK4 := Lib.hid hk4; have HY4 := Lib.hid hy4
  clear hB3 hk3 hb4 hy4 hY hw4 hk4 hok C2 HXl3
  trace "4"
  go_upto_if 58 with fail
  rw [HW4.out]
  try rw [HY.out]
  trace "5"
  go_cut [] (fun wx => ∃ kf km ke ks, Hid (KeyOk kf km ke ks) ∧ Hid (wx.heap[X]? = some (keyO kf km ke ks)) ∧ Hid (Below w.heap.size w wx))
  case first =>
    by_cases hcd : cd = 0
    · have hok := HJOK.out hcd
      have HOK := Lib.hid hok
      have hcb : (cd == 0) = true := by simp [hcd]
      clear hok HJOK hcd
      obtain ⟨x0, x1, x2, x3, f0, f1, f2, f3⟩ := key_cells HK4.out
      obtain ⟨y0, y1, y2, y3, _, _, _, _⟩ := key_cells HY4.out
      trace "6"
      go_wp2_with fail
      go_meet
      exact ⟨jf, jm, je, js, HOK, Lib.hid (over_key HK4.out _ _ _ _), Lib.hid (HB4.out.trans (over_keyB hwX _ _ _ _))⟩
    · have hcb : (cd == 0) = false := by simp [hcd]
      clear hcd HJOK
      trace "7"
      go_wp2_with fail
      go_meet
      exact ⟨257, 66013, 3, 43667, Lib.hid (ok_own (.inr rfl)), HK4, HB4⟩
  case rest =>
    obtain ⟨kf, km, ke, ks, HOK, HK5, HB5⟩ := hcut
    clear HB4 HK4 HY4 HW4 HY HJOK HB3 HB2 HK2 HW2 HX HXl
    obtain ⟨sg, cs, hsr, hcs⟩ := sr_all kf km ke ks sn L bg en
    have CS := Lib.hid (sign.sign_any kf km ke ks sn a n c L bg en wc HN.out (HR.out.below HB5.out rfl) HO.out (by omega) HBK.out (by omega))
    rw [hsr] at CS
    have HCS := Lib.hid hcs
    have HXl : X < wc.heap.size := (Array.getElem?_eq_some_iff.1 HK5.out).1
    obtain ⟨x0, x1, x2, x3, f0, f1, f2, f3⟩ := key_cells HK5.out
    clear hsr hcs
    trace "8"
    go_wp2_with fail
    refine CS.out.mono ?_
    rintro e6 w6 ⟨rfl, hB6⟩
    clear x0 x1 x2 x3 f0 f1 f2 f3 CS
    have hk6 := (hB6.block X HXl).trans HK5.out
    have HB6 := Lib.hid (HB5.out.trans (hB6.mono HB5.out.size))
    have HXl6 : X < w6.heap.size := (Array.getElem?_eq_some_iff.1 hk6).1
    have hb7 := (Below.refl w6.heap.size w6).alloc (Nat.le_refl _) (recO sg)
    have hz7 := heap_alloc_new w6 (recO sg)
    obtain ⟨Z, hZ⟩ : ∃ Z, w6.heap.size = Z := ⟨_, rfl⟩
    obtain ⟨w7, hw7⟩ : ∃ w7, w6.alloc (recO sg) = w7 := ⟨_, rfl⟩
    rw [hw7] at hb7 hz7
    rw [hZ] at hz7
    have hXZ : X < Z := by rw [← hZ]; exact HXl6
    have hk7 := (hb7.block X HXl6).trans hk6
    have HB7 := Lib.hid (HB6.out.trans (hb7.mono HB6.out.size))
    have hZ7 : Z < w7.heap.size := (Array.getElem?_eq_some_iff.1 hz7).1
    have HZ := Lib.hid hZ; have HW7 := Lib.hid hw7; have HK7 := Lib.hid hk7; have HZ7 := Lib.hid hz7
    clear hB6 hk6 hb7 hz7 hZ hw7 hk7 HXl6 HXl
    trace "9"
    go_upto_region 8 with fail
    rw [HW7.out]
    try rw [HZ.out]
    clear HW7 HZ HB6 HB5 HK5
    by_cases hc0 : cs = 0
    case neg =>
      have hcb : (cs == 0) = false := by simp [hc0]
      have hcb2 : (cs != 0) = true := by simp [hc0]
      have hsg : sg = ⟨⟨#[]⟩, 0, 0, 0, ⟨#[]⟩⟩ := by
        rcases HCS.out with ⟨_, h⟩ | ⟨h, _⟩
        · exact h
        · exact absurd h hc0
      subst hsg
      obtain ⟨z0, z1, z2, z3, z4, _⟩ := signSet.cells5 HZ7.out
      clear hc0 HCS
      trace "10"
      go_wp2_with fail
      go_ret
      exact ⟨rfl, HB7.out⟩
    case pos =>
      obtain ⟨hr1, hs1, ht1, hset, x1, h01, hwi, hsg⟩ : rightB kf km ke ks = true ∧ isB sn = true ∧ ¬ (bg < 0 ∨ en < bg ∨ 4294967295 < en) ∧ setB L = true ∧ ∃ x, L[0]? = some x ∧ refB.withinS x.o.data.toList sn.data.toList = true ∧ sg = ⟨x.o, 46, 1, x.l, ⟨(sigD kf km ke ks sn.data.toList x L bg en).toArray⟩⟩ := by
        rcases HCS.out with ⟨h, _⟩ | ⟨_, h⟩
        · exact absurd hc0 h
        · exact h
      have HFIT := Lib.hid (fun (L1 : List Rc) (hp : L1.Perm L) => fits_rounds (now := now) ag HOK.out hs1 ht1 hset h01 hwi hsg hp)
      have HSG : Hid (OkR sg) := Lib.hid (by rw [hsg]; exact sig_ok (HO.out x1 (List.mem_of_getElem? h01)))
      have hn0 : 1 ≤ n := by rw [HN.out]; exact Nat.lt_of_lt_of_le Nat.zero_lt_one (by have := (List.getElem?_eq_some_iff.1 h01).1; omega)
      have hane : a ≠ none := fun h => by have := (HNIL.out h).1; have := HN.out; omega
      obtain ⟨ad, rfl⟩ := Option.ne_none_iff_exists'.1 hane
      obtain ⟨i0, hif, hz0, hz1, hz2⟩ := info_parts infoRec
      have S1 : Hid (∀ (j : Nat) (u : Value), (L.flatMap Rc.cells)[j]? = some u → w7.cell? (ad.add j) = some u) := Lib.hid (by
        rcases cells_rd Rc.cells 5 (by decide) (fun _ => rfl) (HR.out.below HB7.out rfl) c (fun h => by cases h) with ⟨h, _⟩ | ⟨ad', h1, h2⟩
        · cases h
        · cases h1; exact h2)
      obtain ⟨LO, hLO⟩ : ∃ LO, w7.heap.size = LO := ⟨_, rfl⟩
      have HLO := Lib.hid hLO
      have hZL : Z < LO := by rw [← hLO]; exact hZ7
      have hXL : X < LO := by omega
      have hwL : w.heap.size ≤ LO := by omega
      have HSETN := Lib.hid hset
      clear hr1 hs1 ht1 hset h01 hwi hsg hane HCS hZ7 hLO
      subst hc0
      trace "11"
      go_wp2_with (at_builtin; go_loud (refine wpList_append_src rfl _ _ 22 rfl LO 34 i0 _ 5 56 Tryz.underlying22 hif hz0 hz1 hz2 rfl (by decide) _ 0 [] rfl (World.ownsRow_nil _ _ _ _) (some ad) n c (L.flatMap Rc.cells) rfl (by rw [flat_len Rc.cells 5 (fun _ => rfl), HN.out]) (.inr ⟨ad, rfl, S1.out⟩) (one_cells rec_one) (by unfold maxLen; omega) (by omega) (by rw [HLO.out]; exact Nat.le_refl _) ?_))
      intro v' w8 hown hgr
      have hB8 : Below w7.heap.size w7 w8 := (Below.refl _ w7).grown hgr (Nat.le_refl _) (by intro k hk; simp [Value.ownBlock] at hk)
      have ho : w8.ownsRow LO 34 5 v' n (L.flatMap Rc.cells) := by first | exact hown | simpa using hown
      obtain ⟨g, cap, rfl, hgL, _, _, _, _⟩ := own_at ho hn0
      have HLS : Hid (LS X Z LO g cap n kf km ke ks sg w w8 L) := Lib.hid ⟨ho, (hB8.block X (by rw [HLO.out]; exact hXL)).trans HK7.out, (hB8.block Z (by rw [HLO.out]; exact hZL)).trans HZ7.out, HB7.out.trans (hB8.mono HB7.out.size), hXL, hZL, hwL, hgL, HN.out.symm⟩
      have HPM : Hid (L.Perm L) := Lib.hid (List.Perm.refl _)
      clear hown hgr hB8 ho hgL HK7 HZ7 HB7 S1 hif hz0 hz1 hz2 HLO
      trace "12"
      go_wp2_with fail
      go_loopg [30, 78] (tn + 1) (fun gas _ kv wr => ∃ (k : Nat) (L1 : List Rc), kv = .int .i64 (k : Int) ∧ k ≤ tn ∧ k + gas = tn + 1 ∧ Hid (LS X Z LO g cap n kf km ke ks sg w wr L1) ∧ Hid (L1.Perm L))
      case atStart => exact ⟨0, L, rfl, by omega, by omega, HLS, HPM⟩
      case round =>
        clear HLS HPM
        obtain ⟨k, L1, rfl, hk, hkg, HLS, HPM⟩ := hrel
        have HK := Lib.hid hkg; clear hkg
        by_cases hlt : k < tn
        · have hlI : (k : Int) < (tn : Int) := by omega
          obtain ⟨x, hx⟩ : ∃ x, T[k]? = some x := ⟨_, List.getElem?_eq_getElem (by rw [← HTN.out]; exact hlt)⟩
          obtain ⟨gt, ot, hta, hgt, hcell⟩ := HTR.out k x hx
          have hcx : wr.cell? ⟨gt, ot + k, none⟩ = some (.int .i64 x) := (HLS.out.bel.cell (p := ⟨gt, ot + k, none⟩) hgt).trans hcell
          subst hta
          obtain ⟨hc1, hc2⟩ := HLS.out.caps
          unfold maxLen at hc2
          clear hx hcell hgt
          by_cases hsw : 1 ≤ x ∧ x < (n : Int)
          · obtain ⟨q1, q2⟩ := hsw
            obtain ⟨J, rfl⟩ : ∃ J : Nat, x = J := ⟨x.toNat, by omega⟩
            have hJ : 1 ≤ J := by omega
            have hJn : J < n := by omega
            obtain ⟨y, hy⟩ : ∃ y, L1[J]? = some y := ⟨_, List.getElem?_eq_getElem (by rw [HLS.out.len]; exact hJn)⟩
            obtain ⟨z, hz⟩ : ∃ z, L1[0]? = some z := ⟨_, List.getElem?_eq_getElem (by rw [HLS.out.len]; omega)⟩
            have HSW : Hid (LS X Z LO g cap n kf km ke ks sg w ((wr.setCells g (0 * 5) y.cells).setCells g (J * 5) z.cells) ((L1.set 0 y).set J z)) := Lib.hid ((HLS.out.put (by omega) y).put hJn z)
            have HP1 : Hid (((L1.set 0 y).set J z).Perm L) := Lib.hid ((swap_perm hz hy hJ).trans HPM.out)
            obtain ⟨y0, y1, y2, y3, y4, hfz⟩ := HLS.out.at hy
            obtain ⟨z0, z1, z2, z3, z4, _⟩ := HLS.out.at hz
            simp only [Nat.zero_mul, Nat.zero_add] at z0 z1 z2 z3 z4
            have a0 := hfz 0; have a1 := hfz 1; have a2 := hfz 2; have a3 := hfz 3; have a4 := hfz 4
            have b0 := hfz (J * 5); have b1 := hfz (J * 5 + 1); have b2 := hfz (J * 5 + 2); have b3 := hfz (J * 5 + 3); have b4 := hfz (J * 5 + 4)
            clear hy hz hfz HLS HPM
            trace "13"
            go_upto_region 15 with fail
            trace "14"
            go_region
            generalize hwS : World.drew _ = wS
            have HS1 : Hid (LS X Z LO g cap n kf km ke ks sg w wS ((L1.set 0 y).set J z)) := Lib.hid (by rw [← hwS]; exact HSW.out.below ((Below.refl _ _).drew))
            clear HSW hwS y0 y1 y2 y3 y4 z0 z1 z2 z3 z4 a0 a1 a2 a3 a4 b0 b1 b2 b3 b4 hcx
            trace "15"
            go_wp2_with fail
            have hkg := HK.out
            go_roundg (gk - 1)
            case rel => exact ⟨k + 1, _, by go_num, by omega, by omega, HS1, HP1⟩
            case measure => omega
          · clear hc1 hc2
            trace "16"
            by_cases q1 : 1 ≤ x
            · have q2 : ¬ x < (n : Int) := fun h => hsw ⟨q1, h⟩
              clear hsw
              go_wp2_with fail
              have hkg := HK.out
              go_roundg (gk - 1)
              case rel => exact ⟨k + 1, L1, by go_num, by omega, by omega, HLS, HPM⟩
              case measure => omega
            · clear hsw
              go_wp2_with fail
              have hkg := HK.out
              go_roundg (gk - 1)
              case rel => exact ⟨k + 1, L1, by go_num, by omega, by omega, HLS, HPM⟩
              case measure => omega
        · have hke : k = tn := by omega
          subst hke
          have hlI : ¬ (k : Int) < (k : Int) := by omega
          clear hlt hk HK HTN HTR
          obtain ⟨hc1, hc2⟩ := HLS.out.caps
          unfold maxLen at hc2
          have HU0 : Hid (LS X Z LO g cap n kf km ke ks sg w wr (upTo ag 0 L1)) := Lib.hid (by rw [upTo_zero]; exact HLS.out)
          have HL1 := Lib.hid (HLS.out.len)
          have HOU := Lib.hid (fun x (h : x ∈ L1) => HO.out x (HPM.out.mem_iff.1 h))
          clear HLS
          trace "17"
          go_wp2_with fail
          go_loopg [31, 105] (n + 1) (fun gas _ kv wr => ∃ k : Nat, kv = .int .i64 (k : Int) ∧ k ≤ n ∧ k + gas = n + 1 ∧ Hid (LS X Z LO g cap n kf km ke ks sg w wr (upTo ag k L1)))
          case atStart => exact ⟨0, rfl, by omega, by omega, HU0⟩
          case round =>
            clear HU0 hlI
            obtain ⟨k, rfl, hk, hkg, HLS⟩ := hrel
            have HK := Lib.hid hkg; clear hkg
            by_cases hlt : k < n
            · have hlI : (k : Int) < (n : Int) := by omega
              obtain ⟨x, hx⟩ : ∃ x, L1[k]? = some x := ⟨_, List.getElem?_eq_getElem (by rw [HL1.out]; exact hlt)⟩
              have HX := Lib.hid hx
              obtain ⟨y0, _, _, _, _, hfz⟩ := HLS.out.at (upTo_at (ag := ag) hx)
              have a0 := hfz (k * 5)
              have CU := Lib.hid (upper.upper_any x.o wr (by have := (HOU.out x (List.mem_of_getElem? hx)).o; unfold maxLen; omega))
              obtain ⟨US, hUS⟩ : ∃ US : ByteArray, (⟨(upper.upL x.o.data.toList).toArray⟩ : ByteArray) = US := ⟨_, rfl⟩
              rw [hUS] at CU
              have HUS := Lib.hid hUS
              clear hx hfz hUS
              trace "20"
              go_wp2_with fail
              refine CU.out.mono ?_
              rintro e9 w9 ⟨rfl, hB9⟩
              have HL9 := Lib.hid (HLS.out.below hB9)
              obtain ⟨y0, _, _, y3, _, hfz⟩ := HL9.out.at (upTo_at (ag := ag) HX.out)
              have a0 := hfz (k * 5)
              have HLA := Lib.hid (HL9.out.fld (k := k) (i := 0) (y := ownX x) (v := .string US) (upTo_at (ag := ag) HX.out) (by omega) (by unfold ownX; rw [HUS.out]; rfl))
              clear hB9 CU HLS y3 hfz
              trace "21"
              go_upto_region 21 with fail
              obtain ⟨wA, hwA⟩ : ∃ wA, w9.setCell ⟨g, k * 5, none⟩ (.string US) = wA := ⟨_, rfl⟩
              have hlA : LS X Z LO g cap n kf km ke ks sg w wA ((upTo ag k L1).set k (ownX x)) := by rw [← hwA]; exact HLA.out
              rw [hwA]
              have HLB := Lib.hid hlA
              clear HLA hlA hwA HL9 y0 a0
              have hxk : ((upTo ag k L1).set k (ownX x))[k]? = some (ownX x) := by rw [List.getElem?_set_self]; rw [upTo_len, HL1.out]; exact hlt
              trace "22"
              by_cases hA : 0 ≤ ag ∧ ag ≤ 2147483647
              · obtain ⟨q1, q2⟩ := hA
                obtain ⟨_, _, _, y3, _, hfz⟩ := HLB.out.at hxk
                have a3 := hfz (k * 5 + 3)
                have HLC := Lib.hid (HLB.out.fld (k := k) (i := 3) (y := markX ag x) (v := .int .i64 ag) hxk (by omega) (mark_yes ⟨q1, q2⟩ x))
                clear hxk hfz HLB
                go_upto_region 23 with fail
                obtain ⟨wD, hwD⟩ : ∃ wD, wA.setCell ⟨g, k * 5 + 3, none⟩ (.int .i64 ag) = wD := ⟨_, rfl⟩
                have hlD : LS X Z LO g cap n kf km ke ks sg w wD (upTo ag (k + 1) L1) := by
                  rw [← hwD]
                  have := HLC.out
                  rw [List.set_set, upTo_succ HX.out] at this
                  exact this
                rw [hwD]
                have HLD := Lib.hid hlD
                clear HLC hlD hwD y3 a3
                trace "23"
                go_wp2_with fail
                have hkg := HK.out
                go_roundg (gk - 1)
                case rel => exact ⟨k + 1, by go_num, by omega, by omega, HLD⟩
                case measure => omega
              · have HLD : Hid (LS X Z LO g cap n kf km ke ks sg w wA (upTo ag (k + 1) L1)) := Lib.hid (by
                  have := HLB.out
                  rw [← mark_no hA x, upTo_succ HX.out] at this
                  exact this)
                clear hxk HLB
                trace "24"
                by_cases q1 : 0 ≤ ag
                · have q2 : ¬ ag ≤ 2147483647 := fun h => hA ⟨q1, h⟩
                  clear hA
                  go_wp2_with fail
                  have hkg := HK.out
                  go_roundg (gk - 1)
                  case rel => exact ⟨k + 1, by go_num, by omega, by omega, HLD⟩
                  case measure => omega
                · clear hA
                  go_wp2_with fail
                  have hkg := HK.out
                  go_roundg (gk - 1)
                  case rel => exact ⟨k + 1, by go_num, by omega, by omega, HLD⟩
                  case measure => omega
            · have hke : k = n := by omega
              have hlI : ¬ (k : Int) < (n : Int) := by omega
              have HLE : Hid (LS X Z LO g cap n kf km ke ks sg w wr (L1.map (markX ag))) := Lib.hid (by
                have := HLS.out
                rw [hke, ← HL1.out, upTo_all] at this
                rw [← HL1.out]
                exact this)
              have HKE := Lib.hid hke
              clear hlt hk HK HLS hke
              obtain ⟨US, hUS⟩ : ∃ US : ByteArray, (⟨(upper.upL sn.data.toList).toArray⟩ : ByteArray) = US := ⟨_, rfl⟩
              obtain ⟨PS, hPS⟩ : ∃ PS : ByteArray, (⟨(pubS kf km ke ks).toArray⟩ : ByteArray) = PS := ⟨_, rfl⟩
              have hus : US.size ≤ 1099511627776 := by rw [← hUS, up_size]; omega
              have hps : PS.size ≤ 1099511627776 := by rw [← hPS, size_of]; have := pub_len kf km ke ks; omega
              have CU := Lib.hid (fun (wx : World) => upper.upper_any sn wx (by unfold maxLen; omega))
              have CP := Lib.hid (fun (wx : World) => pub_any kf km ke ks wx)
              rw [hUS] at CU
              rw [hPS] at CP
              have hvr : VerC (L1.map (markX ag)) sg US.data.toList PS.data.toList now = if now < bg then 25 else if en < now then 25 else 0 := by rw [← hUS, ← hPS]; exact HFIT.out L1 HPM.out
              obtain ⟨RV, hRV⟩ : ∃ RV, VerC (L1.map (markX ag)) sg US.data.toList PS.data.toList now = RV := ⟨_, rfl⟩
              have CV := Lib.hid (fun (wx : World) (hB : Below wr.heap.size wr wx) => verify.verify_any (some ⟨g, 0, none⟩) n cap (L1.map (markX ag)) sg US PS now wx (by rw [List.length_map, HL1.out]) ((HLE.out.below hB).rd hn0) (fun x hx => by obtain ⟨y, hy, rfl⟩ := List.mem_map.1 hx; exact ok_mark ag (HOU.out y hy)) (by omega) (by rw [mark_fold, bulk_perm (HPM.out.map foldX)]; exact HBK.out) HSG.out hus hps)
              rw [hRV] at CV
              have HRV : Hid (RV = if now < bg then 25 else if en < now then 25 else 0) := Lib.hid (hRV.symm.trans hvr)
              obtain ⟨x0, x1, x2, x3, z0, z1, z2, z3, z4⟩ := HLE.out.keys
              have hS0 : wr.drew.cell? ⟨X, 0, none⟩ = some (.int .i64 kf) ∧ wr.drew.cell? ⟨X, 1, none⟩ = some (.int .i64 km) ∧ wr.drew.cell? ⟨X, 2, none⟩ = some (.int .i64 ke) ∧ wr.drew.cell? ⟨X, 3, none⟩ = some (.int .i64 ks) ∧ wr.drew.cell? ⟨Z, 0, none⟩ = some (.string sg.o) ∧ wr.drew.cell? ⟨Z, 1, none⟩ = some (.int .i64 sg.t) ∧ wr.drew.cell? ⟨Z, 2, none⟩ = some (.int .i64 sg.c) ∧ wr.drew.cell? ⟨Z, 3, none⟩ = some (.int .i64 sg.l) ∧ wr.drew.cell? ⟨Z, 4, none⟩ = some (.string sg.d) ∧ Below wr.heap.size wr wr.drew := ⟨x0, x1, x2, x3, z0, z1, z2, z3, z4, (Below.refl _ _).drew⟩
              clear hUS hPS hvr hRV x0 x1 x2 x3 z0 z1 z2 z3 z4
              trace "25"
              go_upto_region 24 with fail
              go_region_held3 (fun w' => w'.cell? ⟨X, 0, none⟩ = some (.int .i64 kf) ∧ w'.cell? ⟨X, 1, none⟩ = some (.int .i64 km) ∧ w'.cell? ⟨X, 2, none⟩ = some (.int .i64 ke) ∧ w'.cell? ⟨X, 3, none⟩ = some (.int .i64 ks) ∧ w'.cell? ⟨Z, 0, none⟩ = some (.string sg.o) ∧ w'.cell? ⟨Z, 1, none⟩ = some (.int .i64 sg.t) ∧ w'.cell? ⟨Z, 2, none⟩ = some (.int .i64 sg.c) ∧ w'.cell? ⟨Z, 3, none⟩ = some (.int .i64 sg.l) ∧ w'.cell? ⟨Z, 4, none⟩ = some (.string sg.d) ∧ Below wr.heap.size wr w') (first | assumption | (refine ⟨?_, ?_, ?_, ?_, ?_, ?_, ?_, ?_, ?_, ?_⟩ <;> assumption))
                (first
                  | (go_at_call 16; refine (CV.out _ (‹_ ∧ _ ∧ _ ∧ _ ∧ _ ∧ _ ∧ _ ∧ _ ∧ _ ∧ Below _ _ _›).2.2.2.2.2.2.2.2.2).mono ?_; rintro e w' ⟨rfl, hBz⟩; have hSz := k9 (by assumption) hBz; clear hBz)
                  | (go_at_call 19; refine (CU.out _).mono ?_; rintro e w' ⟨rfl, hBz⟩; have hSz := k9 (by assumption) hBz; clear hBz)
                  | (go_at_call 20; refine (CP.out _).mono ?_; rintro e w' ⟨rfl, hBz⟩; have hSz := k9 (by assumption) hBz; clear hBz))
              trace "26"
              have HBF := Lib.hid (HLE.out.bel.trans (hSz.2.2.2.2.2.2.2.2.2.mono HLE.out.bel.size))
              clear hSz hS0 CV CU CP HLE
              by_cases c1 : now < bg
              · have hv : RV = 25 := by rw [HRV.out, if_pos c1]
                subst hv
                clear HRV
                go_wp2_with fail
                go_ret
                exact ⟨rfl, HBF.out⟩
              · by_cases c2 : en < now
                · have hv : RV = 25 := by rw [HRV.out, if_neg c1, if_pos c2]
                  subst hv
                  clear HRV
                  go_wp2_with fail
                  go_ret
                  exact ⟨rfl, HBF.out⟩
                · have hv : RV = 0 := by rw [HRV.out, if_neg c1, if_neg c2]
                  subst hv
                  clear HRV
                  go_wp2_with fail
                  go_ret
                  exact ⟨rfl, HBF.out⟩
end Go.Proofs.YtflijhodlimjoaaGreat.sealRounds
