/- The law gazetteerlaw4.SealRounds: walk. The signature of a star's set fits what the star stands for: plain. The law gazetteerlaw4.SealStars: walk. -/
import Derived.Test.YtflijhodlimjoaaGreatQ36
import Derived.Test.YtflijhodlimjoaaGreatQ38
import Derived.Test.YtflijhodlimjoaaGreatK8
import Derived.Test.YtflijhodlimjoaaGreatK6
import Derived.Test.YtflijhodlimjoaaGreatQ33
import Derived.Deep.RegionHeld3
import Derived.Deep.DeepCutAuto
import Derived.Deep.AppendLies
import Derived.BigRegion
namespace Go.Proofs.YtflijhodlimjoaaGreat.sealRounds
open Go.RowKit Go.Proofs.YtflijhodlimjoaaGreat.kit Go.Proofs.YtflijhodlimjoaaGreat.timed Go.Proofs.YtflijhodlimjoaaGreat.nspec Go.Proofs.YtflijhodlimjoaaGreat.wireP Go.Proofs.YtflijhodlimjoaaGreat.wireM Go.Proofs.YtflijhodlimjoaaGreat.rows Go.Proofs.YtflijhodlimjoaaGreat.right Go.Proofs.YtflijhodlimjoaaGreat.rsplit Go.Proofs.YtflijhodlimjoaaGreat.sealS Go.Proofs.YtflijhodlimjoaaGreat.signP Go.Proofs.YtflijhodlimjoaaGreat.verP Go.Proofs.YtflijhodlimjoaaGreat.pub Go.Proofs.YtflijhodlimjoaaGreat.recsArg Go.Proofs.YtflijhodlimjoaaGreat.keepN Go.Proofs.YtflijhodlimjoaaGreat.setW Go.Proofs.YtflijhodlimjoaaGreat.sroundsP Go.Proofs.YtflijhodlimjoaaGreat.sroundsM
set_option linter.unusedVariables false

theorem key_own (f : Int) (hf : f = 256 ∨ f = 257) (w : World) : Calls Tryz.prog 18 #[.int .i64 251, .int .i64 263, .int .i64 3, .int .i64 f] w fun e w' => e = .returned (.tuple #[.agg #[.int .i64 f, .int .i64 66013, .int .i64 3, .int .i64 43667], .int .i64 0]) ∧ Below w.heap.size w w' := by
  refine (newKey.nkey_any 251 263 3 f w).mono ?_
  rintro e w' ⟨hB, ⟨h1, _⟩ | ⟨h1, d, h2, rfl⟩⟩
  · exact absurd (good_own hf) h1
  · obtain rfl := own_d h2
    exact ⟨rfl, hB⟩
theorem ok_own {f : Int} (hf : f = 256 ∨ f = 257) : KeyOk f 66013 3 43667 :=
  key_ok (p := 251) (q := 263) (e := 3) (f := f) (d := 43667) (good_own hf) ⟨by decide, by decide⟩
/-- the second key, or none -/
theorem key_two (p q e f : Int) (w : World) : Calls Tryz.prog 18 #[.int .i64 p, .int .i64 q, .int .i64 e, .int .i64 f] w fun en w' => Below w.heap.size w w' ∧ ∃ kf km ke ks cd, en = .returned (.tuple #[.agg #[.int .i64 kf, .int .i64 km, .int .i64 ke, .int .i64 ks], .int .i64 cd]) ∧ (cd = 0 → KeyOk kf km ke ks) := by
  refine (newKey.nkey_any p q e f w).mono ?_
  rintro en w' ⟨hB, ⟨_, rfl⟩ | ⟨h1, d, h2, rfl⟩⟩
  · exact ⟨hB, _, _, _, _, _, rfl, fun h => absurd h (by decide)⟩
  · exact ⟨hB, f, p * q, e, (d : Int), 0, rfl, fun _ => key_ok h1 h2⟩
abbrev keyO (kf km ke ks : Int) : Obj := .cells #[.int .i64 kf, .int .i64 km, .int .i64 ke, .int .i64 ks] 32
abbrev recO (x : Rc) : Obj := .cells #[.string x.o, .int .i64 x.t, .int .i64 x.c, .int .i64 x.l, .string x.d] 34
theorem key_cells {w : World} {X : Nat} {kf km ke ks : Int} (h : w.heap[X]? = some (keyO kf km ke ks)) : w.cell? ⟨X, 0, none⟩ = some (.int .i64 kf) ∧ w.cell? ⟨X, 1, none⟩ = some (.int .i64 km) ∧ w.cell? ⟨X, 2, none⟩ = some (.int .i64 ke) ∧ w.cell? ⟨X, 3, none⟩ = some (.int .i64 ks) ∧ w.frozen? ⟨X, 0, none⟩ = false ∧ w.frozen? ⟨X, 1, none⟩ = false ∧ w.frozen? ⟨X, 2, none⟩ = false ∧ w.frozen? ⟨X, 3, none⟩ = false := by
  refine ⟨?_, ?_, ?_, ?_, ?_, ?_, ?_, ?_⟩ <;> first | (simp only [World.cell?, h]; rfl) | simp [World.frozen?, h]
/-- a key laid over four cells -/
def overK (w : World) (Y : Nat) (v0 v1 v2 v3 : Value) : World := (((w.setCell ⟨Y, 0, none⟩ v0).setCell ⟨Y, 1, none⟩ v1).setCell ⟨Y, 2, none⟩ v2).setCell ⟨Y, 3, none⟩ v3
theorem over_key {w : World} {Y : Nat} {kf km ke ks : Int} (h : w.heap[Y]? = some (keyO kf km ke ks)) (jf jm je js : Int) : (overK w Y (.int .i64 jf) (.int .i64 jm) (.int .i64 je) (.int .i64 js)).heap[Y]? = some (keyO jf jm je js) := by
  simp [overK, World.setCell, Array.getElem?_modify, h]
theorem over_keyB {w : World} {Y B : Nat} (h : B ≤ Y) (v0 v1 v2 v3 : Value) : Below B w (overK w Y v0 v1 v2 v3) :=
  ((((Below.refl B w).setCell (p := ⟨Y, 0, none⟩) h v0).setCell (p := ⟨Y, 1, none⟩) h v1).setCell (p := ⟨Y, 2, none⟩) h v2).setCell (p := ⟨Y, 3, none⟩) h v3
set_option maxRecDepth 100000 in
set_option maxHeartbeats 8000000 in
theorem sealRounds_any (p q e f : Int) (sn : ByteArray) (a : Option Addr) (n c : Nat) (L : List Rc) (ta : Option Addr) (tn tc : Nat) (T : List Int) (ag bg en now : Int) (w : World) {b : Nat} (hpw : (Lit.int .i64 p).wf = true) (hqw : (Lit.int .i64 q).wf = true) (hew : (Lit.int .i64 e).wf = true) (hfw : (Lit.int .i64 f).wf = true) (hsn : sn.size ≤ 1048576) (hi : InR w a n c L b) (hb : b ≤ 1048576) (htn : tn = T.length) (htr : RdI w ta T) (hta : ta = none → tn = 0) (htb : tn ≤ 1073741824) (htw : ∀ x ∈ T, (Lit.int .i64 x).wf = true) (hag : (Lit.int .i64 ag).wf = true) (hbg : (Lit.int .i64 bg).wf = true) (hen : (Lit.int .i64 en).wf = true) (hnow : (Lit.int .i64 now).wf = true) :
    Calls Tryz.prog 6 #[.int .i64 p, .int .i64 q, .int .i64 e, .int .i64 f, .string sn, .slice a n c, .slice ta tn tc, .int .i64 ag, .int .i64 bg, .int .i64 en, .int .i64 now] w fun e w' => e = .returned (.bool true) ∧ Below w.heap.size w w' := by
  obtain ⟨ho, hn1, hbk⟩ := hi.ok hb
  have HO := Lib.hid ho; have HBK := Lib.hid hbk; have HN := Lib.hid hi.len; have HR := Lib.hid hi.rd; have HNIL := Lib.hid hi.nil
  have HTN := Lib.hid htn; have HTR := Lib.hid htr
  have C1 := Lib.hid (key_own 257 (.inr rfl) w)
  clear ho hbk hi hpw hqw hew hfw htn htr hta htw hag hbg hen hnow
  go_enter Tryz.func6, Tryz.ntmps6
  go_wp2_with fail
  refine C1.out.mono ?_
  rintro e1 w1 ⟨rfl, hB1⟩
  clear C1
  have HB1 := Lib.hid hB1
  have hb2 := (Below.refl w1.heap.size w1).alloc (Nat.le_refl _) (keyO 257 66013 3 43667)
  have hk2 := heap_alloc_new w1 (keyO 257 66013 3 43667)
  obtain ⟨X, hX⟩ : ∃ X, w1.heap.size = X := ⟨_, rfl⟩
  obtain ⟨w2, hw2⟩ : ∃ w2, w1.alloc (keyO 257 66013 3 43667) = w2 := ⟨_, rfl⟩
  rw [hw2] at hb2 hk2
  rw [hX] at hk2
  have hwX : w.heap.size ≤ X := by rw [← hX]; exact hB1.size
  have HB2 := Lib.hid (HB1.out.trans (hb2.mono HB1.out.size))
  have HX := Lib.hid hX; have HW2 := Lib.hid hw2; have HK2 := Lib.hid hk2
  clear hB1 hb2 hk2 hX hw2
  trace "1"
  go_upto_region 2 with fail
  rw [HW2.out]
  try rw [HX.out]
  have C2 := Lib.hid (key_two p q e f w2)
  have HXl : X < w2.heap.size := (Array.getElem?_eq_some_iff.1 HK2.out).1
  obtain ⟨x0, x1, x2, x3, f0, f1, f2, f3⟩ := key_cells HK2.out
  trace "2"
  go_upto_region 4 with fail
  clear x0 x1 x2 x3 f0 f1 f2 f3
  trace "3"
  go_wp2_with fail
  refine C2.out.mono ?_
  rintro e3 w3 ⟨hB3, jf, jm, je, js, cd, rfl, hok⟩
  have hk3 := (hB3.block X HXl).trans HK2.out
  have HB3 := Lib.hid (HB2.out.trans (hB3.mono HB2.out.size))
  have HXl3 : X < w3.heap.size := (Array.getElem?_eq_some_iff.1 hk3).1
  have HJOK := Lib.hid hok
  have hb4 := (Below.refl w3.heap.size w3).alloc (Nat.le_refl _) (keyO jf jm je js)
  have hy4 := heap_alloc_new w3 (keyO jf jm je js)
  obtain ⟨Y, hY⟩ : ∃ Y, w3.heap.size = Y := ⟨_, rfl⟩
  obtain ⟨w4, hw4⟩ : ∃ w4, w3.alloc (keyO jf jm je js) = w4 := ⟨_, rfl⟩
  rw [hw4] at hb4 hy4
  rw [hY] at hy4
  have hk4 := (hb4.block X HXl3).trans hk3
  have HB4 := Lib.hid (HB3.out.trans (hb4.mono HB3.out.size))
  have HY := Lib.hid hY; have HW4 := Lib.hid hw4; have HK4 := Lib.hid hk4; have HY4 := Lib.hid hy4
  clear hB3 hk3 hb4 hy4 hY hw4 hk4 hok C2 HXl3
  trace "4"
  go_upto_if 58 with fail
  rw [HW4.out]
  try rw [HY.out]
  trace "5"
  go_cut [] (fun wx => ∃ kf km ke ks, Hid (KeyOk kf km ke ks) ∧ Hid (wx.heap[X]? = some (keyO kf km ke ks)) ∧ Hid (Below w.heap.size w wx))
  case first =>
    by_cases hcd : cd = 0
    · have hok := HJOK.out hcd
      have HOK := Lib.hid hok
      have hcb : (cd == 0) = true := by simp [hcd]
      clear hok HJOK hcd
      obtain ⟨x0, x1, x2, x3, f0, f1, f2, f3⟩ := key_cells HK4.out
      obtain ⟨y0, y1, y2, y3, _, _, _, _⟩ := key_cells HY4.out
      trace "6"
      go_wp2_with fail
      go_meet
      exact ⟨jf, jm, je, js, HOK, Lib.hid (over_key HK4.out _ _ _ _), Lib.hid (HB4.out.trans (over_keyB hwX _ _ _ _))⟩
    · have hcb : (cd == 0) = false := by simp [hcd]
      clear hcd HJOK
      trace "7"
      go_wp2_with fail
      go_meet
      exact ⟨257, 66013, 3, 43667, Lib.hid (ok_own (.inr rfl)), HK4, HB4⟩
  case rest =>
    obtain ⟨kf, km, ke, ks, HOK, HK5, HB5⟩ := hcut
    clear HB4 HK4 HY4 HW4 HY HJOK HB3 HB2 HK2 HW2 HX HXl
    obtain ⟨sg, cs, hsr, hcs⟩ := sr_all kf km ke ks sn L bg en
    have CS := Lib.hid (sign.sign_any kf km ke ks sn a n c L bg en wc HN.out (HR.out.below HB5.out rfl) HO.out (by omega) HBK.out (by omega))
    rw [hsr] at CS
    have HCS := Lib.hid hcs
    have HXl : X < wc.heap.size := (Array.getElem?_eq_some_iff.1 HK5.out).1
    obtain ⟨x0, x1, x2, x3, f0, f1, f2, f3⟩ := key_cells HK5.out
    clear hsr hcs
    trace "8"
    go_wp2_with fail
    refine CS.out.mono ?_
    rintro e6 w6 ⟨rfl, hB6⟩
    clear x0 x1 x2 x3 f0 f1 f2 f3 CS
    have hk6 := (hB6.block X HXl).trans HK5.out
    have HB6 := Lib.hid (HB5.out.trans (hB6.mono HB5.out.size))
    have HXl6 : X < w6.heap.size := (Array.getElem?_eq_some_iff.1 hk6).1
    have hb7 := (Below.refl w6.heap.size w6).alloc (Nat.le_refl _) (recO sg)
    have hz7 := heap_alloc_new w6 (recO sg)
    obtain ⟨Z, hZ⟩ : ∃ Z, w6.heap.size = Z := ⟨_, rfl⟩
    obtain ⟨w7, hw7⟩ : ∃ w7, w6.alloc (recO sg) = w7 := ⟨_, rfl⟩
    rw [hw7] at hb7 hz7
    rw [hZ] at hz7
    have hXZ : X < Z := by rw [← hZ]; exact HXl6
    have hk7 := (hb7.block X HXl6).trans hk6
    have HB7 := Lib.hid (HB6.out.trans (hb7.mono HB6.out.size))
    have hZ7 : Z < w7.heap.size := (Array.getElem?_eq_some_iff.1 hz7).1
    have HZ := Lib.hid hZ; have HW7 := Lib.hid hw7; have HK7 := Lib.hid hk7; have HZ7 := Lib.hid hz7
    clear hB6 hk6 hb7 hz7 hZ hw7 hk7 HXl6 HXl
    trace "9"
    go_upto_region 8 with fail
    rw [HW7.out]
    try rw [HZ.out]
    clear HW7 HZ HB6 HB5 HK5
    by_cases hc0 : cs = 0
    case neg =>
      have hcb : (cs == 0) = false := by simp [hc0]
      have hcb2 : (cs != 0) = true := by simp [hc0]
      have hsg : sg = ⟨⟨#[]⟩, 0, 0, 0, ⟨#[]⟩⟩ := by
        rcases HCS.out with ⟨_, h⟩ | ⟨h, _⟩
        · exact h
        · exact absurd h hc0
      subst hsg
      obtain ⟨z0, z1, z2, z3, z4, _⟩ := signSet.cells5 HZ7.out
      clear hc0 HCS
      trace "10"
      go_wp2_with fail
      go_ret
      exact ⟨rfl, HB7.out⟩
    case pos =>
      obtain ⟨hr1, hs1, ht1, hset, x1, h01, hwi, hsg⟩ : rightB kf km ke ks = true ∧ isB sn = true ∧ ¬ (bg < 0 ∨ en < bg ∨ 4294967295 < en) ∧ setB L = true ∧ ∃ x, L[0]? = some x ∧ refB.withinS x.o.data.toList sn.data.toList = true ∧ sg = ⟨x.o, 46, 1, x.l, ⟨(sigD kf km ke ks sn.data.toList x L bg en).toArray⟩⟩ := by
        rcases HCS.out with ⟨h, _⟩ | ⟨_, h⟩
        · exact absurd hc0 h
        · exact h
      have HFIT := Lib.hid (fun (L1 : List Rc) (hp : L1.Perm L) => fits_rounds (now := now) ag HOK.out hs1 ht1 hset h01 hwi hsg hp)
      have HSG : Hid (OkR sg) := Lib.hid (by rw [hsg]; exact sig_ok (HO.out x1 (List.mem_of_getElem? h01)))
      have hn0 : 1 ≤ n := by rw [HN.out]; exact Nat.lt_of_lt_of_le Nat.zero_lt_one (by have := (List.getElem?_eq_some_iff.1 h01).1; omega)
      have hane : a ≠ none := fun h => by have := (HNIL.out h).1; have := HN.out; omega
      obtain ⟨ad, rfl⟩ := Option.ne_none_iff_exists'.1 hane
      obtain ⟨i0, hif, hz0, hz1, hz2⟩ := info_parts infoRec
      have S1 : Hid (∀ (j : Nat) (u : Value), (L.flatMap Rc.cells)[j]? = some u → w7.cell? (ad.add j) = some u) := Lib.hid (by
        rcases cells_rd Rc.cells 5 (by decide) (fun _ => rfl) (HR.out.below HB7.out rfl) c (fun h => by cases h) with ⟨h, _⟩ | ⟨ad', h1, h2⟩
        · cases h
        · cases h1; exact h2)
      obtain ⟨LO, hLO⟩ : ∃ LO, w7.heap.size = LO := ⟨_, rfl⟩
      have HLO := Lib.hid hLO
      have hZL : Z < LO := by rw [← hLO]; exact hZ7
      have hXL : X < LO := by omega
      have hwL : w.heap.size ≤ LO := by omega
      have HSETN := Lib.hid hset
      clear hr1 hs1 ht1 hset h01 hwi hsg hane HCS hZ7 hLO
      subst hc0
      trace "11"
      go_wp2_with (at_builtin; go_loud (refine wpList_append_src rfl _ _ 22 rfl LO 34 i0 _ 5 56 Tryz.underlying22 hif hz0 hz1 hz2 rfl (by decide) _ 0 [] rfl (World.ownsRow_nil _ _ _ _) (some ad) n c (L.flatMap Rc.cells) rfl (by rw [flat_len Rc.cells 5 (fun _ => rfl), HN.out]) (.inr ⟨ad, rfl, S1.out⟩) (one_cells rec_one) (by unfold maxLen; omega) (by omega) (by rw [HLO.out]; exact Nat.le_refl _) ?_))
      intro v' w8 hown hgr
      have hB8 : Below w7.heap.size w7 w8 := (Below.refl _ w7).grown hgr (Nat.le_refl _) (by intro k hk; simp [Value.ownBlock] at hk)
      have ho : w8.ownsRow LO 34 5 v' n (L.flatMap Rc.cells) := by first | exact hown | simpa using hown
      obtain ⟨g, cap, rfl, hgL, _, _, _, _⟩ := own_at ho hn0
      have HLS : Hid (LS X Z LO g cap n kf km ke ks sg w w8 L) := Lib.hid ⟨ho, (hB8.block X (by rw [HLO.out]; exact hXL)).trans HK7.out, (hB8.block Z (by rw [HLO.out]; exact hZL)).trans HZ7.out, HB7.out.trans (hB8.mono HB7.out.size), hXL, hZL, hwL, hgL, HN.out.symm⟩
      have HPM : Hid (L.Perm L) := Lib.hid (List.Perm.refl _)
      clear hown hgr hB8 ho hgL HK7 HZ7 HB7 S1 hif hz0 hz1 hz2 HLO
      trace "12"
      go_wp2_with fail
      go_loopg [30, 78] (tn + 1) (fun gas _ kv wr => ∃ (k : Nat) (L1 : List Rc), kv = .int .i64 (k : Int) ∧ k ≤ tn ∧ k + gas = tn + 1 ∧ Hid (LS X Z LO g cap n kf km ke ks sg w wr L1) ∧ Hid (L1.Perm L))
      case atStart => exact ⟨0, L, rfl, by omega, by omega, HLS, HPM⟩
      case round =>
        clear HLS HPM
        obtain ⟨k, L1, rfl, hk, hkg, HLS, HPM⟩ := hrel
        have HK := Lib.hid hkg; clear hkg
        by_cases hlt : k < tn
        · have hlI : (k : Int) < (tn : Int) := by omega
          obtain ⟨x, hx⟩ : ∃ x, T[k]? = some x := ⟨_, List.getElem?_eq_getElem (by rw [← HTN.out]; exact hlt)⟩
          obtain ⟨gt, ot, hta, hgt, hcell⟩ := HTR.out k x hx
          have hcx : wr.cell? ⟨gt, ot + k, none⟩ = some (.int .i64 x) := (HLS.out.bel.cell (p := ⟨gt, ot + k, none⟩) hgt).trans hcell
          subst hta
          obtain ⟨hc1, hc2⟩ := HLS.out.caps
          unfold maxLen at hc2
          clear hx hcell hgt
          by_cases hsw : 1 ≤ x ∧ x < (n : Int)
          · obtain ⟨q1, q2⟩ := hsw
            obtain ⟨J, rfl⟩ : ∃ J : Nat, x = J := ⟨x.toNat, by omega⟩
            have hJ : 1 ≤ J := by omega
            have hJn : J < n := by omega
            obtain ⟨y, hy⟩ : ∃ y, L1[J]? = some y := ⟨_, List.getElem?_eq_getElem (by rw [HLS.out.len]; exact hJn)⟩
            obtain ⟨z, hz⟩ : ∃ z, L1[0]? = some z := ⟨_, List.getElem?_eq_getElem (by rw [HLS.out.len]; omega)⟩
            have HSW : Hid (LS X Z LO g cap n kf km ke ks sg w ((wr.setCells g (0 * 5) y.cells).setCells g (J * 5) z.cells) ((L1.set 0 y).set J z)) := Lib.hid ((HLS.out.put (by omega) y).put hJn z)
            have HP1 : Hid (((L1.set 0 y).set J z).Perm L) := Lib.hid ((swap_perm hz hy hJ).trans HPM.out)
            obtain ⟨y0, y1, y2, y3, y4, hfz⟩ := HLS.out.at hy
            obtain ⟨z0, z1, z2, z3, z4, _⟩ := HLS.out.at hz
            simp only [Nat.zero_mul, Nat.zero_add] at z0 z1 z2 z3 z4
            have a0 := hfz 0; have a1 := hfz 1; have a2 := hfz 2; have a3 := hfz 3; have a4 := hfz 4
            have b0 := hfz (J * 5); have b1 := hfz (J * 5 + 1); have b2 := hfz (J * 5 + 2); have b3 := hfz (J * 5 + 3); have b4 := hfz (J * 5 + 4)
            clear hy hz hfz HLS HPM
            trace "13"
            go_upto_region 15 with fail
            trace "14"
            go_region
            generalize hwS : World.drew _ = wS
            have HS1 : Hid (LS X Z LO g cap n kf km ke ks sg w wS ((L1.set 0 y).set J z)) := Lib.hid (by rw [← hwS]; exact HSW.out.below ((Below.refl _ _).drew))
            clear HSW hwS y0 y1 y2 y3 y4 z0 z1 z2 z3 z4 a0 a1 a2 a3 a4 b0 b1 b2 b3 b4 hcx
            trace "15"
            go_wp2_with fail
            have hkg := HK.out
            go_roundg (gk - 1)
            case rel => exact ⟨k + 1, _, by go_num, by omega, by omega, HS1, HP1⟩
            case measure => omega
          · clear hc1 hc2
            trace "16"
            by_cases q1 : 1 ≤ x
            · have q2 : ¬ x < (n : Int) := fun h => hsw ⟨q1, h⟩
              clear hsw
              go_wp2_with fail
              have hkg := HK.out
              go_roundg (gk - 1)
              case rel => exact ⟨k + 1, L1, by go_num, by omega, by omega, HLS, HPM⟩
              case measure => omega
            · clear hsw
              go_wp2_with fail
              have hkg := HK.out
              go_roundg (gk - 1)
              case rel => exact ⟨k + 1, L1, by go_num, by omega, by omega, HLS, HPM⟩
              case measure => omega
        · have hke : k = tn := by omega
          subst hke
          have hlI : ¬ (k : Int) < (k : Int) := by omega
          clear hlt hk HK HTN HTR
          obtain ⟨hc1, hc2⟩ := HLS.out.caps
          unfold maxLen at hc2
          have HU0 : Hid (LS X Z LO g cap n kf km ke ks sg w wr (upTo ag 0 L1)) := Lib.hid (by rw [upTo_zero]; exact HLS.out)
          have HL1 := Lib.hid (HLS.out.len)
          have HOU := Lib.hid (fun x (h : x ∈ L1) => HO.out x (HPM.out.mem_iff.1 h))
          clear HLS
          trace "17"
          go_wp2_with fail
          go_loopg [31, 105] (n + 1) (fun gas _ kv wr => ∃ k : Nat, kv = .int .i64 (k : Int) ∧ k ≤ n ∧ k + gas = n + 1 ∧ Hid (LS X Z LO g cap n kf km ke ks sg w wr (upTo ag k L1)))
          case atStart => exact ⟨0, rfl, by omega, by omega, HU0⟩
          case round =>
            clear HU0 hlI
            obtain ⟨k, rfl, hk, hkg, HLS⟩ := hrel
            have HK := Lib.hid hkg; clear hkg
            by_cases hlt : k < n
            · have hlI : (k : Int) < (n : Int) := by omega
              obtain ⟨x, hx⟩ : ∃ x, L1[k]? = some x := ⟨_, List.getElem?_eq_getElem (by rw [HL1.out]; exact hlt)⟩
              have HX := Lib.hid hx
              obtain ⟨y0, _, _, _, _, hfz⟩ := HLS.out.at (upTo_at (ag := ag) hx)
              have a0 := hfz (k * 5)
              have CU := Lib.hid (upper.upper_any x.o wr (by have := (HOU.out x (List.mem_of_getElem? hx)).o; unfold maxLen; omega))
              obtain ⟨US, hUS⟩ : ∃ US : ByteArray, (⟨(upper.upL x.o.data.toList).toArray⟩ : ByteArray) = US := ⟨_, rfl⟩
              rw [hUS] at CU
              have HUS := Lib.hid hUS
              clear hx hfz hUS
              trace "20"
              go_wp2_with fail
              refine CU.out.mono ?_
              rintro e9 w9 ⟨rfl, hB9⟩
              have HL9 := Lib.hid (HLS.out.below hB9)
              obtain ⟨y0, _, _, y3, _, hfz⟩ := HL9.out.at (upTo_at (ag := ag) HX.out)
              have a0 := hfz (k * 5)
              have HLA := Lib.hid (HL9.out.fld (k := k) (i := 0) (y := ownX x) (v := .string US) (upTo_at (ag := ag) HX.out) (by omega) (by unfold ownX; rw [HUS.out]; rfl))
              clear hB9 CU HLS y3 hfz
              trace "21"
              go_upto_region 21 with fail
              obtain ⟨wA, hwA⟩ : ∃ wA, w9.setCell ⟨g, k * 5, none⟩ (.string US) = wA := ⟨_, rfl⟩
              have hlA : LS X Z LO g cap n kf km ke ks sg w wA ((upTo ag k L1).set k (ownX x)) := by rw [← hwA]; exact HLA.out
              rw [hwA]
              have HLB := Lib.hid hlA
              clear HLA hlA hwA HL9 y0 a0
              have hxk : ((upTo ag k L1).set k (ownX x))[k]? = some (ownX x) := by rw [List.getElem?_set_self]; rw [upTo_len, HL1.out]; exact hlt
              trace "22"
              by_cases hA : 0 ≤ ag ∧ ag ≤ 2147483647
              · obtain ⟨q1, q2⟩ := hA
                obtain ⟨_, _, _, y3, _, hfz⟩ := HLB.out.at hxk
                have a3 := hfz (k * 5 + 3)
                have HLC := Lib.hid (HLB.out.fld (k := k) (i := 3) (y := markX ag x) (v := .int .i64 ag) hxk (by omega) (mark_yes ⟨q1, q2⟩ x))
                clear hxk hfz HLB
                go_upto_region 23 with fail
                obtain ⟨wD, hwD⟩ : ∃ wD, wA.setCell ⟨g, k * 5 + 3, none⟩ (.int .i64 ag) = wD := ⟨_, rfl⟩
                have hlD : LS X Z LO g cap n kf km ke ks sg w wD (upTo ag (k + 1) L1) := by
                  rw [← hwD]
                  have := HLC.out
                  rw [List.set_set, upTo_succ HX.out] at this
                  exact this
                rw [hwD]
                have HLD := Lib.hid hlD
                clear HLC hlD hwD y3 a3
                trace "23"
                go_wp2_with fail
                have hkg := HK.out
                go_roundg (gk - 1)
                case rel => exact ⟨k + 1, by go_num, by omega, by omega, HLD⟩
                case measure => omega
              · have HLD : Hid (LS X Z LO g cap n kf km ke ks sg w wA (upTo ag (k + 1) L1)) := Lib.hid (by
                  have := HLB.out
                  rw [← mark_no hA x, upTo_succ HX.out] at this
                  exact this)
                clear hxk HLB
                trace "24"
                by_cases q1 : 0 ≤ ag
                · have q2 : ¬ ag ≤ 2147483647 := fun h => hA ⟨q1, h⟩
                  clear hA
                  go_wp2_with fail
                  have hkg := HK.out
                  go_roundg (gk - 1)
                  case rel => exact ⟨k + 1, by go_num, by omega, by omega, HLD⟩
                  case measure => omega
                · clear hA
                  go_wp2_with fail
                  have hkg := HK.out
                  go_roundg (gk - 1)
                  case rel => exact ⟨k + 1, by go_num, by omega, by omega, HLD⟩
                  case measure => omega
            · have hke : k = n := by omega
              have hlI : ¬ (k : Int) < (n : Int) := by omega
              have HLE : Hid (LS X Z LO g cap n kf km ke ks sg w wr (L1.map (markX ag))) := Lib.hid (by
                have := HLS.out
                rw [hke, ← HL1.out, upTo_all] at this
                rw [← HL1.out]
                exact this)
              have HKE := Lib.hid hke
              clear hlt hk HK HLS hke
              obtain ⟨US, hUS⟩ : ∃ US : ByteArray, (⟨(upper.upL sn.data.toList).toArray⟩ : ByteArray) = US := ⟨_, rfl⟩
              obtain ⟨PS, hPS⟩ : ∃ PS : ByteArray, (⟨(pubS kf km ke ks).toArray⟩ : ByteArray) = PS := ⟨_, rfl⟩
              have hus : US.size ≤ 1099511627776 := by rw [← hUS, up_size]; omega
              have hps : PS.size ≤ 1099511627776 := by rw [← hPS, size_of]; have := pub_len kf km ke ks; omega
              have CU := Lib.hid (fun (wx : World) => upper.upper_any sn wx (by unfold maxLen; omega))
              have CP := Lib.hid (fun (wx : World) => pub_any kf km ke ks wx)
              rw [hUS] at CU
              rw [hPS] at CP
              have hvr : VerC (L1.map (markX ag)) sg US.data.toList PS.data.toList now = if now < bg then 25 else if en < now then 25 else 0 := by rw [← hUS, ← hPS]; exact HFIT.out L1 HPM.out
              obtain ⟨RV, hRV⟩ : ∃ RV, VerC (L1.map (markX ag)) sg US.data.toList PS.data.toList now = RV := ⟨_, rfl⟩
              have CV := Lib.hid (fun (wx : World) (hB : Below wr.heap.size wr wx) => verify.verify_any (some ⟨g, 0, none⟩) n cap (L1.map (markX ag)) sg US PS now wx (by rw [List.length_map, HL1.out]) ((HLE.out.below hB).rd hn0) (fun x hx => by obtain ⟨y, hy, rfl⟩ := List.mem_map.1 hx; exact ok_mark ag (HOU.out y hy)) (by omega) (by rw [mark_fold, bulk_perm (HPM.out.map foldX)]; exact HBK.out) HSG.out hus hps)
              rw [hRV] at CV
              have HRV : Hid (RV = if now < bg then 25 else if en < now then 25 else 0) := Lib.hid (hRV.symm.trans hvr)
              obtain ⟨x0, x1, x2, x3, z0, z1, z2, z3, z4⟩ := HLE.out.keys
              have hS0 : wr.drew.cell? ⟨X, 0, none⟩ = some (.int .i64 kf) ∧ wr.drew.cell? ⟨X, 1, none⟩ = some (.int .i64 km) ∧ wr.drew.cell? ⟨X, 2, none⟩ = some (.int .i64 ke) ∧ wr.drew.cell? ⟨X, 3, none⟩ = some (.int .i64 ks) ∧ wr.drew.cell? ⟨Z, 0, none⟩ = some (.string sg.o) ∧ wr.drew.cell? ⟨Z, 1, none⟩ = some (.int .i64 sg.t) ∧ wr.drew.cell? ⟨Z, 2, none⟩ = some (.int .i64 sg.c) ∧ wr.drew.cell? ⟨Z, 3, none⟩ = some (.int .i64 sg.l) ∧ wr.drew.cell? ⟨Z, 4, none⟩ = some (.string sg.d) ∧ Below wr.heap.size wr wr.drew := ⟨x0, x1, x2, x3, z0, z1, z2, z3, z4, (Below.refl _ _).drew⟩
              clear hUS hPS hvr hRV x0 x1 x2 x3 z0 z1 z2 z3 z4
              trace "25"
              go_upto_region 24 with fail
              go_region_held3 (fun w' => w'.cell? ⟨X, 0, none⟩ = some (.int .i64 kf) ∧ w'.cell? ⟨X, 1, none⟩ = some (.int .i64 km) ∧ w'.cell? ⟨X, 2, none⟩ = some (.int .i64 ke) ∧ w'.cell? ⟨X, 3, none⟩ = some (.int .i64 ks) ∧ w'.cell? ⟨Z, 0, none⟩ = some (.string sg.o) ∧ w'.cell? ⟨Z, 1, none⟩ = some (.int .i64 sg.t) ∧ w'.cell? ⟨Z, 2, none⟩ = some (.int .i64 sg.c) ∧ w'.cell? ⟨Z, 3, none⟩ = some (.int .i64 sg.l) ∧ w'.cell? ⟨Z, 4, none⟩ = some (.string sg.d) ∧ Below wr.heap.size wr w') (first | assumption | (refine ⟨?_, ?_, ?_, ?_, ?_, ?_, ?_, ?_, ?_, ?_⟩ <;> assumption))
                (first
                  | (go_at_call 16; refine (CV.out _ (‹_ ∧ _ ∧ _ ∧ _ ∧ _ ∧ _ ∧ _ ∧ _ ∧ _ ∧ Below _ _ _›).2.2.2.2.2.2.2.2.2).mono ?_; rintro e w' ⟨rfl, hBz⟩; have hSz := k9 (by assumption) hBz; clear hBz)
                  | (go_at_call 19; refine (CU.out _).mono ?_; rintro e w' ⟨rfl, hBz⟩; have hSz := k9 (by assumption) hBz; clear hBz)
                  | (go_at_call 20; refine (CP.out _).mono ?_; rintro e w' ⟨rfl, hBz⟩; have hSz := k9 (by assumption) hBz; clear hBz))
              trace "26"
              have HBF := Lib.hid (HLE.out.bel.trans (hSz.2.2.2.2.2.2.2.2.2.mono HLE.out.bel.size))
              clear hSz hS0 CV CU CP HLE
              by_cases c1 : now < bg
              · have hv : RV = 25 := by rw [HRV.out, if_pos c1]
                subst hv
                clear HRV
                go_wp2_with fail
                go_ret
                exact ⟨rfl, HBF.out⟩
              · by_cases c2 : en < now
                · have hv : RV = 25 := by rw [HRV.out, if_neg c1, if_pos c2]
                  subst hv
                  clear HRV
                  go_wp2_with fail
                  go_ret
                  exact ⟨rfl, HBF.out⟩
                · have hv : RV = 0 := by rw [HRV.out, if_neg c1, if_neg c2]
                  subst hv
                  clear HRV
                  go_wp2_with fail
                  go_ret
                  exact ⟨rfl, HBF.out⟩
end Go.Proofs.YtflijhodlimjoaaGreat.sealRounds
namespace Go.Proofs.YtflijhodlimjoaaGreat.sstarsP
open Go.RowKit Go.Proofs.YtflijhodlimjoaaGreat.kit Go.Proofs.YtflijhodlimjoaaGreat.nspec Go.Proofs.YtflijhodlimjoaaGreat.rsplit Go.Proofs.YtflijhodlimjoaaGreat.low Go.Proofs.YtflijhodlimjoaaGreat.refA Go.Proofs.YtflijhodlimjoaaGreat.refB Go.Proofs.YtflijhodlimjoaaGreat.right Go.Proofs.YtflijhodlimjoaaGreat.star Go.Proofs.YtflijhodlimjoaaGreat.join Go.Proofs.YtflijhodlimjoaaGreat.sealA Go.Proofs.YtflijhodlimjoaaGreat.sealS Go.Proofs.YtflijhodlimjoaaGreat.sealP Go.Proofs.YtflijhodlimjoaaGreat.big Go.Proofs.YtflijhodlimjoaaGreat.val Go.Proofs.YtflijhodlimjoaaGreat.pub Go.Proofs.YtflijhodlimjoaaGreat.half Go.Proofs.YtflijhodlimjoaaGreat.tag Go.Proofs.YtflijhodlimjoaaGreat.wireP Go.Proofs.YtflijhodlimjoaaGreat.wireM Go.Proofs.YtflijhodlimjoaaGreat.sortT Go.Proofs.YtflijhodlimjoaaGreat.fld Go.Proofs.YtflijhodlimjoaaGreat.signP Go.Proofs.YtflijhodlimjoaaGreat.opens Go.Proofs.YtflijhodlimjoaaGreat.verP Go.Proofs.YtflijhodlimjoaaGreat.fitsS Go.Proofs.YtflijhodlimjoaaGreat.sroundsP Go.Proofs.YtflijhodlimjoaaGreat.sroundsM
set_option linter.unusedVariables false

/-- what is signed fits as it stands -/
theorem fits_self {kf km ke ks : Int} {sn : ByteArray} {L : List Rc} {x sg : Rc} {fr un now : Int} (hk : KeyOk kf km ke ks) (hsn : isB sn = true) (htm : ¬ (fr < 0 ∨ un < fr ∨ 4294967295 < un)) (hs : setB L = true) (h0 : L[0]? = some x) (hw : withinS x.o.data.toList sn.data.toList = true) (hsg : sg = ⟨x.o, 46, 1, x.l, ⟨(sigD kf km ke ks sn.data.toList x L fr un).toArray⟩⟩) :
    VerC L sg sn.data.toList (pubS kf km ke ks) now = if now < fr then 25 else if un < now then 25 else 0 := by
  obtain ⟨lsn, hlsn⟩ := isB_is hsn
  obtain ⟨⟨lx, hx⟩, _⟩ := set_first hs h0
  refine fits (L := L) (L' := L) (h := x) (h' := x) hk.1 hsn htm hs h0 hk.2 (by rw [hsg]) (by rw [hsg]; exact sig_zon hk.1 hsn hs h0) (by rw [hsg]) hs h0 rfl rfl ?_ ?_ (by omega) own_self ?_
  · rw [hsg]; exact equal_of hx hx rfl
  · exact within_eq hx hx hlsn (fold_isN hlsn) rfl (fold_fold hlsn).symm hw
  · exact equal_of hlsn (fold_isN hlsn) (fold_fold hlsn).symm
theorem star_less {s : Bs} {ls : List Bs} (h : IsN (1 :: 42 :: s) ([42] :: ls)) : lessS (1 :: 42 :: s) = ls.length := by
  unfold lessS
  rw [countS_yes h, isStar_yes h]
  simp
theorem full_less {f : Bs} {A ls : List Bs} (h : IsN f (A ++ ls)) (hA : A ≠ []) : (ls.length : Int) ≤ lessS f ∧ (¬ (ls.length : Int) < lessS f → A = [[42]]) := by
  obtain ⟨x, r, rfl⟩ := List.exists_cons_of_ne_nil hA
  unfold lessS
  rw [countS_yes h, isStar_yes (x := x) (r := r ++ ls) h]
  by_cases hx : x = [42]
  · rw [if_pos (by rw [hx]; rfl)]
    simp only [List.cons_append, List.length_cons, List.length_append]
    refine ⟨by omega, fun hn => ?_⟩
    have : r = [] := List.eq_nil_of_length_eq_zero (by omega)
    rw [hx, this]
  · rw [if_neg (by rw [decide_eq_false hx]; decide)]
    simp only [List.cons_append, List.length_cons, List.length_append]
    exact ⟨by omega, fun hn => absurd (by omega) hn⟩
theorem full_own {s f : Bs} {A ls : List Bs} (hn : IsN s ls) (hs : IsN (1 :: 42 :: s) ([42] :: ls)) (hf : IsN f (A ++ ls)) (hA : A ≠ []) : ownS (lessS (1 :: 42 :: s)) f = foldS (1 :: 42 :: s) := by
  rw [star_less hs]
  obtain ⟨h1, h2⟩ := full_less hf hA
  unfold ownS
  by_cases hc : (ls.length : Int) < lessS f
  · rw [if_pos hc, tailS_yes hf, if_pos ⟨by omega, by rw [List.length_append]; omega⟩]
    have e : (A ++ ls).drop ((A ++ ls).length - (ls.length : Int).toNat) = ls := by
      rw [List.length_append, Int.toNat_natCast, Nat.add_sub_cancel, List.drop_left]
    rw [e, ← hn.1]
  · rw [if_neg hc]
    have hA1 := h2 hc
    subst hA1
    have e : f = 1 :: 42 :: s := hf.1.trans hs.1.symm
    rw [e]
def withO (x : Rc) (o : ByteArray) : Rc := ⟨o, x.t, x.c, x.l, x.d⟩
theorem zon_with {x : Rc} {o : ByteArray} (h : zonB x = true) (ho : isB o = true) : zonB (withO x o) = true := by
  obtain ⟨a1, a2, a3, a4, a5⟩ := zon_facts h
  unfold zonB
  simp only [Bool.and_eq_true, decide_eq_true_eq]
  exact ⟨ho, a2, a3, a4, a5⟩
/-- and for what the star stands for -/
theorem fits_star {kf km ke ks : Int} {sn full : ByteArray} {x sg : Rc} {fr un now : Int} {A ls : List Bs} (hk : KeyOk kf km ke ks) (hn : IsN sn.data.toList ls) (htm : ¬ (fr < 0 ∨ un < fr ∨ 4294967295 < un)) (hs : setB [x] = true) (hxo : x.o.data.toList = 1 :: 42 :: sn.data.toList) (hsg : sg = ⟨x.o, 46, 1, x.l, ⟨(sigD kf km ke ks sn.data.toList x [x] fr un).toArray⟩⟩) (hf : IsN full.data.toList (A ++ ls)) (hA : A ≠ []) :
    VerC [withO x full] (withO sg full) sn.data.toList (pubS kf km ke ks) now = if now < fr then 25 else if un < now then 25 else 0 := by
  have hsn : isB sn = true := isB_yes hn
  obtain ⟨hall, hnd⟩ := set_facts (h := x) hs rfl
  obtain ⟨zx, t46, _, _⟩ := one_facts (hall x (List.mem_singleton.2 rfl))
  obtain ⟨lx, hx⟩ := isB_is (zon_facts zx).1
  have hx' := hx
  rw [hxo] at hx'
  have hst : IsN (1 :: 42 :: sn.data.toList) ([42] :: ls) := by
    refine ⟨by rw [hn.1]; rfl, okL_cons.2 ⟨by decide, hn.2.1⟩, ?_⟩
    exact hx'.2.2
  have hfb : isB full = true := isB_yes hf
  refine fits (L := [x]) (L' := [withO x full]) (h := x) (h' := withO x full) hk.1 hsn htm hs rfl hk.2 (by rw [hsg]; rfl) ?_ (by rw [hsg]; rfl) ?_ rfl rfl rfl ?_ ?_ ?_ ?_ ?_
  · refine zon_with ?_ hfb
    rw [hsg]; exact sig_zon hk.1 hsn hs rfl
  · refine set_back (h := withO x full) rfl (fun y hy => ?_) (by simp)
    obtain rfl := List.mem_singleton.1 hy
    exact one_back (zon_with zx hfb) t46 rfl (equal_of hf hf rfl)
  · exact equal_of hf hf rfl
  · refine within_eq hf hf hn (fold_isN hn) rfl (fold_fold hn).symm ?_
    rw [ordl.withinS_iff hf hn, List.map_append, List.reverse_append]
    exact List.prefix_append _ _
  · rw [hxo, star_less hst]
    have := (full_less hf hA).1
    show ¬ lessS full.data.toList < _
    omega
  · rw [hxo]; exact full_own hn hst hf hA
  · exact equal_of hn (fold_isN hn) (fold_fold hn).symm
/-- a star that may own -/
theorem star_is {s : Bs} (h : isB ⟨(starS s).toArray⟩ = true) : starS s = 1 :: 42 :: s := by
  unfold starS at h ⊢
  split at h
  · rw [if_pos (by assumption)]
  · exact absurd h (by decide)
theorem join_is {A : List Bs} (h : (joinS A).2 = 0) : IsN (joinS A).1 A := by
  unfold joinS at h ⊢
  cases hb : badL A with
  | true => rw [hb] at h; simp at h
  | false =>
    rw [hb] at h
    by_cases h2 : 254 < room A
    · rw [if_neg (by simp), if_pos h2] at h; simp at h
    · rw [if_neg (by simp), if_neg h2]
      exact isN_put (bad_ok.1 hb) (by omega)
end Go.Proofs.YtflijhodlimjoaaGreat.sstarsP
namespace Go.Proofs.YtflijhodlimjoaaGreat.sealStars
open Go.RowKit Go.Proofs.YtflijhodlimjoaaGreat.kit Go.Proofs.YtflijhodlimjoaaGreat.timed Go.Proofs.YtflijhodlimjoaaGreat.nspec Go.Proofs.YtflijhodlimjoaaGreat.wireP Go.Proofs.YtflijhodlimjoaaGreat.wireM Go.Proofs.YtflijhodlimjoaaGreat.rows Go.Proofs.YtflijhodlimjoaaGreat.right Go.Proofs.YtflijhodlimjoaaGreat.rsplit Go.Proofs.YtflijhodlimjoaaGreat.star Go.Proofs.YtflijhodlimjoaaGreat.join Go.Proofs.YtflijhodlimjoaaGreat.nameL Go.Proofs.YtflijhodlimjoaaGreat.sealS Go.Proofs.YtflijhodlimjoaaGreat.signP Go.Proofs.YtflijhodlimjoaaGreat.verP Go.Proofs.YtflijhodlimjoaaGreat.pub Go.Proofs.YtflijhodlimjoaaGreat.recsArg Go.Proofs.YtflijhodlimjoaaGreat.keepN Go.Proofs.YtflijhodlimjoaaGreat.sroundsP Go.Proofs.YtflijhodlimjoaaGreat.sroundsM Go.Proofs.YtflijhodlimjoaaGreat.sealRounds Go.Proofs.YtflijhodlimjoaaGreat.sstarsP
set_option linter.unusedVariables false

theorem rd_one {w : World} {G : Nat} {x : Rc} (h : w.heap[G]? = some (recO x)) : RdC w (some ⟨G, 0, none⟩) 5 ([x].map Rc.cells) := by
  intro j y hy
  match j, hy with
  | 0, hy =>
    simp only [List.map_cons, List.map_nil, List.getElem?_cons_zero, Option.some.injEq] at hy
    subst hy
    refine ⟨rfl, G, 0, rfl, (Array.getElem?_eq_some_iff.1 h).1, fun i u hu => ?_⟩
    obtain ⟨c0, c1, c2, c3, c4, _⟩ := signSet.cells5 h
    match i, hu with
    | 0, hu => cases hu; exact c0
    | 1, hu => cases hu; exact c1
    | 2, hu => cases hu; exact c2
    | 3, hu => cases hu; exact c3
    | 4, hu => cases hu; exact c4
theorem src_of {w : World} {a : Option Addr} {m c : Nat} {ls : List Bs} (hr : Rd w a 0 ls) (hm : m = ls.length) (hn : a = none → m = 0 ∧ c = 0) : (a = none ∧ m = 0 ∧ c = 0) ∨ ∃ ad, a = some ad ∧ ∀ (j : Nat) (u : Value), (ls.map strV)[j]? = some u → w.cell? (ad.add j) = some u := by
  cases a with
  | none => exact .inl ⟨rfl, hn rfl⟩
  | some ad =>
    refine .inr ⟨ad, rfl, fun j u hu => ?_⟩
    rw [List.getElem?_map] at hu
    obtain ⟨x, hx, rfl⟩ := Option.map_eq_some_iff.1 hu
    obtain ⟨g, o, e, _, _, hc⟩ := hr j x hx
    cases e
    have hadd : (⟨g, o, none⟩ : Addr).add j = ⟨g, o + j, none⟩ := by unfold Addr.add; split <;> simp_all
    rw [hadd]; exact hc
theorem str_one (ls : List Bs) (u : Value) (h : u ∈ ls.map strV) : u.oneCell' = true := by
  obtain ⟨x, _, rfl⟩ := List.mem_map.1 h
  rfl
theorem len_put (ls : List Bs) : ls.length ≤ (put ls).length := by
  induction ls with
  | nil => simp
  | cons x r ih => simp only [put, List.length_cons, List.length_append]; omega
theorem sv_src {w : World} {v : Value} {base : Nat} {ls : List Bs} (h : SV w v base ls) : ∃ (a : Option Addr) (c : Nat), v = .slice a ls.length c ∧ ((a = none ∧ ls.length = 0 ∧ c = 0) ∨ ∃ ad, a = some ad ∧ ∀ (j : Nat) (u : Value), (ls.map strV)[j]? = some u → w.cell? (ad.add j) = some u) := by
  rcases h with ⟨h1, h2⟩ | ⟨_, g, c, h2, _, _, _, _, h3⟩
  · subst h1; exact ⟨none, 0, h2, .inl ⟨rfl, rfl, rfl⟩⟩
  · refine ⟨some ⟨g, 0, none⟩, c, h2, .inr ⟨_, rfl, fun j u hu => ?_⟩⟩
    rw [List.getElem?_map] at hu
    obtain ⟨x, hx, rfl⟩ := Option.map_eq_some_iff.1 hu
    rw [addr_add]; exact h3 j x hx
theorem own_slc {w : World} {base n : Nat} {v : Value} {ls : List Bs} (hn : n = ls.length) (h : w.ownsRow base 9 1 v n (ls.map strV)) : ∃ a c, v = .slice a ls.length c ∧ ls.length ≤ c ∧ Rd w a 0 ls := by
  subst hn
  obtain ⟨a, c, h1, h2⟩ := Rd.of_own h
  refine ⟨a, c, h1, ?_, h2.mono (Nat.zero_le _)⟩
  rcases h.2 with ⟨h3, h4⟩ | ⟨g, cap, cur, h3, _, _, h5, _⟩
  · omega
  · rw [h1] at h3; cases h3; exact h5
structure WS (X Z G : Nat) (kf km ke ks : Int) (sg x : Rc) (w0 wr : World) : Prop where
  key : wr.heap[X]? = some (keyO kf km ke ks)
  sig : wr.heap[Z]? = some (recO sg)
  rc : wr.heap[G]? = some (recO x)
  bel : Below w0.heap.size w0 wr
section
variable {X Z G : Nat} {kf km ke ks : Int} {sg x : Rc} {w0 wr w1 : World}
theorem WS.below (h : WS X Z G kf km ke ks sg x w0 wr) (hB : Below wr.heap.size wr w1) : WS X Z G kf km ke ks sg x w0 w1 :=
  ⟨(hB.block X (Array.getElem?_eq_some_iff.1 h.key).1).trans h.key, (hB.block Z (Array.getElem?_eq_some_iff.1 h.sig).1).trans h.sig, (hB.block G (Array.getElem?_eq_some_iff.1 h.rc).1).trans h.rc, h.bel.trans (hB.mono h.bel.size)⟩
theorem WS.low {LO : Nat} (h : WS X Z G kf km ke ks sg x w0 wr) (hB : Below LO wr w1) (hX : X < LO) (hZ : Z < LO) (hG : G < LO) (hw : w0.heap.size ≤ LO) : WS X Z G kf km ke ks sg x w0 w1 :=
  ⟨(hB.block X hX).trans h.key, (hB.block Z hZ).trans h.sig, (hB.block G hG).trans h.rc, h.bel.trans (hB.mono hw)⟩
theorem WS.owners (h : WS X Z G kf km ke ks sg x w0 wr) (o : ByteArray) (hXG : X ≠ G) (hXZ : X ≠ Z) (hGZ : G ≠ Z) (hG : w0.heap.size ≤ G) (hZ : w0.heap.size ≤ Z) : WS X Z G kf km ke ks (withO sg o) (withO x o) w0 ((wr.setCell ⟨G, 0, none⟩ (.string o)).setCell ⟨Z, 0, none⟩ (.string o)) := by
  refine ⟨?_, ?_, ?_, (h.bel.setCell (p := ⟨G, 0, none⟩) hG _).setCell (p := ⟨Z, 0, none⟩) hZ _⟩
  · rw [Below.heap_setCell _ ⟨Z, 0, none⟩ _ X hXZ, Below.heap_setCell _ ⟨G, 0, none⟩ _ X hXG]; exact h.key
  · have h1 : (wr.setCell ⟨G, 0, none⟩ (.string o)).heap[Z]? = some (recO sg) := by rw [Below.heap_setCell _ ⟨G, 0, none⟩ _ Z hGZ.symm]; exact h.sig
    have h2 := sign.over_heap h1 (.string o) (.int .i64 sg.t) (.int .i64 sg.c) (.int .i64 sg.l) (.string sg.d)
    simp [World.setCell, Array.getElem?_modify, withO] at h1 ⊢
    exact ⟨_, h1, by simp⟩
  · rw [Below.heap_setCell _ ⟨Z, 0, none⟩ _ G hGZ]
    have h1 := h.rc
    simp [World.setCell, Array.getElem?_modify, withO, h1]
theorem WS.cells (h : WS X Z G kf km ke ks sg x w0 wr) : wr.cell? ⟨X, 0, none⟩ = some (.int .i64 kf) ∧ wr.cell? ⟨X, 1, none⟩ = some (.int .i64 km) ∧ wr.cell? ⟨X, 2, none⟩ = some (.int .i64 ke) ∧ wr.cell? ⟨X, 3, none⟩ = some (.int .i64 ks) ∧ wr.cell? ⟨Z, 0, none⟩ = some (.string sg.o) ∧ wr.cell? ⟨Z, 1, none⟩ = some (.int .i64 sg.t) ∧ wr.cell? ⟨Z, 2, none⟩ = some (.int .i64 sg.c) ∧ wr.cell? ⟨Z, 3, none⟩ = some (.int .i64 sg.l) ∧ wr.cell? ⟨Z, 4, none⟩ = some (.string sg.d) := by
  obtain ⟨a0, a1, a2, a3, _⟩ := key_cells h.key
  obtain ⟨b0, b1, b2, b3, b4, _⟩ := signSet.cells5 h.sig
  exact ⟨a0, a1, a2, a3, b0, b1, b2, b3, b4⟩
end
set_option maxRecDepth 100000 in
set_option maxHeartbeats 2400000 in
theorem sealStars_any (p q e : Int) (sn : ByteArray) (aa : Option Addr) (am ac : Nat) (A : List Bs) (t : Int) (d : ByteArray) (w : World) (hpw : (Lit.int .i64 p).wf = true) (hqw : (Lit.int .i64 q).wf = true) (hew : (Lit.int .i64 e).wf = true) (hsn : sn.size ≤ 1048576) (har : Rd w aa 0 A) (ham : am = A.length) (han : aa = none → am = 0 ∧ ac = 0) (hac : am ≤ ac) (hab : sn.size + am ≤ 1048576) (htw : (Lit.int .i64 t).wf = true) (hd : d.size ≤ 1048576) :
    Calls Tryz.prog 7 #[.int .i64 p, .int .i64 q, .int .i64 e, .string sn, .slice aa am ac, .int .i64 t, .string d] w fun e w' => e = .returned (.bool true) ∧ Below w.heap.size w w' := by
  have HAR := Lib.hid har; have HAM := Lib.hid ham; have HAN := Lib.hid han
  have C1 := Lib.hid (key_own 256 (.inl rfl) w)
  clear hpw hqw hew har ham han hac htw
  go_enter Tryz.func7, Tryz.ntmps7
  go_wp2_with fail
  refine C1.out.mono ?_
  rintro e1 w1 ⟨rfl, hB1⟩
  clear C1
  have HB1 := Lib.hid hB1
  have hb2 := (Below.refl w1.heap.size w1).alloc (Nat.le_refl _) (keyO 256 66013 3 43667)
  have hk2 := heap_alloc_new w1 (keyO 256 66013 3 43667)
  obtain ⟨X, hX⟩ : ∃ X, w1.heap.size = X := ⟨_, rfl⟩
  obtain ⟨w2, hw2⟩ : ∃ w2, w1.alloc (keyO 256 66013 3 43667) = w2 := ⟨_, rfl⟩
  rw [hw2] at hb2 hk2
  rw [hX] at hk2
  have hwX : w.heap.size ≤ X := by rw [← hX]; exact hB1.size
  have HB2 := Lib.hid (HB1.out.trans (hb2.mono HB1.out.size))
  have HX := Lib.hid hX; have HW2 := Lib.hid hw2; have HK2 := Lib.hid hk2
  clear hB1 hb2 hk2 hX hw2
  trace "1"
  go_upto_region 2 with fail
  rw [HW2.out]
  try rw [HX.out]
  have C2 := Lib.hid (key_two p q e 256 w2)
  have HXl : X < w2.heap.size := (Array.getElem?_eq_some_iff.1 HK2.out).1
  trace "3"
  go_wp2_with fail
  refine C2.out.mono ?_
  rintro e3 w3 ⟨hB3, jf, jm, je, js, cd, rfl, hok⟩
  have hk3 := (hB3.block X HXl).trans HK2.out
  have HB3 := Lib.hid (HB2.out.trans (hB3.mono HB2.out.size))
  have HXl3 : X < w3.heap.size := (Array.getElem?_eq_some_iff.1 hk3).1
  have HJOK := Lib.hid hok
  have hb4 := (Below.refl w3.heap.size w3).alloc (Nat.le_refl _) (keyO jf jm je js)
  have hy4 := heap_alloc_new w3 (keyO jf jm je js)
  obtain ⟨Y, hY⟩ : ∃ Y, w3.heap.size = Y := ⟨_, rfl⟩
  obtain ⟨w4, hw4⟩ : ∃ w4, w3.alloc (keyO jf jm je js) = w4 := ⟨_, rfl⟩
  rw [hw4] at hb4 hy4
  rw [hY] at hy4
  have hk4 := (hb4.block X HXl3).trans hk3
  have HB4 := Lib.hid (HB3.out.trans (hb4.mono HB3.out.size))
  have HY := Lib.hid hY; have HW4 := Lib.hid hw4; have HK4 := Lib.hid hk4; have HY4 := Lib.hid hy4
  clear hB3 hk3 hb4 hy4 hY hw4 hk4 hok C2 HXl3
  trace "4"
  go_upto_if 36 with fail
  rw [HW4.out]
  try rw [HY.out]
  trace "5"
  go_cut [] (fun wx => ∃ kf km ke ks, Hid (KeyOk kf km ke ks) ∧ Hid (wx.heap[X]? = some (keyO kf km ke ks)) ∧ Hid (Below w.heap.size w wx))
  case first =>
    by_cases hcd : cd = 0
    · have hok := HJOK.out hcd
      have HOK := Lib.hid hok
      have hcb : (cd == 0) = true := by simp [hcd]
      clear hok HJOK hcd
      obtain ⟨x0, x1, x2, x3, f0, f1, f2, f3⟩ := key_cells HK4.out
      obtain ⟨y0, y1, y2, y3, _, _, _, _⟩ := key_cells HY4.out
      trace "6"
      go_wp2_with fail
      go_meet
      exact ⟨jf, jm, je, js, HOK, Lib.hid (over_key HK4.out _ _ _ _), Lib.hid (HB4.out.trans (over_keyB hwX _ _ _ _))⟩
    · have hcb : (cd == 0) = false := by simp [hcd]
      clear hcd HJOK
      trace "7"
      go_wp2_with fail
      go_meet
      exact ⟨256, 66013, 3, 43667, Lib.hid (ok_own (.inl rfl)), HK4, HB4⟩
  case rest =>
    obtain ⟨kf, km, ke, ks, HOK, HK5, HB5⟩ := hcut
    clear HB4 HK4 HY4 HW4 HY HJOK HB3 HB2 HK2 HW2 HX HXl HB1
    obtain ⟨SS, hSS⟩ : ∃ SS : ByteArray, (⟨(starS sn.data.toList).toArray⟩ : ByteArray) = SS := ⟨_, rfl⟩
    have CT := Lib.hid (nstar_any sn wc (by first | (unfold maxLen; omega) | omega))
    rw [hSS] at CT
    have HSS := Lib.hid hSS
    have hss : SS.size ≤ 1099511627776 := by
      rw [← hSS, size_of]
      unfold starS
      split
      · have h1 : sn.data.toList.length = sn.size := by rw [Array.length_toList]; rfl
        simp only [List.length_cons]; omega
      · simp
    have HXl : X < wc.heap.size := (Array.getElem?_eq_some_iff.1 HK5.out).1
    clear hSS
    trace "8"
    go_wp2_with fail
    refine CT.out.mono ?_
    rintro e6 w6 ⟨rfl, hB6⟩
    clear CT
    have hk6 := (hB6.block X HXl).trans HK5.out
    have HB6 := Lib.hid (HB5.out.trans (hB6.mono HB5.out.size))
    have HXl6 : X < w6.heap.size := (Array.getElem?_eq_some_iff.1 hk6).1
    have HK6 := Lib.hid hk6
    clear hB6 hk6
    trace "9"
    go_upto_region 8 with fail
    obtain ⟨x, hxx⟩ : ∃ x : Rc, x = ⟨SS, t, 1, 60, d⟩ := ⟨_, rfl⟩
    have hb7 := (Below.refl w6.heap.size w6).alloc (Nat.le_refl _) (.cells #[.string SS, .int .i64 t, .int .i64 1, .int .i64 60, .string d] 34)
    have hg7 := heap_alloc_new w6 (.cells #[.string SS, .int .i64 t, .int .i64 1, .int .i64 60, .string d] 34)
    obtain ⟨G, hG⟩ : ∃ G, w6.heap.size = G := ⟨_, rfl⟩
    obtain ⟨w7, hw7⟩ : ∃ w7, w6.alloc (.cells #[.string SS, .int .i64 t, .int .i64 1, .int .i64 60, .string d] 34) = w7 := ⟨_, rfl⟩
    rw [hw7] at hb7 hg7 ⊢
    try rw [hG]
    rw [hG] at hg7
    have hg7' : w7.heap[G]? = some (recO x) := by rw [hxx]; exact hg7
    have hwG : w.heap.size ≤ G := by rw [← hG]; exact HB6.out.size
    have hXG : X < G := by rw [← hG]; exact HXl6
    have hk7 := (hb7.block X HXl6).trans HK6.out
    have HB7 := Lib.hid (HB6.out.trans (hb7.mono HB6.out.size))
    have HXl7 : X < w7.heap.size := (Array.getElem?_eq_some_iff.1 hk7).1
    have HGl7 : G < w7.heap.size := (Array.getElem?_eq_some_iff.1 hg7').1
    have HK7 := Lib.hid hk7; have HG7 := Lib.hid hg7'
    have HXX := Lib.hid hxx
    have HOX : Hid (∀ y ∈ [x], OkR y) := Lib.hid (by intro y hy; obtain rfl := List.mem_singleton.1 hy; rw [hxx]; exact ⟨hss, by show d.size ≤ _; omega⟩)
    obtain ⟨sg, cs, hsr, hcs⟩ := sr_all kf km ke ks sn [x] 0 9
    have CS := Lib.hid (sign.sign_any kf km ke ks sn (some ⟨G, 0, none⟩) 1 1 [x] 0 9 w7 rfl (rd_one hg7') HOX.out (by omega) (by have := bulk_fold [x]; simp only [List.length_cons, List.length_nil] at this; omega) (by omega))
    rw [hsr] at CS
    have HCS := Lib.hid hcs
    obtain ⟨x0, x1, x2, x3, f0, f1, f2, f3⟩ := key_cells hk7
    clear hsr hcs hb7 hg7 hg7' hG hw7 hxx hk7 HK6 HB6 HB5 HK5 HXl HXl6
    trace "10"
    go_wp2_with fail
    refine CS.out.mono ?_
    rintro e8 w8 ⟨rfl, hB8⟩
    clear x0 x1 x2 x3 f0 f1 f2 f3 CS
    have hk8 := (hB8.block X HXl7).trans HK7.out
    have hg8 := (hB8.block G HGl7).trans HG7.out
    have HB8 := Lib.hid (HB7.out.trans (hB8.mono HB7.out.size))
    have hb9 := (Below.refl w8.heap.size w8).alloc (Nat.le_refl _) (recO sg)
    have hz9 := heap_alloc_new w8 (recO sg)
    obtain ⟨Z, hZ⟩ : ∃ Z, w8.heap.size = Z := ⟨_, rfl⟩
    obtain ⟨w9, hw9⟩ : ∃ w9, w8.alloc (recO sg) = w9 := ⟨_, rfl⟩
    rw [hw9] at hb9 hz9
    rw [hZ] at hz9
    have hGZ : G < Z := by rw [← hZ]; exact (Array.getElem?_eq_some_iff.1 hg8).1
    have hk9 := (hb9.block X (Array.getElem?_eq_some_iff.1 hk8).1).trans hk8
    have hg9 := (hb9.block G (Array.getElem?_eq_some_iff.1 hg8).1).trans hg8
    have HB9 := Lib.hid (HB8.out.trans (hb9.mono HB8.out.size))
    have HWS : Hid (WS X Z G kf km ke ks sg x w w9) := Lib.hid ⟨hk9, hz9, hg9, HB9.out⟩
    have HZ := Lib.hid hZ; have HW9 := Lib.hid hw9
    clear hB8 hk8 hg8 hb9 hz9 hZ hw9 hk9 hg9 HK7 HG7 HB7 HXl7 HGl7
    trace "11"
    go_upto_region 9 with fail
    rw [HW9.out]
    try rw [HZ.out]
    clear HW9 HZ HB8
    by_cases hc0 : cs = 0
    case neg =>
      have hcb : (cs == 0) = false := by simp [hc0]
      have hcb2 : (cs != 0) = true := by simp [hc0]
      have hsg : sg = ⟨⟨#[]⟩, 0, 0, 0, ⟨#[]⟩⟩ := by
        rcases HCS.out with ⟨_, h⟩ | ⟨h, _⟩
        · exact h
        · exact absurd h hc0
      subst hsg
      obtain ⟨z0, z1, z2, z3, z4, _⟩ := signSet.cells5 HWS.out.sig
      clear hc0 HCS
      trace "12"
      go_wp2_with fail
      go_ret
      exact ⟨rfl, HB9.out⟩
    case pos =>
      obtain ⟨hr1, hs1, ht1, hset, x1, h01, hwi, hsg⟩ : rightB kf km ke ks = true ∧ isB sn = true ∧ ¬ ((0 : Int) < 0 ∨ (9 : Int) < 0 ∨ (4294967295 : Int) < 9) ∧ setB [x] = true ∧ ∃ y, [x][0]? = some y ∧ refB.withinS y.o.data.toList sn.data.toList = true ∧ sg = ⟨y.o, 46, 1, y.l, ⟨(sigD kf km ke ks sn.data.toList y [x] 0 9).toArray⟩⟩ := by
        rcases HCS.out with ⟨h, _⟩ | ⟨_, h⟩
        · exact absurd hc0 h
        · exact h
      obtain rfl : x = x1 := by simpa using h01
      obtain ⟨ls, hls⟩ := isB_is hs1
      have hlab : labS sn.data.toList = ls := by unfold labS; rw [split_iff.2 hls]
      have hnl : ls.length ≤ sn.size := by
        have h1 : sn.data.toList.length = sn.size := by rw [Array.length_toList]; rfl
        have h2 := len_put ls
        rw [← hls.1] at h2
        omega
      have hxo : x.o.data.toList = 1 :: 42 :: sn.data.toList := by
        have hz := (zon_facts (one_facts ((set_facts (h := x) hset rfl).1 x (List.mem_singleton.2 rfl))).1).1
        rw [HXX.out] at hz ⊢
        have hz' : isB SS = true := hz
        rw [← HSS.out] at hz'
        show SS.data.toList = _
        rw [← HSS.out]
        exact star_is hz'
      obtain ⟨PS, hPS⟩ : ∃ PS : ByteArray, (⟨(pubS kf km ke ks).toArray⟩ : ByteArray) = PS := ⟨_, rfl⟩
      have hps : PS.size ≤ 1099511627776 := by rw [← hPS, size_of]; have := pub_len kf km ke ks; omega
      have HSG : Hid (OkR sg) := Lib.hid (by rw [hsg]; exact sig_ok (HOX.out x (List.mem_singleton.2 rfl)))
      have CP := Lib.hid (fun (wx : World) => pub_any kf km ke ks wx)
      rw [hPS] at CP
      have HF : Hid (∀ now : Int, VerC [x] sg sn.data.toList PS.data.toList now = if now < 0 then 25 else if 9 < now then 25 else 0) := Lib.hid (fun now => by rw [← hPS]; exact fits_self HOK.out hs1 ht1 hset rfl hwi hsg)
      have HFS : Hid (∀ (full : ByteArray) (B : List Bs), IsN full.data.toList (B ++ ls) → B ≠ [] → ∀ now : Int, VerC [withO x full] (withO sg full) sn.data.toList PS.data.toList now = if now < 0 then 25 else if 9 < now then 25 else 0) := Lib.hid (fun full B hf hB now => by rw [← hPS]; exact fits_star HOK.out hls ht1 hset hxo hsg hf hB)
      have HLS := Lib.hid hls
      have CL := Lib.hid (fun (wx : World) => nlabels_any sn wx (by omega))
      rw [hlab] at CL
      clear hr1 hs1 ht1 hset h01 hwi hsg HCS hls hlab hxo hPS
      subst hc0
      trace "13"
      obtain ⟨i0, hif, hz0, hz1, hz2⟩ := info_parts infoStr
      obtain ⟨LO, hLO⟩ : ∃ LO, w9.heap.size = LO := ⟨_, rfl⟩
      have HLO := Lib.hid hLO
      have hwL : w.heap.size ≤ LO := by rw [← hLO]; exact HB9.out.size
      have hZL : Z < LO := by rw [← hLO]; exact (Array.getElem?_eq_some_iff.1 HWS.out.sig).1
      clear hLO
      go_wp2_with (at_builtin; go_loud (refine wpList_append_src rfl _ _ 47 rfl LO 9 i0 _ 1 16 Tryz.underlying47 hif hz0 hz1 hz2 rfl (by decide) _ 0 [] rfl (World.ownsRow_nil _ _ _ _) aa am ac (A.map strV) rfl (by rw [List.length_map, ← HAM.out]; omega) (src_of (HAR.out.below HB9.out rfl) HAM.out HAN.out) (str_one A) (by unfold maxLen; omega) (by omega) (by rw [HLO.out]; exact Nat.le_refl _) ?_))
      intro v1 w10 hown hgr
      have hB10 : Below w9.heap.size w9 w10 := (Below.refl _ w9).grown hgr (Nat.le_refl _) (by intro k hk; simp [Value.ownBlock] at hk)
      have ho1 : w10.ownsRow LO 9 1 v1 am (A.map strV) := by first | exact hown | simpa using hown
      have HWS10 := Lib.hid (HWS.out.below hB10)
      have HO1 := Lib.hid ho1
      have hlow10 : LO ≤ w10.heap.size := by rw [← HLO.out]; exact hB10.size
      clear hown hgr hB10 ho1 HWS HB9 HLO
      trace "14"
      go_wp2_with fail
      refine (CL.out _).mono ?_
      rintro e11 w11 ⟨v, rfl, hsv, hB11⟩
      obtain ⟨a2, c2, rfl, hsrc⟩ := sv_src hsv
      have HSRC := Lib.hid hsrc
      have HWS11 := Lib.hid (HWS10.out.below hB11)
      have HO2 := Lib.hid (own_keptG HO1.out (fun k cur hk => (hB11.block k (Array.getElem?_eq_some_iff.1 hk).1).trans hk))
      have hlow11 : LO ≤ w11.heap.size := Nat.le_trans hlow10 hB11.size
      obtain ⟨nl, hnll⟩ : ∃ nl, ls.length = nl := ⟨_, rfl⟩
      rw [hnll] at HSRC hnl
      try rw [hnll]
      have HNL := Lib.hid hnll
      clear hsv hsrc hB11 HWS10 HO1 CL hnll hlow10
      trace "15"
      go_wp2_with (at_builtin; go_loud (refine wpList_append_src rfl _ _ 47 rfl LO 9 i0 _ 1 16 Tryz.underlying47 hif hz0 hz1 hz2 rfl (by decide) _ am (A.map strV) rfl HO2.out a2 nl c2 (ls.map strV) rfl (by rw [List.length_map, HNL.out]; omega) HSRC.out (str_one ls) (by unfold maxLen; omega) (by omega) hlow11 ?_))
      intro v2 w12 hown hgr
      have hB12 : Below LO w11 w12 := (Below.refl _ w11).grown hgr hlow11 (fun k hk => (HO2.out.lt k hk).1)
      have hjl : am + nl = (A ++ ls).length := by rw [List.length_append, ← HAM.out, HNL.out]
      obtain ⟨a3, c3, hv2, hc3, hrd⟩ := own_slc (ls := A ++ ls) hjl (by rw [List.map_append]; exact hown)
      obtain ⟨jn, hjn⟩ : ∃ jn, (A ++ ls).length = jn := ⟨_, rfl⟩
      rw [hjn] at hv2
      subst hv2
      have HWS12 := Lib.hid (HWS11.out.low hB12 (by omega) hZL (by omega) hwL)
      obtain ⟨FU, hFU⟩ : ∃ FU : ByteArray, (⟨(joinS (A ++ ls)).1.toArray⟩ : ByteArray) = FU := ⟨_, rfl⟩
      obtain ⟨jc, hjc⟩ : ∃ jc, (joinS (A ++ ls)).2 = jc := ⟨_, rfl⟩
      have CJ := Lib.hid (njoin_any a3 c3 (A ++ ls) w12 hrd (by rw [← hjl]; omega) hc3)
      unfold RetJ at CJ
      rw [hFU, hjc, hjn] at CJ
      have HFU := Lib.hid hFU; have HJC := Lib.hid hjc
      clear hown hgr hB12 hjl hrd hc3 hjn HWS11 HO2 hFU hjc hif hz0 hz1 hz2
      trace "16"
      go_wp2_with fail
      refine CJ.out.mono ?_
      rintro e13 w13 ⟨rfl, hB13⟩
      have HWS13 := Lib.hid (HWS12.out.below hB13)
      clear hB13 HWS12 CJ
      have CV := fun (now : Int) (wx : World) (hB : Below w13.heap.size w13 wx) => verify.verify_any (some ⟨G, 0, none⟩) 1 1 [x] sg sn PS now wx rfl (rd_one (HWS13.out.below hB).rc) HOX.out (by omega) (by have := bulk_fold [x]; simp only [List.length_cons, List.length_nil] at this; omega) HSG.out (by omega) hps
      have CV9 := Lib.hid (CV 9)
      have CV10 := Lib.hid (CV 10)
      have e9 : VerC [x] sg sn.data.toList PS.data.toList 9 = 0 := (HF.out 9).trans (by decide)
      have e10 : VerC [x] sg sn.data.toList PS.data.toList 10 = 25 := (HF.out 10).trans (by decide)
      rw [e9] at CV9
      rw [e10] at CV10
      clear CV e9 e10
      by_cases hgo : jc = 0 ∧ 1 ≤ am
      case neg =>
        by_cases hj : jc = 0
        · obtain rfl : am = 0 := by
            rcases Nat.eq_zero_or_pos am with h | h
            · exact h
            · exact absurd ⟨hj, h⟩ hgo
          subst hj
          clear hgo
          trace "17"
          obtain ⟨x0, x1, x2, x3, z0, z1, z2, z3, z4⟩ := HWS13.out.cells
          have hS0 : w13.drew.cell? ⟨X, 0, none⟩ = some (.int .i64 kf) ∧ w13.drew.cell? ⟨X, 1, none⟩ = some (.int .i64 km) ∧ w13.drew.cell? ⟨X, 2, none⟩ = some (.int .i64 ke) ∧ w13.drew.cell? ⟨X, 3, none⟩ = some (.int .i64 ks) ∧ w13.drew.cell? ⟨Z, 0, none⟩ = some (.string sg.o) ∧ w13.drew.cell? ⟨Z, 1, none⟩ = some (.int .i64 sg.t) ∧ w13.drew.cell? ⟨Z, 2, none⟩ = some (.int .i64 sg.c) ∧ w13.drew.cell? ⟨Z, 3, none⟩ = some (.int .i64 sg.l) ∧ w13.drew.cell? ⟨Z, 4, none⟩ = some (.string sg.d) ∧ Below w13.heap.size w13 w13.drew := ⟨x0, x1, x2, x3, z0, z1, z2, z3, z4, (Below.refl _ _).drew⟩
          clear x0 x1 x2 x3 z0 z1 z2 z3 z4
          go_upto_region 13 with fail
          trace "18"
          go_region_held3 (fun w' => w'.cell? ⟨X, 0, none⟩ = some (.int .i64 kf) ∧ w'.cell? ⟨X, 1, none⟩ = some (.int .i64 km) ∧ w'.cell? ⟨X, 2, none⟩ = some (.int .i64 ke) ∧ w'.cell? ⟨X, 3, none⟩ = some (.int .i64 ks) ∧ w'.cell? ⟨Z, 0, none⟩ = some (.string sg.o) ∧ w'.cell? ⟨Z, 1, none⟩ = some (.int .i64 sg.t) ∧ w'.cell? ⟨Z, 2, none⟩ = some (.int .i64 sg.c) ∧ w'.cell? ⟨Z, 3, none⟩ = some (.int .i64 sg.l) ∧ w'.cell? ⟨Z, 4, none⟩ = some (.string sg.d) ∧ Below w13.heap.size w13 w') (first | assumption | (refine ⟨?_, ?_, ?_, ?_, ?_, ?_, ?_, ?_, ?_, ?_⟩ <;> assumption))
            (first
              | (go_at_call_of 16 (Value.int .i64 9); refine (CV9.out _ (‹_ ∧ _ ∧ _ ∧ _ ∧ _ ∧ _ ∧ _ ∧ _ ∧ _ ∧ Below _ _ _›).2.2.2.2.2.2.2.2.2).mono ?_; rintro e w' ⟨rfl, hBz⟩; have hSz := k9 (by assumption) hBz; clear hBz)
              | (go_at_call_of 16 (Value.int .i64 10); refine (CV10.out _ (‹_ ∧ _ ∧ _ ∧ _ ∧ _ ∧ _ ∧ _ ∧ _ ∧ _ ∧ Below _ _ _›).2.2.2.2.2.2.2.2.2).mono ?_; rintro e w' ⟨rfl, hBz⟩; have hSz := k9 (by assumption) hBz; clear hBz)
              | (go_at_call 20; refine (CP.out _).mono ?_; rintro e w' ⟨rfl, hBz⟩; have hSz := k9 (by assumption) hBz; clear hBz))
          trace "19"
          have HBF := Lib.hid (HWS13.out.bel.trans (hSz.2.2.2.2.2.2.2.2.2.mono HWS13.out.bel.size))
          clear hSz hS0
          go_wp2_with fail
          go_ret
          exact ⟨rfl, HBF.out⟩
        · have hcb : (jc == 0) = false := by simp [hj]
          have hcb2 : (jc != 0) = true := by simp [hj]
          clear hgo hj
          trace "17"
          obtain ⟨x0, x1, x2, x3, z0, z1, z2, z3, z4⟩ := HWS13.out.cells
          have hS0 : w13.drew.cell? ⟨X, 0, none⟩ = some (.int .i64 kf) ∧ w13.drew.cell? ⟨X, 1, none⟩ = some (.int .i64 km) ∧ w13.drew.cell? ⟨X, 2, none⟩ = some (.int .i64 ke) ∧ w13.drew.cell? ⟨X, 3, none⟩ = some (.int .i64 ks) ∧ w13.drew.cell? ⟨Z, 0, none⟩ = some (.string sg.o) ∧ w13.drew.cell? ⟨Z, 1, none⟩ = some (.int .i64 sg.t) ∧ w13.drew.cell? ⟨Z, 2, none⟩ = some (.int .i64 sg.c) ∧ w13.drew.cell? ⟨Z, 3, none⟩ = some (.int .i64 sg.l) ∧ w13.drew.cell? ⟨Z, 4, none⟩ = some (.string sg.d) ∧ Below w13.heap.size w13 w13.drew := ⟨x0, x1, x2, x3, z0, z1, z2, z3, z4, (Below.refl _ _).drew⟩
          clear x0 x1 x2 x3 z0 z1 z2 z3 z4
          go_upto_region 13 with fail
          trace "18"
          go_region_held3 (fun w' => w'.cell? ⟨X, 0, none⟩ = some (.int .i64 kf) ∧ w'.cell? ⟨X, 1, none⟩ = some (.int .i64 km) ∧ w'.cell? ⟨X, 2, none⟩ = some (.int .i64 ke) ∧ w'.cell? ⟨X, 3, none⟩ = some (.int .i64 ks) ∧ w'.cell? ⟨Z, 0, none⟩ = some (.string sg.o) ∧ w'.cell? ⟨Z, 1, none⟩ = some (.int .i64 sg.t) ∧ w'.cell? ⟨Z, 2, none⟩ = some (.int .i64 sg.c) ∧ w'.cell? ⟨Z, 3, none⟩ = some (.int .i64 sg.l) ∧ w'.cell? ⟨Z, 4, none⟩ = some (.string sg.d) ∧ Below w13.heap.size w13 w') (first | assumption | (refine ⟨?_, ?_, ?_, ?_, ?_, ?_, ?_, ?_, ?_, ?_⟩ <;> assumption))
            (first
              | (go_at_call_of 16 (Value.int .i64 9); refine (CV9.out _ (‹_ ∧ _ ∧ _ ∧ _ ∧ _ ∧ _ ∧ _ ∧ _ ∧ _ ∧ Below _ _ _›).2.2.2.2.2.2.2.2.2).mono ?_; rintro e w' ⟨rfl, hBz⟩; have hSz := k9 (by assumption) hBz; clear hBz)
              | (go_at_call_of 16 (Value.int .i64 10); refine (CV10.out _ (‹_ ∧ _ ∧ _ ∧ _ ∧ _ ∧ _ ∧ _ ∧ _ ∧ _ ∧ Below _ _ _›).2.2.2.2.2.2.2.2.2).mono ?_; rintro e w' ⟨rfl, hBz⟩; have hSz := k9 (by assumption) hBz; clear hBz)
              | (go_at_call 20; refine (CP.out _).mono ?_; rintro e w' ⟨rfl, hBz⟩; have hSz := k9 (by assumption) hBz; clear hBz))
          trace "19"
          have HBF := Lib.hid (HWS13.out.bel.trans (hSz.2.2.2.2.2.2.2.2.2.mono HWS13.out.bel.size))
          clear hSz hS0
          go_wp2_with fail
          go_ret
          exact ⟨rfl, HBF.out⟩
      case pos =>
        obtain ⟨hj, hm1⟩ := hgo
        subst hj
        have hAne : A ≠ [] := fun h => by have := HAM.out; rw [h] at this; simp at this; omega
        have hfi : IsN FU.data.toList (A ++ ls) := by rw [← HFU.out]; exact join_is HJC.out
        have hfs : FU.size ≤ 255 := by
          have h1 := hfi.2.2
          have h2 : FU.data.toList.length = FU.size := by rw [Array.length_toList]; rfl
          omega
        have e11 : VerC [withO x FU] (withO sg FU) sn.data.toList PS.data.toList 9 = 0 := (HFS.out FU A hfi hAne 9).trans (by decide)
        have HE11 := Lib.hid e11
        clear e11 hAne hfi HFU HJC HFS HF CV9 HAM HAR HAN HNL HSRC HLS
        trace "20"
        obtain ⟨x0, x1, x2, x3, z0, z1, z2, z3, z4⟩ := HWS13.out.cells
        have hS0 : w13.drew.cell? ⟨X, 0, none⟩ = some (.int .i64 kf) ∧ w13.drew.cell? ⟨X, 1, none⟩ = some (.int .i64 km) ∧ w13.drew.cell? ⟨X, 2, none⟩ = some (.int .i64 ke) ∧ w13.drew.cell? ⟨X, 3, none⟩ = some (.int .i64 ks) ∧ w13.drew.cell? ⟨Z, 0, none⟩ = some (.string sg.o) ∧ w13.drew.cell? ⟨Z, 1, none⟩ = some (.int .i64 sg.t) ∧ w13.drew.cell? ⟨Z, 2, none⟩ = some (.int .i64 sg.c) ∧ w13.drew.cell? ⟨Z, 3, none⟩ = some (.int .i64 sg.l) ∧ w13.drew.cell? ⟨Z, 4, none⟩ = some (.string sg.d) ∧ Below w13.heap.size w13 w13.drew := ⟨x0, x1, x2, x3, z0, z1, z2, z3, z4, (Below.refl _ _).drew⟩
        clear x0 x1 x2 x3 z0 z1 z2 z3 z4
        go_upto_region 14 with fail
        trace "21"
        go_region_held3 (fun w' => w'.cell? ⟨X, 0, none⟩ = some (.int .i64 kf) ∧ w'.cell? ⟨X, 1, none⟩ = some (.int .i64 km) ∧ w'.cell? ⟨X, 2, none⟩ = some (.int .i64 ke) ∧ w'.cell? ⟨X, 3, none⟩ = some (.int .i64 ks) ∧ w'.cell? ⟨Z, 0, none⟩ = some (.string sg.o) ∧ w'.cell? ⟨Z, 1, none⟩ = some (.int .i64 sg.t) ∧ w'.cell? ⟨Z, 2, none⟩ = some (.int .i64 sg.c) ∧ w'.cell? ⟨Z, 3, none⟩ = some (.int .i64 sg.l) ∧ w'.cell? ⟨Z, 4, none⟩ = some (.string sg.d) ∧ Below w13.heap.size w13 w') (first | assumption | (refine ⟨?_, ?_, ?_, ?_, ?_, ?_, ?_, ?_, ?_, ?_⟩ <;> assumption))
          (first
            | (go_at_call 16; refine (CV10.out _ (‹_ ∧ _ ∧ _ ∧ _ ∧ _ ∧ _ ∧ _ ∧ _ ∧ _ ∧ Below _ _ _›).2.2.2.2.2.2.2.2.2).mono ?_; rintro e w' ⟨rfl, hBz⟩; have hSz := k9 (by assumption) hBz; clear hBz)
            | (go_at_call 20; refine (CP.out _).mono ?_; rintro e w' ⟨rfl, hBz⟩; have hSz := k9 (by assumption) hBz; clear hBz))
        trace "22"
        have HWS14 := Lib.hid (HWS13.out.below hSz.2.2.2.2.2.2.2.2.2)
        have HWS15 := Lib.hid (HWS14.out.owners FU (by omega) (by omega) (by omega) hwG (by omega))
        obtain ⟨z0, _, _, _, _, fz0, _⟩ := signSet.cells5 HWS14.out.sig
        obtain ⟨y0, _, _, _, _, fy0, _⟩ := signSet.cells5 HWS14.out.rc
        clear hSz hS0 CV10 HWS13 HWS14
        go_upto_region 17 with fail
        trace "23"
        generalize hw15 : World.setCell (World.setCell _ ⟨G, 0, none⟩ (.string FU)) ⟨Z, 0, none⟩ (.string FU) = w15 at HWS15 ⊢
        have HOXF : Hid (∀ y ∈ [withO x FU], OkR y) := Lib.hid (by intro y hy; obtain rfl := List.mem_singleton.1 hy; exact ⟨by show FU.size ≤ _; omega, (HOX.out x (List.mem_singleton.2 rfl)).d⟩)
        have HSGF : Hid (OkR (withO sg FU)) := Lib.hid ⟨by show FU.size ≤ _; omega, HSG.out.d⟩
        obtain ⟨xf, hxf⟩ : ∃ xf, withO x FU = xf := ⟨_, rfl⟩
        obtain ⟨sf, hsf⟩ : ∃ sf, withO sg FU = sf := ⟨_, rfl⟩
        rw [hxf] at HWS15 HE11 HOXF
        rw [hsf] at HWS15 HE11 HSGF
        have CV11 := Lib.hid (fun (wx : World) (hB : Below w15.heap.size w15 wx) => verify.verify_any (some ⟨G, 0, none⟩) 1 1 [xf] sf sn PS 9 wx rfl (rd_one (HWS15.out.below hB).rc) HOXF.out (by omega) (by have := bulk_fold [xf]; simp only [List.length_cons, List.length_nil] at this; omega) HSGF.out (by omega) hps)
        rw [HE11.out] at CV11
        obtain ⟨x0, x1, x2, x3, z0, z1, z2, z3, z4⟩ := HWS15.out.cells
        have hS0 : w15.drew.cell? ⟨X, 0, none⟩ = some (.int .i64 kf) ∧ w15.drew.cell? ⟨X, 1, none⟩ = some (.int .i64 km) ∧ w15.drew.cell? ⟨X, 2, none⟩ = some (.int .i64 ke) ∧ w15.drew.cell? ⟨X, 3, none⟩ = some (.int .i64 ks) ∧ w15.drew.cell? ⟨Z, 0, none⟩ = some (.string sf.o) ∧ w15.drew.cell? ⟨Z, 1, none⟩ = some (.int .i64 sf.t) ∧ w15.drew.cell? ⟨Z, 2, none⟩ = some (.int .i64 sf.c) ∧ w15.drew.cell? ⟨Z, 3, none⟩ = some (.int .i64 sf.l) ∧ w15.drew.cell? ⟨Z, 4, none⟩ = some (.string sf.d) ∧ Below w15.heap.size w15 w15.drew := ⟨x0, x1, x2, x3, z0, z1, z2, z3, z4, (Below.refl _ _).drew⟩
        clear x0 x1 x2 x3 z0 z1 z2 z3 z4 hw15 hxf hsf HE11 y0 fz0 fy0
        trace "24"
        go_region_held3 (fun w' => w'.cell? ⟨X, 0, none⟩ = some (.int .i64 kf) ∧ w'.cell? ⟨X, 1, none⟩ = some (.int .i64 km) ∧ w'.cell? ⟨X, 2, none⟩ = some (.int .i64 ke) ∧ w'.cell? ⟨X, 3, none⟩ = some (.int .i64 ks) ∧ w'.cell? ⟨Z, 0, none⟩ = some (.string sf.o) ∧ w'.cell? ⟨Z, 1, none⟩ = some (.int .i64 sf.t) ∧ w'.cell? ⟨Z, 2, none⟩ = some (.int .i64 sf.c) ∧ w'.cell? ⟨Z, 3, none⟩ = some (.int .i64 sf.l) ∧ w'.cell? ⟨Z, 4, none⟩ = some (.string sf.d) ∧ Below w15.heap.size w15 w') (first | assumption | (refine ⟨?_, ?_, ?_, ?_, ?_, ?_, ?_, ?_, ?_, ?_⟩ <;> assumption))
          (first
            | (go_at_call 16; refine (CV11.out _ (‹_ ∧ _ ∧ _ ∧ _ ∧ _ ∧ _ ∧ _ ∧ _ ∧ _ ∧ Below _ _ _›).2.2.2.2.2.2.2.2.2).mono ?_; rintro e w' ⟨rfl, hBz⟩; have hSz := k9 (by assumption) hBz; clear hBz)
            | (go_at_call 20; refine (CP.out _).mono ?_; rintro e w' ⟨rfl, hBz⟩; have hSz := k9 (by assumption) hBz; clear hBz))
        trace "25"
        have HBF := Lib.hid (HWS15.out.bel.trans (hSz.2.2.2.2.2.2.2.2.2.mono HWS15.out.bel.size))
        clear hSz hS0
        go_wp2_with fail
        go_ret
        exact ⟨rfl, HBF.out⟩
end Go.Proofs.YtflijhodlimjoaaGreat.sealStars
