/- The reference's Absent: walk (gen_rabsent.py). gazetteersame: Spare, Twin, Bytes, Records, Questions, Head on equal things: walks. gazetteersame: a twin of records, Whole on it: walks. -/
import Derived.Test.YtanoiiodnddkfaaGreatJ28
import Derived.Test.YtanoiiodnddkfaaGreatJ19
import Derived.Test.YtanoiiodnddkfaaGreatJ10
import Derived.Deep.QuietTactic
import Derived.BigQuiet
import Derived.Deep.AppendLies
import Derived.Deep.RegionHeld3
namespace Go.Proofs.YtanoiiodnddkfaaGreat.rabsent
open Go.RowKit Go.Proofs.YtanoiiodnddkfaaGreat.kit Go.Proofs.YtanoiiodnddkfaaGreat.nspec Go.Proofs.YtanoiiodnddkfaaGreat.refA Go.Proofs.YtanoiiodnddkfaaGreat.refB Go.Proofs.YtanoiiodnddkfaaGreat.rsplit Go.Proofs.YtanoiiodnddkfaaGreat.fld Go.Proofs.YtanoiiodnddkfaaGreat.timed Go.Proofs.YtanoiiodnddkfaaGreat.wireP Go.Proofs.YtanoiiodnddkfaaGreat.rows Go.Proofs.YtanoiiodnddkfaaGreat.gapP Go.Proofs.YtanoiiodnddkfaaGreat.bits Go.Proofs.YtanoiiodnddkfaaGreat.ints Go.Proofs.YtanoiiodnddkfaaGreat.gapA Go.Proofs.YtanoiiodnddkfaaGreat.gapB Go.Proofs.YtanoiiodnddkfaaGreat.gapC Go.Proofs.YtanoiiodnddkfaaGreat.gapN Go.Proofs.YtanoiiodnddkfaaGreat.gapR Go.Proofs.YtanoiiodnddkfaaGreat.gapS Go.Proofs.YtanoiiodnddkfaaGreat.useP Go.Proofs.YtanoiiodnddkfaaGreat.useM Go.Proofs.YtanoiiodnddkfaaGreat.judgeP Go.Proofs.YtanoiiodnddkfaaGreat.first Go.Proofs.YtanoiiodnddkfaaGreat.readN Go.Proofs.YtanoiiodnddkfaaGreat.gapM Go.Proofs.YtanoiiodnddkfaaGreat.clos Go.Proofs.YtanoiiodnddkfaaGreat.judgeH Go.Proofs.YtanoiiodnddkfaaGreat.judgeN Go.Proofs.YtanoiiodnddkfaaGreat.judgeT Go.Proofs.YtanoiiodnddkfaaGreat.gather Go.Proofs.YtanoiiodnddkfaaGreat.usable Go.Proofs.YtanoiiodnddkfaaGreat.rjudge
set_option linter.unusedVariables false

attribute [local irreducible] wpList
set_option maxRecDepth 100000 in
set_option maxHeartbeats 4800000 in
theorem rabsent_any (ap : ByteArray) (a : Option Addr) (n c : Nat) (L : List Rc) (q : ByteArray) (w : World) (hap : ap.size ≤ 1048576) (hq : q.size ≤ 1048576) (hn : L.length = n) (hnl : n ≤ 1048576) (hr : RdC w a 5 (L.map Rc.cells)) (ho : ∀ x ∈ L, x.o.size ≤ 1048576 ∧ x.d.size ≤ maxLen) :
    Calls Tryz.prog 8 #[.string ap, .slice a n c, .string q] w fun e w' => e = .returned (.bool (absentB ap.data.toList L q.data.toList)) ∧ Below w.heap.size w w' := by
  obtain ⟨R, HR⟩ : ∃ R, Hid (absentB ap.data.toList L q.data.toList = R) := ⟨_, Lib.hid rfl⟩
  rw [HR.out]
  have CW := Lib.hid (fun wx => refB.within_any q ap wx (by omega) (by omega))
  have CG := Lib.hid (fun (wx : World) (hB : Below w.heap.size w wx) => usable_any ap a n c L wx hap hn (by omega) (hr.below hB rfl) ho)
  obtain ⟨wi, hwi⟩ : ∃ b, withinS q.data.toList ap.data.toList = b := ⟨_, rfl⟩
  rw [hwi] at CW
  have HWI := Lib.hid hwi
  have HN := Lib.hid hn
  clear hwi hn hr ho
  go_enter Tryz.func8, Tryz.ntmps8
  go_wp2_with fail
  refine (CW.out w).mono ?_
  rintro e w2 ⟨rfl, hB2⟩
  have HB2 := Lib.hid hB2
  clear hB2
  cases wi with
  | false =>
    have HV : Hid (R = false) := Lib.hid (by rw [← HR.out]; unfold absentB; rw [if_pos HWI.out])
    go_wp2_with fail
    go_ret
    exact ⟨by rw [HV.out]; rfl, HB2.out⟩
  | true =>
  have HRJ : Hid (R = if namesG ap.data.toList L = [] then spannedB (hashesG ap.data.toList L) q.data.toList else (namesG ap.data.toList L).any (fun g => denyB g q.data.toList && !withinS g.nx.data.toList q.data.toList)) := Lib.hid (by
    rw [← HR.out]; unfold absentB; rw [if_neg (by rw [HWI.out]; simp)])
  obtain ⟨⟨ls, hls⟩, _, _⟩ := within_count HWI.out
  have HLS := Lib.hid hls
  clear hls
  go_wp2_with fail
  refine (CG.out w2 HB2.out).mono ?_
  rintro e w3 ⟨v, P, rfl, hown, hty, hP, hB3⟩
  have HB3 := Lib.hid (HB2.out.trans (hB3.mono HB2.out.size))
  have HFIN : Hid (∀ wz, Below w3.heap.size w3 wz → Below w.heap.size w wz) := Lib.hid (fun wz h => HB3.out.trans (h.mono HB3.out.size))
  obtain ⟨a1, c1, hv1, hpc, _, hg1⟩ := gaps_own (f := Gr.refL) (m := 11) (fun _ => rfl) hown hty
  subst hv1
  have HP := Lib.hid hP
  have hpl : P.length ≤ 1048576 := by
    have h9 := congrArg List.length hP
    rw [List.length_map] at h9
    have hN9 := HN.out
    split at h9
    · have := hashes_le ap.data.toList L; omega
    · unfold namesG at h9
      have := List.length_filterMap_le (useN ap.data.toList) L
      omega
  obtain ⟨p, hp⟩ : ∃ p, P.length = p := ⟨_, rfl⟩
  rw [hp] at hpl ⊢
  have HPL := Lib.hid hp
  have HG := Lib.hid hg1
  have HB0 : Hid (Below w3.heap.size w3 w3) := Lib.hid (Below.refl _ _)
  clear hown hty hP hB3 hpc hp hg1 CG CW
  rcases all_same HP.out with ⟨h3, h4, h5⟩ | ⟨h3, h4, h5⟩
  · have HR0 : Hid (((P.map Gr.g).drop 0).any (fun g => spanB g q.data.toList) = R) := Lib.hid (by rw [HRJ.out, if_pos h3, ← h4]; rfl)
    have HH := Lib.hid h5
    have HSO := Lib.hid (hs_of h4)
    clear h3 h4 h5 HRJ HR
    go_wp2_with fail
    go_loopg [17] (p + 1) (fun gas kv wr => ∃ (k : Nat), kv = .int .i64 k ∧ k ≤ p ∧ k + gas = p + 1 ∧ Hid (((P.map Gr.g).drop k).any (fun g => spanB g q.data.toList) = R) ∧ Hid (Below w3.heap.size w3 wr))
    case atStart => exact ⟨0, rfl, by omega, by omega, HR0, HB0⟩
    case round =>
      obtain ⟨k, rfl, hk, hkg, HW2, HBwr⟩ := hrel
      have HKG := Lib.hid hkg; clear hkg
      by_cases hlt : k < p
      · have hp0 : 0 < p := by omega
        obtain ⟨r0, hr0⟩ : ∃ r, P[0]? = some r := ⟨_, List.getElem?_eq_getElem (by have := HPL.out; omega)⟩
        obtain ⟨ga, oa, hae, h11, h12⟩ := HG.out.at hr0
        subst hae
        clear h11 h12 hr0 hp0
        obtain ⟨r, hry⟩ : ∃ r, P[k]? = some r := ⟨_, List.getElem?_eq_getElem (by have := HPL.out; omega)⟩
        have hrm := List.mem_of_getElem? hry
        obtain ⟨g0, of, hae, hg, hcy⟩ := (HG.out.below HBwr.out).at hry
        simp only [Option.some.injEq, Addr.mk.injEq, and_true] at hae
        obtain ⟨rfl, rfl⟩ := hae
        have y0 : wr.cell? ⟨ga, oa + k * 11, none⟩ = some (.string r.g.x.o) := hcy 0 _ rfl
        have y1 : wr.cell? ⟨ga, oa + k * 11 + 1, none⟩ = some (.int .i64 r.g.x.t) := hcy 1 _ rfl
        have y2 : wr.cell? ⟨ga, oa + k * 11 + 2, none⟩ = some (.int .i64 r.g.x.c) := hcy 2 _ rfl
        have y3 : wr.cell? ⟨ga, oa + k * 11 + 3, none⟩ = some (.int .i64 r.g.x.l) := hcy 3 _ rfl
        have y4 : wr.cell? ⟨ga, oa + k * 11 + 4, none⟩ = some (.string r.g.x.d) := hcy 4 _ rfl
        have y5 : wr.cell? ⟨ga, oa + k * 11 + 5, none⟩ = some (.bool r.g.hashed) := hcy 5 _ rfl
        have y6 : wr.cell? ⟨ga, oa + k * 11 + 6, none⟩ = some (.string r.g.nx) := hcy 6 _ rfl
        have y7 : wr.cell? ⟨ga, oa + k * 11 + 7, none⟩ = some (.string r.g.own) := hcy 7 _ rfl
        have y8 : wr.cell? ⟨ga, oa + k * 11 + 8, none⟩ = some (.string r.g.salt) := hcy 8 _ rfl
        have y9 : wr.cell? ⟨ga, oa + k * 11 + 9, none⟩ = some (.int .i64 r.g.rounds) := hcy 9 _ rfl
        have y10 : wr.cell? ⟨ga, oa + k * 11 + 10, none⟩ = some (.slice r.a r.n r.c) := hcy 10 _ rfl
        have zkk : (0 : Int) ≤ (k : Int) := by omega
        have zlk : (k : Int) < (p : Int) := by omega
        have HTr := Lib.hid ((HG.out.below HBwr.out).ty r hrm)
        have HYr := Lib.hid (map_at hry)
        have HMr := Lib.hid hrm
        have hB7 := (Below.refl wr.heap.size wr).alloc (Nat.le_refl _) (.cells (gapC r.g r.v) 45)
        have hx7 : AtG (wr.alloc (.cells (gapC r.g r.v) 45)) wr.heap.size r := heap_alloc_new _ _
        obtain ⟨Z, hZ⟩ : ∃ X, wr.heap.size = X := ⟨_, rfl⟩
        obtain ⟨v7, hv7⟩ : ∃ W, wr.alloc (.cells (gapC r.g r.v) 45) = W := ⟨_, rfl⟩
        have HBv7 := Lib.hid (HBwr.out.trans (hB7.mono HBwr.out.size))
        rw [hv7] at hx7 HBv7
        rw [hZ] at hx7
        have HWv7 : Hid (wr.alloc (.cells #[.string r.g.x.o, .int .i64 r.g.x.t, .int .i64 r.g.x.c, .int .i64 r.g.x.l, .string r.g.x.d, .bool r.g.hashed, .string r.g.nx, .string r.g.own, .string r.g.salt, .int .i64 r.g.rounds, .slice r.a r.n r.c] 45) = v7) := Lib.hid hv7
        have HZZ := Lib.hid hZ; have HAv7 := Lib.hid hx7
        clear hg hcy hB7 hZ hv7 hry hrm
        go_upto_region 6 with fail
        try rw [HWv7.out]
        try rw [HZZ.out]
        clear y0 y1 y2 y3 y4 y5 y6 y7 y8 y9 y10
        have HBm : Hid (Below wr.heap.size wr v7) := Lib.hid (by rw [← HWv7.out]; exact (Below.refl _ _).alloc (Nat.le_refl _) _)
        have HST := Lib.hid (any_stepG HYr.out HW2.out)
        have hh := HH.out r HMr.out
        have CM := Lib.hid (fun (wx : World) => spans_any r.g r.a r.n r.c q wx HTr.out.ok hq (fun _ => hash_ok (HSO.out r HMr.out) HLS.out))
        obtain ⟨b, hb⟩ : ∃ b, spanB r.g q.data.toList = b := ⟨_, rfl⟩
        rw [hb] at CM HST
        clear hb
        obtain ⟨d0, d1, d2, d3, d4, d5, d6, d7, d8, d9, d10⟩ := cells11 (g := r.g) (a := r.a) (n := r.n) (c := r.c) hx7
        rw [hh] at d5
        dsimp only [gapC] at CM
        have HHR := Lib.hid hh
        clear hh
        have CM2 : Hid (∀ wx : World, Calls Tryz.prog 33 #[.agg #[.string r.g.x.o, .int .i64 r.g.x.t, .int .i64 r.g.x.c, .int .i64 r.g.x.l, .string r.g.x.d, .bool true, .string r.g.nx, .string r.g.own, .string r.g.salt, .int .i64 r.g.rounds, .slice r.a r.n r.c], .string q] wx fun e w' => e = .returned (.bool b) ∧ Below wx.heap.size wx w') := Lib.hid (by rw [← HHR.out]; exact CM.out)
        go_wp2_with fail
        refine (CM2.out v7).mono ?_
        rintro e v8 ⟨rfl, hB⟩
        have HBvv := Lib.hid hB
        have HBv8 := Lib.hid (HBv7.out.trans (hB.mono HBv7.out.size))
        clear hB
        clear d0 d1 d2 d3 d4 d5 d6 d7 d8 d9 d10 hx7
        cases b with
        | true =>
          have HV : Hid (R = true) := Lib.hid (by rw [← HST.out]; rfl)
          go_wp2_with fail
          go_ret
          exact ⟨by rw [HV.out]; rfl, HFIN.out _ HBv8.out⟩
        | false =>
          have HNX : Hid (((P.map Gr.g).drop (k + 1)).any (fun g => spanB g q.data.toList) = R) := Lib.hid (by have h1 := HST.out; rw [Bool.false_or] at h1; exact h1)
          have hxx := (HAv7.out.below (show Below v7.heap.size v7 v8 from HBvv.out))
          obtain ⟨d0, d1, d2, d3, d4, d5, d6, d7, d8, d9, d10⟩ := cells11 (g := r.g) (a := r.a) (n := r.n) (c := r.c) hxx
          rw [HHR.out] at d5
          go_wp2_with fail
          have hkg := HKG.out
          go_roundg (gk - 1)
          case rel => exact ⟨k + 1, by go_num, by omega, by omega, HNX, HBv8⟩
          case measure => omega
      · have hnl : ¬ (k : Int) < (p : Int) := by omega
        have HV : Hid (R = false) := Lib.hid (by rw [← HW2.out, List.drop_eq_nil_of_le (by rw [List.length_map]; have := HPL.out; omega)]; rfl)
        go_wp2_with fail
        go_ret
        exact ⟨by rw [HV.out]; rfl, HFIN.out _ HBwr.out⟩
  · have HR0 : Hid (((P.map Gr.g).drop 0).any (fun g => denyB g q.data.toList && !withinS g.nx.data.toList q.data.toList) = R) := Lib.hid (by rw [HRJ.out, if_neg h3, ← h4]; rfl)
    have HH := Lib.hid h5
    clear h3 h4 h5 HRJ HR
    go_wp2_with fail
    go_loopg [17] (p + 1) (fun gas kv wr => ∃ (k : Nat), kv = .int .i64 k ∧ k ≤ p ∧ k + gas = p + 1 ∧ Hid (((P.map Gr.g).drop k).any (fun g => denyB g q.data.toList && !withinS g.nx.data.toList q.data.toList) = R) ∧ Hid (Below w3.heap.size w3 wr))
    case atStart => exact ⟨0, rfl, by omega, by omega, HR0, HB0⟩
    case round =>
      obtain ⟨k, rfl, hk, hkg, HW2, HBwr⟩ := hrel
      have HKG := Lib.hid hkg; clear hkg
      by_cases hlt : k < p
      · have hp0 : 0 < p := by omega
        obtain ⟨r0, hr0⟩ : ∃ r, P[0]? = some r := ⟨_, List.getElem?_eq_getElem (by have := HPL.out; omega)⟩
        obtain ⟨ga, oa, hae, h11, h12⟩ := HG.out.at hr0
        subst hae
        clear h11 h12 hr0 hp0
        obtain ⟨r, hry⟩ : ∃ r, P[k]? = some r := ⟨_, List.getElem?_eq_getElem (by have := HPL.out; omega)⟩
        have hrm := List.mem_of_getElem? hry
        obtain ⟨g0, of, hae, hg, hcy⟩ := (HG.out.below HBwr.out).at hry
        simp only [Option.some.injEq, Addr.mk.injEq, and_true] at hae
        obtain ⟨rfl, rfl⟩ := hae
        have y0 : wr.cell? ⟨ga, oa + k * 11, none⟩ = some (.string r.g.x.o) := hcy 0 _ rfl
        have y1 : wr.cell? ⟨ga, oa + k * 11 + 1, none⟩ = some (.int .i64 r.g.x.t) := hcy 1 _ rfl
        have y2 : wr.cell? ⟨ga, oa + k * 11 + 2, none⟩ = some (.int .i64 r.g.x.c) := hcy 2 _ rfl
        have y3 : wr.cell? ⟨ga, oa + k * 11 + 3, none⟩ = some (.int .i64 r.g.x.l) := hcy 3 _ rfl
        have y4 : wr.cell? ⟨ga, oa + k * 11 + 4, none⟩ = some (.string r.g.x.d) := hcy 4 _ rfl
        have y5 : wr.cell? ⟨ga, oa + k * 11 + 5, none⟩ = some (.bool r.g.hashed) := hcy 5 _ rfl
        have y6 : wr.cell? ⟨ga, oa + k * 11 + 6, none⟩ = some (.string r.g.nx) := hcy 6 _ rfl
        have y7 : wr.cell? ⟨ga, oa + k * 11 + 7, none⟩ = some (.string r.g.own) := hcy 7 _ rfl
        have y8 : wr.cell? ⟨ga, oa + k * 11 + 8, none⟩ = some (.string r.g.salt) := hcy 8 _ rfl
        have y9 : wr.cell? ⟨ga, oa + k * 11 + 9, none⟩ = some (.int .i64 r.g.rounds) := hcy 9 _ rfl
        have y10 : wr.cell? ⟨ga, oa + k * 11 + 10, none⟩ = some (.slice r.a r.n r.c) := hcy 10 _ rfl
        have zkk : (0 : Int) ≤ (k : Int) := by omega
        have zlk : (k : Int) < (p : Int) := by omega
        have HTr := Lib.hid ((HG.out.below HBwr.out).ty r hrm)
        have HYr := Lib.hid (map_at hry)
        have HMr := Lib.hid hrm
        have hB7 := (Below.refl wr.heap.size wr).alloc (Nat.le_refl _) (.cells (gapC r.g r.v) 45)
        have hx7 : AtG (wr.alloc (.cells (gapC r.g r.v) 45)) wr.heap.size r := heap_alloc_new _ _
        obtain ⟨Z, hZ⟩ : ∃ X, wr.heap.size = X := ⟨_, rfl⟩
        obtain ⟨v7, hv7⟩ : ∃ W, wr.alloc (.cells (gapC r.g r.v) 45) = W := ⟨_, rfl⟩
        have HBv7 := Lib.hid (HBwr.out.trans (hB7.mono HBwr.out.size))
        rw [hv7] at hx7 HBv7
        rw [hZ] at hx7
        have HWv7 : Hid (wr.alloc (.cells #[.string r.g.x.o, .int .i64 r.g.x.t, .int .i64 r.g.x.c, .int .i64 r.g.x.l, .string r.g.x.d, .bool r.g.hashed, .string r.g.nx, .string r.g.own, .string r.g.salt, .int .i64 r.g.rounds, .slice r.a r.n r.c] 45) = v7) := Lib.hid hv7
        have HZZ := Lib.hid hZ; have HAv7 := Lib.hid hx7
        clear hg hcy hB7 hZ hv7 hry hrm
        go_upto_region 6 with fail
        try rw [HWv7.out]
        try rw [HZZ.out]
        clear y0 y1 y2 y3 y4 y5 y6 y7 y8 y9 y10
        have HBm : Hid (Below wr.heap.size wr v7) := Lib.hid (by rw [← HWv7.out]; exact (Below.refl _ _).alloc (Nat.le_refl _) _)
        have HST := Lib.hid (any_stepG HYr.out HW2.out)
        have hh := HH.out r HMr.out
        have CM := Lib.hid (fun (wx : World) (hB : Below wr.heap.size wr wx) => denies_any r.g r.a r.n r.c q wx HTr.out.ok hq hh HTr.out.len HTr.out.le (HTr.out.below hB).rd)
        have CWN := Lib.hid (fun wx => refB.within_any r.g.nx q wx (by have := HTr.out.ok.nx; omega) (by omega))
        obtain ⟨b, hb⟩ : ∃ b, denyB r.g q.data.toList = b := ⟨_, rfl⟩
        obtain ⟨b2, hb2⟩ : ∃ b, withinS r.g.nx.data.toList q.data.toList = b := ⟨_, rfl⟩
        rw [hb] at CM
        rw [hb2] at CWN
        rw [hb, hb2] at HST
        clear hb hb2
        obtain ⟨d0, d1, d2, d3, d4, d5, d6, d7, d8, d9, d10⟩ := cells11 (g := r.g) (a := r.a) (n := r.n) (c := r.c) hx7
        rw [hh] at d5
        dsimp only [gapC] at CM
        have HHR := Lib.hid hh
        clear hh
        have CM2 : Hid (∀ wx : World, Below wr.heap.size wr wx → Calls Tryz.prog 18 #[.agg #[.string r.g.x.o, .int .i64 r.g.x.t, .int .i64 r.g.x.c, .int .i64 r.g.x.l, .string r.g.x.d, .bool false, .string r.g.nx, .string r.g.own, .string r.g.salt, .int .i64 r.g.rounds, .slice r.a r.n r.c], .string q] wx fun e w' => e = .returned (.bool b) ∧ Below wx.heap.size wx w') := Lib.hid (by rw [← HHR.out]; exact CM.out)
        go_wp2_with fail
        refine (CM2.out v7 HBm.out).mono ?_
        rintro e v8' ⟨rfl, hB⟩
        have HBv8' := Lib.hid (HBv7.out.trans (hB.mono HBv7.out.size))
        have HA8 := Lib.hid (HAv7.out.below hB)
        clear hB
        clear d0 d1 d2 d3 d4 d5 d6 d7 d8 d9 d10 hx7
        cases b with
        | false =>
          have HBv8 := HBv8'
          have HNX : Hid (((P.map Gr.g).drop (k + 1)).any (fun g => denyB g q.data.toList && !withinS g.nx.data.toList q.data.toList) = R) := Lib.hid (by have h1 := HST.out; rw [Bool.false_and, Bool.false_or] at h1; exact h1)
          go_wp2_with fail
          have hkg := HKG.out
          go_roundg (gk - 1)
          case rel => exact ⟨k + 1, by go_num, by omega, by omega, HNX, HBv8⟩
          case measure => omega
        | true =>
        obtain ⟨d0, d1, d2, d3, d4, d5, d6, d7, d8, d9, d10⟩ := cells11 (g := r.g) (a := r.a) (n := r.n) (c := r.c) HA8.out
        rw [HHR.out] at d5
        go_wp2_with fail
        refine (CWN.out _).mono ?_
        rintro e v8 ⟨rfl, hB⟩
        have HBv8 := Lib.hid (HBv8'.out.trans (hB.mono HBv8'.out.size))
        clear hB
        clear d0 d1 d2 d3 d4 d5 d6 d7 d8 d9 d10
        cases b2 with
        | false =>
          have HV : Hid (R = true) := Lib.hid (by rw [← HST.out]; rfl)
          go_wp2_with fail
          go_ret
          exact ⟨by rw [HV.out]; rfl, HFIN.out _ HBv8.out⟩
        | true =>
          have HNX : Hid (((P.map Gr.g).drop (k + 1)).any (fun g => denyB g q.data.toList && !withinS g.nx.data.toList q.data.toList) = R) := Lib.hid (by have h1 := HST.out; simp only [Bool.not_true, Bool.and_false, Bool.false_or] at h1; exact h1)
          go_wp2_with fail
          have hkg := HKG.out
          go_roundg (gk - 1)
          case rel => exact ⟨k + 1, by go_num, by omega, by omega, HNX, HBv8⟩
          case measure => omega
      · have hnl : ¬ (k : Int) < (p : Int) := by omega
        have HV : Hid (R = false) := Lib.hid (by rw [← HW2.out, List.drop_eq_nil_of_le (by rw [List.length_map]; have := HPL.out; omega)]; rfl)
        go_wp2_with fail
        go_ret
        exact ⟨by rw [HV.out]; rfl, HFIN.out _ HBwr.out⟩
end Go.Proofs.YtanoiiodnddkfaaGreat.rabsent
namespace Go.Proofs.YtanoiiodnddkfaaGreat.same
open Go.RowKit Go.Proofs.YtanoiiodnddkfaaGreat.kit Go.Proofs.YtanoiiodnddkfaaGreat.timed Go.Proofs.YtanoiiodnddkfaaGreat.nspec Go.Proofs.YtanoiiodnddkfaaGreat.coded Go.Proofs.YtanoiiodnddkfaaGreat.wireP Go.Proofs.YtanoiiodnddkfaaGreat.wireM Go.Proofs.YtanoiiodnddkfaaGreat.rows
set_option linter.unusedVariables false

def spareR : Rc := ⟨⟨#[115, 112, 97, 114, 101]⟩, -77, -77, -77, ⟨#[115, 112, 97, 114, 101]⟩⟩
set_option maxRecDepth 100000 in
theorem spare_any (w : World) : Calls Tryz.prog 10 #[] w fun e w' => e = .returned (.agg #[.string ⟨#[115, 112, 97, 114, 101]⟩, .int .i64 (-77), .int .i64 (-77), .int .i64 (-77), .string ⟨#[115, 112, 97, 114, 101]⟩]) ∧ Below w.heap.size w w' := by
  go_enter Tryz.func10, Tryz.ntmps10
  go_wp2_with fail
  refine bodyPost_ret (v := .agg #[.string ⟨#[115, 112, 97, 114, 101]⟩, .int .i64 (-77), .int .i64 (-77), .int .i64 (-77), .string ⟨#[115, 112, 97, 114, 101]⟩]) (by simp [results, Tryz.results10, go_sem]) rfl ⟨rfl, ?_⟩
  exact (Below.refl _ _).alloc (Nat.le_refl _) _

set_option maxRecDepth 100000 in
set_option maxHeartbeats 2000000 in
theorem records_same (a b : Option Addr) (n c d : Nat) (L : List Rc) (w : World) (hn : n = L.length) (hx : RdC w a 5 (L.map Rc.cells)) (hy : RdC w b 5 (L.map Rc.cells)) (hl : n ≤ 1099511627776) :
    Calls Tryz.prog 34 #[.slice a n c, .slice b n d] w fun e w' => e = .returned (.bool true) ∧ Below w.heap.size w w' := by
  have HN := Lib.hid hn; have HX := Lib.hid hx; have HY := Lib.hid hy
  clear hn hx hy
  go_enter Tryz.func34, Tryz.ntmps34
  go_wp2
  go_loopg [5, 13] (n + 1) (fun gas _ kv wr => ∃ (k : Nat), kv = .int .i64 k ∧ k ≤ n ∧ k + gas = n + 1 ∧ Hid (Below w.heap.size w wr))
  case atStart => exact ⟨0, rfl, by omega, by omega, Lib.hid (Below.refl _ _)⟩
  case round =>
    obtain ⟨k, rfl, hk, hkg, hB⟩ := hrel
    have HK := Lib.hid hkg; clear hkg
    by_cases hlt : k < n
    · obtain ⟨x, hp⟩ : ∃ x, L[k]? = some x := ⟨_, List.getElem?_eq_getElem (by have := HN.out; omega)⟩
      obtain ⟨g1, o1, rfl, hg1, hcl1⟩ := at_r HX.out hp
      obtain ⟨g2, o2, rfl, hg2, hcl2⟩ := at_r HY.out hp
      obtain ⟨x0, x1, x2, x3, x4⟩ := hcl1.below hB.out hg1
      obtain ⟨y0, y1, y2, y3, y4⟩ := hcl2.below hB.out hg2
      clear hp hcl1 hcl2
      have zk : (0 : Int) ≤ (k : Int) := by omega
      have zl : (k : Int) < (n : Int) := by omega
      go_wp2_with fail
      go_quiet (fail)
      have hBn : Hid (Below w.heap.size w (wr.drewN nq)) := Lib.hid (bel_drewN hB.out nq)
      go_wp2
      have hkg := HK.out
      go_roundg (gk - 1)
      case rel => exact ⟨k + 1, by go_num, by omega, by omega, hBn⟩
      case measure => omega
    · go_wp2_with fail
      go_ret
      exact ⟨rfl, hB.out⟩
theorem flat_snoc2 (L : List Rc) : L.flatMap Rc.cells ++ (spareR.cells ++ spareR.cells) = (L ++ [spareR, spareR]).flatMap Rc.cells := by simp
/-- a part of the rows -/
theorem rdc_part {w : World} {a : Option Addr} {n : Nat} {L M : List (List Value)} (h : RdC w a n (L ++ M)) : RdC w a n L := by
  intro j x hx
  exact h j x (by rw [List.getElem?_append_left (List.getElem?_eq_some_iff.1 hx).1]; exact hx)
set_option maxRecDepth 100000 in
set_option maxHeartbeats 4000000 in
theorem twin_any (a : Option Addr) (n c : Nat) (L : List Rc) (w : World) (hn : n = L.length) (hr : RdC w a 5 (L.map Rc.cells)) (ha : a = none → L.length = 0 ∧ c = 0) (hl : n ≤ 1099511627776) :
    Calls Tryz.prog 4 #[.slice a n c] w fun e w' => ∃ g cap, e = .returned (.slice (some ⟨g, 0, none⟩) n cap) ∧ n + 2 ≤ cap ∧ cap ≤ maxLen ∧ w'.ownsRow w.heap.size 32 5 (.slice (some ⟨g, 0, none⟩) (n + 2) cap) (n + 2) ((L ++ [spareR, spareR]).flatMap Rc.cells) ∧ Below w.heap.size w w' := by
  obtain ⟨i0, hi, hz0, hz1, hz2⟩ := info_parts infoRec
  have S1 := Lib.hid (cells_rd Rc.cells 5 (by decide) (fun _ => rfl) hr c ha)
  rw [← hn] at S1
  have HN := Lib.hid hn
  clear hr ha hn
  go_enter Tryz.func4, Tryz.ntmps4
  go_wp2_with (at_builtin; refine wpList_append_src rfl (.const (.slice none 0 0)) (.tmp 4) 22 rfl w.heap.size 32 i0 _ 5 56 Tryz.underlying22 hi hz0 hz1 hz2 rfl (by decide) _ 0 [] rfl (World.ownsRow_nil _ _ _ _) a n c (L.flatMap Rc.cells) rfl (by rw [flat_len Rc.cells 5 (fun _ => rfl), HN.out]) S1.out (one_cells rec_one) (by unfold maxLen; omega) (by omega) (Nat.le_refl _) ?_)
  intro v1 w1 hown1 hgr1
  have hB1 : Below w.heap.size w w1 := below_append' (Below.refl _ _) (Nat.le_refl _) (World.ownsRow_nil _ w.heap.size 32 5) hgr1
  have HOW1 : Hid (w1.ownsRow w.heap.size 32 5 v1 n (L.flatMap Rc.cells)) := Lib.hid (by first | exact hown1 | simpa using hown1)
  have HB1 := Lib.hid hB1
  clear hown1 hgr1 hB1
  go_wp2_with fail
  refine (spare_any _).mono ?_
  rintro e w2 ⟨rfl, hB2⟩
  go_wp2_with fail
  refine (spare_any _).mono ?_
  rintro e w3 ⟨rfl, hB3⟩
  have HB3 := Lib.hid (hB2.trans (hB3.mono hB2.size))
  have HOW3 : Hid (w3.ownsRow w.heap.size 32 5 v1 n (L.flatMap Rc.cells)) := Lib.hid (own_keptG HOW1.out (fun k cu hk => (HB3.out.block k (Array.getElem?_eq_some_iff.1 hk).1).trans hk))
  have HB1' := Lib.hid (HB1.out.trans (HB3.out.mono HB1.out.size))
  clear hB2 hB3
  have hz3 : w.heap.size ≤ w3.heap.size := HB1'.out.size
  go_wp2_with (at_builtin; refine wpList_append_own _ rfl _ _ 22 rfl w.heap.size 32 i0 _ 5 56 Tryz.underlying22 hi hz0 hz1 hz2 rfl (by decide) _ n (L.flatMap Rc.cells) rfl (HOW3.out.alloc _) ⟨w3.heap.size, 0, none⟩ 2 2 (spareR.cells ++ spareR.cells) rfl rfl ?c1 ?c2 ?c3 ?c4 ?c5 ?_)
  case c1 => exact World.news_of_block (heap_alloc_new _ _)
  case c2 => intro u hu; rcases List.mem_append.1 hu with h | h <;> exact rec_one _ _ h
  case c3 => unfold maxLen; omega
  case c4 => omega
  case c5 => simp; omega
  intro v4 w4 hown4 hgr4 _
  have hB4 : Below w.heap.size w w4 := ((HB1'.out.alloc hz3 _).grown hgr4 (by simp; omega) (fun k hk => (HOW3.out.lt k hk).1))
  rw [flat_snoc2] at hown4
  obtain ⟨g, cap, rfl, hg1, hg2, _, _, cur, hgh⟩ := rows.own_at hown4 (by omega)
  have hcap : n + 2 ≤ cap ∧ cap ≤ maxLen := by
    rcases hown4.2 with ⟨h0, _⟩ | ⟨g', cap', cur', hv, _, _, h1, h2, _⟩
    · cases h0
    · cases hv; exact ⟨h1, h2⟩
  have HOW4 := Lib.hid hown4; have HB4 := Lib.hid hB4; have HCAP := Lib.hid hcap
  have hcn : (n : Int) ≤ (cap : Int) := by omega
  have hcm : (cap : Int) ≤ 9223372036854775807 := by have := hcap.2; unfold maxLen at this; omega
  clear hown4 hgr4 hB4 hcap hgh
  go_wp2_with fail
  go_ret
  exact ⟨g, cap, rfl, HCAP.out.1, HCAP.out.2, HOW4.out, HB4.out⟩
end Go.Proofs.YtanoiiodnddkfaaGreat.same
namespace Go.Proofs.YtanoiiodnddkfaaGreat.wholeR
open Go.RowKit Go.Proofs.YtanoiiodnddkfaaGreat.kit Go.Proofs.YtanoiiodnddkfaaGreat.timed Go.Proofs.YtanoiiodnddkfaaGreat.nspec Go.Proofs.YtanoiiodnddkfaaGreat.wireP Go.Proofs.YtanoiiodnddkfaaGreat.wireM Go.Proofs.YtanoiiodnddkfaaGreat.rows Go.Proofs.YtanoiiodnddkfaaGreat.same
set_option linter.unusedVariables false

/-- a list of one's own with two behind its end -/
def TwR (w : World) (base : Nat) (a : Option Addr) (c : Nat) (L : List Rc) : Prop :=
  L.length + 2 ≤ c ∧ c ≤ maxLen ∧ (∃ g, a = some ⟨g, 0, none⟩) ∧ w.ownsRow base 32 5 (.slice a (L.length + 2) c) (L.length + 2) ((L ++ [spareR, spareR]).flatMap Rc.cells)
theorem TwR.move {w w1 : World} {base : Nat} {a : Option Addr} {c : Nat} {L : List Rc} (h : TwR w base a c L) (hk : ∀ (k : Nat) (cur : Array Value), w.heap[k]? = some (Obj.cells cur 32 (0, 0)) → w1.heap[k]? = some (Obj.cells cur 32 (0, 0))) : TwR w1 base a c L :=
  ⟨h.1, h.2.1, h.2.2.1, own_keptG h.2.2.2 hk⟩
theorem TwR.below {w w1 : World} {base : Nat} {a : Option Addr} {c : Nat} {L : List Rc} (h : TwR w base a c L) (hB : Below w.heap.size w w1) : TwR w1 base a c L :=
  h.move (fun k cur hk => (hB.block k (Array.getElem?_eq_some_iff.1 hk).1).trans hk)
theorem TwR.rd {w : World} {base : Nat} {a : Option Addr} {c : Nat} {L : List Rc} (h : TwR w base a c L) : RdC w a 5 (L.map Rc.cells) := by
  obtain ⟨a', c', e, _, _, _, h2⟩ := rdc_own Rc.cells 5 (fun _ => rfl) (by simp) h.2.2.2
  cases e
  rw [List.map_append] at h2
  exact rdc_part h2
theorem own_baseG {w : World} {b base : Nat} {e : TypeId} {size : Nat} {v : Value} {n : Nat} {xs : List Value} (hb : b ≤ base) (h : w.ownsRow base e size v n xs) : w.ownsRow b e size v n xs := by
  refine ⟨h.1, ?_⟩
  rcases h.2 with h1 | ⟨g, cap, cur, h1, h2, h3, h4⟩
  · exact .inl h1
  · exact .inr ⟨g, cap, cur, h1, by omega, h3, h4⟩
theorem twin_at (w0 : World) (a : Option Addr) (c : Nat) (L : List Rc) (hr : RdC w0 a 5 (L.map Rc.cells)) (ha : a = none → L.length = 0 ∧ c = 0) (hl : L.length ≤ 1099511627776) (w : World) (hB : Below w0.heap.size w0 w) :
    Calls Tryz.prog 4 #[.slice a L.length c] w fun e w' => ∃ g cap, e = .returned (.slice (some ⟨g, 0, none⟩) L.length cap) ∧ TwR w' w0.heap.size (some ⟨g, 0, none⟩) cap L ∧ Below w.heap.size w w' :=
  (twin_any a L.length c L w rfl (hr.below hB rfl) ha hl).mono fun e w' ⟨g, cap, h1, h2, h3, h4, h5⟩ => ⟨g, cap, h1, ⟨h2, h3, ⟨g, rfl⟩, own_baseG hB.size h4⟩, h5⟩
def Ten (w : World) (g n m : Nat) (S : ByteArray) : Prop :=
  w.cell? ⟨g, n * 5, none⟩ = some (.string S) ∧ w.cell? ⟨g, n * 5 + 1, none⟩ = some (.int .i64 (-77)) ∧ w.cell? ⟨g, n * 5 + 2, none⟩ = some (.int .i64 (-77)) ∧ w.cell? ⟨g, n * 5 + 3, none⟩ = some (.int .i64 (-77)) ∧ w.cell? ⟨g, n * 5 + 4, none⟩ = some (.string S) ∧
  w.cell? ⟨g, m * 5, none⟩ = some (.string S) ∧ w.cell? ⟨g, m * 5 + 1, none⟩ = some (.int .i64 (-77)) ∧ w.cell? ⟨g, m * 5 + 2, none⟩ = some (.int .i64 (-77)) ∧ w.cell? ⟨g, m * 5 + 3, none⟩ = some (.int .i64 (-77)) ∧ w.cell? ⟨g, m * 5 + 4, none⟩ = some (.string S)
theorem ten_of {w : World} {g n cap : Nat} {base : Nat} {L : List Rc} (hn : L.length = n) (h : w.ownsRow base 32 5 (.slice (some ⟨g, 0, none⟩) (n + 2) cap) (n + 2) ((L ++ [spareR, spareR]).flatMap Rc.cells)) : Ten w g n (n + 1) ⟨#[115, 112, 97, 114, 101]⟩ := by
  have hc : ∀ (k i : Nat) (u : Value), (L ++ [spareR, spareR])[k]? = some spareR → spareR.cells[i]? = some u → w.cell? ⟨g, k * 5 + i, none⟩ = some u := by
    intro k i u hk hi
    have h1 := h.cells (g := g) rfl (k * 5 + i) u (flat_at Rc.cells 5 (fun _ => rfl) _ k spareR i u hk hi)
    rw [addr_at, Nat.zero_add] at h1; exact h1
  have e1 : (L ++ [spareR, spareR])[n]? = some spareR := by rw [List.getElem?_append_right (by omega), hn, Nat.sub_self]; rfl
  have e2 : (L ++ [spareR, spareR])[n + 1]? = some spareR := by rw [List.getElem?_append_right (by omega), hn, Nat.add_sub_cancel_left]; rfl
  exact ⟨hc n 0 _ e1 rfl, hc n 1 _ e1 rfl, hc n 2 _ e1 rfl, hc n 3 _ e1 rfl, hc n 4 _ e1 rfl, hc (n + 1) 0 _ e2 rfl, hc (n + 1) 1 _ e2 rfl, hc (n + 1) 2 _ e2 rfl, hc (n + 1) 3 _ e2 rfl, hc (n + 1) 4 _ e2 rfl⟩
theorem Ten.below {w w' : World} {g n m : Nat} {S : ByteArray} (h : Ten w g n m S) (hg : g < w.heap.size) (hB : Below w.heap.size w w') : Ten w' g n m S := by
  have hc : ∀ j, w'.cell? ⟨g, j, none⟩ = w.cell? ⟨g, j, none⟩ := fun j => hB.cell (p := ⟨g, j, none⟩) hg
  obtain ⟨h0, h1, h2, h3, h4, h5, h6, h7, h8, h9⟩ := h
  exact ⟨(hc _).trans h0, (hc _).trans h1, (hc _).trans h2, (hc _).trans h3, (hc _).trans h4, (hc _).trans h5, (hc _).trans h6, (hc _).trans h7, (hc _).trans h8, (hc _).trans h9⟩
theorem ten_keep {w w' : World} {g n m : Nat} {S : ByteArray} (h : Ten w g n m S) (hg : g < w.heap.size) (hB : Below w.heap.size w w') :
    w'.cell? ⟨g, n * 5, none⟩ = some (.string S) ∧ w'.cell? ⟨g, n * 5 + 1, none⟩ = some (.int .i64 (-77)) ∧ w'.cell? ⟨g, n * 5 + 2, none⟩ = some (.int .i64 (-77)) ∧ w'.cell? ⟨g, n * 5 + 3, none⟩ = some (.int .i64 (-77)) ∧ w'.cell? ⟨g, n * 5 + 4, none⟩ = some (.string S) ∧
    w'.cell? ⟨g, m * 5, none⟩ = some (.string S) ∧ w'.cell? ⟨g, m * 5 + 1, none⟩ = some (.int .i64 (-77)) ∧ w'.cell? ⟨g, m * 5 + 2, none⟩ = some (.int .i64 (-77)) ∧ w'.cell? ⟨g, m * 5 + 3, none⟩ = some (.int .i64 (-77)) ∧ w'.cell? ⟨g, m * 5 + 4, none⟩ = some (.string S) ∧ Below w.heap.size w w' := by
  obtain ⟨h0, h1, h2, h3, h4, h5, h6, h7, h8, h9⟩ := h.below hg hB
  exact ⟨h0, h1, h2, h3, h4, h5, h6, h7, h8, h9, hB⟩

set_option maxRecDepth 100000 in
set_option maxHeartbeats 8000000 in
theorem whole_any (a b : Option Addr) (c d base : Nat) (L : List Rc) (w : World) (h : TwR w base a c L) (hy : RdC w b 5 (L.map Rc.cells)) (hl : L.length ≤ 1099511627776) :
    Calls Tryz.prog 9 #[.slice a L.length c, .slice b L.length d] w fun e w' => e = .returned (.bool true) ∧ Below w.heap.size w w' := by
  have hrd := h.rd
  obtain ⟨hc1, hc2, ⟨g, rfl⟩, how⟩ := h
  have CR := Lib.hid (fun (wx : World) (hB : Below w.heap.size w wx) => records_same (some ⟨g, 0, none⟩) b L.length c d L wx rfl (hrd.below hB rfl) (hy.below hB rfl) hl)
  obtain ⟨g', cap', hv, hg1, hg2, _⟩ := own_at how (by omega)
  cases hv
  have HT0 := Lib.hid (ten_of rfl how)
  have CS := Lib.hid (fun w => spare_any w)
  obtain ⟨S, hS⟩ : ∃ S : ByteArray, (⟨#[115, 112, 97, 114, 101]⟩ : ByteArray) = S := ⟨_, rfl⟩
  rw [hS] at HT0 CS
  obtain ⟨n, hn⟩ : ∃ n, L.length = n := ⟨_, rfl⟩
  rw [hn] at CR HT0 hc1 hl ⊢
  obtain ⟨N1, hN1⟩ : ∃ N1, n + 1 = N1 := ⟨_, rfl⟩
  rw [hN1] at HT0
  have hcm : (c : Int) ≤ 9223372036854775807 := by unfold maxLen at hc2; omega
  have hnc : (n : Int) + 2 ≤ (c : Int) := by omega
  clear hrd hy how hS hn
  go_enter Tryz.func9, Tryz.ntmps9
  go_wp2_with fail
  obtain ⟨N2, hN2⟩ : ∃ N2, n + 2 = N2 := ⟨_, rfl⟩
  rw [hN2]
  have i1 : (n : Int) < (N2 : Int) := by omega
  have i2 : (N1 : Int) < (N2 : Int) := by omega
  have hN2b : N2 ≤ 1099511627800 := by omega
  have hv4 : IntKind.i64.wrap (N1 : Int) = (N1 : Int) := IntWalk.i64_in _ (by omega)
  have hv5 : IntKind.i64.wrap (n : Int) = (n : Int) := IntWalk.i64_in _ (by omega)
  have hv3 : IntKind.i64.wrap ((n : Int) + 1) = (N1 : Int) := by rw [IntWalk.i64_in _ (by omega)]; omega
  clear hN1 hN2
  have z1 : (0 : Int) ≤ (N1 : Int) := Int.natCast_nonneg _
  have z2 : (0 : Int) ≤ (n : Int) := Int.natCast_nonneg _
  have hBd : Below w.heap.size w w.drew := (Below.refl _ _).drew
  have hS0 := ten_keep HT0.out hg2 hBd
  go_region_held3 (fun w' => w'.cell? ⟨g, n * 5, none⟩ = some (.string S) ∧ w'.cell? ⟨g, n * 5 + 1, none⟩ = some (.int .i64 (-77)) ∧ w'.cell? ⟨g, n * 5 + 2, none⟩ = some (.int .i64 (-77)) ∧ w'.cell? ⟨g, n * 5 + 3, none⟩ = some (.int .i64 (-77)) ∧ w'.cell? ⟨g, n * 5 + 4, none⟩ = some (.string S) ∧
    w'.cell? ⟨g, N1 * 5, none⟩ = some (.string S) ∧ w'.cell? ⟨g, N1 * 5 + 1, none⟩ = some (.int .i64 (-77)) ∧ w'.cell? ⟨g, N1 * 5 + 2, none⟩ = some (.int .i64 (-77)) ∧ w'.cell? ⟨g, N1 * 5 + 3, none⟩ = some (.int .i64 (-77)) ∧ w'.cell? ⟨g, N1 * 5 + 4, none⟩ = some (.string S) ∧ Below w.heap.size w w') (first | assumption | (refine ⟨?_, ?_, ?_, ?_, ?_, ?_, ?_, ?_, ?_, ?_, ?_⟩ <;> assumption))
    (first
      | (go_at_call 34; refine (CR.out _ (by assumption)).mono ?_; rintro e w' ⟨rfl, hBz⟩; have hBy := Below.trans (by assumption) (hBz.mono (Below.size (by assumption))); have hSz := ten_keep HT0.out hg2 hBy; clear hBz)
      | (go_at_call 10; refine (CS.out _).mono ?_; rintro e w' ⟨rfl, hBz⟩; have hBy := Below.trans (by assumption) (hBz.mono (Below.size (by assumption))); have hSz := ten_keep HT0.out hg2 hBy; clear hBz))
  all_goals (go_wp2_with fail; go_ret; exact ⟨rfl, by assumption⟩)

end Go.Proofs.YtanoiiodnddkfaaGreat.wholeR
