/- proof.judgeNames: walk (gen_jn.py). -/
import Derived.Test.YtanoiiodnddkfaaGreatJ20
namespace Go.Proofs.YtanoiiodnddkfaaGreat.judgeN
open Go.RowKit Go.Proofs.YtanoiiodnddkfaaGreat.kit Go.Proofs.YtanoiiodnddkfaaGreat.nspec Go.Proofs.YtanoiiodnddkfaaGreat.refA Go.Proofs.YtanoiiodnddkfaaGreat.refB Go.Proofs.YtanoiiodnddkfaaGreat.fld Go.Proofs.YtanoiiodnddkfaaGreat.timed Go.Proofs.YtanoiiodnddkfaaGreat.wireP Go.Proofs.YtanoiiodnddkfaaGreat.gapP Go.Proofs.YtanoiiodnddkfaaGreat.bits Go.Proofs.YtanoiiodnddkfaaGreat.ints Go.Proofs.YtanoiiodnddkfaaGreat.gapA Go.Proofs.YtanoiiodnddkfaaGreat.gapC Go.Proofs.YtanoiiodnddkfaaGreat.gapN Go.Proofs.YtanoiiodnddkfaaGreat.gapH Go.Proofs.YtanoiiodnddkfaaGreat.gapJ Go.Proofs.YtanoiiodnddkfaaGreat.gapK Go.Proofs.YtanoiiodnddkfaaGreat.gapR Go.Proofs.YtanoiiodnddkfaaGreat.useP Go.Proofs.YtanoiiodnddkfaaGreat.useM Go.Proofs.YtanoiiodnddkfaaGreat.judgeP Go.Proofs.YtanoiiodnddkfaaGreat.first Go.Proofs.YtanoiiodnddkfaaGreat.clos Go.Proofs.YtanoiiodnddkfaaGreat.judgeH
set_option linter.unusedVariables false

theorem judgeF_nil {l : List Gp} {q : Bs} {t R : Int} {k : Nat} {M : List Gp} (h : judgeF l q t (M.drop k) = R) (hk : M.length ≤ k) : R = 0 := by
  rw [← h, List.drop_eq_nil_of_le hk]; rfl
theorem judgeF_no {l M : List Gp} {q : Bs} {t R : Int} {k : Nat} {g : Gp} (h : judgeF l q t (M.drop k) = R) (hg : M[k]? = some g) (hd : denyB g q = false) : judgeF l q t (M.drop (k + 1)) = R := by
  obtain ⟨hlt, rfl⟩ := List.getElem?_eq_some_iff.1 hg
  rw [List.drop_eq_getElem_cons hlt] at h
  rw [← h]; conv => rhs; rw [judgeF]
  rw [if_pos hd]
theorem judgeF_at {l M : List Gp} {q : Bs} {t R : Int} {k : Nat} {g : Gp} (h : judgeF l q t (M.drop k) = R) (hg : M[k]? = some g) (hd : denyB g q = true) :
    R = if withinS g.nx.data.toList q = true then 2 else if shownB l (star.starS (encl g q)) t = true then 2 else match l.find? (fun h => denyB h (star.starS (encl g q))) with
      | some h => if withinS h.nx.data.toList (star.starS (encl g q)) = true then 2 else 1
      | none => judgeF l q t (M.drop (k + 1)) := by
  obtain ⟨hlt, rfl⟩ := List.getElem?_eq_some_iff.1 hg
  rw [List.drop_eq_getElem_cons hlt] at h
  rw [← h]; conv => lhs; rw [judgeF]
  rw [if_neg (by rw [hd]; simp)]
  rfl
attribute [local irreducible] wpList
set_option maxRecDepth 100000 in
set_option maxHeartbeats 4800000 in
theorem names_any (a : Option Addr) (n c : Nat) (L : List Gr) (q : ByteArray) (t : Int) (ls : List Bs) (w : World) (hn : L.length = n) (hnl : n ≤ 16777216) (h : GapsR Gr.nameL 8 w a L) (hh : ∀ r ∈ L, r.g.hashed = false) (hq : q.size ≤ 1048576) (hqn : IsN q.data.toList ls) :
    Calls Tryz.prog 13 #[.slice a n c, .string q, .int .i64 t] w fun e w' => e = .returned (.int .i64 (judgeN (L.map Gr.g) q.data.toList t)) ∧ Below w.heap.size w w' := by
  obtain ⟨R, HR⟩ : ∃ R, Hid (judgeN (L.map Gr.g) q.data.toList t = R) := ⟨_, Lib.hid rfl⟩
  rw [HR.out]
  have hB0 := (Below.refl w.heap.size w).alloc (Nat.le_refl _) (.cells #[.slice a n c] 35)
  have hx := heap_alloc_new w (.cells #[.slice a n c] 35)
  obtain ⟨X, hX⟩ : ∃ X, w.heap.size = X := ⟨_, rfl⟩
  obtain ⟨w1, hw1⟩ : ∃ W, w.alloc (.cells #[.slice a n c] 35) = W := ⟨_, rfl⟩
  have hs1 : w1.heap.size = X + 1 := by rw [← hw1, World.size_alloc, hX]
  rw [hw1] at hB0 hx
  rw [hX] at hx
  have hx0 : w1.cell? ⟨X, 0, none⟩ = some (.slice a n c) := by simp only [World.cell?, hx]; rfl
  have hB1 := hB0.alloc (by omega) (.cells #[.int .i64 t] 3)
  have hy := heap_alloc_new w1 (.cells #[.int .i64 t] 3)
  have hx1 := ckb ((Below.refl w1.heap.size w1).alloc (Nat.le_refl _) (.cells #[.int .i64 t] 3)) hx0
  obtain ⟨Y, hY⟩ : ∃ X, w1.heap.size = X := ⟨_, rfl⟩
  obtain ⟨W, hW⟩ : ∃ W, w1.alloc (.cells #[.int .i64 t] 3) = W := ⟨_, rfl⟩
  rw [hW] at hB1 hy hx1
  rw [hY] at hy
  have hy1 : W.cell? ⟨Y, 0, none⟩ = some (.int .i64 t) := by simp only [World.cell?, hy]; rfl
  have HX := Lib.hid hX; have HW1 := Lib.hid hw1; have HY : Hid (X + 1 = Y) := Lib.hid (by omega); have HW := Lib.hid hW
  have HB1 := Lib.hid hB1; have HX1 := Lib.hid hx1; have HY1 := Lib.hid hy1
  have HG := Lib.hid h; have HN := Lib.hid hn; have HH := Lib.hid hh; have HQN := Lib.hid hqn
  clear hX hw1 hs1 hB0 hx hx0 hB1 hy hY hW h hn hh hqn
  go_enter Tryz.func13, Tryz.ntmps13
  go_upto_region 1 with fail
  try rw [HW1.out]
  try rw [HX.out]
  try rw [HW.out]
  try rw [HY.out]
  go_wp2_with fail
  refine (names1_any X Y q t a n c L W HN.out (by omega) (HG.out.below HB1.out) HH.out hq hx1 hy1).mono ?_
  rintro e w2 ⟨rfl, hB2⟩
  have HB2 := Lib.hid (HB1.out.trans (hB2.mono HB1.out.size))
  have hx2 := ckb hB2 HX1.out; have hy2 := ckb hB2 HY1.out
  have HX2 := Lib.hid hx2; have HY2 := Lib.hid hy2
  clear hB2 hx1 hy1
  cases hs : shownB (L.map Gr.g) q.data.toList t with
  | true =>
    have HV : Hid (R = 2) := Lib.hid (by rw [← HR.out]; unfold judgeN; rw [if_pos hs])
    clear hs
    go_wp2_with fail
    go_ret
    exact ⟨by rw [HV.out]; rfl, HB2.out⟩
  | false =>
  have HF0 : Hid (judgeF (L.map Gr.g) q.data.toList t ((L.map Gr.g).drop 0) = R) := Lib.hid (by rw [← HR.out]; unfold judgeN; rw [if_neg (by rw [hs]; simp)]; rfl)
  clear hs
  go_wp2_with fail
  go_loopg [21] (n + 1) (fun gas kv wr => ∃ (k : Nat), kv = .int .i64 k ∧ k ≤ n ∧ k + gas = n + 1 ∧ Hid (judgeF (L.map Gr.g) q.data.toList t ((L.map Gr.g).drop k) = R) ∧ Hid (wr.cell? ⟨X, 0, none⟩ = some (.slice a n c)) ∧ Hid (wr.cell? ⟨Y, 0, none⟩ = some (.int .i64 t)) ∧ Hid (Below w.heap.size w wr))
  case atStart => exact ⟨0, rfl, by omega, by omega, HF0, HX2, HY2, HB2⟩
  case round =>
    obtain ⟨k, rfl, hk, hkg, HW2, HXR, HYR, HB⟩ := hrel
    have HKG := Lib.hid hkg; clear hkg
    by_cases hlt : k < n
    · obtain ⟨r, hy⟩ : ∃ r, L[k]? = some r := ⟨_, List.getElem?_eq_getElem (by have := HN.out; omega)⟩
      have hm := List.mem_of_getElem? hy
      obtain ⟨g0, of, rfl, hg, hcy⟩ := (HG.out.below HB.out).at hy
      have y0 : wr.cell? ⟨g0, of + k * 8, none⟩ = some (.slice r.a r.n r.c) := hcy 0 _ rfl
      have y1 : wr.cell? ⟨g0, of + k * 8 + 1, none⟩ = some (.string r.g.x.o) := hcy 1 _ rfl
      have y2 : wr.cell? ⟨g0, of + k * 8 + 2, none⟩ = some (.int .i64 r.g.x.t) := hcy 2 _ rfl
      have y3 : wr.cell? ⟨g0, of + k * 8 + 3, none⟩ = some (.int .i64 r.g.x.c) := hcy 3 _ rfl
      have y4 : wr.cell? ⟨g0, of + k * 8 + 4, none⟩ = some (.int .i64 r.g.x.l) := hcy 4 _ rfl
      have y5 : wr.cell? ⟨g0, of + k * 8 + 5, none⟩ = some (.string r.g.x.d) := hcy 5 _ rfl
      have y6 : wr.cell? ⟨g0, of + k * 8 + 6, none⟩ = some (.string r.g.x.o) := hcy 6 _ rfl
      have y7 : wr.cell? ⟨g0, of + k * 8 + 7, none⟩ = some (.string r.g.nx) := hcy 7 _ rfl
      have zk : (0 : Int) ≤ (k : Int) := by omega
      have zl : (k : Int) < (n : Int) := by omega
      have HT := Lib.hid ((HG.out.below HB.out).ty r hm)
      have HRH := Lib.hid (HH.out r hm)
      have HY := Lib.hid (map_at hy)
      have hB7 := (Below.refl wr.heap.size wr).alloc (Nat.le_refl _) (.cells (nameC r.g r.v) 58)
      have hx7 : AtN (wr.alloc (.cells (nameC r.g r.v) 58)) wr.heap.size r := heap_alloc_new _ _
      have HX7 := ckb hB7 HXR.out; have HY7 := ckb hB7 HYR.out
      obtain ⟨Z, hZ⟩ : ∃ X, wr.heap.size = X := ⟨_, rfl⟩
      obtain ⟨w7, hw7⟩ : ∃ W, wr.alloc (.cells (nameC r.g r.v) 58) = W := ⟨_, rfl⟩
      rw [hw7] at hB7 hx7 HX7 HY7
      rw [hZ] at hx7
      have HW7 : Hid (wr.alloc (.cells #[.slice r.a r.n r.c, .string r.g.x.o, .int .i64 r.g.x.t, .int .i64 r.g.x.c, .int .i64 r.g.x.l, .string r.g.x.d, .string r.g.x.o, .string r.g.nx] 58) = w7) := Lib.hid hw7
      have HZ := Lib.hid hZ; have HA7 := Lib.hid hx7; have HX7 := Lib.hid HX7; have HY7 := Lib.hid HY7
      have HT7 := Lib.hid (HT.out.below hB7)
      have HB7 := Lib.hid (HB.out.trans (hB7.mono HB.out.size))
      clear hg hcy hm hy hB7 hZ hw7
      go_upto_region 7 with fail
      try rw [HW7.out]
      try rw [HZ.out]
      clear y0 y1 y2 y3 y4 y5 y6 y7
      obtain ⟨dn, hdn⟩ : ∃ b, denyB r.g q.data.toList = b := ⟨_, rfl⟩
      have CD := Lib.hid (ndenies_any r.g r.a r.n r.c q w7 HT7.out.ok hq HRH.out HT7.out.len HT7.out.le HT7.out.rd)
      rw [hdn] at CD
      go_wp2_with (refine wpList_load_row rfl 58 _ rfl Z rfl 58 _ _ _ hx7 Tryz.underlying58 rfl (by rw [infoN]; rfl) ?_)
      refine CD.out.mono ?_
      rintro e w8 ⟨rfl, hB8⟩
      have hx8 := HA7.out.below hB8
      have HA8 := Lib.hid hx8; have HX8 := Lib.hid (ckb hB8 HX7.out); have HY8 := Lib.hid (ckb hB8 HY7.out)
      have HB8 := Lib.hid (HB7.out.trans (hB8.mono HB7.out.size))
      clear hB8 hx7
      cases dn with
      | false =>
        have HNX := Lib.hid (judgeF_no HW2.out HY.out hdn)
        clear hdn
        go_wp2_with fail
        have hkg := HKG.out
        go_roundg (gk - 1)
        case rel => exact ⟨k + 1, by go_num, by omega, by omega, HNX, HX8, HY8, HB8⟩
        case measure => omega
      | true =>
        have HJ := Lib.hid (judgeF_at HW2.out HY.out hdn)
        clear hdn
        obtain ⟨NX, hNX⟩ : ∃ s, r.g.nx = s := ⟨_, rfl⟩
        obtain ⟨OW, hOW⟩ : ∃ s, r.g.x.o = s := ⟨_, rfl⟩
        have hNXs : NX.size ≤ 1048576 := by rw [← hNX]; exact HT7.out.ok.nx
        have hOWs : OW.size ≤ 1048576 := by rw [← hOW]; exact HT7.out.ok.o
        obtain ⟨EN, hEN⟩ : ∃ B : ByteArray, (⟨(encl r.g q.data.toList).toArray⟩ : ByteArray) = B := ⟨_, rfl⟩
        have hENd : EN.data.toList = encl r.g q.data.toList := by rw [← hEN]
        have CWI := Lib.hid (fun wx => nameB.nwithin_any NX q wx (by omega) (by omega))
        simp only [Go.Proofs.YtanoiiodnddkfaaGreat.nameC.within_same] at CWI
        have CO := Lib.hid (fun wx => nameB.ncommon_any q OW wx (by omega) (by omega))
        have CX := Lib.hid (fun wx => nameB.ncommon_any q NX wx (by omega) (by omega))
        rw [ncmps.common_same] at CO CX
        obtain ⟨EO, hEO⟩ : ∃ B : ByteArray, (⟨(commonS q.data.toList OW.data.toList).toArray⟩ : ByteArray) = B := ⟨_, rfl⟩
        obtain ⟨EX, hEX⟩ : ∃ B : ByteArray, (⟨(commonS q.data.toList NX.data.toList).toArray⟩ : ByteArray) = B := ⟨_, rfl⟩
        rw [hEO] at CO
        rw [hEX] at CX
        have HEN : Hid (EN = if EO.size < EX.size then EX else EO) := Lib.hid (by
          rw [← hEN, encl_len HQN.out, hOW, hNX, ← hEO, ← hEX, kit.mk_size, kit.mk_size]
          split <;> rfl)
        have hEOs : EO.size ≤ 255 := by rw [← hEO, kit.mk_size]; exact common_le _ _
        have hEXs : EX.size ≤ 255 := by rw [← hEX, kit.mk_size]; exact common_le _ _
        have hENs : EN.size ≤ 255 := by rw [HEN.out]; split <;> assumption
        have CS := Lib.hid (fun wx => star.nstar_any EN wx (by omega))
        obtain ⟨SS, hSS⟩ : ∃ B : ByteArray, (⟨(star.starS EN.data.toList).toArray⟩ : ByteArray) = B := ⟨_, rfl⟩
        rw [hSS] at CS
        have hSs : SS.size ≤ 1048576 := by rw [← hSS, kit.mk_size]; have := star_le EN.data.toList; omega
        have HJ2 : Hid (R = if withinS NX.data.toList q.data.toList = true then 2 else if shownB (L.map Gr.g) SS.data.toList t = true then 2 else match (L.map Gr.g).find? (fun h => denyB h SS.data.toList) with
          | some h => if withinS h.nx.data.toList SS.data.toList = true then 2 else 1
          | none => judgeF (L.map Gr.g) q.data.toList t ((L.map Gr.g).drop (k + 1))) := Lib.hid (by
          rw [HJ.out, hNX, ← hENd, ← hSS])
        have HNX := Lib.hid hNX; have HOW := Lib.hid hOW
        obtain ⟨wi, hwi⟩ : ∃ b, withinS NX.data.toList q.data.toList = b := ⟨_, rfl⟩
        rw [hwi] at CWI HJ2
        clear hEN hENd hEO hEX hSS hwi hNX hOW HJ
        obtain ⟨d0, d1, d2, d3, d4, d5, d6, d7⟩ := cells8 (g := r.g) (a := r.a) (n := r.n) (c := r.c) hx8
        rw [HNX.out] at d7
        rw [HOW.out] at d1 d6
        go_wp2_with fail
        refine (CWI.out w8).mono ?_
        rintro e w9 ⟨rfl, hB9⟩
        have hx9 := HA8.out.below hB9
        have HA9 := Lib.hid hx9; have HX9 := Lib.hid (ckb hB9 HX8.out); have HY9 := Lib.hid (ckb hB9 HY8.out)
        have HB9 := Lib.hid (HB8.out.trans (hB9.mono HB8.out.size))
        clear hB9 hx8 d0 d1 d2 d3 d4 d5 d6 d7
        cases wi with
        | true =>
          have HV : Hid (R = 2) := Lib.hid (by rw [HJ2.out, if_pos rfl])
          go_wp2_with fail
          go_ret
          exact ⟨by rw [HV.out]; rfl, HB9.out⟩
        | false =>
        have HJ3 : Hid (R = if shownB (L.map Gr.g) SS.data.toList t = true then 2 else match (L.map Gr.g).find? (fun h => denyB h SS.data.toList) with
          | some h => if withinS h.nx.data.toList SS.data.toList = true then 2 else 1
          | none => judgeF (L.map Gr.g) q.data.toList t ((L.map Gr.g).drop (k + 1))) := Lib.hid (by rw [HJ2.out, if_neg (by simp)])
        obtain ⟨d0, d1, d2, d3, d4, d5, d6, d7⟩ := cells8 (g := r.g) (a := r.a) (n := r.n) (c := r.c) hx9
        rw [HNX.out] at d7
        rw [HOW.out] at d1 d6
        clear hx9
        go_wp2_with fail
        refine (CO.out w9).mono ?_
        rintro e wA ⟨rfl, hBA⟩
        have hxA := HA9.out.below hBA
        have HAA := Lib.hid hxA; have HXA := Lib.hid (ckb hBA HX9.out); have HYA := Lib.hid (ckb hBA HY9.out)
        have HBA := Lib.hid (HB9.out.trans (hBA.mono HB9.out.size))
        clear hBA d0 d1 d2 d3 d4 d5 d6 d7
        obtain ⟨d0, d1, d2, d3, d4, d5, d6, d7⟩ := cells8 (g := r.g) (a := r.a) (n := r.n) (c := r.c) hxA
        rw [HNX.out] at d7
        rw [HOW.out] at d1 d6
        clear hxA
        go_wp2_with fail
        refine (CX.out wA).mono ?_
        rintro e wB ⟨rfl, hBB⟩
        have HAB := Lib.hid (HAA.out.below hBB); have HXB := Lib.hid (ckb hBB HXA.out); have HYB := Lib.hid (ckb hBB HYA.out)
        have HBB := Lib.hid (HBA.out.trans (hBB.mono HBA.out.size))
        clear hBB d0 d1 d2 d3 d4 d5 d6 d7
        by_cases hlen : EO.size < EX.size
        · have HEN2 : Hid (EN = EX) := Lib.hid (by rw [HEN.out, if_pos hlen])
          have e1 : decide ((EO.size : Int) < (EX.size : Int)) = true := decide_eq_true (by omega)
          have e2 : (EO.size : Int) < (EX.size : Int) := by omega
          rw [HEN2.out] at CS
          clear hlen
          go_wp2_with fail
          refine (CS.out wB).mono ?_
          rintro e wC ⟨rfl, hBC⟩
          have hbC := HBB.out.trans (hBC.mono HBB.out.size)
          have hB5 := (Below.refl wC.heap.size wC).alloc (Nat.le_refl _) (.cells #[.string SS] 9)
          have hs5 := heap_alloc_new wC (.cells #[.string SS] 9)
          have hb6 := hbC.trans (hB5.mono hbC.size)
          have hx5 := ckb hB5 (ckb hBC HXB.out)
          have hy5 := ckb hB5 (ckb hBC HYB.out)
          obtain ⟨V, hV⟩ : ∃ X, wC.heap.size = X := ⟨_, rfl⟩
          obtain ⟨wD, hwD⟩ : ∃ W, wC.alloc (.cells #[.string SS] 9) = W := ⟨_, rfl⟩
          rw [hwD] at hs5 hb6 hx5 hy5
          rw [hV] at hs5
          have hs5 : wD.cell? ⟨V, 0, none⟩ = some (.string SS) := by simp only [World.cell?, hs5]; rfl
          have HWD := Lib.hid hwD; have HV := Lib.hid hV; have HBD := Lib.hid hb6; have HSD := Lib.hid hs5; have HXD := Lib.hid hx5; have HYD := Lib.hid hy5
          clear hBC hbC hB5 hb6 hwD hV
          go_upto_region 15 with fail
          try rw [HWD.out]
          try rw [HV.out]
          go_wp2_with fail
          refine (names1_any X Y SS t _ n c L wD HN.out (by omega) (HG.out.below HBD.out) HH.out hSs hx5 hy5).mono ?_
          rintro e wE ⟨rfl, hBE⟩
          have HBE := Lib.hid (HBD.out.trans (hBE.mono HBD.out.size))
          have hxE := ckb hBE HXD.out; have hsE := ckb hBE HSD.out
          have HXE := Lib.hid hxE; have HYE := Lib.hid (ckb hBE HYD.out); have HSE := Lib.hid hsE
          clear hBE hx5 hy5 hs5
          cases hs : shownB (L.map Gr.g) SS.data.toList t with
          | true =>
            have HV : Hid (R = 2) := Lib.hid (by rw [HJ3.out, if_pos hs])
            clear hs
            go_wp2_with fail
            go_ret
            exact ⟨by rw [HV.out]; rfl, HBE.out⟩
          | false =>
          have HJ4 : Hid (R = match (L.map Gr.g).find? (fun h => denyB h SS.data.toList) with
            | some h => if withinS h.nx.data.toList SS.data.toList = true then 2 else 1
            | none => judgeF (L.map Gr.g) q.data.toList t ((L.map Gr.g).drop (k + 1))) := Lib.hid (by rw [HJ3.out, if_neg (by rw [hs]; simp)])
          clear hs
          go_wp2_with fail
          refine (firstN_any 46 #[.pointer (some ⟨V, 0, none⟩)] (fun g => denyB g SS.data.toList) _ n c L wE (fun _ _ => rfl) HN.out (by omega) (HG.out.below HBE.out) (fun r hr wx hB => names2_any r V SS wx ((HG.out.ty r hr).below (HBE.out.trans (hB.mono HBE.out.size))) (HH.out r hr) hSs (ckb hB HSE.out))).mono ?_
          rintro e wF ⟨⟨r2, b, rfl, f1, f2⟩, hBF⟩
          have HBF := Lib.hid (HBE.out.trans (hBF.mono HBE.out.size))
          have hbxF := ckb hBF HXE.out; have hbyF := ckb hBF HYE.out; have hbsF := ckb hBF HSE.out
          have HF1 := Lib.hid f1; have HF2 := Lib.hid f2
          clear hBF f1 f2 hxE hsE
          have hB8' := (Below.refl wF.heap.size wF).alloc (Nat.le_refl _) (.cells (nameC r2.g r2.v) 58)
          have hyG : AtN (wF.alloc (.cells (nameC r2.g r2.v) 58)) wF.heap.size r2 := heap_alloc_new _ _
          have hxG := ckb hB8' hbxF; have hyyG := ckb hB8' hbyF; have hsG := ckb hB8' hbsF
          have hbG := HBF.out.trans (hB8'.mono HBF.out.size)
          obtain ⟨U, hU⟩ : ∃ X, wF.heap.size = X := ⟨_, rfl⟩
          obtain ⟨wG, hwG⟩ : ∃ W, wF.alloc (.cells (nameC r2.g r2.v) 58) = W := ⟨_, rfl⟩
          rw [hwG] at hyG hxG hyyG hsG hbG
          rw [hU] at hyG
          have HWG : Hid (wF.alloc (.cells #[.slice r2.a r2.n r2.c, .string r2.g.x.o, .int .i64 r2.g.x.t, .int .i64 r2.g.x.c, .int .i64 r2.g.x.l, .string r2.g.x.d, .string r2.g.x.o, .string r2.g.nx] 58) = wG) := Lib.hid hwG
          have HU := Lib.hid hU; have HBG := Lib.hid hbG; have HXG := Lib.hid hxG; have HYG := Lib.hid hyyG
          clear hB8' hbG hwG hU hbxF hbyF hbsF hxG hyyG
          dsimp only [nameC, Gr.v]
          go_upto_region 18 with fail
          try rw [HWG.out]
          try rw [HU.out]
          cases b with
          | false =>
            have HNX2 : Hid (judgeF (L.map Gr.g) q.data.toList t ((L.map Gr.g).drop (k + 1)) = R) := Lib.hid (by rw [HJ4.out, HF2.out (by trivial)])
            go_wp2_with fail
            have hkg := HKG.out
            go_roundg (gk - 1)
            case rel => exact ⟨k + 1, by go_num, by omega, by omega, HNX2, HXG, HYG, HBG⟩
            case measure => omega
          | true =>
            have hm := (HF1.out (by trivial)).1
            have hok := (HG.out.ty r2 hm).ok
            have HVV : Hid (R = if withinS r2.g.nx.data.toList SS.data.toList = true then 2 else 1) := Lib.hid (by rw [HJ4.out, (HF1.out (by trivial)).2])
            have CW2 := Lib.hid (fun wx => nameB.nwithin_any r2.g.nx SS wx (by have := hok.nx; omega) (by omega))
            simp only [Go.Proofs.YtanoiiodnddkfaaGreat.nameC.within_same] at CW2
            obtain ⟨wi2, hwi2⟩ : ∃ b, withinS r2.g.nx.data.toList SS.data.toList = b := ⟨_, rfl⟩
            rw [hwi2] at CW2 HVV
            clear hm hok hwi2
            obtain ⟨d0, d1, d2, d3, d4, d5, d6, d7⟩ := cells8 (g := r2.g) (a := r2.a) (n := r2.n) (c := r2.c) hyG
            go_wp2_with fail
            refine (CW2.out wG).mono ?_
            rintro e wH ⟨rfl, hBH⟩
            have HBH := Lib.hid (HBG.out.trans (hBH.mono HBG.out.size))
            clear hBH
            cases wi2 with
            | true =>
              go_wp2_with fail
              go_ret
              exact ⟨by rw [HVV.out]; rfl, HBH.out⟩
            | false =>
              go_wp2_with fail
              go_ret
              exact ⟨by rw [HVV.out]; rfl, HBH.out⟩
        · have HEN2 : Hid (EN = EO) := Lib.hid (by rw [HEN.out, if_neg hlen])
          have e1 : decide ((EO.size : Int) < (EX.size : Int)) = false := decide_eq_false (by omega)
          have e2 : ¬ (EO.size : Int) < (EX.size : Int) := by omega
          rw [HEN2.out] at CS
          clear hlen
          go_wp2_with fail
          refine (CS.out wB).mono ?_
          rintro e wC ⟨rfl, hBC⟩
          have hbC := HBB.out.trans (hBC.mono HBB.out.size)
          have hB5 := (Below.refl wC.heap.size wC).alloc (Nat.le_refl _) (.cells #[.string SS] 9)
          have hs5 := heap_alloc_new wC (.cells #[.string SS] 9)
          have hb6 := hbC.trans (hB5.mono hbC.size)
          have hx5 := ckb hB5 (ckb hBC HXB.out)
          have hy5 := ckb hB5 (ckb hBC HYB.out)
          obtain ⟨V, hV⟩ : ∃ X, wC.heap.size = X := ⟨_, rfl⟩
          obtain ⟨wD, hwD⟩ : ∃ W, wC.alloc (.cells #[.string SS] 9) = W := ⟨_, rfl⟩
          rw [hwD] at hs5 hb6 hx5 hy5
          rw [hV] at hs5
          have hs5 : wD.cell? ⟨V, 0, none⟩ = some (.string SS) := by simp only [World.cell?, hs5]; rfl
          have HWD := Lib.hid hwD; have HV := Lib.hid hV; have HBD := Lib.hid hb6; have HSD := Lib.hid hs5; have HXD := Lib.hid hx5; have HYD := Lib.hid hy5
          clear hBC hbC hB5 hb6 hwD hV
          go_upto_region 15 with fail
          try rw [HWD.out]
          try rw [HV.out]
          go_wp2_with fail
          refine (names1_any X Y SS t _ n c L wD HN.out (by omega) (HG.out.below HBD.out) HH.out hSs hx5 hy5).mono ?_
          rintro e wE ⟨rfl, hBE⟩
          have HBE := Lib.hid (HBD.out.trans (hBE.mono HBD.out.size))
          have hxE := ckb hBE HXD.out; have hsE := ckb hBE HSD.out
          have HXE := Lib.hid hxE; have HYE := Lib.hid (ckb hBE HYD.out); have HSE := Lib.hid hsE
          clear hBE hx5 hy5 hs5
          cases hs : shownB (L.map Gr.g) SS.data.toList t with
          | true =>
            have HV : Hid (R = 2) := Lib.hid (by rw [HJ3.out, if_pos hs])
            clear hs
            go_wp2_with fail
            go_ret
            exact ⟨by rw [HV.out]; rfl, HBE.out⟩
          | false =>
          have HJ4 : Hid (R = match (L.map Gr.g).find? (fun h => denyB h SS.data.toList) with
            | some h => if withinS h.nx.data.toList SS.data.toList = true then 2 else 1
            | none => judgeF (L.map Gr.g) q.data.toList t ((L.map Gr.g).drop (k + 1))) := Lib.hid (by rw [HJ3.out, if_neg (by rw [hs]; simp)])
          clear hs
          go_wp2_with fail
          refine (firstN_any 46 #[.pointer (some ⟨V, 0, none⟩)] (fun g => denyB g SS.data.toList) _ n c L wE (fun _ _ => rfl) HN.out (by omega) (HG.out.below HBE.out) (fun r hr wx hB => names2_any r V SS wx ((HG.out.ty r hr).below (HBE.out.trans (hB.mono HBE.out.size))) (HH.out r hr) hSs (ckb hB HSE.out))).mono ?_
          rintro e wF ⟨⟨r2, b, rfl, f1, f2⟩, hBF⟩
          have HBF := Lib.hid (HBE.out.trans (hBF.mono HBE.out.size))
          have hbxF := ckb hBF HXE.out; have hbyF := ckb hBF HYE.out; have hbsF := ckb hBF HSE.out
          have HF1 := Lib.hid f1; have HF2 := Lib.hid f2
          clear hBF f1 f2 hxE hsE
          have hB8' := (Below.refl wF.heap.size wF).alloc (Nat.le_refl _) (.cells (nameC r2.g r2.v) 58)
          have hyG : AtN (wF.alloc (.cells (nameC r2.g r2.v) 58)) wF.heap.size r2 := heap_alloc_new _ _
          have hxG := ckb hB8' hbxF; have hyyG := ckb hB8' hbyF; have hsG := ckb hB8' hbsF
          have hbG := HBF.out.trans (hB8'.mono HBF.out.size)
          obtain ⟨U, hU⟩ : ∃ X, wF.heap.size = X := ⟨_, rfl⟩
          obtain ⟨wG, hwG⟩ : ∃ W, wF.alloc (.cells (nameC r2.g r2.v) 58) = W := ⟨_, rfl⟩
          rw [hwG] at hyG hxG hyyG hsG hbG
          rw [hU] at hyG
          have HWG : Hid (wF.alloc (.cells #[.slice r2.a r2.n r2.c, .string r2.g.x.o, .int .i64 r2.g.x.t, .int .i64 r2.g.x.c, .int .i64 r2.g.x.l, .string r2.g.x.d, .string r2.g.x.o, .string r2.g.nx] 58) = wG) := Lib.hid hwG
          have HU := Lib.hid hU; have HBG := Lib.hid hbG; have HXG := Lib.hid hxG; have HYG := Lib.hid hyyG
          clear hB8' hbG hwG hU hbxF hbyF hbsF hxG hyyG
          dsimp only [nameC, Gr.v]
          go_upto_region 18 with fail
          try rw [HWG.out]
          try rw [HU.out]
          cases b with
          | false =>
            have HNX2 : Hid (judgeF (L.map Gr.g) q.data.toList t ((L.map Gr.g).drop (k + 1)) = R) := Lib.hid (by rw [HJ4.out, HF2.out (by trivial)])
            go_wp2_with fail
            have hkg := HKG.out
            go_roundg (gk - 1)
            case rel => exact ⟨k + 1, by go_num, by omega, by omega, HNX2, HXG, HYG, HBG⟩
            case measure => omega
          | true =>
            have hm := (HF1.out (by trivial)).1
            have hok := (HG.out.ty r2 hm).ok
            have HVV : Hid (R = if withinS r2.g.nx.data.toList SS.data.toList = true then 2 else 1) := Lib.hid (by rw [HJ4.out, (HF1.out (by trivial)).2])
            have CW2 := Lib.hid (fun wx => nameB.nwithin_any r2.g.nx SS wx (by have := hok.nx; omega) (by omega))
            simp only [Go.Proofs.YtanoiiodnddkfaaGreat.nameC.within_same] at CW2
            obtain ⟨wi2, hwi2⟩ : ∃ b, withinS r2.g.nx.data.toList SS.data.toList = b := ⟨_, rfl⟩
            rw [hwi2] at CW2 HVV
            clear hm hok hwi2
            obtain ⟨d0, d1, d2, d3, d4, d5, d6, d7⟩ := cells8 (g := r2.g) (a := r2.a) (n := r2.n) (c := r2.c) hyG
            go_wp2_with fail
            refine (CW2.out wG).mono ?_
            rintro e wH ⟨rfl, hBH⟩
            have HBH := Lib.hid (HBG.out.trans (hBH.mono HBG.out.size))
            clear hBH
            cases wi2 with
            | true =>
              go_wp2_with fail
              go_ret
              exact ⟨by rw [HVV.out]; rfl, HBH.out⟩
            | false =>
              go_wp2_with fail
              go_ret
              exact ⟨by rw [HVV.out]; rfl, HBH.out⟩
    · have hnl : ¬ (k : Int) < (n : Int) := by omega
      have HF : Hid (R = 0) := Lib.hid (judgeF_nil HW2.out (by rw [List.length_map]; have := HN.out; omega))
      go_wp2_with fail
      go_ret
      exact ⟨by rw [HF.out]; rfl, HB.out⟩
end Go.Proofs.YtanoiiodnddkfaaGreat.judgeN
