/- proof.gather: walk (gen_gather.py). proof.Judge, Absent: walks (gen_jt.py). The reference's Gap in a box (gen_gapm.py). gazetteerref4.Zonal: walk. gazetteerref1.spread: walk. -/
import Derived.Test.YtanoiiodnddkfaaGreatJ23
import Derived.Test.YtanoiiodnddkfaaGreatJ22
import Derived.Test.YtanoiiodnddkfaaGreatJ21
import Derived.Test.YtanoiiodnddkfaaGreatJ20
import Derived.Test.YtanoiiodnddkfaaGreatJ17
import Derived.Test.YtanoiiodnddkfaaGreatJ19
import Derived.Test.YtanoiiodnddkfaaGreatJ13
import Derived.Test.YtanoiiodnddkfaaGreatJ10
import Derived.Deep.AppendLies
import Derived.BigQuiet
namespace Go.Proofs.YtanoiiodnddkfaaGreat.gather
open Go.RowKit Go.Proofs.YtanoiiodnddkfaaGreat.kit Go.Proofs.YtanoiiodnddkfaaGreat.nspec Go.Proofs.YtanoiiodnddkfaaGreat.refA Go.Proofs.YtanoiiodnddkfaaGreat.refB Go.Proofs.YtanoiiodnddkfaaGreat.rsplit Go.Proofs.YtanoiiodnddkfaaGreat.fld Go.Proofs.YtanoiiodnddkfaaGreat.timed Go.Proofs.YtanoiiodnddkfaaGreat.wireP Go.Proofs.YtanoiiodnddkfaaGreat.rows Go.Proofs.YtanoiiodnddkfaaGreat.gapP Go.Proofs.YtanoiiodnddkfaaGreat.bits Go.Proofs.YtanoiiodnddkfaaGreat.ints Go.Proofs.YtanoiiodnddkfaaGreat.gapA Go.Proofs.YtanoiiodnddkfaaGreat.gapC Go.Proofs.YtanoiiodnddkfaaGreat.gapN Go.Proofs.YtanoiiodnddkfaaGreat.gapR Go.Proofs.YtanoiiodnddkfaaGreat.useP Go.Proofs.YtanoiiodnddkfaaGreat.useM Go.Proofs.YtanoiiodnddkfaaGreat.judgeP Go.Proofs.YtanoiiodnddkfaaGreat.first Go.Proofs.YtanoiiodnddkfaaGreat.readN Go.Proofs.YtanoiiodnddkfaaGreat.readH
set_option linter.unusedVariables false

theorem infoTN : (Tryz.prog.info? 58).map (fun i => (i.zero, i.size, i.bytes)) = some (some (.agg #[.slice none 0 0, .string ByteArray.empty, .int .i64 0, .int .i64 0, .int .i64 0, .string ByteArray.empty, .string ByteArray.empty, .string ByteArray.empty]), 8, 112) := by kernel_rfl
theorem infoTH : (Tryz.prog.info? 63).map (fun i => (i.zero, i.size, i.bytes)) = some (some (.agg #[.slice none 0 0, .string ByteArray.empty, .int .i64 0, .int .i64 0, .int .i64 0, .string ByteArray.empty, .string ByteArray.empty, .string ByteArray.empty, .string ByteArray.empty, .int .i64 0]), 10, 136) := by kernel_rfl
theorem one_nL (r : Gr) : ∀ u ∈ r.nameL, u.oneCell' = true := by
  intro u hu
  simp only [Gr.nameL, Gr.v, List.mem_cons, List.not_mem_nil, or_false] at hu
  rcases hu with rfl | rfl | rfl | rfl | rfl | rfl | rfl | rfl <;> rfl
theorem one_hL (r : Gr) : ∀ u ∈ r.hashL, u.oneCell' = true := by
  intro u hu
  simp only [Gr.hashL, Gr.v, List.mem_cons, List.not_mem_nil, or_false] at hu
  rcases hu with rfl | rfl | rfl | rfl | rfl | rfl | rfl | rfl | rfl | rfl <;> rfl
/-- a list of records that is read -/
theorem recs_at {w : World} {a : Option Addr} {L : List Rc} (h : RdC w a 5 (L.map Rc.cells)) {k : Nat} {x : Rc} (hk : L[k]? = some x) :
    ∃ g o, a = some ⟨g, o, none⟩ ∧ g < w.heap.size ∧ ∀ i u, x.cells[i]? = some u → w.cell? ⟨g, o + k * 5 + i, none⟩ = some u := by
  obtain ⟨_, g, o, h1, h2, h3⟩ := h k x.cells (by rw [List.getElem?_map, hk]; rfl)
  exact ⟨g, o, h1, h2, h3⟩
/-- the specification, one record at a time -/
theorem names_snoc {ap : Bs} {L : List Rc} {k : Nat} {x : Rc} (h : L[k]? = some x) : namesG ap (L.take (k + 1)) = namesG ap (L.take k) ++ (useN ap x).toList := by
  obtain ⟨h1, h2⟩ := List.getElem?_eq_some_iff.1 h
  unfold namesG
  rw [List.take_succ_eq_append_getElem h1, h2, List.filterMap_append]
  congr 1
theorem hashes_snoc {ap : Bs} {L : List Rc} {k : Nat} {x : Rc} (h : L[k]? = some x) : hashesG ap (L.take (k + 1)) = takeH (hashesG ap (L.take k)) (useH ap x) := by
  obtain ⟨h1, h2⟩ := List.getElem?_eq_some_iff.1 h
  unfold hashesG
  rw [List.take_succ_eq_append_getElem h1, h2, List.foldl_append]
  rfl
theorem useN_t {ap : Bs} {x : Rc} {g : Gp} (h : useN ap x = some g) : x.t = 47 ∧ g.hashed = false := by
  unfold useN at h
  split at h
  · rename_i hc
    refine ⟨hc.1, ?_⟩
    split at h
    · split at h
      · cases h; rfl
      · cases h
    · cases h
  · cases h
theorem useH_t {ap : Bs} {x : Rc} {g : Gp} (h : useH ap x = some g) : x.t = 50 ∧ g.hashed = true := by
  unfold useH at h
  split at h
  · rename_i hc
    refine ⟨hc.1, ?_⟩
    split at h
    · split at h
      · split at h
        · split at h
          · cases h; rfl
          · cases h
        · cases h
      · cases h
    · cases h
  · cases h
/-- what gather answers -/
def GatherE (ap : Bs) (L : List Rc) (w : World) (e : Ending) (w' : World) : Prop :=
  ∃ nv hv P Q, e = .returned (.tuple #[nv, hv]) ∧ TwoL w' w.heap.size 58 63 8 10 Gr.nameL Gr.hashL nv hv P Q ∧ P.map Gr.g = namesG ap L ∧ Q.map Gr.g = hashesG ap L ∧ Below w.heap.size w w'
set_option maxRecDepth 100000 in
set_option maxHeartbeats 4800000 in
theorem gather_any (ap : ByteArray) (a : Option Addr) (n c : Nat) (L : List Rc) (w : World) (hap : ap.size ≤ 1048576) (hn : L.length = n) (hnl : n ≤ 16777216) (hr : RdC w a 5 (L.map Rc.cells)) (ho : ∀ x ∈ L, x.o.size ≤ 1048576 ∧ x.d.size ≤ maxLen) :
    Calls Tryz.prog 12 #[.string ap, .slice a n c] w (GatherE ap.data.toList L w) := by
  obtain ⟨iN, hifN, hz0N, hz1N, hz2N⟩ := info_parts infoTN
  obtain ⟨iH, hifH, hz0H, hz1H, hz2H⟩ := info_parts infoTH
  have HN := Lib.hid hn; have HRD := Lib.hid hr; have HO := Lib.hid ho
  clear hn hr ho
  go_enter Tryz.func12, Tryz.ntmps12
  go_wp2_with fail
  go_loopg [4, 5, 14] (n + 1) (fun gas nv hv kv wr => ∃ (k : Nat) (P Q : List Gr), kv = .int .i64 (k : Int) ∧ k ≤ n ∧ k + gas = n + 1 ∧ Hid (TwoL wr w.heap.size 58 63 8 10 Gr.nameL Gr.hashL nv hv P Q) ∧ Hid (P.map Gr.g = namesG ap.data.toList (L.take k)) ∧ Hid (Q.map Gr.g = hashesG ap.data.toList (L.take k)) ∧ Hid (P.length ≤ k ∧ Q.length ≤ k) ∧ Hid (Below w.heap.size w wr))
  case atStart => exact ⟨0, [], [], rfl, by omega, by omega, Lib.hid (TwoL.nil _ _ _ _ _ _ _ _), Lib.hid rfl, Lib.hid rfl, Lib.hid ⟨Nat.le_refl _, Nat.le_refl _⟩, Lib.hid (Below.refl _ _)⟩
  case round =>
    obtain ⟨k, P, Q, rfl, hk, hkg, HT, HP, HQ, HPQ, HB⟩ := hrel
    have HKG := Lib.hid hkg; clear hkg
    obtain ⟨nv, hnv⟩ : ∃ v, u4 = v := ⟨_, rfl⟩
    subst hnv
    obtain ⟨hv, hhv⟩ : ∃ v, u5 = v := ⟨_, rfl⟩
    subst hhv
    obtain ⟨a1, c1, hv1, hc1, hc1m⟩ := own_slice HT.out.one
    obtain ⟨a2, c2, hv2, hc2, hc2m⟩ := own_slice HT.out.two
    subst hv1
    subst hv2
    obtain ⟨p, hp⟩ : ∃ p, P.length = p := ⟨_, rfl⟩
    obtain ⟨q, hq⟩ : ∃ q, Q.length = q := ⟨_, rfl⟩
    have hpk : p ≤ k := by rw [← hp]; exact HPQ.out.1
    have hqk : q ≤ k := by rw [← hq]; exact HPQ.out.2
    rw [hp] at HT hc1 ⊢
    rw [hq] at HT hc2 ⊢
    have HPL := Lib.hid hp; have HQL := Lib.hid hq
    have Hwrz : Hid (w.heap.size ≤ wr.heap.size) := Lib.hid HB.out.size
    clear hp hq HPQ
    by_cases hlt : k < n
    · obtain ⟨x, hx⟩ : ∃ x, L[k]? = some x := ⟨_, List.getElem?_eq_getElem (by have := HN.out; omega)⟩
      obtain ⟨hxo, hxd⟩ := HO.out x (List.mem_of_getElem? hx)
      have HXK := Lib.hid hx
      obtain ⟨g1, o1, rfl, hg1, hcl⟩ := recs_at HRD.out hx
      have hcb : ∀ i u, x.cells[i]? = some u → wr.cell? ⟨g1, o1 + k * 5 + i, none⟩ = some u := fun i u hu => (HB.out.cell (p := ⟨g1, o1 + k * 5 + i, none⟩) hg1).trans (hcl i u hu)
      have y0 : wr.cell? ⟨g1, o1 + k * 5, none⟩ = some (.string x.o) := hcb 0 _ rfl
      have y1 : wr.cell? ⟨g1, o1 + k * 5 + 1, none⟩ = some (.int .i64 x.t) := hcb 1 _ rfl
      have y2 : wr.cell? ⟨g1, o1 + k * 5 + 2, none⟩ = some (.int .i64 x.c) := hcb 2 _ rfl
      have y3 : wr.cell? ⟨g1, o1 + k * 5 + 3, none⟩ = some (.int .i64 x.l) := hcb 3 _ rfl
      have y4 : wr.cell? ⟨g1, o1 + k * 5 + 4, none⟩ = some (.string x.d) := hcb 4 _ rfl
      have zk : (0 : Int) ≤ (k : Int) := by omega
      have zl : (k : Int) < (n : Int) := by omega
      have CN := Lib.hid (fun wx => readN.readN_any ap x wx hap hxo hxd)
      have CH := Lib.hid (fun wx => readH.readH_any ap x wx hap hxo hxd)
      have hB7 := (Below.refl wr.heap.size wr).alloc (Nat.le_refl _) (.cells #[.string x.o, .int .i64 x.t, .int .i64 x.c, .int .i64 x.l, .string x.d] 32 (0, 0))
      have hx7 := heap_alloc_new wr (.cells #[.string x.o, .int .i64 x.t, .int .i64 x.c, .int .i64 x.l, .string x.d] 32 (0, 0))
      obtain ⟨X, hX⟩ : ∃ X, wr.heap.size = X := ⟨_, rfl⟩
      obtain ⟨W, hW⟩ : ∃ W, wr.alloc (.cells #[.string x.o, .int .i64 x.t, .int .i64 x.c, .int .i64 x.l, .string x.d] 32 (0, 0)) = W := ⟨_, rfl⟩
      have hT7 := HT.out.below hB7
      rw [hW] at hB7 hx7 hT7
      rw [hX] at hx7
      have HW := Lib.hid hW; have HX := Lib.hid hX; have HT7 := Lib.hid hT7; have HX7 := Lib.hid hx7
      have HB7 := Lib.hid (HB.out.trans (hB7.mono HB.out.size))
      clear hx hcl hcb hg1 hB7 hX hW hT7 HB HT
      go_upto_region 4 with fail
      try rw [HW.out]
      try rw [HX.out]
      clear y0 y1 y2 y3 y4
      go_wp2_with (refine wpList_load_row rfl 32 _ rfl X rfl 32 _ _ _ hx7 Tryz.underlying32 rfl (by rw [infoR]; rfl) ?_)
      refine (CN.out W).mono ?_
      rintro e w2 ⟨⟨r, b, rfl, hr1, hr2⟩, hB2⟩
      have hx2 := (hB2.block X (blk_lt hx7)).trans hx7
      have HT2 := Lib.hid (HT7.out.below hB2)
      have HB2 := Lib.hid (HB7.out.trans (hB2.mono HB7.out.size))
      clear hx7
      have hB3 := (Below.refl w2.heap.size w2).alloc (Nat.le_refl _) (.cells (nameC r.g r.v) 58)
      have hy3 : AtN (w2.alloc (.cells (nameC r.g r.v) 58)) w2.heap.size r := heap_alloc_new _ _
      have hx3 := (hB3.block X (blk_lt hx2)).trans hx2
      have hT3 := HT2.out.below hB3
      obtain ⟨Y, hY⟩ : ∃ Y, w2.heap.size = Y := ⟨_, rfl⟩
      obtain ⟨w3, hw3⟩ : ∃ W, w2.alloc (.cells (nameC r.g r.v) 58) = W := ⟨_, rfl⟩
      have HB3 := Lib.hid (HB2.out.trans (hB3.mono HB2.out.size))
      have HTY : Hid (b = true → TyO w3 w.heap.size r) := Lib.hid (fun h => by
        have h1 := ((hr1 h).2.below hB3).mono (HB7.out.size)
        rw [hw3] at h1; exact h1)
      rw [hw3] at hy3 hx3 hT3 HB3
      rw [hY] at hy3
      have HW3 : Hid (w2.alloc (.cells #[.slice r.a r.n r.c, .string r.g.x.o, .int .i64 r.g.x.t, .int .i64 r.g.x.c, .int .i64 r.g.x.l, .string r.g.x.d, .string r.g.x.o, .string r.g.nx] 58) = w3) := Lib.hid hw3
      have HY := Lib.hid hY; have HT3 := Lib.hid hT3; have HX3 := Lib.hid hx3; have HY3 := Lib.hid hy3
      have HR1 := Lib.hid hr1; have HR2 := Lib.hid hr2
      have Hw3z : Hid (w.heap.size ≤ w3.heap.size) := Lib.hid HB3.out.size
      clear hB2 hB3 hx2 hT3 hY hw3 hr1 hr2 hx3
      dsimp only [nameC, Gr.v]
      trace "5"
      go_upto_region 5 with fail
      try rw [HW3.out]
      try rw [HY.out]
      cases b with
      | true =>
        have HU := Lib.hid (HR1.out rfl).1
        obtain ⟨d0, d1, d2, d3, d4, d5, d6, d7⟩ := cells8 (g := r.g) (a := r.a) (n := r.n) (c := r.c) hy3
        have HRON := Lib.hid HT3.out.one
        rw [HPL.out] at HRON
        trace "6"
        go_wp2_with (at_builtin; refine wpList_append_lies _ rfl _ _ 35 rfl w.heap.size 58 iN _ 8 112 Tryz.underlying35 hifN hz0N hz1N hz2N rfl (by decide) (.slice a1 p c1) p (P.flatMap Gr.nameL) rfl (HRON.out.alloc _) ⟨w3.heap.size, 0, none⟩ 1 1 r.nameL rfl rfl ?d1N1 ?d2N1 (by decide) ?d3N1 ?d4N1 ?d5N1 _ rfl ?_)
        try case d1N1 => exact fun j u hu => hu
        try case d2N1 => exact one_nL r
        try case d3N1 => unfold maxLen; omega
        try case d4N1 => omega
        try case d5N1 => have := Hw3z.out; omega
        intro g7N1 cpN1 w4 hown hgr hat hlt
        have HBw4 := Lib.hid (below_append' (HB3.out.alloc Hw3z.out (.cells #[.slice r.a r.n r.c, .string r.g.x.o, .int .i64 r.g.x.t, .int .i64 r.g.x.c, .int .i64 r.g.x.l, .string r.g.x.d, .string r.g.x.o, .string r.g.nx] 58)) (by rw [World.size_alloc]; have := Hw3z.out; omega) (HRON.out.alloc _) hgr)
        have hBa := (Below.refl w3.heap.size w3).alloc (Nat.le_refl _) (.cells #[.slice r.a r.n r.c, .string r.g.x.o, .int .i64 r.g.x.t, .int .i64 r.g.x.c, .int .i64 r.g.x.l, .string r.g.x.d, .string r.g.x.o, .string r.g.nx] 58)
        have hT3a := HT3.out.below hBa
        have hTya := (HTY.out (by trivial)).below hBa
        have hT4 := hT3a.push (by decide) hTya hgr (nv := .slice (some ⟨g7N1, 0, none⟩) (p + 1) cpN1) (by rw [HPL.out]; exact hown) (hat.imp (fun h => h.symm) (fun h => by rw [h]; simp [Value.ownBlock]))
        have hx3a := (hBa.block X (blk_lt HX3.out)).trans HX3.out
        have hx4 := (hgr.block X (blk_lt hx3a) (row_neG hT3a.one hx3a (fun cur f e => by injection e with _ e2 _; exact absurd e2 (by decide)))).trans hx3a
        have HT4 := Lib.hid hT4; have HX4 := Lib.hid hx4
        have HP4 : Hid ((P ++ [r]).map Gr.g = namesG ap.data.toList (L.take (k + 1))) := Lib.hid (by rw [names_snoc HXK.out, HU.out, List.map_append, HP.out]; rfl)
        clear hBa hT3a hTya hT4 hx3a hown hgr hat hlt d0 d1 d2 d3 d4 d5 d6 d7 hy3
        trace "7"
        go_wp2_with (refine wpList_load_row rfl 32 _ rfl X rfl 32 _ _ _ hx4 Tryz.underlying32 rfl (by rw [infoR]; rfl) ?_)
        refine (CH.out w4).mono ?_
        rintro e w5 ⟨⟨r2, b2, rfl, hr3, hr4⟩, hB5⟩
        have HT5 := Lib.hid (HT4.out.below hB5)
        have HB5 := Lib.hid (HBw4.out.trans (hB5.mono HBw4.out.size))
        clear hx4
        have hB6 := (Below.refl w5.heap.size w5).alloc (Nat.le_refl _) (.cells (hashC r2.g r2.v) 63)
        have hy6 : AtH (w5.alloc (.cells (hashC r2.g r2.v) 63)) w5.heap.size r2 := heap_alloc_new _ _
        have hT6 := HT5.out.below hB6
        obtain ⟨Y6, hY6⟩ : ∃ Y, w5.heap.size = Y := ⟨_, rfl⟩
        obtain ⟨w6, hw6⟩ : ∃ W, w5.alloc (.cells (hashC r2.g r2.v) 63) = W := ⟨_, rfl⟩
        have HB6 := Lib.hid (HB5.out.trans (hB6.mono HB5.out.size))
        have HTY6 : Hid (b2 = true → TyO w6 w.heap.size r2) := Lib.hid (fun h => by
          have h1 := ((hr3 h).2.below hB6).mono HBw4.out.size
          rw [hw6] at h1; exact h1)
        rw [hw6] at hy6 hT6 HB6
        rw [hY6] at hy6
        have HW6 : Hid (w5.alloc (.cells #[.slice r2.a r2.n r2.c, .string r2.g.x.o, .int .i64 r2.g.x.t, .int .i64 r2.g.x.c, .int .i64 r2.g.x.l, .string r2.g.x.d, .string r2.g.own, .string r2.g.nx, .string r2.g.salt, .int .i64 r2.g.rounds] 63) = w6) := Lib.hid hw6
        have HYY6 := Lib.hid hY6; have HT6 := Lib.hid hT6; have HY6 := Lib.hid hy6
        have HR3 := Lib.hid hr3; have HR4 := Lib.hid hr4
        have Hw6z : Hid (w.heap.size ≤ w6.heap.size) := Lib.hid HB6.out.size
        clear hB5 hB6 hT6 hY6 hw6 hr3 hr4
        dsimp only [hashC, Gr.v]
        go_upto_region 8 with fail
        try rw [HW6.out]
        try rw [HYY6.out]
        obtain ⟨d0, d1, d2, d3, d4, d5, d6, d7, d8, d9⟩ := cells10 (g := r2.g) (a := r2.a) (n := r2.n) (c := r2.c) hy6
        clear hy6
        cases b2 with
        | true =>
          exfalso
          have h1 := (useN_t HU.out).1
          have h2 := (useH_t (HR3.out (by trivial)).1).1
          omega
        | false =>
          trace "8"
          have HV := Lib.hid (HR4.out (by trivial))
          have HQ6 : Hid (Q.map Gr.g = hashesG ap.data.toList (L.take (k + 1))) := Lib.hid (by rw [hashes_snoc HXK.out, HV.out, HQ.out]; rfl)
          go_quiet (fail)
          have HB8 : Hid (Below w.heap.size w (w6.drewN nq)) := Lib.hid (bel_drewN HB6.out nq)
          have HT8 := Lib.hid (HT6.out.below (bel_drewN (Below.refl w6.heap.size w6) nq))
          go_wp2_with fail
          have hkg := HKG.out
          go_roundg (gk - 1)
          case rel => exact ⟨k + 1, P ++ [r], Q, by go_num, by omega, by omega, HT8, HP4, HQ6, Lib.hid ⟨by first | (rw [HPL.out]; omega) | (rw [List.length_append, HPL.out]; simp; omega), by have := HQL.out; omega⟩, HB8⟩
          case measure => omega
      | false =>
        have HU := Lib.hid (HR2.out (by trivial))
        have hx4 := HX3.out
        have HX4 := Lib.hid hx4
        have HP4 : Hid (P.map Gr.g = namesG ap.data.toList (L.take (k + 1))) := Lib.hid (by rw [names_snoc HXK.out, HU.out, HP.out]; simp)
        clear hy3
        trace "9"
        go_wp2_with (refine wpList_load_row rfl 32 _ rfl X rfl 32 _ _ _ hx4 Tryz.underlying32 rfl (by rw [infoR]; rfl) ?_)
        refine (CH.out w3).mono ?_
        rintro e w5 ⟨⟨r2, b2, rfl, hr3, hr4⟩, hB5⟩
        have HT5 := Lib.hid (HT3.out.below hB5)
        have HB5 := Lib.hid (HB3.out.trans (hB5.mono HB3.out.size))
        clear hx4
        have hB6 := (Below.refl w5.heap.size w5).alloc (Nat.le_refl _) (.cells (hashC r2.g r2.v) 63)
        have hy6 : AtH (w5.alloc (.cells (hashC r2.g r2.v) 63)) w5.heap.size r2 := heap_alloc_new _ _
        have hT6 := HT5.out.below hB6
        obtain ⟨Y6, hY6⟩ : ∃ Y, w5.heap.size = Y := ⟨_, rfl⟩
        obtain ⟨w6, hw6⟩ : ∃ W, w5.alloc (.cells (hashC r2.g r2.v) 63) = W := ⟨_, rfl⟩
        have HB6 := Lib.hid (HB5.out.trans (hB6.mono HB5.out.size))
        have HTY6 : Hid (b2 = true → TyO w6 w.heap.size r2) := Lib.hid (fun h => by
          have h1 := ((hr3 h).2.below hB6).mono HB3.out.size
          rw [hw6] at h1; exact h1)
        rw [hw6] at hy6 hT6 HB6
        rw [hY6] at hy6
        have HW6 : Hid (w5.alloc (.cells #[.slice r2.a r2.n r2.c, .string r2.g.x.o, .int .i64 r2.g.x.t, .int .i64 r2.g.x.c, .int .i64 r2.g.x.l, .string r2.g.x.d, .string r2.g.own, .string r2.g.nx, .string r2.g.salt, .int .i64 r2.g.rounds] 63) = w6) := Lib.hid hw6
        have HYY6 := Lib.hid hY6; have HT6 := Lib.hid hT6; have HY6 := Lib.hid hy6
        have HR3 := Lib.hid hr3; have HR4 := Lib.hid hr4
        have Hw6z : Hid (w.heap.size ≤ w6.heap.size) := Lib.hid HB6.out.size
        clear hB5 hB6 hT6 hY6 hw6 hr3 hr4
        dsimp only [hashC, Gr.v]
        go_upto_region 8 with fail
        try rw [HW6.out]
        try rw [HYY6.out]
        obtain ⟨d0, d1, d2, d3, d4, d5, d6, d7, d8, d9⟩ := cells10 (g := r2.g) (a := r2.a) (n := r2.n) (c := r2.c) hy6
        clear hy6
        cases b2 with
        | false =>
          trace "10"
          have HV := Lib.hid (HR4.out (by trivial))
          have HQ6 : Hid (Q.map Gr.g = hashesG ap.data.toList (L.take (k + 1))) := Lib.hid (by rw [hashes_snoc HXK.out, HV.out, HQ.out]; rfl)
          go_quiet (fail)
          have HB8 : Hid (Below w.heap.size w (w6.drewN nq)) := Lib.hid (bel_drewN HB6.out nq)
          have HT8 := Lib.hid (HT6.out.below (bel_drewN (Below.refl w6.heap.size w6) nq))
          go_wp2_with fail
          have hkg := HKG.out
          go_roundg (gk - 1)
          case rel => exact ⟨k + 1, P, Q, by go_num, by omega, by omega, HT8, HP4, HQ6, Lib.hid ⟨by first | (rw [HPL.out]; omega) | (rw [List.length_append, HPL.out]; simp; omega), by have := HQL.out; omega⟩, HB8⟩
          case measure => omega
        | true =>
          have HV := Lib.hid (HR3.out (by trivial)).1
          cases Q with
          | nil =>
            obtain rfl : q = 0 := HQL.out.symm
            have HQ6 : Hid (([] ++ [r2]).map Gr.g = hashesG ap.data.toList (L.take (k + 1))) := Lib.hid (by rw [hashes_snoc HXK.out, HV.out, ← HQ.out]; rfl)
            go_quiet (fail)
            trace "11"
            obtain ⟨w7, hw7⟩ : ∃ z, w6.drewN nq = z := ⟨_, rfl⟩
            have hB7d : Below w6.heap.size w6 w7 := by rw [← hw7]; exact bel_drewN (Below.refl _ _) nq
            rw [hw7]
            have HB7 := Lib.hid (HB6.out.trans (hB7d.mono HB6.out.size))
            have HT7 := Lib.hid (HT6.out.below hB7d)
            have HTY7 := Lib.hid ((HTY6.out (by trivial)).below hB7d)
            have hy7 := HY6.out.below hB7d
            clear hw7 hB7d d0 d1 d2 d3 d4 d5 d6 d7 d8 d9
            obtain ⟨d0, d1, d2, d3, d4, d5, d6, d7, d8, d9⟩ := cells10 (g := r2.g) (a := r2.a) (n := r2.n) (c := r2.c) hy7
            have HROH := Lib.hid HT7.out.two
            rw [HQL.out] at HROH
            have Hw7z : Hid (w.heap.size ≤ w7.heap.size) := Lib.hid HB7.out.size
            clear hy7
            go_wp2_with (at_builtin; refine wpList_append_lies _ rfl _ _ 36 rfl w.heap.size 63 iH _ 10 136 Tryz.underlying36 hifH hz0H hz1H hz2H rfl (by decide) (.slice a2 0 c2) 0 (([] : List Gr).flatMap Gr.hashL) rfl (HROH.out.alloc _) ⟨w7.heap.size, 0, none⟩ 1 1 r2.hashL rfl rfl ?d1H12 ?d2H12 (by decide) ?d3H12 ?d4H12 ?d5H12 _ rfl ?_)
            try case d1H12 => exact fun j u hu => hu
            try case d2H12 => exact one_hL r2
            try case d3H12 => unfold maxLen; omega
            try case d4H12 => omega
            try case d5H12 => have := Hw7z.out; omega
            intro g7H12 cpH12 w8 hown hgr hat hlt
            have HBw8 := Lib.hid (below_append' (HB7.out.alloc Hw7z.out (.cells #[.slice r2.a r2.n r2.c, .string r2.g.x.o, .int .i64 r2.g.x.t, .int .i64 r2.g.x.c, .int .i64 r2.g.x.l, .string r2.g.x.d, .string r2.g.own, .string r2.g.nx, .string r2.g.salt, .int .i64 r2.g.rounds] 63)) (by rw [World.size_alloc]; have := Hw7z.out; omega) (HROH.out.alloc _) hgr)
            have hBa := (Below.refl w7.heap.size w7).alloc (Nat.le_refl _) (.cells #[.slice r2.a r2.n r2.c, .string r2.g.x.o, .int .i64 r2.g.x.t, .int .i64 r2.g.x.c, .int .i64 r2.g.x.l, .string r2.g.x.d, .string r2.g.own, .string r2.g.nx, .string r2.g.salt, .int .i64 r2.g.rounds] 63)
            have hT7a := HT7.out.below hBa
            have hTya := HTY7.out.below hBa
            have HT8 := Lib.hid (hT7a.swap.push (by decide) hTya hgr (nv := .slice (some ⟨g7H12, 0, none⟩) (0 + 1) cpH12) (by rw [HQL.out]; exact hown) (hat.imp (fun h => h.symm) (fun h => by rw [h]; simp [Value.ownBlock]))).swap
            clear hBa hT7a hTya hown hgr hat hlt d0 d1 d2 d3 d4 d5 d6 d7 d8 d9
            go_wp2_with fail
            have hkg := HKG.out
            go_roundg (gk - 1)
            case rel => exact ⟨k + 1, P, [] ++ [r2], by go_num, by omega, by omega, HT8, HP4, HQ6, Lib.hid ⟨by rw [HPL.out]; omega, by have h9 := HQL.out; simp only [List.length_append, List.length_cons, List.length_nil] at h9 ⊢; omega⟩, HBw8⟩
            case measure => omega
          | cons h Qr =>
            obtain ⟨ah, ch, ehq, _, _, hgq⟩ := gaps_own (f := Gr.hashL) (m := 10) (fun _ => rfl) HT6.out.two HT6.out.ty2
            obtain ⟨gq, oq, eq1, hgl, hcq⟩ := hgq.at (k := 0) (r := h) rfl
            simp only [Value.slice.injEq] at ehq
            obtain ⟨e1, e2, e3⟩ := ehq
            subst e1
            subst eq1
            have v8 : w6.cell? ⟨gq, oq + 8, none⟩ = some (.string h.g.salt) := by have := hcq 8 _ rfl; simpa using this
            have v9 : w6.cell? ⟨gq, oq + 9, none⟩ = some (.int .i64 h.g.rounds) := by have := hcq 9 _ rfl; simpa using this
            have zq : (0 : Int) < (q : Int) := by have := HQL.out; simp at this; omega
            have zq0 : ((q : Int) == 0) = false := by rw [beq_eq_false_iff_ne]; omega
            clear hgq hcq e2 e3 hgl
            obtain ⟨sa, hsa⟩ : ∃ s, h.g.salt = s := ⟨_, rfl⟩
            obtain ⟨ro, hro⟩ : ∃ s, h.g.rounds = s := ⟨_, rfl⟩
            rw [hsa] at v8
            rw [hro] at v9
            obtain ⟨sb, hsb⟩ : ∃ s, r2.g.salt = s := ⟨_, rfl⟩
            obtain ⟨rp, hrp⟩ : ∃ s, r2.g.rounds = s := ⟨_, rfl⟩
            rw [hsb] at d8
            rw [hrp] at d9
            have HLK : Hid (likeB h.g r2.g = (decide (sb = sa) && decide (rp = ro))) := Lib.hid (by unfold likeB; rw [hsa, hro, hsb, hrp])
            have HTK : Hid (hashesG ap.data.toList (L.take (k + 1)) = if likeB h.g r2.g then (h :: Qr).map Gr.g ++ [r2.g] else (h :: Qr).map Gr.g) := Lib.hid (by rw [hashes_snoc HXK.out, HV.out, ← HQ.out]; rfl)
            have HSV := Lib.hid hsb; have HRV := Lib.hid hrp
            clear hsa hro hsb hrp
            have heq := str_eqB (a := sb) (b := sa)
            by_cases hs : sb.data.toList = sa.data.toList
            · rw [decide_eq_true hs] at heq
              have hss : sb = sa := by
                have := congrArg List.toArray hs
                cases sb; cases sa; simp at this; rw [this]
              by_cases hr : rp = ro
              · have her : (rp == ro) = true := by rw [beq_iff_eq]; exact hr
                have HQ6 : Hid (((h :: Qr) ++ [r2]).map Gr.g = hashesG ap.data.toList (L.take (k + 1))) := Lib.hid (by rw [HTK.out, HLK.out, decide_eq_true hss, decide_eq_true hr]; simp)
                clear hs hss hr
                go_quiet (fail)
                trace "12"
                rw [← HSV.out, ← HRV.out] at *
                obtain ⟨w7, hw7⟩ : ∃ z, w6.drewN nq = z := ⟨_, rfl⟩
                have hB7d : Below w6.heap.size w6 w7 := by rw [← hw7]; exact bel_drewN (Below.refl _ _) nq
                rw [hw7]
                have HB7 := Lib.hid (HB6.out.trans (hB7d.mono HB6.out.size))
                have HT7 := Lib.hid (HT6.out.below hB7d)
                have HTY7 := Lib.hid ((HTY6.out (by trivial)).below hB7d)
                have hy7 := HY6.out.below hB7d
                clear hw7 hB7d d0 d1 d2 d3 d4 d5 d6 d7 d8 d9
                obtain ⟨d0, d1, d2, d3, d4, d5, d6, d7, d8, d9⟩ := cells10 (g := r2.g) (a := r2.a) (n := r2.n) (c := r2.c) hy7
                have HROH := Lib.hid HT7.out.two
                rw [HQL.out] at HROH
                have Hw7z : Hid (w.heap.size ≤ w7.heap.size) := Lib.hid HB7.out.size
                clear hy7
                go_wp2_with (at_builtin; refine wpList_append_lies _ rfl _ _ 36 rfl w.heap.size 63 iH _ 10 136 Tryz.underlying36 hifH hz0H hz1H hz2H rfl (by decide) (.slice (some ⟨gq, oq, none⟩) q c2) q ((h :: Qr).flatMap Gr.hashL) rfl (HROH.out.alloc _) ⟨w7.heap.size, 0, none⟩ 1 1 r2.hashL rfl rfl ?d1H16 ?d2H16 (by decide) ?d3H16 ?d4H16 ?d5H16 _ rfl ?_)
                try case d1H16 => exact fun j u hu => hu
                try case d2H16 => exact one_hL r2
                try case d3H16 => unfold maxLen; omega
                try case d4H16 => omega
                try case d5H16 => have := Hw7z.out; omega
                intro g7H16 cpH16 w8 hown hgr hat hlt
                have HBw8 := Lib.hid (below_append' (HB7.out.alloc Hw7z.out (.cells #[.slice r2.a r2.n r2.c, .string r2.g.x.o, .int .i64 r2.g.x.t, .int .i64 r2.g.x.c, .int .i64 r2.g.x.l, .string r2.g.x.d, .string r2.g.own, .string r2.g.nx, .string r2.g.salt, .int .i64 r2.g.rounds] 63)) (by rw [World.size_alloc]; have := Hw7z.out; omega) (HROH.out.alloc _) hgr)
                have hBa := (Below.refl w7.heap.size w7).alloc (Nat.le_refl _) (.cells #[.slice r2.a r2.n r2.c, .string r2.g.x.o, .int .i64 r2.g.x.t, .int .i64 r2.g.x.c, .int .i64 r2.g.x.l, .string r2.g.x.d, .string r2.g.own, .string r2.g.nx, .string r2.g.salt, .int .i64 r2.g.rounds] 63)
                have hT7a := HT7.out.below hBa
                have hTya := HTY7.out.below hBa
                have HT8 := Lib.hid (hT7a.swap.push (by decide) hTya hgr (nv := .slice (some ⟨g7H16, 0, none⟩) (q + 1) cpH16) (by rw [HQL.out]; exact hown) (hat.imp (fun h => h.symm) (fun h => by rw [h]; simp [Value.ownBlock]))).swap
                clear hBa hT7a hTya hown hgr hat hlt d0 d1 d2 d3 d4 d5 d6 d7 d8 d9
                go_wp2_with fail
                have hkg := HKG.out
                go_roundg (gk - 1)
                case rel => exact ⟨k + 1, P, (h :: Qr) ++ [r2], by go_num, by omega, by omega, HT8, HP4, HQ6, Lib.hid ⟨by rw [HPL.out]; omega, by have h9 := HQL.out; simp only [List.length_append, List.length_cons, List.length_nil] at h9 ⊢; omega⟩, HBw8⟩
                case measure => omega
              · have her : (rp == ro) = false := by rw [beq_eq_false_iff_ne]; exact hr
                have HQ6 : Hid ((h :: Qr).map Gr.g = hashesG ap.data.toList (L.take (k + 1))) := Lib.hid (by rw [HTK.out, HLK.out, decide_eq_false hr, Bool.and_false]; rfl)
                clear hs hss hr
                trace "13"
                go_quiet (fail)
                have HB8 : Hid (Below w.heap.size w (w6.drewN nq)) := Lib.hid (bel_drewN HB6.out nq)
                have HT8 := Lib.hid (HT6.out.below (bel_drewN (Below.refl w6.heap.size w6) nq))
                go_wp2_with fail
                have hkg := HKG.out
                go_roundg (gk - 1)
                case rel => exact ⟨k + 1, P, h :: Qr, by go_num, by omega, by omega, HT8, HP4, HQ6, Lib.hid ⟨by first | (rw [HPL.out]; omega) | (rw [List.length_append, HPL.out]; simp; omega), by have := HQL.out; omega⟩, HB8⟩
                case measure => omega
            · rw [decide_eq_false hs] at heq
              have HQ6 : Hid ((h :: Qr).map Gr.g = hashesG ap.data.toList (L.take (k + 1))) := Lib.hid (by rw [HTK.out, HLK.out, decide_eq_false (fun e => hs (by rw [e])), Bool.false_and]; rfl)
              clear hs
              trace "14"
              go_quiet (fail)
              have HB8 : Hid (Below w.heap.size w (w6.drewN nq)) := Lib.hid (bel_drewN HB6.out nq)
              have HT8 := Lib.hid (HT6.out.below (bel_drewN (Below.refl w6.heap.size w6) nq))
              go_wp2_with fail
              have hkg := HKG.out
              go_roundg (gk - 1)
              case rel => exact ⟨k + 1, P, h :: Qr, by go_num, by omega, by omega, HT8, HP4, HQ6, Lib.hid ⟨by first | (rw [HPL.out]; omega) | (rw [List.length_append, HPL.out]; simp; omega), by have := HQL.out; omega⟩, HB8⟩
              case measure => omega
    · have hke : k = n := by omega
      subst hke
      have hz : ¬ (k : Int) < (k : Int) := by omega
      have HTL : Hid (L.take k = L) := Lib.hid (List.take_of_length_le (by rw [HN.out]; exact Nat.le_refl _))
      go_wp2_with fail
      go_ret2
      exact ⟨_, _, P, Q, rfl, HT.out, by rw [HP.out, HTL.out], by rw [HQ.out, HTL.out], HB.out⟩
end Go.Proofs.YtanoiiodnddkfaaGreat.gather
namespace Go.Proofs.YtanoiiodnddkfaaGreat.judgeT
open Go.RowKit Go.Proofs.YtanoiiodnddkfaaGreat.kit Go.Proofs.YtanoiiodnddkfaaGreat.nspec Go.Proofs.YtanoiiodnddkfaaGreat.refA Go.Proofs.YtanoiiodnddkfaaGreat.refB Go.Proofs.YtanoiiodnddkfaaGreat.fld Go.Proofs.YtanoiiodnddkfaaGreat.timed Go.Proofs.YtanoiiodnddkfaaGreat.wireP Go.Proofs.YtanoiiodnddkfaaGreat.rows Go.Proofs.YtanoiiodnddkfaaGreat.gapP Go.Proofs.YtanoiiodnddkfaaGreat.bits Go.Proofs.YtanoiiodnddkfaaGreat.ints Go.Proofs.YtanoiiodnddkfaaGreat.gapA Go.Proofs.YtanoiiodnddkfaaGreat.gapC Go.Proofs.YtanoiiodnddkfaaGreat.gapN Go.Proofs.YtanoiiodnddkfaaGreat.gapR Go.Proofs.YtanoiiodnddkfaaGreat.useP Go.Proofs.YtanoiiodnddkfaaGreat.useM Go.Proofs.YtanoiiodnddkfaaGreat.judgeP Go.Proofs.YtanoiiodnddkfaaGreat.first Go.Proofs.YtanoiiodnddkfaaGreat.clos Go.Proofs.YtanoiiodnddkfaaGreat.judgeH Go.Proofs.YtanoiiodnddkfaaGreat.judgeN Go.Proofs.YtanoiiodnddkfaaGreat.gather
set_option linter.unusedVariables false

/-- what is within a zone has at least its labels -/
theorem within_count {n z : Bs} (h : withinS n z = true) : (∃ ls, IsN n ls) ∧ 0 ≤ countS z ∧ countS z ≤ countS n := by
  obtain ⟨ls, hl⟩ := within_name h
  refine ⟨⟨ls, hl⟩, ?_⟩
  unfold withinS at h
  rw [nameC.wF_iff] at h
  obtain ⟨j, _, hj, he⟩ := h
  rw [countS_yes hl] at hj ⊢
  have hj2 : j ≤ ls.length := by omega
  have ht := nameC.tail_isN hl j hj2
  cases hz : split z with
  | none =>
    exfalso
    unfold equalS at he
    rw [split_iff.2 ht, hz] at he
    cases he
  | some lz =>
    have h1 := nameC.equal_len ht (split_iff.1 hz) he
    rw [countS_yes (split_iff.1 hz)]
    rw [List.length_drop] at h1
    omega
theorem names_flag {ap : Bs} {L : List Rc} {P : List Gr} (h : P.map Gr.g = namesG ap L) : ∀ r ∈ P, r.g.hashed = false := by
  intro r hr
  have h1 : r.g ∈ namesG ap L := by rw [← h]; exact List.mem_map_of_mem hr
  unfold namesG at h1
  obtain ⟨x, _, hx⟩ := List.mem_filterMap.1 h1
  exact (useN_t hx).2
theorem take_flag : ∀ {acc : List Gp} {o : Option Gp}, (∀ g ∈ acc, g.hashed = true) → (∀ g, o = some g → g.hashed = true) → ∀ g ∈ takeH acc o, g.hashed = true := by
  intro acc o h1 h2 g hg
  unfold takeH at hg
  split at hg
  · exact h1 g hg
  · rename_i g'
    split at hg
    · rcases List.mem_singleton.1 hg with rfl
      exact h2 g rfl
    · split at hg
      · rcases List.mem_append.1 hg with hg | hg
        · exact h1 g hg
        · rcases List.mem_singleton.1 hg with rfl
          exact h2 g rfl
      · exact h1 g hg
theorem fold_flag {ap : Bs} : ∀ (L : List Rc) (acc : List Gp), (∀ g ∈ acc, g.hashed = true) → ∀ g ∈ L.foldl (fun acc x => takeH acc (useH ap x)) acc, g.hashed = true
  | [], acc, h => h
  | x :: L, acc, h => by
    rw [List.foldl_cons]
    exact fold_flag L _ (take_flag h (fun g hg => (useH_t hg).2))
theorem hashes_flag {ap : Bs} {L : List Rc} {Q : List Gr} (h : Q.map Gr.g = hashesG ap L) : ∀ r ∈ Q, r.g.hashed = true := by
  intro r hr
  have h1 : r.g ∈ hashesG ap L := by rw [← h]; exact List.mem_map_of_mem hr
  exact fold_flag L [] (fun g hg => by cases hg) _ h1
theorem take_le (acc : List Gp) (o : Option Gp) : (takeH acc o).length ≤ acc.length + 1 := by
  unfold takeH
  split
  · omega
  · split
    · simp
    · split
      · simp
      · simp
theorem hashes_le (ap : Bs) (L : List Rc) : (hashesG ap L).length ≤ L.length := by
  unfold hashesG
  have : ∀ (L : List Rc) (acc : List Gp), (L.foldl (fun acc x => takeH acc (useH ap x)) acc).length ≤ acc.length + L.length := by
    intro L
    induction L with
    | nil => intro acc; simp
    | cons x L ih =>
      intro acc
      rw [List.foldl_cons, List.length_cons]
      have h1 := ih (takeH acc (useH ap x))
      have h2 := take_le acc (useH ap x)
      omega
  have h := this L []
  simpa using h
attribute [local irreducible] wpList
set_option maxRecDepth 100000 in
set_option maxHeartbeats 2400000 in
theorem judge_any (ap : ByteArray) (a : Option Addr) (n c : Nat) (L : List Rc) (q : ByteArray) (t : Int) (w : World) (hap : ap.size ≤ 1048576) (hq : q.size ≤ 1048576) (hn : L.length = n) (hnl : n ≤ 16777216) (hr : RdC w a 5 (L.map Rc.cells)) (ho : ∀ x ∈ L, x.o.size ≤ 1048576 ∧ x.d.size ≤ maxLen) :
    Calls Tryz.prog 5 #[.string ap, .slice a n c, .string q, .int .i64 t] w fun e w' => e = .returned (.int .i64 (judgeI ap.data.toList L q.data.toList t)) ∧ Below w.heap.size w w' := by
  obtain ⟨R, HR⟩ : ∃ R, Hid (judgeI ap.data.toList L q.data.toList t = R) := ⟨_, Lib.hid rfl⟩
  rw [HR.out]
  have CW := Lib.hid (fun wx => nameB.nwithin_any q ap wx (by omega) (by omega))
  simp only [Go.Proofs.YtanoiiodnddkfaaGreat.nameC.within_same] at CW
  have CG := Lib.hid (fun (wx : World) (hB : Below w.heap.size w wx) => gather_any ap a n c L wx hap hn hnl (hr.below hB rfl) ho)
  obtain ⟨wi, hwi⟩ : ∃ b, withinS q.data.toList ap.data.toList = b := ⟨_, rfl⟩
  rw [hwi] at CW
  have HWI := Lib.hid hwi
  have HN := Lib.hid hn
  clear hwi hn hr ho
  go_enter Tryz.func5, Tryz.ntmps5
  go_wp2_with fail
  refine (CW.out w).mono ?_
  rintro e w2 ⟨rfl, hB2⟩
  have HB2 := Lib.hid hB2
  clear hB2
  cases wi with
  | false =>
    have HV : Hid (R = 0) := Lib.hid (by rw [← HR.out]; unfold judgeI; rw [if_pos (.inl HWI.out)])
    go_wp2_with fail
    go_ret
    exact ⟨by rw [HV.out]; rfl, HB2.out⟩
  | true =>
  by_cases h1 : t < 1
  · have HV : Hid (R = 0) := Lib.hid (by rw [← HR.out]; unfold judgeI; rw [if_pos (.inr (.inl h1))])
    have e1 : decide (t < 1) = true := decide_eq_true h1
    go_wp2_with fail
    go_ret
    exact ⟨by rw [HV.out]; rfl, HB2.out⟩
  have e1 : decide (t < 1) = false := decide_eq_false h1
  by_cases h2 : 65535 < t
  · have HV : Hid (R = 0) := Lib.hid (by rw [← HR.out]; unfold judgeI; rw [if_pos (.inr (.inr h2))])
    have e2 : decide (65535 < t) = true := decide_eq_true h2
    go_wp2_with fail
    go_ret
    exact ⟨by rw [HV.out]; rfl, HB2.out⟩
  have e2 : decide (65535 < t) = false := decide_eq_false h2
  have HRJ : Hid (R = if namesG ap.data.toList L = [] then judgeH ap.data.toList q.data.toList (hashesG ap.data.toList L) t else judgeN (namesG ap.data.toList L) q.data.toList t) := Lib.hid (by
    rw [← HR.out]; unfold judgeI; rw [if_neg]
    rintro (h | h | h)
    · rw [HWI.out] at h; cases h
    · exact h1 h
    · exact h2 h)
  obtain ⟨⟨ls, hls⟩, hc0, hc1⟩ := within_count HWI.out
  have HLS := Lib.hid hls
  clear hls
  go_wp2_with fail
  refine (CG.out w2 HB2.out).mono ?_
  rintro e w3 ⟨nv, hv, P, Q, rfl, hT, hP, hQ, hB3⟩
  have HB3 := Lib.hid (HB2.out.trans (hB3.mono HB2.out.size))
  obtain ⟨a1, c1, hv1, _, _, hg1⟩ := gaps_own (f := Gr.nameL) (m := 8) (fun _ => rfl) hT.one hT.ty1
  obtain ⟨a2, c2, hv2, _, _, hg2⟩ := gaps_own (f := Gr.hashL) (m := 10) (fun _ => rfl) hT.two hT.ty2
  subst hv1
  subst hv2
  have HG1 := Lib.hid hg1; have HG2 := Lib.hid hg2; have HP := Lib.hid hP; have HQ := Lib.hid hQ
  have hpl : P.length ≤ 16777216 := by
    have := congrArg List.length hP
    rw [List.length_map] at this
    unfold namesG at this
    have h2 := List.length_filterMap_le (useN ap.data.toList) L
    have := HN.out; omega
  have hql : Q.length ≤ 16777216 := by
    have h1 := congrArg List.length hQ
    rw [List.length_map] at h1
    have h2 := hashes_le ap.data.toList L
    have := HN.out; omega
  obtain ⟨p, hp⟩ : ∃ p, P.length = p := ⟨_, rfl⟩
  obtain ⟨s, hs⟩ : ∃ p, Q.length = p := ⟨_, rfl⟩
  rw [hp] at hpl ⊢
  rw [hs] at hql ⊢
  have HPL := Lib.hid hp; have HSL := Lib.hid hs
  by_cases hp0 : p = 0
  · have HV : Hid (R = judgeH ap.data.toList q.data.toList (Q.map Gr.g) t) := Lib.hid (by
      rw [HRJ.out, if_pos, hQ]
      rw [← hP]
      have : P = [] := List.eq_nil_of_length_eq_zero (by omega)
      rw [this]; rfl)
    have hpi : ¬ (0 : Int) < (p : Int) := by omega
    have e3 : decide ((0 : Int) < (p : Int)) = false := decide_eq_false hpi
    have CH := Lib.hid (hashes_any ap a2 s c2 Q q t ls w3 hs hql HG2.out (hashes_flag HQ.out) hq hap HLS.out hc0 hc1)
    clear hT hP hQ hB3 hg1 hg2 hp0 hp hs
    go_wp2_with fail
    refine CH.out.mono ?_
    rintro e w4 ⟨rfl, hB4⟩
    have HB4 := Lib.hid (HB3.out.trans (hB4.mono HB3.out.size))
    go_wp2_with fail
    go_ret
    exact ⟨by rw [HV.out]; rfl, HB4.out⟩
  · have HV : Hid (R = judgeN (P.map Gr.g) q.data.toList t) := Lib.hid (by
      rw [HRJ.out, if_neg, hP]
      rw [← hP]
      intro h
      have := congrArg List.length h
      rw [List.length_map] at this
      simp at this
      rw [this] at hp
      simp at hp
      omega)
    have hpi : (0 : Int) < (p : Int) := by omega
    have e3 : decide ((0 : Int) < (p : Int)) = true := decide_eq_true hpi
    have CH := Lib.hid (names_any a1 p c1 P q t ls w3 hp hpl HG1.out (names_flag HP.out) hq HLS.out)
    clear hT hP hQ hB3 hg1 hg2 hp0 hp hs
    go_wp2_with fail
    refine CH.out.mono ?_
    rintro e w4 ⟨rfl, hB4⟩
    have HB4 := Lib.hid (HB3.out.trans (hB4.mono HB3.out.size))
    go_wp2_with fail
    go_ret
    exact ⟨by rw [HV.out]; rfl, HB4.out⟩
set_option maxRecDepth 100000 in
set_option maxHeartbeats 2400000 in
theorem absent_any (ap : ByteArray) (a : Option Addr) (n c : Nat) (L : List Rc) (q : ByteArray) (w : World) (hap : ap.size ≤ 1048576) (hq : q.size ≤ 1048576) (hn : L.length = n) (hnl : n ≤ 16777216) (hr : RdC w a 5 (L.map Rc.cells)) (ho : ∀ x ∈ L, x.o.size ≤ 1048576 ∧ x.d.size ≤ maxLen) :
    Calls Tryz.prog 7 #[.string ap, .slice a n c, .string q] w fun e w' => e = .returned (.bool (absentB ap.data.toList L q.data.toList)) ∧ Below w.heap.size w w' := by
  obtain ⟨R, HR⟩ : ∃ R, Hid (absentB ap.data.toList L q.data.toList = R) := ⟨_, Lib.hid rfl⟩
  rw [HR.out]
  have CW := Lib.hid (fun wx => nameB.nwithin_any q ap wx (by omega) (by omega))
  simp only [Go.Proofs.YtanoiiodnddkfaaGreat.nameC.within_same] at CW
  have CG := Lib.hid (fun (wx : World) (hB : Below w.heap.size w wx) => gather_any ap a n c L wx hap hn hnl (hr.below hB rfl) ho)
  obtain ⟨wi, hwi⟩ : ∃ b, withinS q.data.toList ap.data.toList = b := ⟨_, rfl⟩
  rw [hwi] at CW
  have HWI := Lib.hid hwi
  have HN := Lib.hid hn
  clear hwi hn hr ho
  have hB0 := (Below.refl w.heap.size w).alloc (Nat.le_refl _) (.cells #[.string q] 9)
  have hx := heap_alloc_new w (.cells #[.string q] 9)
  obtain ⟨X, hX⟩ : ∃ X, w.heap.size = X := ⟨_, rfl⟩
  obtain ⟨W, hW⟩ : ∃ W, w.alloc (.cells #[.string q] 9) = W := ⟨_, rfl⟩
  rw [hW] at hB0 hx
  rw [hX] at hx
  have hx0 : W.cell? ⟨X, 0, none⟩ = some (.string q) := by simp only [World.cell?, hx]; rfl
  have HX := Lib.hid hX; have HW := Lib.hid hW; have HB0 := Lib.hid hB0; have HX0 := Lib.hid hx0
  clear hX hW hB0 hx
  go_enter Tryz.func7, Tryz.ntmps7
  go_upto_region 1 with fail
  try rw [HW.out]
  try rw [HX.out]
  go_wp2_with fail
  refine (CW.out W).mono ?_
  rintro e w2 ⟨rfl, hB2⟩
  have HX2 := Lib.hid (ckb hB2 HX0.out)
  have HB2 := Lib.hid (HB0.out.trans (hB2.mono HB0.out.size))
  clear hB2 hx0
  cases wi with
  | false =>
    have HV : Hid (R = false) := Lib.hid (by rw [← HR.out]; unfold absentB; rw [if_pos HWI.out])
    go_wp2_with fail
    go_ret
    exact ⟨by rw [HV.out]; rfl, HB2.out⟩
  | true =>
  have HRJ : Hid (R = if namesG ap.data.toList L = [] then spannedB (hashesG ap.data.toList L) q.data.toList else (namesG ap.data.toList L).any (fun g => denyB g q.data.toList && !withinS g.nx.data.toList q.data.toList)) := Lib.hid (by
    rw [← HR.out]; unfold absentB; rw [if_neg (by rw [HWI.out]; simp)])
  go_wp2_with fail
  refine (CG.out w2 HB2.out).mono ?_
  rintro e w3 ⟨nv, hv, P, Q, rfl, hT, hP, hQ, hB3⟩
  have HB3 := Lib.hid (HB2.out.trans (hB3.mono HB2.out.size))
  obtain ⟨a1, c1, hv1, _, _, hg1⟩ := gaps_own (f := Gr.nameL) (m := 8) (fun _ => rfl) hT.one hT.ty1
  obtain ⟨a2, c2, hv2, _, _, hg2⟩ := gaps_own (f := Gr.hashL) (m := 10) (fun _ => rfl) hT.two hT.ty2
  subst hv1
  subst hv2
  have HG1 := Lib.hid hg1; have HG2 := Lib.hid hg2; have HP := Lib.hid hP; have HQ := Lib.hid hQ
  have hpl : P.length ≤ 16777216 := by
    have := congrArg List.length hP
    rw [List.length_map] at this
    unfold namesG at this
    have h2 := List.length_filterMap_le (useN ap.data.toList) L
    have := HN.out; omega
  have hql : Q.length ≤ 16777216 := by
    have h1 := congrArg List.length hQ
    rw [List.length_map] at h1
    have h2 := hashes_le ap.data.toList L
    have := HN.out; omega
  obtain ⟨p, hp⟩ : ∃ p, P.length = p := ⟨_, rfl⟩
  obtain ⟨s, hs⟩ : ∃ p, Q.length = p := ⟨_, rfl⟩
  rw [hp] at hpl ⊢
  rw [hs] at hql ⊢
  have HPL := Lib.hid hp; have HSL := Lib.hid hs
  have HX3 := Lib.hid (ckb hB3 HX2.out)
  by_cases hp0 : p = 0
  · have HV : Hid (R = (Q.map Gr.g).any (fun g => spanB g q.data.toList)) := Lib.hid (by
      rw [HRJ.out, if_pos, hQ]
      · rfl
      rw [← hP]
      have : P = [] := List.eq_nil_of_length_eq_zero (by omega)
      rw [this]; rfl)
    have hpi : ¬ (0 : Int) < (p : Int) := by omega
    have e3 : decide ((0 : Int) < (p : Int)) = false := decide_eq_false hpi
    have CH := Lib.hid (firstH_any 31 #[.pointer (some ⟨X, 0, none⟩)] (fun g => spanB g q.data.toList) a2 s c2 Q w3 (fun _ _ => rfl) hs (by omega) HG2.out (fun r hr wx hB => absent2_any r X q wx ((HG2.out.ty r hr).below hB) (hashes_flag HQ.out r hr) hq (ckb hB HX3.out)))
    clear hT hP hQ hB3 hg1 hg2 hp0 hp hs
    go_wp2_with fail
    refine CH.out.mono ?_
    rintro e w4 ⟨⟨r, b, rfl, f1, f2⟩, hB4⟩
    have HRR := Lib.hid (any_find (L := Q) (f := (fun g => spanB g q.data.toList)) (b := b) (fun h => ⟨_, (f1 h).2⟩) f2)
    have HB4 := Lib.hid ((HB3.out.trans (hB4.mono HB3.out.size)).alloc (by have := hB4.size; have h2 := HB3.out.size; omega) (.cells (hashC r.g r.v) 63))
    clear hB4 f1 f2
    dsimp only [hashC, Gr.v] at HB4 ⊢
    go_wp2_with fail
    go_ret
    exact ⟨by rw [HV.out, HRR.out]; rfl, HB4.out⟩
  · have HV : Hid (R = (P.map Gr.g).any (fun g => denyB g q.data.toList && !withinS g.nx.data.toList q.data.toList)) := Lib.hid (by
      rw [HRJ.out, if_neg, hP]
      rw [← hP]
      intro h
      have := congrArg List.length h
      rw [List.length_map] at this
      simp at this
      rw [this] at hp
      simp at hp
      omega)
    have hpi : (0 : Int) < (p : Int) := by omega
    have e3 : decide ((0 : Int) < (p : Int)) = true := decide_eq_true hpi
    have CH := Lib.hid (firstN_any 28 #[.pointer (some ⟨X, 0, none⟩)] (fun g => denyB g q.data.toList && !withinS g.nx.data.toList q.data.toList) a1 p c1 P w3 (fun _ _ => rfl) hp (by omega) HG1.out (fun r hr wx hB => absent1_any r X q wx ((HG1.out.ty r hr).below hB) (names_flag HP.out r hr) hq (ckb hB HX3.out)))
    clear hT hP hQ hB3 hg1 hg2 hp0 hp hs
    go_wp2_with fail
    refine CH.out.mono ?_
    rintro e w4 ⟨⟨r, b, rfl, f1, f2⟩, hB4⟩
    have HRR := Lib.hid (any_find (L := P) (f := (fun g => denyB g q.data.toList && !withinS g.nx.data.toList q.data.toList)) (b := b) (fun h => ⟨_, (f1 h).2⟩) f2)
    have HB4 := Lib.hid ((HB3.out.trans (hB4.mono HB3.out.size)).alloc (by have := hB4.size; have h2 := HB3.out.size; omega) (.cells (nameC r.g r.v) 58))
    clear hB4 f1 f2
    dsimp only [nameC, Gr.v] at HB4 ⊢
    go_wp2_with fail
    go_ret
    exact ⟨by rw [HV.out, HRR.out]; rfl, HB4.out⟩
end Go.Proofs.YtanoiiodnddkfaaGreat.judgeT
namespace Go.Proofs.YtanoiiodnddkfaaGreat.gapM
open Go.RowKit Go.Proofs.YtanoiiodnddkfaaGreat.kit Go.Proofs.YtanoiiodnddkfaaGreat.nspec Go.Proofs.YtanoiiodnddkfaaGreat.fld Go.Proofs.YtanoiiodnddkfaaGreat.timed Go.Proofs.YtanoiiodnddkfaaGreat.wireP Go.Proofs.YtanoiiodnddkfaaGreat.gapP Go.Proofs.YtanoiiodnddkfaaGreat.bits Go.Proofs.YtanoiiodnddkfaaGreat.ints Go.Proofs.YtanoiiodnddkfaaGreat.gapA Go.Proofs.YtanoiiodnddkfaaGreat.gapB Go.Proofs.YtanoiiodnddkfaaGreat.gapC Go.Proofs.YtanoiiodnddkfaaGreat.gapN Go.Proofs.YtanoiiodnddkfaaGreat.gapR Go.Proofs.YtanoiiodnddkfaaGreat.useP Go.Proofs.YtanoiiodnddkfaaGreat.useM Go.Proofs.YtanoiiodnddkfaaGreat.judgeP Go.Proofs.YtanoiiodnddkfaaGreat.first
set_option linter.unusedVariables false

def AtG (w : World) (X : Nat) (r : Gr) : Prop := w.heap[X]? = some (.cells (gapC r.g r.v) 45 (0, 0))
theorem AtG.below {w w1 : World} {X : Nat} {r : Gr} (h : AtG w X r) (hB : Below w.heap.size w w1) : AtG w1 X r := (hB.block X (blk_lt h)).trans h
theorem infoG : (Tryz.prog.info? 45).map (·.size) = some 11 := by kernel_rfl
theorem storeG {w : World} {B : Nat} {x y : Gr} (h : AtG w B y) : Sem.run Tryz.prog (storeCells ⟨B, 0, none⟩ (gapC x.g x.v).toList) w = .ok () (w.setRow B (gapC x.g x.v)) := by
  have e := run_storeCells_at (P := Tryz.prog) B 0 45 (gapC x.g x.v).toList 0 (gapC y.g y.v) w h (by simp [gapC]) (by intro v hv; simp [gapC, Gr.v] at hv; rcases hv with rfl | rfl | rfl | rfl | rfl | rfl | rfl | rfl | rfl | rfl | rfl <;> rfl)
  simpa [gapC] using e
theorem oneG (r : Gr) : ((gapC r.g r.v).all fun u => u.oneCell') = true := by
  have h : ∀ u ∈ (gapC r.g r.v).toList, u.oneCell' = true := by
    intro v hv
    simp [gapC, Gr.v] at hv
    rcases hv with rfl | rfl | rfl | rfl | rfl | rfl | rfl | rfl | rfl | rfl | rfl <;> rfl
  rw [← Array.all_toList, List.all_eq_true]
  exact h
theorem fzG {w : World} {X : Nat} {r : Gr} (h : AtG w X r) (i : Nat) : w.frozen? ⟨X, i, none⟩ = false := by unfold AtG at h; simp [World.frozen?, h]
/-- all the cells laid anew -/
def putG (w : World) (X : Nat) (r : Gr) : World := (((((((((((w.setCell ⟨X, 0, none⟩ (.string r.g.x.o)).setCell ⟨X, 1, none⟩ (.int .i64 r.g.x.t)).setCell ⟨X, 2, none⟩ (.int .i64 r.g.x.c)).setCell ⟨X, 3, none⟩ (.int .i64 r.g.x.l)).setCell ⟨X, 4, none⟩ (.string r.g.x.d)).setCell ⟨X, 5, none⟩ (.bool r.g.hashed)).setCell ⟨X, 6, none⟩ (.string r.g.nx)).setCell ⟨X, 7, none⟩ (.string r.g.own)).setCell ⟨X, 8, none⟩ (.string r.g.salt)).setCell ⟨X, 9, none⟩ (.int .i64 r.g.rounds)).setCell ⟨X, 10, none⟩ (.slice r.a r.n r.c))
theorem putG_at {w : World} {X : Nat} {y : Gr} (r : Gr) (h : AtG w X y) : AtG (putG w X r) X r := by
  have h0 : w.heap[X]? = some (.cells (gapC y.g y.v) 45 (0, 0)) := h
  have h1 := set_same (i := 10) (v := .slice r.a r.n r.c) (set_same (i := 9) (v := .int .i64 r.g.rounds) (set_same (i := 8) (v := .string r.g.salt) (set_same (i := 7) (v := .string r.g.own) (set_same (i := 6) (v := .string r.g.nx) (set_same (i := 5) (v := .bool r.g.hashed) (set_same (i := 4) (v := .string r.g.x.d) (set_same (i := 3) (v := .int .i64 r.g.x.l) (set_same (i := 2) (v := .int .i64 r.g.x.c) (set_same (i := 1) (v := .int .i64 r.g.x.t) (set_same (i := 0) (v := .string r.g.x.o) (h0)))))))))))
  unfold AtG putG
  refine h1.trans ?_
  simp [gapC, Gr.v]
theorem putG_below {w0 w : World} {b0 X : Nat} (h : Below b0 w0 w) (hb : b0 ≤ X) (r : Gr) : Below b0 w0 (putG w X r) := below_one (below_one (below_one (below_one (below_one (below_one (below_one (below_one (below_one (below_one (below_one (h) hb) hb) hb) hb) hb) hb) hb) hb) hb) hb) hb
theorem resG {w : World} {B : Nat} {r : Gr} {j : Value} (tmps : Array Value) (h4 : tmps[4]?.getD undef = .pointer (some ⟨B, 0, none⟩)) (h5 : tmps[5]?.getD undef = j) (hx : AtG w B r) :
    (results Tryz.f52 tmps).run Tryz.prog w = .ok (.tuple #[.agg (gapC r.g r.v), j]) w := by
  have hx' : w.heap[B]? = some (.cells #[.string r.g.x.o, .int .i64 r.g.x.t, .int .i64 r.g.x.c, .int .i64 r.g.x.l, .string r.g.x.d, .bool r.g.hashed, .string r.g.nx, .string r.g.own, .string r.g.salt, .int .i64 r.g.rounds, .slice r.a r.n r.c] 45 (0, 0)) := hx
  obtain ⟨d0, d1, d2, d3, d4, d5, d6, d7, d8, d9, d10⟩ := cells11 hx'
  simp [results, Tryz.results52, h4, h5, asAddr, go_sem, d0, d1, d2, d3, d4, d5, d6, d7, d8, d9, d10, gapC, Gr.v]
theorem finG {w1 : World} {B : Nat} {r : Gr} {j : Value} {Q : Ending → World → Prop} (tmps : Array Value) (h4 : tmps[4]?.getD undef = .pointer (some ⟨B, 0, none⟩)) (h5 : tmps[5]?.getD undef = j) (hx : AtG w1 B r) (hR : Q (.returned (.tuple #[.agg (gapC r.g r.v), j])) w1) :
    bodyPost Tryz.prog Tryz.f52 Q .ret { tmps := tmps, defers := [] } w1 :=
  bodyPost_ret (v := .tuple #[.agg (gapC r.g r.v), j]) (resG tmps h4 h5 hx) rfl hR
end Go.Proofs.YtanoiiodnddkfaaGreat.gapM
namespace Go.Proofs.YtanoiiodnddkfaaGreat.zon4
open Go.RowKit Go.Proofs.YtanoiiodnddkfaaGreat.kit Go.Proofs.YtanoiiodnddkfaaGreat.nspec Go.Proofs.YtanoiiodnddkfaaGreat.rsplit Go.Proofs.YtanoiiodnddkfaaGreat.fld Go.Proofs.YtanoiiodnddkfaaGreat.wireP Go.Proofs.YtanoiiodnddkfaaGreat.wireM
set_option linter.unusedVariables false

/-- a record that a zone may have -/
def zonB (x : Rc) : Bool := isB x.o && (decide (x.c = 1) && (decide (0 ≤ x.l) && (decide (x.l ≤ 2147483647) && decide (checkS x.t x.d.data.toList = 0))))
set_option maxRecDepth 100000 in
set_option maxHeartbeats 2000000 in
theorem zonal_any (x : Rc) (w : World) (ho : x.o.size ≤ 1099511627776) (hd : x.d.size ≤ maxLen) :
    Calls Tryz.prog 80 #[.agg #[.string x.o, .int .i64 x.t, .int .i64 x.c, .int .i64 x.l, .string x.d]] w fun e w' => e = .returned (.bool (zonB x)) ∧ Below w.heap.size w w' := by
  obtain ⟨R, hR⟩ : ∃ R, zonB x = R := ⟨_, rfl⟩
  rw [hR]
  have HR := Lib.hid hR
  obtain ⟨o, t, c, l, d⟩ := x
  dsimp only at ho hd ⊢
  have hB0 := (Below.refl w.heap.size w).alloc (Nat.le_refl _) (.cells #[.string o, .int .i64 t, .int .i64 c, .int .i64 l, .string d] 32)
  have hx := heap_alloc_new w (.cells #[.string o, .int .i64 t, .int .i64 c, .int .i64 l, .string d] 32)
  obtain ⟨X, hX⟩ : ∃ X, w.heap.size = X := ⟨_, rfl⟩
  obtain ⟨W, hW⟩ : ∃ W, w.alloc (.cells #[.string o, .int .i64 t, .int .i64 c, .int .i64 l, .string d] 32) = W := ⟨_, rfl⟩
  rw [hW] at hB0 hx
  rw [hX] at hx
  have c0 : W.cell? ⟨X, 0, none⟩ = some (.string o) := by simp only [World.cell?, hx]; rfl
  have HX := Lib.hid hX; have HW := Lib.hid hW; have HB0 := Lib.hid hB0; have HXX := Lib.hid hx
  have CN := Lib.hid (rsplit.isName_any o W ho)
  have CD := Lib.hid (fun wx => checkData.rdcheck_any t d wx hd)
  obtain ⟨ce, hce⟩ : ∃ ce, checkS t d.data.toList = ce := ⟨_, rfl⟩
  rw [hce] at CD
  have HCE := Lib.hid hce
  clear hR hX hW hB0 hx hce
  go_enter Tryz.func80, Tryz.ntmps80
  go_upto_region 1 with fail
  rw [HW.out]
  try rw [HX.out]
  go_wp2_with fail
  refine CN.out.mono ?_
  rintro e w1 ⟨rfl, hB1⟩
  have hx1 := (hB1.block X (Array.getElem?_eq_some_iff.1 HXX.out).1).trans HXX.out
  have y1 : w1.cell? ⟨X, 1, none⟩ = some (.int .i64 t) := by simp only [World.cell?, hx1]; rfl
  have y2 : w1.cell? ⟨X, 2, none⟩ = some (.int .i64 c) := by simp only [World.cell?, hx1]; rfl
  have y3 : w1.cell? ⟨X, 3, none⟩ = some (.int .i64 l) := by simp only [World.cell?, hx1]; rfl
  have y4 : w1.cell? ⟨X, 4, none⟩ = some (.string d) := by simp only [World.cell?, hx1]; rfl
  have HB1 := Lib.hid (HB0.out.trans (hB1.mono HB0.out.size))
  have hbz := HB0.out.size
  have HB1' := Lib.hid hB1.size
  clear hB1 hx1 c0 CN HXX
  cases hn : isB o with
  | false =>
    have HF : Hid (R = false) := Lib.hid (by rw [← HR.out]; unfold zonB; rw [hn]; rfl)
    clear hn
    go_wp2_with fail
    go_ret
    exact ⟨by rw [HF.out]; rfl, HB1.out⟩
  | true =>
  by_cases h1 : ¬ c = 1
  · have e1 : (c == 1) = false := by rw [beq_eq_false_iff_ne]; exact h1
    have HF : Hid (R = false) := Lib.hid (by rw [← HR.out]; unfold zonB; simp [hn, h1])
    clear hn
    go_wp2_with fail
    go_ret
    exact ⟨by rw [HF.out]; rfl, HB1.out⟩
  obtain rfl : c = 1 := by omega
  by_cases h2 : l < 0
  · have e2 : decide (0 ≤ l) = false := decide_eq_false (by omega)
    have HF : Hid (R = false) := Lib.hid (by rw [← HR.out]; unfold zonB; simp [hn]; try omega)
    clear hn
    go_wp2_with fail
    go_ret
    exact ⟨by rw [HF.out]; rfl, HB1.out⟩
  have e2 : decide (0 ≤ l) = true := decide_eq_true (by omega)
  by_cases h3 : 2147483647 < l
  · have e3 : decide (l ≤ 2147483647) = false := decide_eq_false (by omega)
    have HF : Hid (R = false) := Lib.hid (by rw [← HR.out]; unfold zonB; simp [hn]; try omega)
    clear hn
    go_wp2_with fail
    go_ret
    exact ⟨by rw [HF.out]; rfl, HB1.out⟩
  have e3 : decide (l ≤ 2147483647) = true := decide_eq_true (by omega)
  have HF : Hid (R = decide (ce = 0)) := Lib.hid (by rw [← HR.out, ← HCE.out]; unfold zonB; simp only [hn]; rw [decide_eq_true (show 0 ≤ l by omega), decide_eq_true (show l ≤ 2147483647 by omega)]; rfl)
  clear hn
  by_cases hc : ce = 0
  · subst hc
    go_wp2_with fail
    refine (CD.out w1).mono ?_
    rintro e w2 ⟨rfl, hB2⟩
    have HB2 := Lib.hid (HB1.out.trans (hB2.mono (Nat.le_trans hbz HB1'.out)))
    clear hB2
    go_wp2_with fail
    go_ret
    exact ⟨by rw [HF.out]; rfl, HB2.out⟩
  · have e4 : (ce == 0) = false := by rw [beq_eq_false_iff_ne]; exact hc
    go_wp2_with fail
    refine (CD.out w1).mono ?_
    rintro e w2 ⟨rfl, hB2⟩
    have HB2 := Lib.hid (HB1.out.trans (hB2.mono (Nat.le_trans hbz HB1'.out)))
    clear hB2
    go_wp2_with fail
    go_ret
    exact ⟨by rw [HF.out, decide_eq_false hc]; rfl, HB2.out⟩
end Go.Proofs.YtanoiiodnddkfaaGreat.zon4
namespace Go.Proofs.YtanoiiodnddkfaaGreat.spread
open Go.RowKit Go.Proofs.YtanoiiodnddkfaaGreat.kit Go.Proofs.YtanoiiodnddkfaaGreat.bits Go.Proofs.YtanoiiodnddkfaaGreat.ints Go.Proofs.YtanoiiodnddkfaaGreat.back Go.Proofs.YtanoiiodnddkfaaGreat.low

def valA (al : List UInt8) (c : UInt8) : Option Nat := if Lib.indexByte al c < 0 then none else some (Lib.indexByte al c).toNat
theorem idx_lt : ∀ (l : List UInt8) (c : UInt8), -1 ≤ Lib.indexByte l c ∧ Lib.indexByte l c < l.length
  | [], c => by simp [Lib.indexByte]
  | b :: l, c => by
    have ih := idx_lt l c
    simp only [Lib.indexByte, List.length_cons]
    by_cases h : b = c
    · simp [h]
    · have h' : (b == c) = false := by simpa using h
      rw [h', if_neg (by simp)]
      by_cases h2 : Lib.indexByte l c = -1
      · rw [if_pos (by simpa using h2)]; omega
      · rw [if_neg (by simpa using h2)]; omega
/-- what spread leaves -/
def SpreadPost (w : World) (o : Option (List Nat)) (e : Ending) (w' : World) : Prop :=
  Below w.heap.size w w' ∧ ((o = none ∧ e = .returned (.tuple #[.slice none 0 0, .bool false])) ∨ ∃ l a c, o = some l ∧ e = .returned (.tuple #[.slice a l.length c, .bool true]) ∧ l.length ≤ c ∧ c ≤ maxLen ∧ RdN w' a l)
def mapA (A : List Nat) (o : Option (List Nat)) : Option (List Nat) := o.map (A ++ ·)
theorem mapA_app (A B : List Nat) (o : Option (List Nat)) : mapA A (o.map (B ++ ·)) = mapA (A ++ B) o := by cases o <;> simp [mapA]
theorem mapA_nil (o : Option (List Nat)) : mapA [] o = o := by cases o <;> simp [mapA]

set_option maxRecDepth 100000 in
set_option maxHeartbeats 2000000 in
theorem spread_any (s : ByteArray) (n : Nat) (al : ByteArray) (w : World) (hs : s.size ≤ 1099511627776) (hn : 1 ≤ n) (hn8 : n ≤ 8) (hal : al.size ≤ 256) :
    Calls Tryz.prog 105 #[.string s, .int .i64 (n : Int), .string al] w (SpreadPost w (spreadS n (valA al.data.toList) s.data.toList)) := by
  obtain ⟨i0, hi, hz0, hz1, hz2⟩ := info_parts infoInt
  obtain ⟨R, HR⟩ : ∃ R, Hid (mapA [] (spreadS n (valA al.data.toList) s.data.toList) = R) := ⟨_, Lib.hid rfl⟩
  rw [← mapA_nil (spreadS n _ _), HR.out]
  obtain ⟨n1, hn1⟩ : ∃ n1, n = n1 + 1 := ⟨n - 1, by omega⟩
  have HN1 := Lib.hid hn1
  go_enter Tryz.func105, Tryz.ntmps105
  go_wp2
  go_loopg [8, 9, 10, 11] (s.size + 1) (fun gas ov kv _ _ wr => ∃ (k : Nat) (A : List Nat), kv = .int .i64 k ∧ k ≤ s.size ∧ k + gas = s.size + 1 ∧ A.length = n * k ∧ Hid (mapA A (spreadS n (valA al.data.toList) (s.data.toList.drop k)) = R) ∧ wr.ownsRow w.heap.size 3 1 ov A.length (A.map bitV) ∧ Below w.heap.size w wr)
  case atStart => exact ⟨0, [], rfl, by omega, by omega, rfl, HR, World.ownsRow_nil _ _ _ _, Below.refl _ _⟩
  case round =>
    obtain ⟨k, A, rfl, hk, hkg, hAk, HW, hA, hB⟩ := hrel
    obtain ⟨gk', hgk'⟩ : ∃ g, g = gk := ⟨_, rfl⟩
    rw [← hgk'] at hkg
    have HK := Lib.hid hkg; clear hkg
    have HAK := Lib.hid hAk; clear hAk
    by_cases hlt : k < s.size
    · obtain ⟨c, hc⟩ : ∃ c, s[k] = c := ⟨_, rfl⟩
      have HDR := Lib.hid (drop_cons s k hlt)
      obtain ⟨i, hi⟩ : ∃ i, Lib.indexByte al.data.toList c = i := ⟨_, rfl⟩
      have hix := Tryz.strings_IndexByte al (c.toNat : Int) wr
      rw [show Lib.indexByte al.data.toList ((c.toNat : Int).toNat.toUInt8) = i from by rw [← hi]; simp] at hix
      have HIX := Lib.hid hix
      have hil := idx_lt al.data.toList c
      rw [hi, size_len] at hil
      obtain ⟨hi1, hi2⟩ := hil
      clear hix
      have hc256 := byte_lt c
      by_cases hneg : i < 0
      · have hvn : valA al.data.toList c = none := by unfold valA; rw [hi, if_pos hneg]
        have HN : Hid (R = none) := Lib.hid (by rw [← HW.out, HDR.out, hc, spread_cons_none hvn]; rfl)
        clear hvn hi
        have HC := Lib.hid hc
        go_wp2_with fail
        refine HIX.out.mono ?_
        rintro e v0 ⟨rfl, rfl⟩
        go_wp2
        go_ret2
        exact ⟨hB, .inl ⟨HN.out, rfl⟩⟩
      · obtain ⟨v, hv⟩ : ∃ v : Nat, i = v := ⟨i.toNat, by omega⟩
        subst hv
        have hvn : valA al.data.toList c = some v := by unfold valA; rw [hi, if_neg hneg]; simp
        have HS : Hid (mapA (A ++ tob v n) (spreadS n (valA al.data.toList) (s.data.toList.drop (k + 1))) = R) := Lib.hid (by rw [← HW.out, HDR.out, hc, spread_cons_some hvn, mapA_app])
        obtain ⟨T, hT⟩ : ∃ T, A ++ tob v n = T := ⟨_, rfl⟩
        rw [hT] at HS
        have HT : Hid (A ++ (tob v n ++ []) = T) := Lib.hid (by rw [List.append_nil, hT])
        have HTL : Hid (T.length = n * (k + 1)) := Lib.hid (by rw [← hT, List.length_append, HAK.out, tob_length, Nat.mul_add]; omega)
        clear hvn hi hT
        have HC := Lib.hid hc
        have hsub : Value.int .i64 ((n : Int) - 1) = Value.int .i64 (n1 : Int) := by congr 1; omega
        have hn18 : (n1 : Int) < 8 := by omega
        have hsh : Value.int .i64 (wrap64 (2 ^ n1)) = Value.int .i64 ((mOf n : Nat) : Int) := by
          rw [hn1]
          have h1 := mOf_le (n1 + 1) (by omega)
          have e : (2 : Int) ^ n1 = ((mOf (n1 + 1) : Nat) : Int) := by simp [mOf]
          rw [e, IntWalk.wrap64_in _ (by omega)]
        have hvd : decide ((v : Int) < 0) = false := by simp
        clear hc hn1
        go_wp2_with fail
        rw [HC.out]
        refine HIX.out.mono ?_
        rintro e v0 ⟨rfl, rfl⟩
        go_wp2
        have HSH := Lib.hid hsh
        clear hsub hsh
        go_loopg [8, 11] (n + 1) (fun gas ov mv wq => ∃ (r : Nat) (A : List Nat) (M : Nat), mv = .int .i64 M ∧ Hid (M = mOf r) ∧ r ≤ 8 ∧ r < gas ∧ Hid (A ++ (tob v r ++ []) = T) ∧ wq.ownsRow w.heap.size 3 1 ov A.length (A.map bitV) ∧ Below w.heap.size w wq)
        case atStart => exact ⟨n, A, mOf n, HSH.out, Lib.hid rfl, by omega, by omega, HT, hA, hB⟩
        case round =>
          clear hA hB HW
          obtain ⟨r, A', M, rfl, HM, hr, hrg, HV, hA', hB'⟩ := hrel
          cases r with
          | succ r =>
            have hM1 : (1 : Int) ≤ (M : Int) := by have := mOf_pos r; have := HM.out; omega
            have hMl : (M : Int) ≤ 128 := by have := mOf_le (r + 1) hr; have := HM.out; omega
            obtain ⟨M', hM'⟩ : ∃ M', M / 2 = M' := ⟨_, rfl⟩
            have HM' : Hid (M' = mOf r) := Lib.hid (by rw [← hM', HM.out, mOf_half])
            have hm2 : Value.int .i64 ((M : Int) / 2) = Value.int .i64 (M' : Int) := by congr 1; omega
            have HMM := Lib.hid hM'; clear hM'
            obtain ⟨q, hqq⟩ : ∃ q, v / M = q := ⟨_, rfl⟩
            have hq255 : (q : Int) ≤ 255 := by have := Nat.div_le_self v M; omega
            obtain ⟨d, hd⟩ : ∃ d, q % 2 = d := ⟨_, rfl⟩
            have HD : Hid ((A' ++ [d]) ++ (tob v r ++ []) = T) := Lib.hid (by
              have h1 := bit_step HV.out
              rw [← HM.out, hqq, hd] at h1; exact h1)
            have hqv : Value.int .i64 (wrap64 ((v : Int) / (M : Int))) = Value.int .i64 (q : Int) := by
              have e : (v : Int) / (M : Int) = (q : Int) := by rw [← hqq]; simp
              rw [e, IntWalk.wrap64_in _ (by omega)]
            have hdv : Value.int .i64 ((q : Int) % 2) = Value.int .i64 (d : Int) := by congr 1; omega
            have hAl : A'.length ≤ T.length := by rw [← HV.out]; simp
            have hTl := HTL.out
            have hnk : n * (k + 1) ≤ 8 * 1099511627776 := Nat.mul_le_mul hn8 (by omega)
            have hAs : A'.length + 1 ≤ 8 * 1099511627776 + 1 := by omega
            have hsz := hB'.size
            clear hd hTl hqq hnk
            go_wp2_with (at_builtin; refine wpList_append_own _ rfl _ _ 43 rfl w.heap.size 3 i0 (.int .i64 0) 1 8 Tryz.underlying43 hi hz0 hz1 hz2 rfl (by decide) _ _ _ rfl (hA'.alloc _) ⟨wr.heap.size, 0, none⟩ 1 1 [.int .i64 (d : Int)] rfl rfl ?c1 ?c2 ?c3 ?c4 ?c5 ?_)
            case c2 => simp [Value.oneCell']
            case c3 => unfold maxLen; omega
            case c4 => omega
            case c5 => omega
            intro v' w1 hown' hgrow _
            have hown2 := own_snocN hown'
            have hB2 := below_append hB' hsz hA' hgrow
            clear hown' hgrow hA' hqv hdv
            go_wp2
            go_roundg (gk - 1)
            case rel => exact ⟨r, _, _, rfl, HM', by omega, by omega, HD, hown2, hB2⟩
            case measure => omega
          | zero =>
            have hM0 : (M : Int) = 0 := by rw [HM.out]; rfl
            have hm0 : M = 0 := by omega
            clear hM0
            subst hm0
            have HN := HV.out
            have hAT : A' = T := by simpa [tob] using HN
            have HAT := Lib.hid hAT
            subst hAT
            go_wp2
            have hkg := HK.out
            have hTl := HTL.out
            go_roundg (gk' - 1)
            case rel => exact ⟨k + 1, A', by go_num, by omega, by omega, hTl, HS, hA', hB'⟩
            case measure => omega
    · have HN := HW.out
      rw [drop_end s k (by omega)] at HN
      have e : R = some A := by rw [← HN]; simp [mapA, spreadS]
      obtain ⟨a, c, rfl, hc1, hc2, hrd⟩ := RdN.of_own hA
      have HE := Lib.hid e
      clear e HN
      go_wp2
      go_ret2
      exact ⟨hB, .inr ⟨A, a, c, HE.out, rfl, hc1, hc2, hrd⟩⟩
end Go.Proofs.YtanoiiodnddkfaaGreat.spread
