/- The reference's Usable: walk (gen_usable.py). The reference's spanned, shown: walks (gen_gaps.py). -/
import Derived.Test.YtanoiiodnddkfaaGreatJ26
import Derived.Test.YtanoiiodnddkfaaGreatJ24
import Derived.Test.YtanoiiodnddkfaaGreatJ19
namespace Go.Proofs.YtanoiiodnddkfaaGreat.usable
open Go.RowKit Go.Proofs.YtanoiiodnddkfaaGreat.kit Go.Proofs.YtanoiiodnddkfaaGreat.nspec Go.Proofs.YtanoiiodnddkfaaGreat.refA Go.Proofs.YtanoiiodnddkfaaGreat.refB Go.Proofs.YtanoiiodnddkfaaGreat.rsplit Go.Proofs.YtanoiiodnddkfaaGreat.fld Go.Proofs.YtanoiiodnddkfaaGreat.timed Go.Proofs.YtanoiiodnddkfaaGreat.wireP Go.Proofs.YtanoiiodnddkfaaGreat.rows Go.Proofs.YtanoiiodnddkfaaGreat.gapP Go.Proofs.YtanoiiodnddkfaaGreat.bits Go.Proofs.YtanoiiodnddkfaaGreat.ints Go.Proofs.YtanoiiodnddkfaaGreat.gapA Go.Proofs.YtanoiiodnddkfaaGreat.gapB Go.Proofs.YtanoiiodnddkfaaGreat.gapC Go.Proofs.YtanoiiodnddkfaaGreat.gapN Go.Proofs.YtanoiiodnddkfaaGreat.gapR Go.Proofs.YtanoiiodnddkfaaGreat.useP Go.Proofs.YtanoiiodnddkfaaGreat.useM Go.Proofs.YtanoiiodnddkfaaGreat.judgeP Go.Proofs.YtanoiiodnddkfaaGreat.first Go.Proofs.YtanoiiodnddkfaaGreat.readN Go.Proofs.YtanoiiodnddkfaaGreat.gapM Go.Proofs.YtanoiiodnddkfaaGreat.useR Go.Proofs.YtanoiiodnddkfaaGreat.gather
set_option linter.unusedVariables false

theorem infoTG : (Tryz.prog.info? 45).map (fun i => (i.zero, i.size, i.bytes)) = some (some (.agg #[.string ByteArray.empty, .int .i64 0, .int .i64 0, .int .i64 0, .string ByteArray.empty, .bool false, .string ByteArray.empty, .string ByteArray.empty, .string ByteArray.empty, .int .i64 0, .slice none 0 0]), 11, 144) := by kernel_rfl
theorem one_gL (r : Gr) : ∀ u ∈ r.refL, u.oneCell' = true := by
  intro u hu
  simp only [Gr.refL, Gr.v, List.mem_cons, List.not_mem_nil, or_false] at hu
  rcases hu with rfl | rfl | rfl | rfl | rfl | rfl | rfl | rfl | rfl | rfl | rfl <;> rfl
theorem useG_none {ap : Bs} {x : Rc} (h : useG ap x = none) : useN ap x = none ∧ useH ap x = none := by
  unfold useG at h
  split at h
  · rename_i ht
    exact ⟨h, useH_no (by omega)⟩
  · rename_i ht
    exact ⟨useN_no ht, h⟩
theorem useG_some {ap : Bs} {x : Rc} {g : Gp} (h : useG ap x = some g) : (g.hashed = false ∧ useN ap x = some g ∧ useH ap x = none) ∨ (g.hashed = true ∧ useN ap x = none ∧ useH ap x = some g) := by
  unfold useG at h
  split at h
  · rename_i ht
    exact .inl ⟨(useN_t h).2, h, useH_no (by omega)⟩
  · rename_i ht
    exact .inr ⟨(useH_t h).2, useN_no ht, h⟩
theorem refL_f {r : Gr} {b : Bool} (h : r.g.hashed = b) : r.refL = [.string r.g.x.o, .int .i64 r.g.x.t, .int .i64 r.g.x.c, .int .i64 r.g.x.l, .string r.g.x.d, .bool b, .string r.g.nx, .string r.g.own, .string r.g.salt, .int .i64 r.g.rounds, .slice r.a r.n r.c] := by
  rw [← h]; rfl
/-- what Usable answers -/
def UsableE (ap : Bs) (L : List Rc) (w : World) (e : Ending) (w' : World) : Prop :=
  ∃ (v : Value) (P : List Gr), e = .returned v ∧ w'.ownsRow w.heap.size 45 11 v P.length (P.flatMap Gr.refL) ∧ (∀ r ∈ P, TyO w' w.heap.size r) ∧ P.map Gr.g = (if namesG ap L = [] then hashesG ap L else namesG ap L) ∧ Below w.heap.size w w'
attribute [local irreducible] wpList
set_option maxRecDepth 100000 in
set_option maxHeartbeats 4800000 in
theorem usable_any (ap : ByteArray) (a : Option Addr) (n c : Nat) (L : List Rc) (w : World) (hap : ap.size ≤ 1048576) (hn : L.length = n) (hnl : n ≤ 16777216) (hr : RdC w a 5 (L.map Rc.cells)) (ho : ∀ x ∈ L, x.o.size ≤ 1048576 ∧ x.d.size ≤ maxLen) :
    Calls Tryz.prog 16 #[.string ap, .slice a n c] w (UsableE ap.data.toList L w) := by
  obtain ⟨iG, hifG, hz0G, hz1G, hz2G⟩ := info_parts infoTG
  have HN := Lib.hid hn; have HRD := Lib.hid hr; have HO := Lib.hid ho
  clear hn hr ho
  go_enter Tryz.func16, Tryz.ntmps16
  go_wp2_with fail
  go_loopg [5, 6, 13] (n + 1) (fun gas nv hv kv wr => ∃ (k : Nat) (P Q : List Gr), kv = .int .i64 (k : Int) ∧ k ≤ n ∧ k + gas = n + 1 ∧ Hid (TwoL wr w.heap.size 45 45 11 11 Gr.refL Gr.refL nv hv P Q) ∧ Hid (P.map Gr.g = namesG ap.data.toList (L.take k)) ∧ Hid (Q.map Gr.g = hashesG ap.data.toList (L.take k)) ∧ Hid (P.length ≤ k ∧ Q.length ≤ k) ∧ Hid (Below w.heap.size w wr))
  case atStart => exact ⟨0, [], [], rfl, by omega, by omega, Lib.hid (TwoL.nil _ _ _ _ _ _ _ _), Lib.hid rfl, Lib.hid rfl, Lib.hid ⟨Nat.le_refl _, Nat.le_refl _⟩, Lib.hid (Below.refl _ _)⟩
  case round =>
    obtain ⟨k, P, Q, rfl, hk, hkg, HT, HP, HQ, HPQ, HB⟩ := hrel
    have HKG := Lib.hid hkg; clear hkg
    obtain ⟨nv, hnv⟩ : ∃ v, u5 = v := ⟨_, rfl⟩
    subst hnv
    obtain ⟨hv, hhv⟩ : ∃ v, u6 = v := ⟨_, rfl⟩
    subst hhv
    obtain ⟨a1, c1, hv1, hc1, hc1m⟩ := own_slice HT.out.one
    obtain ⟨a2, c2, hv2, hc2, hc2m⟩ := own_slice HT.out.two
    subst hv1
    subst hv2
    obtain ⟨p, hp⟩ : ∃ p, P.length = p := ⟨_, rfl⟩
    obtain ⟨q, hq⟩ : ∃ q, Q.length = q := ⟨_, rfl⟩
    have hpk : p ≤ k := by rw [← hp]; exact HPQ.out.1
    have hqk : q ≤ k := by rw [← hq]; exact HPQ.out.2
    rw [hp] at HT hc1 ⊢
    rw [hq] at HT hc2 ⊢
    have HPL := Lib.hid hp; have HQL := Lib.hid hq
    have Hwrz : Hid (w.heap.size ≤ wr.heap.size) := Lib.hid HB.out.size
    clear hp hq HPQ
    by_cases hlt : k < n
    · obtain ⟨x, hx⟩ : ∃ x, L[k]? = some x := ⟨_, List.getElem?_eq_getElem (by have := HN.out; omega)⟩
      obtain ⟨hxo, hxd⟩ := HO.out x (List.mem_of_getElem? hx)
      have HXK := Lib.hid hx
      obtain ⟨g1, o1, rfl, hg1, hcl⟩ := recs_at HRD.out hx
      have hcb : ∀ i u, x.cells[i]? = some u → wr.cell? ⟨g1, o1 + k * 5 + i, none⟩ = some u := fun i u hu => (HB.out.cell (p := ⟨g1, o1 + k * 5 + i, none⟩) hg1).trans (hcl i u hu)
      have y0 : wr.cell? ⟨g1, o1 + k * 5, none⟩ = some (.string x.o) := hcb 0 _ rfl
      have y1 : wr.cell? ⟨g1, o1 + k * 5 + 1, none⟩ = some (.int .i64 x.t) := hcb 1 _ rfl
      have y2 : wr.cell? ⟨g1, o1 + k * 5 + 2, none⟩ = some (.int .i64 x.c) := hcb 2 _ rfl
      have y3 : wr.cell? ⟨g1, o1 + k * 5 + 3, none⟩ = some (.int .i64 x.l) := hcb 3 _ rfl
      have y4 : wr.cell? ⟨g1, o1 + k * 5 + 4, none⟩ = some (.string x.d) := hcb 4 _ rfl
      have zk : (0 : Int) ≤ (k : Int) := by omega
      have zl : (k : Int) < (n : Int) := by omega
      have CU := Lib.hid (fun wx => useR.use_any ap x wx hap hxo hxd)
      have hB7 := (Below.refl wr.heap.size wr).alloc (Nat.le_refl _) (.cells #[.string x.o, .int .i64 x.t, .int .i64 x.c, .int .i64 x.l, .string x.d] 32 (0, 0))
      have hx7 := heap_alloc_new wr (.cells #[.string x.o, .int .i64 x.t, .int .i64 x.c, .int .i64 x.l, .string x.d] 32 (0, 0))
      obtain ⟨X, hX⟩ : ∃ X, wr.heap.size = X := ⟨_, rfl⟩
      obtain ⟨W, hW⟩ : ∃ W, wr.alloc (.cells #[.string x.o, .int .i64 x.t, .int .i64 x.c, .int .i64 x.l, .string x.d] 32 (0, 0)) = W := ⟨_, rfl⟩
      have hT7 := HT.out.below hB7
      rw [hW] at hB7 hx7 hT7
      rw [hX] at hx7
      have HW := Lib.hid hW; have HX := Lib.hid hX; have HT7 := Lib.hid hT7
      have HB7 := Lib.hid (HB.out.trans (hB7.mono HB.out.size))
      clear hx hcl hcb hg1 hB7 hX hW hT7 HB HT
      go_upto_region 5 with fail
      try rw [HW.out]
      try rw [HX.out]
      clear y0 y1 y2 y3 y4
      go_wp2_with (refine wpList_load_row rfl 32 _ rfl X rfl 32 _ _ _ hx7 Tryz.underlying32 rfl (by rw [infoR]; rfl) ?_)
      refine (CU.out W).mono ?_
      rintro e w2 ⟨⟨r, b, rfl, hr1, hr2⟩, hB2⟩
      have HT2 := Lib.hid (HT7.out.below hB2)
      have HB2 := Lib.hid (HB7.out.trans (hB2.mono HB7.out.size))
      clear hx7
      have hB3 := (Below.refl w2.heap.size w2).alloc (Nat.le_refl _) (.cells (gapC r.g r.v) 45)
      have hy3 : AtG (w2.alloc (.cells (gapC r.g r.v) 45)) w2.heap.size r := heap_alloc_new _ _
      have hT3 := HT2.out.below hB3
      obtain ⟨Y, hY⟩ : ∃ Y, w2.heap.size = Y := ⟨_, rfl⟩
      obtain ⟨w3, hw3⟩ : ∃ W, w2.alloc (.cells (gapC r.g r.v) 45) = W := ⟨_, rfl⟩
      have HB3 := Lib.hid (HB2.out.trans (hB3.mono HB2.out.size))
      have HTYB : Hid (b = true → TyO w3 w.heap.size r) := Lib.hid (fun h => by
        have h1 := ((hr1 h).2.below hB3).mono (HB7.out.size)
        rw [hw3] at h1; exact h1)
      rw [hw3] at hy3 hT3 HB3
      rw [hY] at hy3
      obtain ⟨hs, hhs⟩ : ∃ h, r.g.hashed = h := ⟨_, rfl⟩
      have HW3 : Hid (w2.alloc (.cells #[.string r.g.x.o, .int .i64 r.g.x.t, .int .i64 r.g.x.c, .int .i64 r.g.x.l, .string r.g.x.d, .bool hs, .string r.g.nx, .string r.g.own, .string r.g.salt, .int .i64 r.g.rounds, .slice r.a r.n r.c] 45) = w3) := Lib.hid (by rw [← hhs]; exact hw3)
      have HHF := Lib.hid hhs
      have HY := Lib.hid hY; have HT3 := Lib.hid hT3; have HY3 := Lib.hid hy3
      have HR1 := Lib.hid hr1; have HR2 := Lib.hid hr2
      have Hw3z : Hid (w.heap.size ≤ w3.heap.size) := Lib.hid HB3.out.size
      clear hB2 hB3 hT3 hY hw3 hr1 hr2
      dsimp only [gapC, Gr.v]
      rw [hhs]
      trace "5"
      go_upto_region 6 with fail
      try rw [HW3.out]
      try rw [HY.out]
      obtain ⟨d0, d1, d2, d3, d4, d5, d6, d7, d8, d9, d10⟩ := cells11 (g := r.g) (a := r.a) (n := r.n) (c := r.c) hy3
      rw [hhs] at d5
      clear hy3 hhs
      cases b with
      | false =>
        obtain ⟨hu1, hu2⟩ := useG_none (HR2.out (by trivial))
        have HP4 : Hid (P.map Gr.g = namesG ap.data.toList (L.take (k + 1))) := Lib.hid (by rw [names_snoc HXK.out, hu1, HP.out]; simp)
        have HQ6 : Hid (Q.map Gr.g = hashesG ap.data.toList (L.take (k + 1))) := Lib.hid (by rw [hashes_snoc HXK.out, hu2, HQ.out]; rfl)
        clear hu1 hu2
        go_upto_region 8 with fail
        trace "6"
        go_quiet (fail)
        have HB8 : Hid (Below w.heap.size w (w3.drewN nq)) := Lib.hid (bel_drewN HB3.out nq)
        have HT8 := Lib.hid (HT3.out.below (bel_drewN (Below.refl w3.heap.size w3) nq))
        go_wp2_with fail
        have hkg := HKG.out
        go_roundg (gk - 1)
        case rel => exact ⟨k + 1, P, Q, by go_num, by omega, by omega, HT8, HP4, HQ6, Lib.hid ⟨by have h9 := HPL.out; first | omega | (simp; omega), by have h9 := HQL.out; first | omega | (simp; done) | (simp; omega) | (simp at h9; simp; omega)⟩, HB8⟩
        case measure => omega
      | true =>
      have HTY := Lib.hid (HTYB.out (by trivial))
      rcases useG_some (HR1.out (by trivial)).1 with ⟨hf, hu1, hu2⟩ | ⟨hf, hu1, hu2⟩
      · obtain rfl : hs = false := HHF.out.symm.trans hf
        have HRO := Lib.hid HT3.out.one
        rw [HPL.out] at HRO
        have HP4 : Hid ((P ++ [r]).map Gr.g = namesG ap.data.toList (L.take (k + 1))) := Lib.hid (by rw [names_snoc HXK.out, hu1, List.map_append, HP.out]; rfl)
        have HQ6 : Hid (Q.map Gr.g = hashesG ap.data.toList (L.take (k + 1))) := Lib.hid (by rw [hashes_snoc HXK.out, hu2, HQ.out]; rfl)
        clear hf hu1 hu2
        trace "7"
        go_wp2_with (at_builtin; refine wpList_append_lies _ rfl _ _ 41 rfl w.heap.size 45 iG _ 11 144 Tryz.underlying41 hifG hz0G hz1G hz2G rfl (by decide) (.slice a1 p c1) p (P.flatMap Gr.refL) rfl (HRO.out.alloc _) ⟨w3.heap.size, 0, none⟩ 1 1 r.refL rfl rfl ?d1N1 ?d2N1 (by decide) ?d3N1 ?d4N1 ?d5N1 _ rfl ?_)
        try case d1N1 => exact fun j u hu => by rw [refL_f HHF.out] at hu; exact hu
        try case d2N1 => exact one_gL r
        try case d3N1 => unfold maxLen; omega
        try case d4N1 => omega
        try case d5N1 => have := Hw3z.out; omega
        intro g7N1 cpN1 w4 hown hgr hat hlt
        have HBw4 := Lib.hid (below_append' (HB3.out.alloc Hw3z.out (.cells #[.string r.g.x.o, .int .i64 r.g.x.t, .int .i64 r.g.x.c, .int .i64 r.g.x.l, .string r.g.x.d, .bool false, .string r.g.nx, .string r.g.own, .string r.g.salt, .int .i64 r.g.rounds, .slice r.a r.n r.c] 45)) (by rw [World.size_alloc]; have := Hw3z.out; omega) (HRO.out.alloc _) hgr)
        have hBa := (Below.refl w3.heap.size w3).alloc (Nat.le_refl _) (.cells #[.string r.g.x.o, .int .i64 r.g.x.t, .int .i64 r.g.x.c, .int .i64 r.g.x.l, .string r.g.x.d, .bool false, .string r.g.nx, .string r.g.own, .string r.g.salt, .int .i64 r.g.rounds, .slice r.a r.n r.c] 45)
        have hT3a := HT3.out.below hBa
        have hTya := HTY.out.below hBa
        have HT4 := Lib.hid (hT3a.push (by decide) hTya hgr (nv := .slice (some ⟨g7N1, 0, none⟩) (p + 1) cpN1) (by rw [HPL.out]; exact hown) (hat.imp (fun h => h.symm) (fun h => by rw [h]; simp [Value.ownBlock])))
        have hy3a := (hBa.block Y (blk_lt HY3.out)).trans HY3.out
        have hy4 : AtG w4 Y r := (hgr.block Y (blk_lt hy3a) (fun e => by have := (HT2.out.one.lt Y e.symm).2; have := HY.out; omega)).trans hy3a
        clear hBa hT3a hTya hown hgr hat hlt d0 d1 d2 d3 d4 d5 d6 d7 d8 d9 d10 hy3a
        obtain ⟨d0, d1, d2, d3, d4, d5, d6, d7, d8, d9, d10⟩ := cells11 (g := r.g) (a := r.a) (n := r.n) (c := r.c) hy4
        rw [HHF.out] at d5
        clear hy4
        trace "8"
        go_upto_region 8 with fail
        go_quiet (fail)
        have HB8 : Hid (Below w.heap.size w (w4.drewN nq)) := Lib.hid (bel_drewN HBw4.out nq)
        have HT8 := Lib.hid (HT4.out.below (bel_drewN (Below.refl w4.heap.size w4) nq))
        go_wp2_with fail
        have hkg := HKG.out
        go_roundg (gk - 1)
        case rel => exact ⟨k + 1, P ++ [r], Q, by go_num, by omega, by omega, HT8, HP4, HQ6, Lib.hid ⟨by have h9 := HPL.out; first | omega | (simp; omega), by have h9 := HQL.out; first | omega | (simp; done) | (simp; omega) | (simp at h9; simp; omega)⟩, HB8⟩
        case measure => omega
      · obtain rfl : hs = true := HHF.out.symm.trans hf
        have HP4 : Hid (P.map Gr.g = namesG ap.data.toList (L.take (k + 1))) := Lib.hid (by rw [names_snoc HXK.out, hu1, HP.out]; simp)
        have HV := Lib.hid hu2
        clear hf hu1 hu2
        go_upto_region 8 with fail
        trace "9"
        cases Q with
        | nil =>
          obtain rfl : q = 0 := HQL.out.symm
          have HQ6 : Hid (([] ++ [r]).map Gr.g = hashesG ap.data.toList (L.take (k + 1))) := Lib.hid (by rw [hashes_snoc HXK.out, HV.out, ← HQ.out]; rfl)
          go_quiet (fail)
          trace "11"
          obtain ⟨w7, hw7⟩ : ∃ z, w3.drewN nq = z := ⟨_, rfl⟩
          have hB7d : Below w3.heap.size w3 w7 := by rw [← hw7]; exact bel_drewN (Below.refl _ _) nq
          rw [hw7]
          have HB7' := Lib.hid (HB3.out.trans (hB7d.mono HB3.out.size))
          have HT7' := Lib.hid (HT3.out.below hB7d)
          have HTY7 := Lib.hid (HTY.out.below hB7d)
          have hy7 := HY3.out.below hB7d
          clear hw7 hB7d d0 d1 d2 d3 d4 d5 d6 d7 d8 d9 d10
          obtain ⟨d0, d1, d2, d3, d4, d5, d6, d7, d8, d9, d10⟩ := cells11 (g := r.g) (a := r.a) (n := r.n) (c := r.c) hy7
          rw [HHF.out] at d5
          have HRO := Lib.hid HT7'.out.two
          rw [HQL.out] at HRO
          have Hw7z : Hid (w.heap.size ≤ w7.heap.size) := Lib.hid HB7'.out.size
          clear hy7
          go_wp2_with (at_builtin; refine wpList_append_lies _ rfl _ _ 41 rfl w.heap.size 45 iG _ 11 144 Tryz.underlying41 hifG hz0G hz1G hz2G rfl (by decide) (.slice a2 0 c2) 0 (([] : List Gr).flatMap Gr.refL) rfl (HRO.out.alloc _) ⟨w7.heap.size, 0, none⟩ 1 1 r.refL rfl rfl ?d1H10 ?d2H10 (by decide) ?d3H10 ?d4H10 ?d5H10 _ rfl ?_)
          try case d1H10 => exact fun j u hu => by rw [refL_f HHF.out] at hu; exact hu
          try case d2H10 => exact one_gL r
          try case d3H10 => unfold maxLen; omega
          try case d4H10 => omega
          try case d5H10 => have := Hw7z.out; omega
          intro g7H10 cpH10 w8 hown hgr hat hlt
          have HBw8 := Lib.hid (below_append' (HB7'.out.alloc Hw7z.out (.cells #[.string r.g.x.o, .int .i64 r.g.x.t, .int .i64 r.g.x.c, .int .i64 r.g.x.l, .string r.g.x.d, .bool true, .string r.g.nx, .string r.g.own, .string r.g.salt, .int .i64 r.g.rounds, .slice r.a r.n r.c] 45)) (by rw [World.size_alloc]; have := Hw7z.out; omega) (HRO.out.alloc _) hgr)
          have hBa := (Below.refl w7.heap.size w7).alloc (Nat.le_refl _) (.cells #[.string r.g.x.o, .int .i64 r.g.x.t, .int .i64 r.g.x.c, .int .i64 r.g.x.l, .string r.g.x.d, .bool true, .string r.g.nx, .string r.g.own, .string r.g.salt, .int .i64 r.g.rounds, .slice r.a r.n r.c] 45)
          have hT7a := HT7'.out.below hBa
          have hTya := HTY7.out.below hBa
          have HT8 := Lib.hid (hT7a.swap.push (by decide) hTya hgr (nv := .slice (some ⟨g7H10, 0, none⟩) (0 + 1) cpH10) (by rw [HQL.out]; exact hown) (hat.imp (fun h => h.symm) (fun h => by rw [h]; simp [Value.ownBlock]))).swap
          clear hBa hT7a hTya hown hgr hat hlt d0 d1 d2 d3 d4 d5 d6 d7 d8 d9 d10
          go_wp2_with fail
          have hkg := HKG.out
          go_roundg (gk - 1)
          case rel => exact ⟨k + 1, P, [] ++ [r], by go_num, by omega, by omega, HT8, HP4, HQ6, Lib.hid ⟨by have h9 := HPL.out; omega, by have h9 := HQL.out; first | omega | (simp; done) | (simp; omega) | (simp at h9; simp; omega)⟩, HBw8⟩
          case measure => omega
        | cons h Qr =>
          obtain ⟨ah, ch, ehq, _, _, hgq⟩ := gaps_own (f := Gr.refL) (m := 11) (fun _ => rfl) HT3.out.two HT3.out.ty2
          obtain ⟨gq, oq, eq1, hgl, hcq⟩ := hgq.at (k := 0) (r := h) rfl
          simp only [Value.slice.injEq] at ehq
          obtain ⟨e1, e2, e3⟩ := ehq
          subst e1
          subst eq1
          have v8 : w3.cell? ⟨gq, oq + 8, none⟩ = some (.string h.g.salt) := by have := hcq 8 _ rfl; simpa using this
          have v9 : w3.cell? ⟨gq, oq + 9, none⟩ = some (.int .i64 h.g.rounds) := by have := hcq 9 _ rfl; simpa using this
          have zq : (0 : Int) < (q : Int) := by have := HQL.out; simp at this; omega
          have zq0 : ((q : Int) == 0) = false := by rw [beq_eq_false_iff_ne]; omega
          clear hgq hcq e2 e3 hgl
          obtain ⟨sa, hsa⟩ : ∃ s, h.g.salt = s := ⟨_, rfl⟩
          obtain ⟨ro, hro⟩ : ∃ s, h.g.rounds = s := ⟨_, rfl⟩
          rw [hsa] at v8
          rw [hro] at v9
          obtain ⟨sb, hsb⟩ : ∃ s, r.g.salt = s := ⟨_, rfl⟩
          obtain ⟨rp, hrp⟩ : ∃ s, r.g.rounds = s := ⟨_, rfl⟩
          rw [hsb] at d8
          rw [hrp] at d9
          have HLK : Hid (likeB h.g r.g = (decide (sb = sa) && decide (rp = ro))) := Lib.hid (by unfold likeB; rw [hsa, hro, hsb, hrp])
          have HTK : Hid (hashesG ap.data.toList (L.take (k + 1)) = if likeB h.g r.g then (h :: Qr).map Gr.g ++ [r.g] else (h :: Qr).map Gr.g) := Lib.hid (by rw [hashes_snoc HXK.out, HV.out, ← HQ.out]; rfl)
          have HSV := Lib.hid hsb; have HRV := Lib.hid hrp
          clear hsa hro hsb hrp
          have heq := str_eqB (a := sb) (b := sa)
          by_cases hs : sb.data.toList = sa.data.toList
          · rw [decide_eq_true hs] at heq
            have hss : sb = sa := by
              have := congrArg List.toArray hs
              cases sb; cases sa; simp at this; rw [this]
            by_cases hr : rp = ro
            · have her : (rp == ro) = true := by rw [beq_iff_eq]; exact hr
              have HQ6 : Hid (((h :: Qr) ++ [r]).map Gr.g = hashesG ap.data.toList (L.take (k + 1))) := Lib.hid (by rw [HTK.out, HLK.out, decide_eq_true hss, decide_eq_true hr]; simp)
              clear hs hss hr
              go_quiet (fail)
              trace "12"
              rw [← HSV.out, ← HRV.out] at *
              obtain ⟨w7, hw7⟩ : ∃ z, w3.drewN nq = z := ⟨_, rfl⟩
              have hB7d : Below w3.heap.size w3 w7 := by rw [← hw7]; exact bel_drewN (Below.refl _ _) nq
              rw [hw7]
              have HB7' := Lib.hid (HB3.out.trans (hB7d.mono HB3.out.size))
              have HT7' := Lib.hid (HT3.out.below hB7d)
              have HTY7 := Lib.hid (HTY.out.below hB7d)
              have hy7 := HY3.out.below hB7d
              clear hw7 hB7d d0 d1 d2 d3 d4 d5 d6 d7 d8 d9 d10
              obtain ⟨d0, d1, d2, d3, d4, d5, d6, d7, d8, d9, d10⟩ := cells11 (g := r.g) (a := r.a) (n := r.n) (c := r.c) hy7
              rw [HHF.out] at d5
              have HRO := Lib.hid HT7'.out.two
              rw [HQL.out] at HRO
              have Hw7z : Hid (w.heap.size ≤ w7.heap.size) := Lib.hid HB7'.out.size
              clear hy7
              go_wp2_with (at_builtin; refine wpList_append_lies _ rfl _ _ 41 rfl w.heap.size 45 iG _ 11 144 Tryz.underlying41 hifG hz0G hz1G hz2G rfl (by decide) (.slice (some ⟨gq, oq, none⟩) q c2) q ((h :: Qr).flatMap Gr.refL) rfl (HRO.out.alloc _) ⟨w7.heap.size, 0, none⟩ 1 1 r.refL rfl rfl ?d1H14 ?d2H14 (by decide) ?d3H14 ?d4H14 ?d5H14 _ rfl ?_)
              try case d1H14 => exact fun j u hu => by rw [refL_f HHF.out] at hu; exact hu
              try case d2H14 => exact one_gL r
              try case d3H14 => unfold maxLen; omega
              try case d4H14 => omega
              try case d5H14 => have := Hw7z.out; omega
              intro g7H14 cpH14 w8 hown hgr hat hlt
              have HBw8 := Lib.hid (below_append' (HB7'.out.alloc Hw7z.out (.cells #[.string r.g.x.o, .int .i64 r.g.x.t, .int .i64 r.g.x.c, .int .i64 r.g.x.l, .string r.g.x.d, .bool true, .string r.g.nx, .string r.g.own, .string r.g.salt, .int .i64 r.g.rounds, .slice r.a r.n r.c] 45)) (by rw [World.size_alloc]; have := Hw7z.out; omega) (HRO.out.alloc _) hgr)
              have hBa := (Below.refl w7.heap.size w7).alloc (Nat.le_refl _) (.cells #[.string r.g.x.o, .int .i64 r.g.x.t, .int .i64 r.g.x.c, .int .i64 r.g.x.l, .string r.g.x.d, .bool true, .string r.g.nx, .string r.g.own, .string r.g.salt, .int .i64 r.g.rounds, .slice r.a r.n r.c] 45)
              have hT7a := HT7'.out.below hBa
              have hTya := HTY7.out.below hBa
              have HT8 := Lib.hid (hT7a.swap.push (by decide) hTya hgr (nv := .slice (some ⟨g7H14, 0, none⟩) (q + 1) cpH14) (by rw [HQL.out]; exact hown) (hat.imp (fun h => h.symm) (fun h => by rw [h]; simp [Value.ownBlock]))).swap
              clear hBa hT7a hTya hown hgr hat hlt d0 d1 d2 d3 d4 d5 d6 d7 d8 d9 d10
              go_wp2_with fail
              have hkg := HKG.out
              go_roundg (gk - 1)
              case rel => exact ⟨k + 1, P, (h :: Qr) ++ [r], by go_num, by omega, by omega, HT8, HP4, HQ6, Lib.hid ⟨by have h9 := HPL.out; omega, by have h9 := HQL.out; first | omega | (simp; done) | (simp; omega) | (simp at h9; simp; omega)⟩, HBw8⟩
              case measure => omega
            · have her : (rp == ro) = false := by rw [beq_eq_false_iff_ne]; exact hr
              have HQ6 : Hid ((h :: Qr).map Gr.g = hashesG ap.data.toList (L.take (k + 1))) := Lib.hid (by rw [HTK.out, HLK.out, decide_eq_false hr, Bool.and_false]; rfl)
              clear hs hss hr
              trace "13"
              go_quiet (fail)
              have HB8 : Hid (Below w.heap.size w (w3.drewN nq)) := Lib.hid (bel_drewN HB3.out nq)
              have HT8 := Lib.hid (HT3.out.below (bel_drewN (Below.refl w3.heap.size w3) nq))
              go_wp2_with fail
              have hkg := HKG.out
              go_roundg (gk - 1)
              case rel => exact ⟨k + 1, P, (h :: Qr), by go_num, by omega, by omega, HT8, HP4, HQ6, Lib.hid ⟨by have h9 := HPL.out; first | omega | (simp; omega), by have h9 := HQL.out; first | omega | (simp; done) | (simp; omega) | (simp at h9; simp; omega)⟩, HB8⟩
              case measure => omega
          · rw [decide_eq_false hs] at heq
            have HQ6 : Hid ((h :: Qr).map Gr.g = hashesG ap.data.toList (L.take (k + 1))) := Lib.hid (by rw [HTK.out, HLK.out, decide_eq_false (fun e => hs (by rw [e])), Bool.false_and]; rfl)
            clear hs
            trace "14"
            go_quiet (fail)
            have HB8 : Hid (Below w.heap.size w (w3.drewN nq)) := Lib.hid (bel_drewN HB3.out nq)
            have HT8 := Lib.hid (HT3.out.below (bel_drewN (Below.refl w3.heap.size w3) nq))
            go_wp2_with fail
            have hkg := HKG.out
            go_roundg (gk - 1)
            case rel => exact ⟨k + 1, P, (h :: Qr), by go_num, by omega, by omega, HT8, HP4, HQ6, Lib.hid ⟨by have h9 := HPL.out; first | omega | (simp; omega), by have h9 := HQL.out; first | omega | (simp; done) | (simp; omega) | (simp at h9; simp; omega)⟩, HB8⟩
            case measure => omega
    · have hke : k = n := by omega
      subst hke
      have hz : ¬ (k : Int) < (k : Int) := by omega
      have HTL : Hid (L.take k = L) := Lib.hid (List.take_of_length_le (by rw [HN.out]; exact Nat.le_refl _))
      have HPF : Hid (P.map Gr.g = namesG ap.data.toList L) := Lib.hid (by rw [HP.out, HTL.out])
      have HQF : Hid (Q.map Gr.g = hashesG ap.data.toList L) := Lib.hid (by rw [HQ.out, HTL.out])
      by_cases hp0 : p = 0
      · have e3 : decide ((0 : Int) < (p : Int)) = false := decide_eq_false (by omega)
        have e4 : ¬ (0 : Int) < (p : Int) := by omega
        have hnil : namesG ap.data.toList L = [] := by
          rw [← HPF.out]
          have : P = [] := List.eq_nil_of_length_eq_zero (by rw [HPL.out]; exact hp0)
          rw [this]; rfl
        have HNIL := Lib.hid hnil
        clear hp0 hnil
        go_wp2_with fail
        go_ret
        exact ⟨_, Q, rfl, HT.out.two, HT.out.ty2, by rw [if_pos HNIL.out]; exact HQF.out, HB.out⟩
      · have e3 : decide ((0 : Int) < (p : Int)) = true := decide_eq_true (by omega)
        have e4 : (0 : Int) < (p : Int) := by omega
        have hnil : ¬ namesG ap.data.toList L = [] := by
          rw [← HPF.out]
          intro h
          have := congrArg List.length h
          rw [List.length_map, HPL.out] at this
          simp at this
          omega
        have HNIL := Lib.hid hnil
        clear hp0 hnil
        go_wp2_with fail
        go_ret
        exact ⟨_, P, rfl, HT.out.one, HT.out.ty1, by rw [if_neg HNIL.out]; exact HPF.out, HB.out⟩
end Go.Proofs.YtanoiiodnddkfaaGreat.usable
namespace Go.Proofs.YtanoiiodnddkfaaGreat.gapS
open Go.RowKit Go.Proofs.YtanoiiodnddkfaaGreat.kit Go.Proofs.YtanoiiodnddkfaaGreat.nspec Go.Proofs.YtanoiiodnddkfaaGreat.fld Go.Proofs.YtanoiiodnddkfaaGreat.timed Go.Proofs.YtanoiiodnddkfaaGreat.wireP Go.Proofs.YtanoiiodnddkfaaGreat.gapP Go.Proofs.YtanoiiodnddkfaaGreat.bits Go.Proofs.YtanoiiodnddkfaaGreat.ints Go.Proofs.YtanoiiodnddkfaaGreat.gapA Go.Proofs.YtanoiiodnddkfaaGreat.gapB Go.Proofs.YtanoiiodnddkfaaGreat.gapC Go.Proofs.YtanoiiodnddkfaaGreat.gapR
set_option linter.unusedVariables false

theorem any_stepG {α : Type} {L : List α} {k : Nat} {y : α} {f : α → Bool} {R : Bool} (hy : L[k]? = some y) (h : (L.drop k).any f = R) : (f y || (L.drop (k + 1)).any f) = R := by
  obtain ⟨hlt, rfl⟩ := List.getElem?_eq_some_iff.1 hy
  rw [List.drop_eq_getElem_cons hlt, List.any_cons] at h
  exact h
set_option maxRecDepth 100000 in
set_option maxHeartbeats 4000000 in
theorem spanned_any (a : Option Addr) (n c : Nat) (L : List Gr) (N : ByteArray) (w : World) (hn : L.length = n) (hnl : n ≤ 1048576) (h : GapsR Gr.refL 11 w a L) (hN : N.size ≤ 1048576) (hs : ∀ r ∈ L, r.g.hashed = true → (hash.hashS N.data.toList r.g.salt.data.toList r.g.rounds).2 = 0) :
    Calls Tryz.prog 26 #[.slice a n c, .string N] w fun e w' => e = .returned (.bool (L.any (fun r => spanB r.g N.data.toList))) ∧ Below w.heap.size w w' := by
  obtain ⟨R, HR⟩ : ∃ R, Hid (L.any (fun r => spanB r.g N.data.toList) = R) := ⟨_, Lib.hid rfl⟩
  rw [HR.out]
  have HS : Hid ((L.drop 0).any (fun r => spanB r.g N.data.toList) = R) := Lib.hid HR.out
  have HG := Lib.hid h; have HN := Lib.hid hn; have HH := Lib.hid hs
  clear h HR hn hs
  go_enter Tryz.func26, Tryz.ntmps26
  go_wp2_with fail
  go_loopg [6, 9] (n + 1) (fun gas _ kv wr => ∃ (k : Nat), kv = .int .i64 k ∧ k ≤ n ∧ k + gas = n + 1 ∧ Hid ((L.drop k).any (fun r => spanB r.g N.data.toList) = R) ∧ Below w.heap.size w wr)
  case atStart => exact ⟨0, rfl, by omega, by omega, HS, Below.refl _ _⟩
  case round =>
    obtain ⟨k, rfl, hk, hkg, HW2, hB⟩ := hrel
    have HKG := Lib.hid hkg; clear hkg
    have HB := Lib.hid hB; clear hB
    by_cases hlt : k < n
    · obtain ⟨r, hy⟩ : ∃ r, L[k]? = some r := ⟨_, List.getElem?_eq_getElem (by have := HN.out; omega)⟩
      have hm := List.mem_of_getElem? hy
      obtain ⟨g0, of, rfl, hg, hcy⟩ := (HG.out.below HB.out).at hy
      have y0 : wr.cell? ⟨g0, of + k * 11, none⟩ = some (.string r.g.x.o) := hcy 0 _ rfl
      have y1 : wr.cell? ⟨g0, of + k * 11 + 1, none⟩ = some (.int .i64 r.g.x.t) := hcy 1 _ rfl
      have y2 : wr.cell? ⟨g0, of + k * 11 + 2, none⟩ = some (.int .i64 r.g.x.c) := hcy 2 _ rfl
      have y3 : wr.cell? ⟨g0, of + k * 11 + 3, none⟩ = some (.int .i64 r.g.x.l) := hcy 3 _ rfl
      have y4 : wr.cell? ⟨g0, of + k * 11 + 4, none⟩ = some (.string r.g.x.d) := hcy 4 _ rfl
      have y5 : wr.cell? ⟨g0, of + k * 11 + 5, none⟩ = some (.bool r.g.hashed) := hcy 5 _ rfl
      have y6 : wr.cell? ⟨g0, of + k * 11 + 6, none⟩ = some (.string r.g.nx) := hcy 6 _ rfl
      have y7 : wr.cell? ⟨g0, of + k * 11 + 7, none⟩ = some (.string r.g.own) := hcy 7 _ rfl
      have y8 : wr.cell? ⟨g0, of + k * 11 + 8, none⟩ = some (.string r.g.salt) := hcy 8 _ rfl
      have y9 : wr.cell? ⟨g0, of + k * 11 + 9, none⟩ = some (.int .i64 r.g.rounds) := hcy 9 _ rfl
      have y10 : wr.cell? ⟨g0, of + k * 11 + 10, none⟩ = some (.slice r.a r.n r.c) := hcy 10 _ rfl
      have zk : (0 : Int) ≤ (k : Int) := by omega
      have zl : (k : Int) < (n : Int) := by omega
      have hT := HG.out.ty r hm
      have CS := Lib.hid (fun (wx : World) => spans_any r.g r.a r.n r.c N wx hT.ok hN (HH.out r hm))
      dsimp only [gapC] at CS
      obtain ⟨b, hb⟩ : ∃ b, spanB r.g N.data.toList = b := ⟨_, rfl⟩
      rw [hb] at CS
      have HSTEP := Lib.hid (by have h1 := any_stepG hy HW2.out; rw [hb] at h1; exact h1)
      clear hg hcy hm hT hb hy
      have hB7 := (Below.refl wr.heap.size wr).alloc (Nat.le_refl _) (.cells #[.string r.g.x.o, .int .i64 r.g.x.t, .int .i64 r.g.x.c, .int .i64 r.g.x.l, .string r.g.x.d, .bool r.g.hashed, .string r.g.nx, .string r.g.own, .string r.g.salt, .int .i64 r.g.rounds, .slice r.a r.n r.c] 45)
      have HB7 := Lib.hid (HB.out.trans (hB7.mono HB.out.size))
      clear hB7
      cases b with
      | true =>
        have HT : Hid (R = true) := Lib.hid (by rw [← HSTEP.out]; rfl)
        go_wp2_with fail
        refine (CS.out _).mono ?_
        rintro e w8 ⟨rfl, hB8⟩
        have HB8 := Lib.hid (HB7.out.trans (hB8.mono HB7.out.size))
        clear hB8
        go_wp2_with fail
        go_ret
        exact ⟨by rw [HT.out]; rfl, HB8.out⟩
      | false =>
        have HT : Hid ((L.drop (k + 1)).any (fun r => spanB r.g N.data.toList) = R) := Lib.hid (by have h1 := HSTEP.out; rw [Bool.false_or] at h1; exact h1)
        go_wp2_with fail
        refine (CS.out _).mono ?_
        rintro e w8 ⟨rfl, hB8⟩
        have HB8 := Lib.hid (HB7.out.trans (hB8.mono HB7.out.size))
        clear hB8
        go_wp2_with fail
        have hkg := HKG.out
        go_roundg (gk - 1)
        case rel => exact ⟨k + 1, by go_num, by omega, by omega, HT, HB8.out⟩
        case measure => omega
    · have hnl : ¬ (k : Int) < (n : Int) := by omega
      have HF : Hid (R = false) := Lib.hid (by rw [← HW2.out, List.drop_eq_nil_of_le (by have := HN.out; omega)]; rfl)
      go_wp2_with fail
      go_ret
      exact ⟨by rw [HF.out]; rfl, HB.out⟩
set_option maxRecDepth 100000 in
set_option maxHeartbeats 4000000 in
theorem shown_any (a : Option Addr) (n c : Nat) (L : List Gr) (N : ByteArray) (t : Int) (w : World) (hn : L.length = n) (hnl : n ≤ 1048576) (h : GapsR Gr.refL 11 w a L) (hN : N.size ≤ 1048576) :
    Calls Tryz.prog 17 #[.slice a n c, .string N, .int .i64 t] w fun e w' => e = .returned (.bool (L.any (fun r => matchB r.g N.data.toList && lacksB r.g t))) ∧ Below w.heap.size w w' := by
  obtain ⟨R, HR⟩ : ∃ R, Hid (L.any (fun r => matchB r.g N.data.toList && lacksB r.g t) = R) := ⟨_, Lib.hid rfl⟩
  rw [HR.out]
  have HS : Hid ((L.drop 0).any (fun r => matchB r.g N.data.toList && lacksB r.g t) = R) := Lib.hid HR.out
  have HG := Lib.hid h; have HN := Lib.hid hn
  clear h HR hn
  go_enter Tryz.func17, Tryz.ntmps17
  go_wp2_with fail
  go_loopg [8, 11] (n + 1) (fun gas _ kv wr => ∃ (k : Nat), kv = .int .i64 k ∧ k ≤ n ∧ k + gas = n + 1 ∧ Hid ((L.drop k).any (fun r => matchB r.g N.data.toList && lacksB r.g t) = R) ∧ Below w.heap.size w wr)
  case atStart => exact ⟨0, rfl, by omega, by omega, HS, Below.refl _ _⟩
  case round =>
    obtain ⟨k, rfl, hk, hkg, HW2, hB⟩ := hrel
    have HKG := Lib.hid hkg; clear hkg
    have HB := Lib.hid hB; clear hB
    by_cases hlt : k < n
    · obtain ⟨r, hy⟩ : ∃ r, L[k]? = some r := ⟨_, List.getElem?_eq_getElem (by have := HN.out; omega)⟩
      have hm := List.mem_of_getElem? hy
      obtain ⟨g0, of, rfl, hg, hcy⟩ := (HG.out.below HB.out).at hy
      have y0 : wr.cell? ⟨g0, of + k * 11, none⟩ = some (.string r.g.x.o) := hcy 0 _ rfl
      have y1 : wr.cell? ⟨g0, of + k * 11 + 1, none⟩ = some (.int .i64 r.g.x.t) := hcy 1 _ rfl
      have y2 : wr.cell? ⟨g0, of + k * 11 + 2, none⟩ = some (.int .i64 r.g.x.c) := hcy 2 _ rfl
      have y3 : wr.cell? ⟨g0, of + k * 11 + 3, none⟩ = some (.int .i64 r.g.x.l) := hcy 3 _ rfl
      have y4 : wr.cell? ⟨g0, of + k * 11 + 4, none⟩ = some (.string r.g.x.d) := hcy 4 _ rfl
      have y5 : wr.cell? ⟨g0, of + k * 11 + 5, none⟩ = some (.bool r.g.hashed) := hcy 5 _ rfl
      have y6 : wr.cell? ⟨g0, of + k * 11 + 6, none⟩ = some (.string r.g.nx) := hcy 6 _ rfl
      have y7 : wr.cell? ⟨g0, of + k * 11 + 7, none⟩ = some (.string r.g.own) := hcy 7 _ rfl
      have y8 : wr.cell? ⟨g0, of + k * 11 + 8, none⟩ = some (.string r.g.salt) := hcy 8 _ rfl
      have y9 : wr.cell? ⟨g0, of + k * 11 + 9, none⟩ = some (.int .i64 r.g.rounds) := hcy 9 _ rfl
      have y10 : wr.cell? ⟨g0, of + k * 11 + 10, none⟩ = some (.slice r.a r.n r.c) := hcy 10 _ rfl
      have zk : (0 : Int) ≤ (k : Int) := by omega
      have zl : (k : Int) < (n : Int) := by omega
      have hT := HG.out.ty r hm
      have CS := Lib.hid (fun (wx : World) => matches_any r.g r.a r.n r.c N wx hT.ok hN)
      have CL := Lib.hid (fun (wx : World) (hB : Below w.heap.size w wx) => lacks_any r.g r.a r.n r.c t wx hT.len hT.le (hT.rd.below hB rfl))
      dsimp only [gapC] at CS CL
      obtain ⟨b, hb⟩ : ∃ b, matchB r.g N.data.toList = b := ⟨_, rfl⟩
      obtain ⟨bl, hbl⟩ : ∃ b, lacksB r.g t = b := ⟨_, rfl⟩
      rw [hb] at CS
      rw [hbl] at CL
      have HSTEP := Lib.hid (by have h1 := any_stepG hy HW2.out; rw [hb, hbl] at h1; exact h1)
      clear hg hcy hm hT hb hbl hy
      have hB7 := (Below.refl wr.heap.size wr).alloc (Nat.le_refl _) (.cells #[.string r.g.x.o, .int .i64 r.g.x.t, .int .i64 r.g.x.c, .int .i64 r.g.x.l, .string r.g.x.d, .bool r.g.hashed, .string r.g.nx, .string r.g.own, .string r.g.salt, .int .i64 r.g.rounds, .slice r.a r.n r.c] 45)
      have HB7 := Lib.hid (HB.out.trans (hB7.mono HB.out.size))
      clear hB7
      have hx := heap_alloc_new wr (.cells #[.string r.g.x.o, .int .i64 r.g.x.t, .int .i64 r.g.x.c, .int .i64 r.g.x.l, .string r.g.x.d, .bool r.g.hashed, .string r.g.nx, .string r.g.own, .string r.g.salt, .int .i64 r.g.rounds, .slice r.a r.n r.c] 45)
      obtain ⟨X, hX⟩ : ∃ X, wr.heap.size = X := ⟨_, rfl⟩
      rw [hX] at hx
      have HX := Lib.hid hX; have HXX := Lib.hid hx
      clear hX hx
      cases b with
      | true =>
        cases bl with
        | true =>
          have HT : Hid (R = true) := Lib.hid (by rw [← HSTEP.out]; rfl)
          go_wp2_with fail
          refine (CS.out _).mono ?_
          rintro e w8 ⟨rfl, hB8⟩
          have HB8 := Lib.hid (HB7.out.trans (hB8.mono HB7.out.size))
          have HX8 := Lib.hid ((hB8.block X (Array.getElem?_eq_some_iff.1 HXX.out).1).trans HXX.out)
          try rw [HX.out]
          clear y0 y1 y2 y3 y4 y5 y6 y7 y8 y9 y10 hB8
          obtain ⟨y0, y1, y2, y3, y4, y5, y6, y7, y8, y9, y10⟩ := cells11 HX8.out
          go_wp2_with fail
          refine (CL.out _ HB8.out).mono ?_
          rintro e w9 ⟨rfl, hB9⟩
          have HB9 := Lib.hid (HB8.out.trans (hB9.mono HB8.out.size))
          clear hB9
          go_wp2_with fail
          go_ret
          exact ⟨by rw [HT.out]; rfl, HB9.out⟩
        | false =>
          have HT : Hid ((L.drop (k + 1)).any (fun r => matchB r.g N.data.toList && lacksB r.g t) = R) := Lib.hid (by have h1 := HSTEP.out; rw [Bool.and_false, Bool.false_or] at h1; exact h1)
          go_wp2_with fail
          refine (CS.out _).mono ?_
          rintro e w8 ⟨rfl, hB8⟩
          have HB8 := Lib.hid (HB7.out.trans (hB8.mono HB7.out.size))
          have HX8 := Lib.hid ((hB8.block X (Array.getElem?_eq_some_iff.1 HXX.out).1).trans HXX.out)
          try rw [HX.out]
          clear y0 y1 y2 y3 y4 y5 y6 y7 y8 y9 y10 hB8
          obtain ⟨y0, y1, y2, y3, y4, y5, y6, y7, y8, y9, y10⟩ := cells11 HX8.out
          go_wp2_with fail
          refine (CL.out _ HB8.out).mono ?_
          rintro e w9 ⟨rfl, hB9⟩
          have HB9 := Lib.hid (HB8.out.trans (hB9.mono HB8.out.size))
          clear hB9
          go_wp2_with fail
          have hkg := HKG.out
          go_roundg (gk - 1)
          case rel => exact ⟨k + 1, by go_num, by omega, by omega, HT, HB9.out⟩
          case measure => omega
      | false =>
        have HT : Hid ((L.drop (k + 1)).any (fun r => matchB r.g N.data.toList && lacksB r.g t) = R) := Lib.hid (by have h1 := HSTEP.out; rw [Bool.false_and, Bool.false_or] at h1; exact h1)
        go_wp2_with fail
        refine (CS.out _).mono ?_
        rintro e w8 ⟨rfl, hB8⟩
        have HB8 := Lib.hid (HB7.out.trans (hB8.mono HB7.out.size))
        clear hB8
        go_wp2_with fail
        have hkg := HKG.out
        go_roundg (gk - 1)
        case rel => exact ⟨k + 1, by go_num, by omega, by omega, HT, HB8.out⟩
        case measure => omega
    · have hnl : ¬ (k : Int) < (n : Int) := by omega
      have HF : Hid (R = false) := Lib.hid (by rw [← HW2.out, List.drop_eq_nil_of_le (by have := HN.out; omega)]; rfl)
      go_wp2_with fail
      go_ret
      exact ⟨by rw [HF.out]; rfl, HB.out⟩
end Go.Proofs.YtanoiiodnddkfaaGreat.gapS
