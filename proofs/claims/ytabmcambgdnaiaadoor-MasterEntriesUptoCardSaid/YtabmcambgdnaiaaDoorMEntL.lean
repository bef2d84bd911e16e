/- The law gazetteerlaw2.MasterEntries: walk. -/
import Derived.Test.YtabmcambgdnaiaaDoorMEntW
import Derived.Test.YtabmcambgdnaiaaDoorEntK
namespace Go.Proofs.YtabmcambgdnaiaaDoor.mentL
open Go.RowKit Go.Proofs.YtabmcambgdnaiaaDoor.kit Go.Proofs.YtabmcambgdnaiaaDoor.timed Go.Proofs.YtabmcambgdnaiaaDoor.entP Go.Proofs.YtabmcambgdnaiaaDoor.wordsS Go.Proofs.YtabmcambgdnaiaaDoor.entsS Go.Proofs.YtabmcambgdnaiaaDoor.entM Go.Proofs.YtabmcambgdnaiaaDoor.entG Go.Proofs.YtabmcambgdnaiaaDoor.entR Go.Proofs.YtabmcambgdnaiaaDoor.mentW Go.Proofs.YtabmcambgdnaiaaDoor.entK
set_option linter.unusedVariables false

theorem HandW.kept {w w1 : World} (h : HandW w) (h1 : w1.heap[0]? = w.heap[0]?) : HandW w1 := by
  unfold HandW at *
  rw [← h]; simp only [World.cell?, h1]
attribute [local irreducible] wpQuiet wpStill
set_option maxRecDepth 100000 in
set_option maxHeartbeats 4000000 in
theorem walk (s : ByteArray) (w : World) (hs : s.size ≤ 1048576) (hh : HandW w) : Calls Tryd.prog 3 #[.string s] w fun e w' => e = .returned (.bool true) ∧ Below w.heap.size w w' := by
  obtain ⟨i0, hi, hz0, hz1, hz2⟩ := info_parts entW.infoWd
  have h0l := hh.lt
  have CA := Lib.hid (mentries_any s w (by omega) hh)
  have HH := Lib.hid hh
  clear hh
  go_enter Tryd.func3, Tryd.ntmps3
  go_wp2_with fail
  refine CA.out.mono ?_
  rintro e w1 ⟨v1, P1, cd, ln, rfl, hE1, hO1, hP1, hB1⟩
  obtain ⟨w2, hw2⟩ : ∃ w2, w1.alloc (.cells #[.int .i64 cd, .string ⟨#[]⟩, .int .i64 ln] 25) = w2 := ⟨_, rfl⟩
  have hB2 : Below w1.heap.size w1 w2 := by rw [← hw2]; exact (Below.refl _ _).alloc (Nat.le_refl _) _
  have hF2 : w2.heap[w1.heap.size]? = some (.cells #[.int .i64 cd, .string ⟨#[]⟩, .int .i64 ln] 25) := by rw [← hw2]; exact heap_alloc_new _ _
  have CB := Lib.hid (entW.entries_any s w2 (by omega))
  have HE1 := Lib.hid hE1; have HO1 := Lib.hid hO1; have HP1 := Lib.hid hP1; have HB1 := Lib.hid hB1; have HB2 := Lib.hid hB2; have HF2 := Lib.hid hF2; have HW2 := Lib.hid hw2
  clear hE1 hO1 hP1 hB1 hB2 hF2 hw2 CA
  go_upto_region 2 with fail
  rw [HW2.out]
  go_wp2_with fail
  refine CB.out.mono ?_
  rintro e w3 ⟨v2, P2, cd2, ln2, rfl, hE2, hO2, hP2, hB3⟩
  have hpe : (P1.map Prod.fst, cd, ln) = (P2.map Prod.fst, cd2, ln2) := HE1.out.symm.trans hE2
  have e1 : P1.map Prod.fst = P2.map Prod.fst := congrArg Prod.fst hpe
  obtain rfl : cd = cd2 := congrArg (fun x => x.2.1) hpe
  obtain rfl : ln = ln2 := congrArg (fun x => x.2.2) hpe
  obtain ⟨w4, hw4⟩ : ∃ w4, w3.alloc (.cells #[.int .i64 cd, .string ⟨#[]⟩, .int .i64 ln] 25) = w4 := ⟨_, rfl⟩
  have hB4 : Below w3.heap.size w3 w4 := by rw [← hw4]; exact (Below.refl _ _).alloc (Nat.le_refl _) _
  have hF4 : w4.heap[w3.heap.size]? = some (.cells #[.int .i64 cd, .string ⟨#[]⟩, .int .i64 ln] 25) := by rw [← hw4]; exact heap_alloc_new _ _
  have hB24 : Below w2.heap.size w2 w4 := hB3.trans (hB4.mono hB3.size)
  have hF24 := (hB24.block _ (blk_lt HF2.out)).trans HF2.out
  have hB14 : Below w1.heap.size w1 w4 := HB2.out.trans (hB24.mono HB2.out.size)
  have hB04 : Below w.heap.size w w4 := HB1.out.trans (hB14.mono HB1.out.size)
  have few1 := ent_few HE1.out
  have hb1 : ∀ p ∈ P1, p.1.words.length ≤ 1099511627776 := fun p hp => by
    have h1 := few1.2 p.1 (List.mem_map_of_mem hp)
    rw [size_len] at h1; omega
  have hb2 : ∀ p ∈ P2, p.1.words.length ≤ 1099511627776 := fun p hp => by
    have h1 := few1.2 p.1 (by rw [e1]; exact List.mem_map_of_mem hp)
    rw [size_len] at h1; omega
  have hn1 : P1.length ≤ s.size := by have h := few1.1; rw [List.length_map, size_len] at h; exact h
  have hn2 : P2.length = P1.length := by have h := congrArg List.length e1; rw [List.length_map, List.length_map] at h; exact h.symm
  have HM := Lib.hid (MkJ.init HO1.out HP1.out hB14)
  have HO4 := Lib.hid (hO2.below hB4)
  obtain ⟨a1, c1, hv1, hr1⟩ := (HO1.out.below hB14).rd hb1
  obtain ⟨a2, c2, hv2, hr2⟩ := HO4.out.rd hb2
  subst hv1; subst hv2
  have CC := Lib.hid (entries_same a1 a2 P1.length c1 c2 (P1.map Prod.fst) w4 (by rw [List.length_map]) hr1 (by rw [e1]; exact hr2) (by omega))
  have HPE := Lib.hid e1; have HBB := Lib.hid hb2; have HN2 := Lib.hid hn2; have HB04 := Lib.hid hB04; have HW4 := Lib.hid hw4
  have HL12 : Hid (w1.heap.size ≤ w2.heap.size) := Lib.hid HB2.out.size
  have HL24 : Hid (w2.heap.size ≤ w4.heap.size) := Lib.hid hB24.size
  have HWL : Hid (∀ (i : Nat) (p : En × Value), P1[i]? = some p → p.1.words.length ≤ 1048576) := Lib.hid (fun (i : Nat) (p : En × Value) hp => by
    have h1 := few1.2 p.1 (List.mem_map_of_mem (List.mem_of_getElem? hp))
    rw [size_len] at h1; omega)
  obtain ⟨n, hn⟩ : ∃ n, P1.length = n := ⟨_, rfl⟩
  rw [hn] at CC hn1 HM hn2
  rw [hn, hn2]
  have HN := Lib.hid hn
  clear hn
  clear hpe e1 hE2 hO2 hP2 hB3 hB4 hB24 hB14 hB04 few1 hb1 hb2 hr1 hr2 hw4 hn2 CB
  obtain ⟨f0, f1, f2, fz, fl⟩ := box_cells hF4
  obtain ⟨g0, g1, g2, gz, gl⟩ := box_cells hF24
  go_upto_region 3 with fail
  rw [HW4.out]
  go_upto_region 5 with (go_at_call 7; refine CC.out.mono ?_; rintro e w5 ⟨rfl, m5, rfl⟩)
  have HM5 := Lib.hid (HM.out.drew m5)
  clear f0 f1 f2 fz fl g0 g1 g2 gz gl hF4 hF24 HM CC
  go_wp2_with fail
  go_loopg [30] (n + 1) (fun gas jv wr => ∃ j : Nat, jv = .int .i64 (j : Int) ∧ j ≤ n ∧ j + gas = n + 1 ∧ Hid (MkJ w4 wr w.heap.size w1.heap.size (.slice a1 n c1) P1 j))
  case atStart => exact ⟨0, rfl, by omega, by omega, HM5⟩
  case round =>
    obtain ⟨j, rfl, hj, hjg, HMJ⟩ := hrel
    have HJG := Lib.hid hjg
    clear hjg
    by_cases hlt : j < n
    · obtain ⟨p, hp⟩ : ∃ p : En × Value, P1[j]? = some p := ⟨_, List.getElem?_eq_getElem (by have := HN.out; omega)⟩
      have HP := Lib.hid hp
      obtain ⟨aw, cw, hpw⟩ := HMJ.out.words hp
      obtain ⟨nw, hnw⟩ : ∃ nw, p.1.words.length = nw := ⟨_, rfl⟩
      rw [hnw] at hpw
      have hnwb := HWL.out j p hp
      rw [hnw] at hnwb
      have HPW := Lib.hid hpw; have HNW := Lib.hid hnw
      obtain ⟨g, cap, hv, hc2, hfz, hg0, hg1, hgl⟩ := HMJ.out.at hp
      have hv2 := hv
      simp only [Value.slice.injEq] at hv2
      have ha1 := hv2.1
      clear hv2 hv
      subst ha1
      rw [hpw] at hc2
      have HG := Lib.hid (And.intro hg0 hg1)
      clear hp hpw hnw hg0 hg1
      have zj : (0 : Int) ≤ (j : Int) := by omega
      have zjl : (j : Int) < (n : Int) := by omega
      go_wp2_with fail
      clear hc2 hfz hgl
      obtain ⟨gq, rfl⟩ : ∃ gq, gk = gq + 1 := ⟨gk - 1, by have := HJG.out; omega⟩
      go_loopg [39] (nw + 1) (fun gas kv wr => ∃ k : Nat, kv = .int .i64 (k : Int) ∧ k ≤ nw ∧ k + gas = nw + 1 ∧ Hid (MkJ w4 wr w.heap.size w1.heap.size (.slice (some ⟨g, 0, none⟩) n c1) P1 j))
      case atStart => exact ⟨0, rfl, by omega, by omega, HMJ⟩
      case round =>
        obtain ⟨k, rfl, hk, hkg, HMK⟩ := hrel
        have HKG := Lib.hid hkg
        clear hkg
        obtain ⟨g', cap', hv, hc2, hfz, hg0, hg1, hgl⟩ := HMK.out.at HP.out
        simp only [Value.slice.injEq, Option.some.injEq, Addr.mk.injEq] at hv
        have hgg : g = g' := by first | exact hv.1 | exact hv.1.1
        clear hv
        subst hgg
        rw [HPW.out] at hc2
        clear hg0 hg1
        by_cases hkl : k < nw
        · obtain ⟨gw, u0, u1, haw, w0, w1', wz, wl⟩ := HMK.out.word HP.out HPW.out hkl
          subst haw
          have y0 := wz (k * 2); have y1 := wz (k * 2 + 1)
          have HM1 := Lib.hid ((HMK.out.mark HP.out HPW.out (k * 2) (.string ⟨#[109, 97, 114, 107]⟩)).mark HP.out HPW.out (k * 2 + 1) (.bool false))
          have zk : (0 : Int) ≤ (k : Int) := by omega
          have zkl : (k : Int) < (nw : Int) := by omega
          clear wz
          go_wp2_with fail
          have hkg := HKG.out
          go_roundg (gk - 1)
          case rel => exact ⟨k + 1, by go_num, by omega, by omega, HM1⟩
          case measure => omega
        · obtain ⟨⟨ys, hy⟩, _⟩ := HMK.out.each j p (Nat.le_refl _) HP.out
          rw [HPW.out, HNW.out] at hy
          have hNw : w.heap.size ≤ wr.heap.size := by have h1 := HMK.out.size; have h2 := HMK.out.low; have h3 := HG.out; omega
          go_upto_region 13 with fail
          go_wp2_with (at_builtin; refine wpList_append_lies _ rfl _ _ 29 rfl w.heap.size 33 i0 _ 2 24 Tryd.underlying29 hi hz0 hz1 hz2 rfl (by decide) (.slice aw nw cw) nw ys rfl (hy.alloc _) ⟨wr.heap.size, 0, none⟩ 2 2 [.string ⟨#[103, 114, 111, 119, 110]⟩, .bool false, .string ⟨#[109, 111, 114, 101]⟩, .bool false] rfl rfl ?d1 ?d2 (by decide) ?d3 ?d4 ?d5 _ rfl ?_)
          try (case d1 => exact World.news_of_block (heap_alloc_new _ _))
          case d2 => first | exact ⟨rfl, rfl, rfl, rfl⟩ | (intro u hu; simp only [List.mem_cons, List.not_mem_nil, or_false] at hu; rcases hu with rfl | rfl | rfl | rfl <;> rfl)
          case d3 => unfold maxLen; omega
          case d4 => omega
          case d5 => first | omega | (simp; omega)
          intro g3 cp w7 hown7 hgr hat hlt7
          obtain ⟨q1, q2, q3, hm7⟩ := HMK.out.grow (nv := .slice (some ⟨g3, 0, none⟩) (nw + 2) cp) HP.out (show Value.slice (some ⟨g, 0, none⟩) n c1 = .slice (some ⟨g, 0, none⟩) P1.length c1 by rw [HN.out]) (by rw [HPW.out]; exact hgr)
          rw [HPW.out] at q1
          have HM7 := Lib.hid hm7
          clear hown7 hgr hat hlt7 hm7 hy hc2 hfz hgl
          go_wp2_with fail
          have hjg := HJG.out
          go_roundg gq
          case rel => exact ⟨j + 1, by go_num, by omega, by omega, HM7⟩
          case measure => omega
    · have HHr : HandW wr := HandW.kept (HH.out.below HB04.out) (HMJ.out.kept 0 (by have := HB04.out.size; omega) (.inl h0l))
      have HO5 : Hid (OutM wr w2.heap.size (.slice a2 P2.length c2) P2) := Lib.hid (HO4.out.kept
        (fun k hk => HMJ.out.kept k (HO4.out.row.lt k hk).2 (.inr (Nat.le_trans HL12.out (HO4.out.row.lt k hk).1)))
        (fun q hq k hk => HMJ.out.kept k ((HO4.out.each q hq).lt k hk).2 (.inr (Nat.le_trans HL12.out ((HO4.out.each q hq).lt k hk).1))))
      have HBr : Hid (Below w.heap.size w wr) := Lib.hid ⟨HMJ.out.os.trans HB04.out.os, HMJ.out.tape.trans HB04.out.tape, HMJ.out.output.trans HB04.out.output, Nat.le_trans HB04.out.size HMJ.out.size, fun k hk => (HMJ.out.kept k (Nat.lt_of_lt_of_le hk HB04.out.size) (.inl hk)).trans (HB04.out.block k hk)⟩
      have CD := Lib.hid (mentries_any s wr (by omega) HHr)
      go_upto_region 15 with fail
      go_wp2_with fail
      refine CD.out.mono ?_
      rintro e w6 ⟨v3, P3, cd3, ln3, rfl, hE3, hO6, hP3, hB6⟩
      have e3 : P1.map Prod.fst = P3.map Prod.fst := congrArg Prod.fst (HE1.out.symm.trans hE3)
      have hn3 : P3.length = n := by have h := congrArg List.length e3; rw [List.length_map, List.length_map, HN.out] at h; exact h.symm
      have hb3 : ∀ q ∈ P3, q.1.words.length ≤ 1099511627776 := fun q hq => by
        have h1 := (ent_few hE3).2 q.1 (List.mem_map_of_mem hq)
        rw [size_len] at h1; omega
      obtain ⟨a3, c3, hv3, hr3⟩ := hO6.rd hb3
      obtain ⟨a4, c4, hv4, hr4⟩ := (HO5.out.below hB6).rd HBB.out
      simp only [Value.slice.injEq] at hv4
      have ha4 := hv4.1
      clear hv4
      subst ha4
      subst hv3
      rw [hn3]
      have CE := Lib.hid (entries_same a3 a2 n c3 c2 (P1.map Prod.fst) w6 (by rw [List.length_map]; exact HN.out.symm) (by rw [e3]; exact hr3) (by rw [HPE.out]; exact hr4) (by omega))
      have HB7 : Hid (Below w.heap.size w w6) := Lib.hid (HBr.out.trans (hB6.mono HBr.out.size))
      clear hE3 hO6 hP3 hB6 e3 hn3 hb3 hr3 hr4 CD
      go_wp2_with fail
      refine CE.out.mono ?_
      rintro e w8 ⟨rfl, m8, rfl⟩
      go_wp2_with fail
      go_ret
      exact ⟨rfl, wordsS.bel_drewN HB7.out m8⟩
end Go.Proofs.YtabmcambgdnaiaaDoor.mentL
