/- gazetteerref2.Entries: walk. -/
import Derived.Test.YtabmcambgdnaiaaDoorEntR
import Derived.OwnWalk
import Derived.Deep.AppendLies
import Derived.Deep.RegionLaw
import Derived.Deep.DeepCutAuto
import Derived.Deep.QuietTactic
import Derived.BigQuiet
namespace Go.Proofs.YtabmcambgdnaiaaDoor.entW
open Go.RowKit Go.Proofs.YtabmcambgdnaiaaDoor.kit Go.Proofs.YtabmcambgdnaiaaDoor.timed Go.Proofs.YtabmcambgdnaiaaDoor.entP Go.Proofs.YtabmcambgdnaiaaDoor.wordsS Go.Proofs.YtabmcambgdnaiaaDoor.entsS Go.Proofs.YtabmcambgdnaiaaDoor.entM Go.Proofs.YtabmcambgdnaiaaDoor.entG Go.Proofs.YtabmcambgdnaiaaDoor.tokW Go.Proofs.YtabmcambgdnaiaaDoor.tokP Go.Proofs.YtabmcambgdnaiaaDoor.entR
set_option linter.unusedVariables false
theorem infoEn : (Tryd.prog.info? 31).map (fun i => (i.zero, i.size, i.bytes)) = some (some (.agg #[.int .i64 0, .bool false, .slice none 0 0]), 3, 40) := by kernel_rfl
theorem infoWd : (Tryd.prog.info? 33).map (fun i => (i.zero, i.size, i.bytes)) = some (some (.agg #[.string ⟨#[]⟩, .bool false]), 2, 24) := by kernel_rfl
theorem fault_ret {t : Bt} {w w' : World} {R : List En × Int × Int} {cd ln : Int} (hR : entE 2 10 t = R) (hf : R = ([], cd, ln)) (hB : Below w.heap.size w w') :
    EntA t w (.returned (.tuple #[.slice none 0 0, .agg #[.int .i64 cd, .string ⟨#[]⟩, .int .i64 ln]])) w' :=
  ⟨_, [], cd, ln, rfl, by rw [hR, hf]; rfl, OutM.nil _ _, List.Pairwise.nil, hB⟩
theorem fine_ret {t : Bt} {w w' : World} {N : Nat} {R : List En × Int × Int} {a b c ov wv v : Value} {P : List (En × Value)} {now : En} (hR : entE 2 10 t = R) (hv : v = ov) (hN : N = w.heap.size) (hf : R = (P.map Prod.fst, 0, 0)) (h : RE N w w' a b c ov wv P now) :
    EntA t w (.returned (.tuple #[v, .agg #[.int .i64 0, .string ⟨#[]⟩, .int .i64 0]])) w' := by
  subst hv; subst hN
  exact ⟨_, P, 0, 0, rfl, by rw [hR, hf], ⟨own_base (by omega) h.st.out.row, fun p hp => own_base (by omega) (h.st.out.each p hp)⟩, h.st.pair, h.bel⟩
/-- what stands in the entry's box: where an entry begins, whatever -/
def Bx (bg : Bool) (a b c wv : Value) (t : Bt) (k : Nat) (ln : Int) (now : En) : Prop := (bg = true → now = freshE t k ln ∧ wv = .slice none 0 0) ∧ (bg = false → a = .int .i64 now.line ∧ b = .bool now.blank ∧ c = wv)
set_option maxRecDepth 100000 in
set_option maxHeartbeats 6000000 in
theorem entries_any (s : ByteArray) (w : World) (hs : s.size ≤ 1099511627776) : Calls Tryd.prog 6 #[.string s] w fun e w' => EntA s.data.toList w e w' := by
  obtain ⟨i0, hi, hz0, hz1, hz2⟩ := info_parts infoWd
  obtain ⟨i1, hj, hy0, hy1, hy2⟩ := info_parts infoEn
  obtain ⟨R, hR⟩ : ∃ R, entE 2 10 s.data.toList = R := ⟨_, rfl⟩
  have HR := Lib.hid hR
  have HSC : Hid (scanE 2 10 s.data.toList (s.size + 1) 0 ⟨1, 0, [], freshE s.data.toList 0 1⟩ = R) := Lib.hid (by rw [← hR]; unfold entE; rw [size_len])
  clear hR
  go_enter Tryd.func6, Tryd.ntmps6
  go_wp2_with fail
  go_loopg [4, 5, 6, 7, 9] (s.size + 1) (fun gas o4 lv pv bv kv wr => ∃ (k : Nat) (ln op : Int) (bg : Bool) (a b c wv ov : Value) (P : List (En × Value)) (now : En), ov = o4 ∧ lv = .int .i64 ln ∧ pv = .int .i64 op ∧ bv = .bool bg ∧ kv = .int .i64 (k : Int) ∧ k ≤ s.size ∧ s.size + 1 ≤ k + gas ∧ 1 ≤ ln ∧ ln ≤ (k : Int) + 1 ∧ 0 ≤ op ∧ op ≤ (k : Int) + 1 ∧ Hid (P.length ≤ k) ∧ Hid (now.words.length ≤ k) ∧ Hid (Bx bg a b c wv s.data.toList k ln now) ∧ Hid (scanE 2 10 s.data.toList gas k ⟨ln, op, P.map Prod.fst, now⟩ = R) ∧ Hid (RE w.heap.size w wr a b c ov wv P now))
  case atStart =>
    refine ⟨0, 1, 0, true, .int .i64 0, .bool false, .slice none 0 0, .slice none 0 0, .slice none 0 0, [], freshE s.data.toList 0 1, rfl, rfl, rfl, rfl, rfl, by omega, by omega, by omega, by omega, by omega, by omega, Lib.hid (by simp), Lib.hid (by simp [freshE]), Lib.hid ⟨fun _ => ⟨rfl, rfl⟩, fun h => by cases h⟩, HSC, Lib.hid ⟨?_, ?_, ?_, ?_⟩⟩
    · rw [Below.heap_alloc _ _ _ (by simp)]; exact heap_alloc_new _ _
    · have h := heap_alloc_new (w.alloc flO) (.cells #[.int .i64 0, .bool false, .slice none 0 0] 31)
      rw [World.size_alloc] at h; exact h
    · exact StM.nil _ _ _ _
    · exact ((Below.refl _ _).alloc (Nat.le_refl _) _).alloc (by simp) _
  case round =>
    obtain ⟨k, ln, op, bg, a, b, c, wv, ov, P, now, rfl, rfl, rfl, rfl, rfl, hk, hkg, hl1, hl2, ho1, ho2, HPL, HWL, HBX, HSC, HRE⟩ := hrel
    have HKG := Lib.hid hkg
    clear hkg
    by_cases hlt : k < s.size
    · have HAT := Lib.hid (s_at s k hlt)
      obtain ⟨b0, b1, b2, bz, blt⟩ := box_cells HRE.out.box
      obtain ⟨f0, f1, f2, fz, flt⟩ := box_cells HRE.out.res
      obtain ⟨g, rfl⟩ : ∃ g, gk = g + 1 := ⟨gk - 1, by have := HKG.out; omega⟩
      have HNW : Hid (∀ q, bg = true → now = ⟨ln, blankB s[k], q⟩ → True) := Lib.hid (fun _ _ _ => trivial)
      go_upto_if 16 with fail
      go_cut [7] (fun s7 wx => s7 = .bool false ∧ Hid (RE w.heap.size w wx (.int .i64 now.line) (.bool now.blank) wv ov wv P now))
      case first =>
        cases bg with
        | false =>
          have HF : Hid (RE w.heap.size w wr (.int .i64 now.line) (.bool now.blank) wv ov wv P now) := Lib.hid (by
            obtain ⟨h1, h2, h3⟩ := HBX.out.2 rfl
            subst h1; subst h2; subst h3; exact HRE.out)
          go_wp2_with fail
          go_meet
          exact ⟨rfl, HF⟩
        | true =>
          have CB := Lib.hid (fun w => rblank_any s[k] w)
          have z0 := bz 0; have z1 := bz 1; have z2 := bz 2
          obtain ⟨B, hB⟩ : ∃ B, blankB s[k] = B := ⟨_, rfl⟩
          rw [hB] at CB
          have HF : Hid (RE w.heap.size w (((wr.setCell ⟨w.heap.size + 1, 0, none⟩ (.int .i64 ln)).setCell ⟨w.heap.size + 1, 1, none⟩ (.bool B)).setCell ⟨w.heap.size + 1, 2, none⟩ (.slice none 0 0)) (.int .i64 now.line) (.bool now.blank) wv ov wv P now) := Lib.hid (by
            obtain ⟨h1, h2⟩ := HBX.out.1 rfl
            have h3 : now = ⟨ln, B, []⟩ := by rw [h1, ← hB]; unfold freshE; rw [HAT.out]
            have h := HRE.out.lay (.int .i64 ln) (.bool B) (.slice none 0 0)
            rw [h3, h2]; rw [h3, h2] at h; exact h)
          have zk : (0 : Int) ≤ (k : Int) := by omega
          clear hB f0 f1 f2 fz
          go_wp2_with (go_at_call 19; refine (CB.out _).mono ?_; rintro e w1 ⟨rfl, rfl⟩)
          go_meet
          exact ⟨rfl, HF⟩
      case rest =>
        obtain ⟨rfl, HRE2⟩ := hcut
        clear b0 b1 b2 bz blt f0 f1 f2 fz flt HBX HRE HNW a b c
        obtain ⟨b0, b1, b2, bz, blt⟩ := box_cells HRE2.out.box
        obtain ⟨f0, f1, f2, fz, flt⟩ := box_cells HRE2.out.res
        have CT := Lib.hid (token_any s k wc hs hlt)
        obtain ⟨aw, cw, hwv, hwc, hwm⟩ := own_slice HRE2.out.st.words
        subst hwv
        obtain ⟨nw, hnw⟩ : ∃ nw, now.words.length = nw := ⟨_, rfl⟩
        rw [hnw] at HRE2 b2 hwc
        have HNW := Lib.hid hnw
        have hwl := HWL.out
        rw [hnw] at hwl
        have HFL : Hid (∀ cd l : Int, ((((wc.setCell ⟨w.heap.size, 0, none⟩ (.int .i64 cd)).setCell ⟨w.heap.size, 1, none⟩ (.string ⟨#[]⟩)).setCell ⟨w.heap.size, 2, none⟩ (.int .i64 l)).heap[w.heap.size]? = some (.cells #[.int .i64 cd, .string ⟨#[]⟩, .int .i64 l] 25)) ∧ Below w.heap.size w (((wc.setCell ⟨w.heap.size, 0, none⟩ (.int .i64 cd)).setCell ⟨w.heap.size, 1, none⟩ (.string ⟨#[]⟩)).setCell ⟨w.heap.size, 2, none⟩ (.int .i64 l))) := Lib.hid (fun cd l => ⟨set_same (set_same (set_same HRE2.out.res)), ((HRE2.out.bel.setCell (p := ⟨w.heap.size, 0, none⟩) (Nat.le_refl _) _).setCell (p := ⟨w.heap.size, 1, none⟩) (Nat.le_refl _) _).setCell (p := ⟨w.heap.size, 2, none⟩) (Nat.le_refl _) _⟩)
        have zk : (0 : Int) ≤ (k : Int) := by omega
        have zl : (k : Int) < (s.size : Int) := by omega
        clear hnw
        go_upto_region 11 with (go_at_call 20; refine CT.out.mono ?_; rintro e w1 ⟨⟨kd, en, rfl, hT⟩, rfl⟩; have HT := Lib.hid hT; clear hT)
        clear CT
        have hkg := HKG.out
        rcases tok_inv HT.out with ⟨rfl, c, hc, hb, he⟩ | ⟨rfl, hc, he⟩ | ⟨c, hc, h3, hkd, he⟩ | ⟨rfl, hx⟩ | ⟨rfl, j, hc, hw, hj, he⟩ | ⟨rfl, c, hc, hsb, hw⟩
        · have HF := Lib.hid ((sc_blank hc hb).symm.trans HSC.out)
          rw [← he] at HF
          have hkn : k < en := by omega
          have hen : en ≤ s.size := by omega
          clear hc hb he
          go_wp2_with fail
          go_roundg g
          case rel => exact ⟨en, ln, op, false, _, _, _, _, _, P, now, rfl, rfl, rfl, rfl, rfl, by omega, by omega, by omega, by omega, by omega, by omega, Lib.hid (Nat.le_trans HPL.out (by omega)), Lib.hid (by rw [HNW.out]; omega), Lib.hid ⟨(fun h => by cases h), fun _ => ⟨rfl, rfl, rfl⟩⟩, HF, HRE2⟩
          case measure => omega
        · have HF := Lib.hid ((sc_rem hc).symm.trans HSC.out)
          rw [← he] at HF
          have hrl := rem_le (t := s.data.toList) (k := k + 1) (by rw [size_len]; omega)
          rw [← he, size_len] at hrl
          have hkn : k < en := by omega
          have hen : en ≤ s.size := by omega
          clear hc he hrl
          go_wp2_with fail
          go_roundg g
          case rel => exact ⟨en, ln, op, false, _, _, _, _, _, P, now, rfl, rfl, rfl, rfl, rfl, by omega, by omega, by omega, by omega, by omega, by omega, Lib.hid (Nat.le_trans HPL.out (by omega)), Lib.hid (by rw [HNW.out]; omega), Lib.hid ⟨(fun h => by cases h), fun _ => ⟨rfl, rfl, rfl⟩⟩, HF, HRE2⟩
          case measure => omega
        · have hkn : k < en := by omega
          have hen : en ≤ s.size := by omega
          rcases h3 with rfl | rfl | rfl
          · obtain rfl : kd = 10 := hkd
            by_cases hop : op = 0
            · subst hop
              by_cases hn0 : nw = 0
              · subst hn0
                have HF := Lib.hid ((sc_nl0 hc rfl).symm.trans HSC.out)
                rw [← he] at HF
                rw [flush_none _ _ (by rw [List.isEmpty_iff]; exact List.eq_nil_of_length_eq_zero HNW.out)] at HF
                have hfl : (freshE s.data.toList en (ln + 1)).words.length = 0 := rfl
                clear hc he
                go_wp2_with fail
                go_roundg g
                case rel => exact ⟨en, ln + 1, 0, true, _, _, _, .slice none 0 0, _, P, freshE s.data.toList en (ln + 1), rfl, rfl, rfl, rfl, rfl, by omega, by omega, by omega, by omega, by omega, by omega, Lib.hid (Nat.le_trans HPL.out (by omega)), Lib.hid (by rw [hfl]; omega), Lib.hid ⟨fun _ => ⟨rfl, rfl⟩, fun h => by cases h⟩, HF, Lib.hid (HRE2.out.fresh _ _)⟩
                case measure => omega
              · have HF := Lib.hid ((sc_nl0 hc rfl).symm.trans HSC.out)
                rw [← he] at HF
                rw [flush_map _ _ (.slice aw nw cw) (by rw [List.isEmpty_eq_false_iff]; intro h; have h2 := HNW.out; rw [h] at h2; exact hn0 h2.symm)] at HF
                have hn1 : 0 < nw := by omega
                have hfl : (freshE s.data.toList en (ln + 1)).words.length = 0 := rfl
                clear hc he hn0
                have hrow := HRE2.out.st.out.row
                have hpl := HPL.out
                have hN0 := HRE2.out.lt
                go_wp2_with (at_builtin; refine wpList_append_lies _ rfl _ _ 22 rfl (w.heap.size + 2) 31 i1 _ 3 40 Tryd.underlying22 hj hy0 hy1 hy2 rfl (by decide) ov P.length (P.flatMap enC) rfl (hrow.alloc _) ⟨wc.heap.size, 0, none⟩ 1 1 [.int .i64 now.line, .bool now.blank, .slice aw nw cw] rfl rfl ?d1 ?d2 (by decide) ?d3 ?d4 ?d5 _ rfl ?_)
                try (case d1 => exact World.news_of_block (heap_alloc_new _ _))
                case d2 => first | exact ⟨rfl, rfl, rfl⟩ | (intro u hu; simp only [List.mem_cons, List.not_mem_nil, or_false] at hu; rcases hu with rfl | rfl | rfl <;> rfl)
                case d3 => unfold maxLen; omega
                case d4 => omega
                case d5 => first | omega | (simp; omega)
                intro g3 cp w7 hown7 hgr hat hlt7
                have HR7 : Hid (RE w.heap.size w w7 (.int .i64 now.line) (.bool now.blank) (.slice aw nw cw) (.slice (some ⟨g3, 0, none⟩) (P.length + 1) cp) (.slice none 0 0) (P ++ [(now, .slice aw nw cw)]) (freshE s.data.toList en (ln + 1))) := Lib.hid (HRE2.out.flush hgr hown7 _ _)
                clear hown7 hgr hat hlt7 hrow
                go_wp2_with fail
                go_roundg g
                case rel => exact ⟨en, ln + 1, 0, true, _, _, _, .slice none 0 0, _, _, freshE s.data.toList en (ln + 1), rfl, rfl, rfl, rfl, rfl, by omega, by omega, by omega, by omega, by omega, by omega, Lib.hid (by rw [List.length_append]; simp; omega), Lib.hid (by rw [hfl]; omega), Lib.hid ⟨fun _ => ⟨rfl, rfl⟩, (fun h => by cases h)⟩, HF, HR7⟩
                case measure => omega
            · have HF := Lib.hid ((sc_nl1 hc hop).symm.trans HSC.out)
              rw [← he] at HF
              have hob : (op == 0) = false := by rw [beq_eq_false_iff_ne]; exact hop
              clear hc he
              go_wp2_with fail
              go_roundg g
              case rel => exact ⟨en, ln + 1, op, false, _, _, _, _, _, P, now, rfl, rfl, rfl, rfl, rfl, by omega, by omega, by omega, by omega, by omega, by omega, Lib.hid (Nat.le_trans HPL.out (by omega)), Lib.hid (by rw [HNW.out]; omega), Lib.hid ⟨(fun h => by cases h), fun _ => ⟨rfl, rfl, rfl⟩⟩, HF, HRE2⟩
              case measure => omega
          · obtain rfl : kd = 40 := hkd
            by_cases hop : op = 0
            · subst hop
              have HF := Lib.hid ((sc_open0 hc rfl).symm.trans HSC.out)
              rw [← he] at HF
              clear hc he
              go_wp2_with fail
              go_roundg g
              case rel => exact ⟨en, ln, ln, false, _, _, _, _, _, P, now, rfl, rfl, rfl, rfl, rfl, by omega, by omega, by omega, by omega, by omega, by omega, Lib.hid (Nat.le_trans HPL.out (by omega)), Lib.hid (by rw [HNW.out]; omega), Lib.hid ⟨(fun h => by cases h), fun _ => ⟨rfl, rfl, rfl⟩⟩, HF, HRE2⟩
              case measure => omega
            · have hop2 : 0 < op := by omega
              have HF : Hid (R = ([], 2, ln)) := Lib.hid (HSC.out.symm.trans (sc_open1 hc hop))
              clear hkg
              have z0 := fz 0; have z1 := fz 1; have z2 := fz 2
              have hfl := HFL.out 2 ln
              clear HFL
              go_wp2_with fail
              obtain ⟨WF, hWF⟩ : ∃ WF, (((wc.setCell ⟨w.heap.size, 0, none⟩ (.int .i64 2)).setCell ⟨w.heap.size, 1, none⟩ (.string ⟨#[]⟩)).setCell ⟨w.heap.size, 2, none⟩ (.int .i64 ln)) = WF := ⟨_, rfl⟩
              rw [hWF] at hfl ⊢
              obtain ⟨k0, k1, k2, _, _⟩ := box_cells hfl.1
              exact bodyPost_ret (v := .tuple #[.slice none 0 0, .agg #[.int .i64 2, .string ⟨#[]⟩, .int .i64 ln]]) (by simp [results, Tryd.results6, go_sem, k0, k1, k2]) rfl (fault_ret HR.out HF.out hfl.2)
          · obtain rfl : kd = 41 := hkd
            by_cases hop : op = 0
            · subst hop
              have HF : Hid (R = ([], 2, ln)) := Lib.hid (HSC.out.symm.trans (sc_close0 hc rfl))
              clear hkg
              have z0 := fz 0; have z1 := fz 1; have z2 := fz 2
              have hfl := HFL.out 2 ln
              clear HFL
              go_wp2_with fail
              obtain ⟨WF, hWF⟩ : ∃ WF, (((wc.setCell ⟨w.heap.size, 0, none⟩ (.int .i64 2)).setCell ⟨w.heap.size, 1, none⟩ (.string ⟨#[]⟩)).setCell ⟨w.heap.size, 2, none⟩ (.int .i64 ln)) = WF := ⟨_, rfl⟩
              rw [hWF] at hfl ⊢
              obtain ⟨k0, k1, k2, _, _⟩ := box_cells hfl.1
              exact bodyPost_ret (v := .tuple #[.slice none 0 0, .agg #[.int .i64 2, .string ⟨#[]⟩, .int .i64 ln]]) (by simp [results, Tryd.results6, go_sem, k0, k1, k2]) rfl (fault_ret HR.out HF.out hfl.2)
            · have HF := Lib.hid ((sc_close1 hc hop).symm.trans HSC.out)
              rw [← he] at HF
              have hob : (op == 0) = false := by rw [beq_eq_false_iff_ne]; exact hop
              clear hc he
              go_wp2_with fail
              go_roundg g
              case rel => exact ⟨en, ln, 0, false, _, _, _, _, _, P, now, rfl, rfl, rfl, rfl, rfl, by omega, by omega, by omega, by omega, by omega, by omega, Lib.hid (Nat.le_trans HPL.out (by omega)), Lib.hid (by rw [HNW.out]; omega), Lib.hid ⟨(fun h => by cases h), fun _ => ⟨rfl, rfl, rfl⟩⟩, HF, HRE2⟩
              case measure => omega
        · skip
          have HF : Hid (R = ([], 2, ln)) := Lib.hid (HSC.out.symm.trans (hx 2 10 g _))
          clear hkg
          have z0 := fz 0; have z1 := fz 1; have z2 := fz 2
          have hfl := HFL.out 2 ln
          clear HFL
          go_wp2_with fail
          obtain ⟨WF, hWF⟩ : ∃ WF, (((wc.setCell ⟨w.heap.size, 0, none⟩ (.int .i64 2)).setCell ⟨w.heap.size, 1, none⟩ (.string ⟨#[]⟩)).setCell ⟨w.heap.size, 2, none⟩ (.int .i64 ln)) = WF := ⟨_, rfl⟩
          rw [hWF] at hfl ⊢
          obtain ⟨k0, k1, k2, _, _⟩ := box_cells hfl.1
          exact bodyPost_ret (v := .tuple #[.slice none 0 0, .agg #[.int .i64 2, .string ⟨#[]⟩, .int .i64 ln]]) (by simp [results, Tryd.results6, go_sem, k0, k1, k2]) rfl (fault_ret HR.out HF.out hfl.2)
        · have HF := Lib.hid ((sc_quo2 hc hw hj).symm.trans HSC.out)
          rw [← he] at HF
          have hjn := (word_le (by rw [size_len]; omega) hw)
          rw [size_len] at hjn
          have hjl : j < s.size := by have := (List.getElem?_eq_some_iff.1 hj).1; rw [size_len] at this; exact this
          have hkn : k < en := by omega
          have hen : en ≤ s.size := by omega
          obtain ⟨k1, hk1⟩ : ∃ k1, k + 1 = k1 := ⟨_, rfl⟩
          rw [hk1] at HF hjn
          have HS := Lib.hid (cut_str s k1 j)
          have hw1 : Value.int .i64 (IntKind.i64.wrap ((k : Int) + 1)) = Value.int .i64 (k1 : Int) := by rw [IntWalk.i64_in _ (by omega)]; congr 1; omega
          have hw2 : Value.int .i64 (IntKind.i64.wrap ((en : Int) - 1)) = Value.int .i64 (j : Int) := by rw [IntWalk.i64_in _ (by omega)]; congr 1; omega
          have zkn : (k1 : Int) ≤ (j : Int) := by omega
          have zen : (j : Int) ≤ (s.size : Int) := by omega
          have zk1 : (0 : Int) ≤ (k1 : Int) := by omega
          clear hc hw hj he HT HAT hk1
          have hN0 := HRE2.out.lt
          have FIN : Hid (∀ (g3 cp3 : Nat) (w2 : World), w2.ownsRow (w.heap.size + 2) 33 2 (.slice (some ⟨g3, 0, none⟩) (nw + 1) cp3) (nw + 1) (now.words.flatMap wdC ++ [.string (s.extract k1 j), .bool true]) → (wc.drew.alloc (.cells #[.string (s.extract k1 j), .bool true] 33)).grownBy w2 (Value.slice aw nw cw).ownBlock → ((Value.slice aw nw cw).ownBlock = some g3 ∨ g3 = wc.heap.size + 1) →
              w2.cell? ⟨w.heap.size + 1, 2, none⟩ = some (.slice aw nw cw) ∧ w2.frozen? ⟨w.heap.size + 1, 2, none⟩ = false ∧ w.heap.size + 1 < w2.heap.size ∧ RE w.heap.size w (w2.setCell ⟨w.heap.size + 1, 2, none⟩ (.slice (some ⟨g3, 0, none⟩) (nw + 1) cp3)) (.int .i64 now.line) (.bool now.blank) (.slice (some ⟨g3, 0, none⟩) (nw + 1) cp3) ov (.slice (some ⟨g3, 0, none⟩) (nw + 1) cp3) P { now with words := now.words ++ [(⟨cutE s.data.toList k1 j, true⟩ : Wd)] }) := Lib.hid (by
            intro g3 cp3 w2 h1 h2 h9
            have hd : RE w.heap.size w wc.drew (.int .i64 now.line) (.bool now.blank) (.slice aw nw cw) ov (.slice aw nw cw) P now := HRE2.out.below ((Below.refl _ _).drew)
            obtain ⟨q1, q2⟩ := hd.push (⟨cutE s.data.toList k1 j, true⟩ : Wd) (nv := .slice (some ⟨g3, 0, none⟩) (nw + 1) cp3) h2 (by rw [HNW.out]; rw [HS.out] at h1; exact h1) (by
              rcases h9 with h | h
              · exact .inl h.symm
              · exact .inr (by rw [h]; rfl))
            obtain ⟨_, _, p2, pz, pl⟩ := box_cells q1
            exact ⟨p2, pz 2, pl, q2⟩)
          have hrow : wc.ownsRow (w.heap.size + 2) 33 2 (.slice aw nw cw) nw (now.words.flatMap wdC) := by have h := HRE2.out.st.words; rw [HNW.out] at h; exact h
          have hrowd : wc.drew.ownsRow (w.heap.size + 2) 33 2 (.slice aw nw cw) nw (now.words.flatMap wdC) := hrow
          have y2 := bz 2
          clear bz b0 b1 f0 f1 f2 fz flt HFL
          go_upto_region 25 with fail
          go_region_law (refine step_append_lies _ (by rfl) (.tmp 62) (.tmp 70) 29 (by rfl) (w.heap.size + 2) 33 i0 (.agg #[.string ⟨#[]⟩, .bool false]) 2 24 Tryd.underlying29 hi hz0 hz1 hz2 (by rfl) (by decide) (.slice aw nw cw) nw (now.words.flatMap wdC) (by simp [Act.eval]) (by first | exact hrow.alloc _ | exact hrowd.alloc _) ⟨wc.heap.size, 0, none⟩ 1 1 [.string (s.extract k1 j), .bool true] (by simp [Act.eval]) (by rfl) (by exact World.news_of_block (heap_alloc_new _ _)) (by simp [Value.oneCell']) (by decide) (by unfold maxLen; omega) (by omega) (by simp; omega) (wc.heap.size + 1) (by simp) ?_; intro g3 cp3 w2 hown4 hgr4 hli4 _; have hfin := FIN.out _ _ _ hown4 hgr4 hli4; have q2 := hfin.1; have y3 := hfin.2.1; have hlt2 := hfin.2.2.1; have HFIN := Lib.hid hfin.2.2.2; clear hown4 hgr4 hli4 hfin)
          all_goals

            go_wp2_with fail
            go_roundg g
            case rel => exact ⟨en, ln, op, false, _, _, _, _, _, _, _, rfl, rfl, rfl, rfl, rfl, by omega, by omega, by omega, by omega, by omega, by omega, Lib.hid (Nat.le_trans HPL.out (by omega)), Lib.hid (by rw [List.length_append, HNW.out]; simp; omega), Lib.hid ⟨(fun h => by cases h), fun _ => ⟨rfl, rfl, rfl⟩⟩, HF, HFIN⟩
            case measure => omega
        · have HF := Lib.hid ((sc_word1 hc hsb hw).symm.trans HSC.out)
          have hkn := word_gt hc hsb hw
          have hen := (word_le (by rw [size_len]; omega) hw).2
          rw [size_len] at hen
          have HS := Lib.hid (cut_str s k en)
          have zkn : (k : Int) ≤ (en : Int) := by omega
          have zen : (en : Int) ≤ (s.size : Int) := by omega
          clear hc hsb hw HT HAT
          have hN0 := HRE2.out.lt
          have FIN : Hid (∀ (g3 cp3 : Nat) (w2 : World), w2.ownsRow (w.heap.size + 2) 33 2 (.slice (some ⟨g3, 0, none⟩) (nw + 1) cp3) (nw + 1) (now.words.flatMap wdC ++ [.string (s.extract k en), .bool false]) → (wc.drew.alloc (.cells #[.string (s.extract k en), .bool false] 33)).grownBy w2 (Value.slice aw nw cw).ownBlock → ((Value.slice aw nw cw).ownBlock = some g3 ∨ g3 = wc.heap.size + 1) →
              w2.cell? ⟨w.heap.size + 1, 2, none⟩ = some (.slice aw nw cw) ∧ w2.frozen? ⟨w.heap.size + 1, 2, none⟩ = false ∧ w.heap.size + 1 < w2.heap.size ∧ RE w.heap.size w (w2.setCell ⟨w.heap.size + 1, 2, none⟩ (.slice (some ⟨g3, 0, none⟩) (nw + 1) cp3)) (.int .i64 now.line) (.bool now.blank) (.slice (some ⟨g3, 0, none⟩) (nw + 1) cp3) ov (.slice (some ⟨g3, 0, none⟩) (nw + 1) cp3) P { now with words := now.words ++ [(⟨cutE s.data.toList k en, false⟩ : Wd)] }) := Lib.hid (by
            intro g3 cp3 w2 h1 h2 h9
            have hd : RE w.heap.size w wc.drew (.int .i64 now.line) (.bool now.blank) (.slice aw nw cw) ov (.slice aw nw cw) P now := HRE2.out.below ((Below.refl _ _).drew)
            obtain ⟨q1, q2⟩ := hd.push (⟨cutE s.data.toList k en, false⟩ : Wd) (nv := .slice (some ⟨g3, 0, none⟩) (nw + 1) cp3) h2 (by rw [HNW.out]; rw [HS.out] at h1; exact h1) (by
              rcases h9 with h | h
              · exact .inl h.symm
              · exact .inr (by rw [h]; rfl))
            obtain ⟨_, _, p2, pz, pl⟩ := box_cells q1
            exact ⟨p2, pz 2, pl, q2⟩)
          have hrow : wc.ownsRow (w.heap.size + 2) 33 2 (.slice aw nw cw) nw (now.words.flatMap wdC) := by have h := HRE2.out.st.words; rw [HNW.out] at h; exact h
          have hrowd : wc.drew.ownsRow (w.heap.size + 2) 33 2 (.slice aw nw cw) nw (now.words.flatMap wdC) := hrow
          have y2 := bz 2
          clear bz b0 b1 f0 f1 f2 fz flt HFL
          go_upto_region 23 with fail
          go_region_law (refine step_append_lies _ (by rfl) (.tmp 50) (.tmp 56) 29 (by rfl) (w.heap.size + 2) 33 i0 (.agg #[.string ⟨#[]⟩, .bool false]) 2 24 Tryd.underlying29 hi hz0 hz1 hz2 (by rfl) (by decide) (.slice aw nw cw) nw (now.words.flatMap wdC) (by simp [Act.eval]) (by first | exact hrow.alloc _ | exact hrowd.alloc _) ⟨wc.heap.size, 0, none⟩ 1 1 [.string (s.extract k en), .bool false] (by simp [Act.eval]) (by rfl) (by exact World.news_of_block (heap_alloc_new _ _)) (by simp [Value.oneCell']) (by decide) (by unfold maxLen; omega) (by omega) (by simp; omega) (wc.heap.size + 1) (by simp) ?_; intro g3 cp3 w2 hown4 hgr4 hli4 _; have hfin := FIN.out _ _ _ hown4 hgr4 hli4; have q2 := hfin.1; have y3 := hfin.2.1; have hlt2 := hfin.2.2.1; have HFIN := Lib.hid hfin.2.2.2; clear hown4 hgr4 hli4 hfin)
          all_goals

            go_wp2_with fail
            go_roundg g
            case rel => exact ⟨en, ln, op, false, _, _, _, _, _, _, _, rfl, rfl, rfl, rfl, rfl, by omega, by omega, by omega, by omega, by omega, by omega, Lib.hid (Nat.le_trans HPL.out (by omega)), Lib.hid (by rw [List.length_append, HNW.out]; simp; omega), Lib.hid ⟨(fun h => by cases h), fun _ => ⟨rfl, rfl, rfl⟩⟩, HF, HFIN⟩
            case measure => omega
    · have hke : k = s.size := by omega
      subst hke
      obtain ⟨b0, b1, b2, bz, blt⟩ := box_cells HRE.out.box
      obtain ⟨f0, f1, f2, fz, flt⟩ := box_cells HRE.out.res
      obtain ⟨g, rfl⟩ : ∃ g, gk = g + 1 := ⟨gk - 1, by have := HKG.out; omega⟩
      by_cases hop : op = 0
      · subst hop
        have HF := Lib.hid (HSC.out.symm.trans (sc_end2 (by rw [size_len]; omega) (by simp)))
        dsimp only at HF
        cases bg with
        | true =>
          have HF2 : Hid (R = (P.map Prod.fst, 0, 0)) := Lib.hid (by
            rw [HF.out, flush_none]
            rw [(HBX.out.1 rfl).1]; rfl)
          have HZ := Lib.hid HRE.out.zero
          have z0 := fz 0; have z1 := fz 1; have z2 := fz 2
          go_wp2_with fail
          obtain ⟨WF, hWF⟩ : ∃ WF, (((wr.setCell ⟨w.heap.size, 0, none⟩ (.int .i64 0)).setCell ⟨w.heap.size, 1, none⟩ (.string ⟨#[]⟩)).setCell ⟨w.heap.size, 2, none⟩ (.int .i64 0)) = WF := ⟨_, rfl⟩
          rw [hWF] at HZ ⊢
          obtain ⟨k0, k1, k2, _, _⟩ := box_cells HZ.out.res
          exact bodyPost_ret (v := .tuple #[ov, .agg #[.int .i64 0, .string ⟨#[]⟩, .int .i64 0]]) (by simp [results, Tryd.results6, go_sem, k0, k1, k2]) rfl (fine_ret HR.out rfl rfl HF2.out HZ.out)
        | false =>
          obtain ⟨h1, h2, h3⟩ := HBX.out.2 rfl
          subst h1; subst h2; subst h3
          obtain ⟨aw, cw, hwv, hwc, hwm⟩ := own_slice HRE.out.st.words
          subst hwv
          obtain ⟨nw, hnw⟩ : ∃ nw, now.words.length = nw := ⟨_, rfl⟩
          rw [hnw] at HRE b2 hwc
          have HNW := Lib.hid hnw
          clear hnw
          by_cases hn0 : nw = 0
          · subst hn0
            have HF2 : Hid (R = (P.map Prod.fst, 0, 0)) := Lib.hid (by
              rw [HF.out, flush_none _ _ (by rw [List.isEmpty_iff]; exact List.eq_nil_of_length_eq_zero HNW.out)])
            have HZ := Lib.hid HRE.out.zero
            have z0 := fz 0; have z1 := fz 1; have z2 := fz 2
            have y2 := bz 2
            go_wp2_with fail
            obtain ⟨WF, hWF⟩ : ∃ WF, (((wr.setCell ⟨w.heap.size, 0, none⟩ (.int .i64 0)).setCell ⟨w.heap.size, 1, none⟩ (.string ⟨#[]⟩)).setCell ⟨w.heap.size, 2, none⟩ (.int .i64 0)) = WF := ⟨_, rfl⟩
            rw [hWF] at HZ ⊢
            obtain ⟨k0, k1, k2, _, _⟩ := box_cells HZ.out.res
            exact bodyPost_ret (v := .tuple #[ov, .agg #[.int .i64 0, .string ⟨#[]⟩, .int .i64 0]]) (by simp [results, Tryd.results6, go_sem, k0, k1, k2]) rfl (fine_ret HR.out rfl rfl HF2.out HZ.out)
          · have hn1 : 0 < nw := by omega
            have HF2 : Hid (R = ((P ++ [(now, Value.slice aw nw cw)]).map Prod.fst, 0, 0)) := Lib.hid (by
              rw [HF.out, flush_map _ _ (Value.slice aw nw cw) (by rw [List.isEmpty_eq_false_iff]; intro h; have h2 := HNW.out; rw [h] at h2; exact hn0 h2.symm)])
            clear hn0
            go_upto_region 36 with fail
            have hrow := HRE.out.st.out.row
            have hpl := HPL.out
            have hN0 := HRE.out.lt
            go_wp2_with (at_builtin; refine wpList_append_lies _ rfl _ _ 22 rfl (w.heap.size + 2) 31 i1 _ 3 40 Tryd.underlying22 hj hy0 hy1 hy2 rfl (by decide) ov P.length (P.flatMap enC) rfl (hrow.alloc _) ⟨wr.heap.size, 0, none⟩ 1 1 [.int .i64 now.line, .bool now.blank, .slice aw nw cw] rfl rfl ?ee1 ?ee2 (by decide) ?ee3 ?ee4 ?ee5 _ rfl ?_)
            try (case ee1 => exact World.news_of_block (heap_alloc_new _ _))
            case ee2 => first | exact ⟨rfl, rfl, rfl⟩ | (intro u hu; simp only [List.mem_cons, List.not_mem_nil, or_false] at hu; rcases hu with rfl | rfl | rfl <;> rfl)
            case ee3 => unfold maxLen; omega
            case ee4 => omega
            case ee5 => first | omega | (simp; omega)
            intro g3 cp w7 hown7 hgr hat hlt7
            have HR7 := Lib.hid (HRE.out.flush (wv := Value.slice aw nw cw) hgr hown7 0 false)
            obtain ⟨k0, k1, k2, kz, klt⟩ := box_cells HR7.out.res
            have z0 := kz 0; have z1 := kz 1; have z2 := kz 2
            have HZ := Lib.hid HR7.out.zero
            clear hown7 hgr hat hlt7 hrow
            go_wp2_with fail
            obtain ⟨WF, hWF⟩ : ∃ WF, (((w7.setCell ⟨w.heap.size, 0, none⟩ (.int .i64 0)).setCell ⟨w.heap.size, 1, none⟩ (.string ⟨#[]⟩)).setCell ⟨w.heap.size, 2, none⟩ (.int .i64 0)) = WF := ⟨_, rfl⟩
            rw [hWF] at HZ ⊢
            obtain ⟨k0, k1, k2, _, _⟩ := box_cells HZ.out.res
            exact bodyPost_ret (v := .tuple #[.slice (some ⟨g3, 0, none⟩) (P.length + 1) cp, .agg #[.int .i64 0, .string ⟨#[]⟩, .int .i64 0]]) (by simp [results, Tryd.results6, go_sem, k0, k1, k2]) rfl (fine_ret HR.out rfl rfl HF2.out HZ.out)
      · have hop2 : 0 < op := by omega
        have HF := Lib.hid (HSC.out.symm.trans (sc_end1 (by rw [size_len]; omega) hop2))
        have hfl := Lib.hid (And.intro (set_same (i := 2) (v := .int .i64 op) (set_same (i := 1) (v := .string ⟨#[]⟩) (set_same (i := 0) (v := .int .i64 10) HRE.out.res))) (((HRE.out.bel.setCell (p := ⟨w.heap.size, 0, none⟩) (Nat.le_refl _) (.int .i64 10)).setCell (p := ⟨w.heap.size, 1, none⟩) (Nat.le_refl _) (.string ⟨#[]⟩)).setCell (p := ⟨w.heap.size, 2, none⟩) (Nat.le_refl _) (.int .i64 op)))
        have z0 := fz 0; have z1 := fz 1; have z2 := fz 2
        go_wp2_with fail
        obtain ⟨WF, hWF⟩ : ∃ WF, (((wr.setCell ⟨w.heap.size, 0, none⟩ (.int .i64 10)).setCell ⟨w.heap.size, 1, none⟩ (.string ⟨#[]⟩)).setCell ⟨w.heap.size, 2, none⟩ (.int .i64 op)) = WF := ⟨_, rfl⟩
        rw [hWF] at hfl ⊢
        obtain ⟨k0, k1, k2, _, _⟩ := box_cells (a := .int .i64 10) (b := .string ⟨#[]⟩) (c := .int .i64 op) hfl.out.1
        exact bodyPost_ret (v := .tuple #[.slice none 0 0, .agg #[.int .i64 10, .string ⟨#[]⟩, .int .i64 op]]) (by simp [results, Tryd.results6, go_sem, k0, k1, k2]) rfl (fault_ret HR.out HF.out hfl.out.2)
end Go.Proofs.YtabmcambgdnaiaaDoor.entW
