/- (*master.scanner).run: walk. -/
import Derived.Test.YtabmcambgdnaiaaDoorFlushW
import Derived.Test.YtabmcambgdnaiaaDoorStopP
namespace Go.Proofs.YtabmcambgdnaiaaDoor.runW
open Go.RowKit Go.Proofs.YtabmcambgdnaiaaDoor.kit Go.Proofs.YtabmcambgdnaiaaDoor.timed Go.Proofs.YtabmcambgdnaiaaDoor.entP Go.Proofs.YtabmcambgdnaiaaDoor.wordsS Go.Proofs.YtabmcambgdnaiaaDoor.entsS Go.Proofs.YtabmcambgdnaiaaDoor.entM Go.Proofs.YtabmcambgdnaiaaDoor.entG Go.Proofs.YtabmcambgdnaiaaDoor.tokW Go.Proofs.YtabmcambgdnaiaaDoor.tokP Go.Proofs.YtabmcambgdnaiaaDoor.entR Go.Proofs.YtabmcambgdnaiaaDoor.wordW Go.Proofs.YtabmcambgdnaiaaDoor.flushW
set_option linter.unusedVariables false
theorem wordE_stops {q : Bool} : ∀ {l : Bt} {n : Nat} {c : UInt8}, wordE q l = some n → l[n]? = some c → stopB q c = true
  | [], n, c, h, hc => by simp at hc
  | [d], n, c, h, hc => by
    simp only [wordE] at h
    split at h
    · rename_i hs; obtain rfl := (Option.some.inj h).symm; simp at hc; subst hc; exact hs
    · split at h
      · cases h
      · obtain rfl := (Option.some.inj h).symm; simp at hc
  | d :: e :: r, n, c, h, hc => by
    simp only [wordE] at h
    split at h
    · rename_i hs; obtain rfl := (Option.some.inj h).symm; simp at hc; subst hc; exact hs
    · split at h
      · split at h
        · cases h
        · obtain ⟨m, hm, rfl⟩ := Option.map_eq_some_iff.1 h
          exact wordE_stops hm (by simpa using hc)
      · obtain ⟨m, hm, rfl⟩ := Option.map_eq_some_iff.1 h
        exact wordE_stops hm (by simpa using hc)
theorem word_stops {q : Bool} {t : Bt} {k j : Nat} {c : UInt8} (h : wordAt q t k = some j) (hc : t[j]? = some c) : stopB q c = true := by
  unfold wordAt at h
  obtain ⟨n, hn, rfl⟩ := Option.map_eq_some_iff.1 h
  exact wordE_stops hn (by rw [List.getElem?_drop, Nat.add_comm]; exact hc)
theorem size_set {w : World} {X i : Nat} {v : Value} : (w.setCell ⟨X, i, none⟩ v).heap.size = w.heap.size := by simp [World.setCell]
theorem alloc_set {w : World} {X i : Nat} {v : Value} {o : Obj} : ((w.setCell ⟨X, i, none⟩ v).alloc o).heap[w.heap.size]? = some o := by
  have h := heap_alloc_new (w.setCell ⟨X, i, none⟩ v) o
  rwa [size_set] at h
theorem EffL.set_alloc {X lo i : Nat} {v : Value} {w : World} (h : lo ≤ w.heap.size) (o : Obj) : EffL X lo w ((w.setCell ⟨X, i, none⟩ v).alloc o) :=
  (EffL.set X lo i v w).trans (EffL.of_below ((Below.refl _ _).alloc (by rw [size_set]; exact h) o))
theorem blk_cell {w : World} {b : Nat} {cs : Array Value} {t : TypeId} {fr : Nat × Nat} (h : w.heap[b]? = some (.cells cs t fr)) (j : Nat) : w.cell? ⟨b, j, none⟩ = cs[j]? := by simp only [World.cell?, h]; rfl
theorem EffX.new {X b i : Nat} {v : Value} {w w1 : World} (h : EffX X w w1) (hb : w.heap.size ≤ b) : EffX X w (w1.setCell ⟨b, i, none⟩ v) :=
  ⟨h.os, h.tape, h.output, by have := h.size; simp [World.setCell]; exact this, fun k hk hn => (set_far (by omega)).trans (h.kept k hk hn)⟩
theorem EffX.drew' {X : Nat} {w w1 : World} (h : EffX X w w1) (n : Nat) : EffX X w (w1.drewN n) := ⟨h.os, h.tape, h.output, h.size, h.kept⟩
theorem SM.drewN {X lo : Nat} {s : ByteArray} {w0 wr : World} {k : Nat} {ln op : Int} {now : En} {ws ov : Value} {P : List (En × Value)} (h : SM X lo s w0 wr k ln op now ws ov P) (n : Nat) : SM X lo s w0 (wr.drewN n) k ln op now ws ov P :=
  h.below (wordsS.bel_drewN (Below.refl _ _) n)
/-- what run answers -/
def RunP (X lo : Nat) (s : ByteArray) (w0 : World) (e : Ending) (w' : World) : Prop := EffL X lo w0 w' ∧
  ((∃ k ln op now ws ov P, e = .returned .nilIface ∧ SM X lo s w0 w' k ln op now ws ov P ∧ entE 2 10 s.data.toList = (P.map Prod.fst, 0, 0)) ∨
   (∃ Y cd l, lo ≤ Y ∧ e = .returned (.iface 69 (.pointer (some ⟨Y, 0, none⟩))) ∧ w'.heap[Y]? = some (.cells #[.int .i64 cd, .string ⟨#[]⟩, .int .i64 l] 73) ∧ entE 2 10 s.data.toList = ([], cd, l)))
theorem run_bad {X lo : Nat} {s : ByteArray} {w0 w2 : World} {R : List En × Int × Int} {Y : Nat} {cd l : Int} (hR : entE 2 10 s.data.toList = R) (hF : R = ([], cd, l)) (hE : EffL X lo w0 w2) (hY : lo ≤ Y) (hb : w2.heap[Y]? = some (.cells #[.int .i64 cd, .string ⟨#[]⟩, .int .i64 l] 73)) :
    RunP X lo s w0 (.returned (.iface 69 (.pointer (some ⟨Y, 0, none⟩)))) w2 := ⟨hE, .inr ⟨Y, cd, l, hY, rfl, hb, by rw [hR, hF]⟩⟩
attribute [local irreducible] wpQuiet wpStill
set_option maxRecDepth 100000 in
set_option maxHeartbeats 8000000 in
theorem run_any (X lo : Nat) (s : ByteArray) (w : World) (hX : w.heap[X]? = some (scO s 0 0 0 0 false (.slice none 0 0) (.slice none 0 0))) (hl : X < lo) (hz : lo ≤ w.heap.size) (hs : s.size ≤ 1099511627776) :
    Calls Tryd.prog 17 #[.pointer (some ⟨X, 0, none⟩)] w (RunP X lo s w) := by
  obtain ⟨i0, hi, hz0, hz1, hz2⟩ := info_parts entW.infoWd
  obtain ⟨R, hR⟩ : ∃ R, entE 2 10 s.data.toList = R := ⟨_, rfl⟩
  have HR := Lib.hid hR
  have HSC : Hid (scanE 2 10 s.data.toList (s.size + 1) 0 ⟨1, 0, [], freshE s.data.toList 0 1⟩ = R) := Lib.hid (by rw [← hR]; unfold entE; rw [size_len])
  clear hR
  have H0 : SM X lo s w w 0 0 0 ⟨0, false, []⟩ (.slice none 0 0) (.slice none 0 0) [] := ⟨hX, StM.nil _ _ _ _, EffL.refl _ _ _, hl, hz⟩
  have H1 := Lib.hid (H0.setL 1)
  have CF := Lib.hid (flush_any X lo s w _ 0 1 0 _ _ _ _ H1.out hs (Nat.zero_le _) (Nat.zero_le _) (Nat.zero_le _))
  obtain ⟨c0, c1, c2, c3, c4, c5, c6, c7, fz⟩ := sc_cells hX
  have f2 := fz 2
  have hXl := blk_lt hX
  clear hX H0
  go_enter Tryd.func17, Tryd.ntmps17
  go_wp2
  go_step3
  go_wp2_with fail
  refine CF.out.mono ?_
  rintro e wf ⟨rfl, ov', P', HS', HF', _⟩
  have HP0 : P' = [] := by simpa [flushE] using HF'
  subst HP0
  have HS1 := Lib.hid HS'
  clear HS' HF' CF c0 c1 c2 c3 c4 c5 c6 c7 fz f2 H1 hXl
  go_wp2
  go_step3
  go_wp2
  go_loopg [] (s.size + 1) (fun gas wr => ∃ (k : Nat) (ln op : Int) (now : En) (ws ov : Value) (P : List (En × Value)), k ≤ s.size ∧ s.size + 1 ≤ k + gas ∧ 1 ≤ ln ∧ ln ≤ (k : Int) + 1 ∧ 0 ≤ op ∧ op ≤ (k : Int) + 1 ∧ Hid (P.length ≤ k) ∧ Hid (now.words.length ≤ k) ∧ Hid (P.length + now.words.length ≤ k) ∧ Hid (scanE 2 10 s.data.toList gas k ⟨ln, op, P.map Prod.fst, now⟩ = R) ∧ Hid (SM X lo s w wr k ln op now ws ov P))
  case atStart => exact ⟨0, 1, 0, _, _, _, [], by omega, by omega, by omega, by omega, by omega, by omega, Lib.hid (by simp), Lib.hid (by simp [freshE]), Lib.hid (by simp [freshE]), HSC, HS1⟩
  case round =>
    obtain ⟨k, ln, op, now, ws, ov, P, hk, hkg, hl1, hl2, ho1, ho2, HPL, HWL, HPW, HSC, HSM⟩ := hrel
    have HKG := Lib.hid hkg
    clear hkg
    obtain ⟨c0, c1, c2, c3, c4, c5, c6, c7, fz⟩ := sc_cells HSM.out.box
    have hXl := blk_lt HSM.out.box
    by_cases hlt : k < s.size
    · have HAT := Lib.hid (s_at s k hlt)
      obtain ⟨g, rfl⟩ : ∃ g, gk = g + 1 := ⟨gk - 1, by have := HKG.out; omega⟩
      have zk : (0 : Int) ≤ (k : Int) := by omega
      have zl : (k : Int) < (s.size : Int) := by omega
      go_upto_region 3 with fail
      go_quiet (fail)
      generalize hqw : World.drewN _ _ = w1
      have HS1 : Hid (SM X lo s w w1 k ln op now ws ov P) := Lib.hid (by rw [← hqw]; exact SM.drewN HSM.out _)
      clear hqw c0 c1 c2 c3 c4 c5 c6 c7 fz hXl
      obtain ⟨c0, c1, c2, c3, c4, c5, c6, c7, fz⟩ := sc_cells HS1.out.box
      have hXl := blk_lt HS1.out.box
      go_upto_region 4 with fail
      go_quiet (fail)
      generalize hqw : World.drewN _ _ = w2
      have HS2 : Hid (SM X lo s w w2 k ln op now ws ov P) := Lib.hid (by rw [← hqw]; exact SM.drewN HS1.out _)
      clear hqw c0 c1 c2 c3 c4 c5 c6 c7 fz hXl
      obtain ⟨c0, c1, c2, c3, c4, c5, c6, c7, fz⟩ := sc_cells HS2.out.box
      have hXl := blk_lt HS2.out.box
      clear HSM HS1
      by_cases h10 : s[k] = 10
      · as_aux_lemma =>
          have b10 := yb (m := 10) rfl h10
          have HC := Lib.hid (HAT.out.trans (congrArg some h10))
          clear h10 HAT
          have f1 := fz 1
          go_upto_region 7 with fail
          generalize hst : World.setCell _ _ _ = w3
          have HS3 : Hid (SM X lo s w w3 (k + 1) ln op now ws ov P) := Lib.hid (by rw [← hst]; exact HS2.out.setK (k + 1))
          clear hst
          clear c0 c1 c2 c3 c4 c5 c6 c7 fz hXl
          obtain ⟨c0, c1, c2, c3, c4, c5, c6, c7, fz⟩ := sc_cells HS3.out.box
          have hXl := blk_lt HS3.out.box
          have f2 := fz 2
          go_upto_region 8 with fail
          generalize hst : World.setCell _ _ _ = w4
          have HS4 : Hid (SM X lo s w w4 (k + 1) (ln + 1) op now ws ov P) := Lib.hid (by rw [← hst]; exact HS3.out.setL (ln + 1))
          clear hst
          clear c0 c1 c2 c3 c4 c5 c6 c7 fz hXl
          obtain ⟨c0, c1, c2, c3, c4, c5, c6, c7, fz⟩ := sc_cells HS4.out.box
          have hXl := blk_lt HS4.out.box
          by_cases hop : op = 0
          · subst hop
            have HF0 := Lib.hid ((sc_nl0 HC.out rfl).symm.trans HSC.out)
            have CF := Lib.hid (flush_any X lo s w w4 (k + 1) (ln + 1) 0 now ws ov P HS4.out hs (by omega) (by have := HPL.out; omega) (by have := HWL.out; omega))
            go_upto_region 9 with fail
            go_wp2_with fail
            refine CF.out.mono ?_
            rintro e wf ⟨rfl, ov', P', HS', HF', HL'⟩
            have HF : Hid (scanE 2 10 s.data.toList g (k + 1) ⟨ln + 1, 0, P'.map Prod.fst, freshE s.data.toList (k + 1) (ln + 1)⟩ = R) := Lib.hid (by rw [HF']; exact HF0.out)
            have HS5 := Lib.hid HS'
            have HL5 := Lib.hid (Nat.le_trans HL' HPW.out)
            have hfl : (freshE s.data.toList (k + 1) (ln + 1)).words.length = 0 := rfl
            clear HS' HF' HL' CF
            go_wp2_with fail
            have hkg := HKG.out
            go_roundg g
            case rel => exact ⟨k + 1, ln + 1, 0, freshE s.data.toList (k + 1) (ln + 1), _, ov', P', by omega, by omega, by omega, by omega, by omega, by omega, Lib.hid (by have := HL5.out; omega), Lib.hid (by rw [hfl]; omega), Lib.hid (by rw [hfl]; have := HL5.out; omega), HF, HS5⟩
            case measure => omega
          · have HF := Lib.hid ((sc_nl1 HC.out hop).symm.trans HSC.out)
            have hob : (op == 0) = false := by rw [beq_eq_false_iff_ne]; exact hop
            go_wp2_with fail
            have hkg := HKG.out
            go_roundg g
            case rel => exact ⟨k + 1, ln + 1, op, now, ws, ov, P, by omega, by omega, by omega, by omega, by omega, by omega, Lib.hid (Nat.le_trans HPL.out (by omega)), Lib.hid (Nat.le_trans HWL.out (by omega)), Lib.hid (Nat.le_trans HPW.out (by omega)), HF, HS4⟩
            case measure => omega
      have b10 := nb (m := 10) rfl h10
      have H10 := Lib.hid h10
      clear h10
      have CB := Lib.hid (fun w => mblank_any s[k] w)
      by_cases hbl : blankB s[k] = true
      · as_aux_lemma =>
          rw [hbl] at CB
          have HF := Lib.hid ((sc_blank HAT.out hbl).symm.trans HSC.out)
          clear hbl
          have f1 := fz 1
          go_upto_region 11 with (go_at_call 36; refine (CB.out _).mono ?_; rintro e wf ⟨rfl, rfl⟩)
          go_wp2_with fail
          have HS3 := Lib.hid (HS2.out.setK (k + 1))
          have hkg := HKG.out
          go_roundg g
          case rel => exact ⟨k + 1, ln, op, now, ws, ov, P, by omega, by omega, by omega, by omega, by omega, by omega, Lib.hid (Nat.le_trans HPL.out (by omega)), Lib.hid (Nat.le_trans HWL.out (by omega)), Lib.hid (Nat.le_trans HPW.out (by omega)), HF, HS3⟩
          case measure => omega
      have hbf : blankB s[k] = false := by simpa using hbl
      have HBF := Lib.hid hbf
      rw [hbf] at CB
      clear hbl hbf
      go_upto_region 12 with (go_at_call 36; refine (CB.out _).mono ?_; rintro e wf ⟨rfl, rfl⟩)
      clear CB
      by_cases h59 : s[k] = 59
      · as_aux_lemma =>
          have b59 := yb (m := 59) rfl h59
          have HC := Lib.hid (HAT.out.trans (congrArg some h59))
          have HF0 := Lib.hid ((sc_rem HC.out).symm.trans HSC.out)
          have HE : Hid (remAt s.data.toList k = remAt s.data.toList (k + 1)) := Lib.hid (rem_step HAT.out (by rw [h59]; decide))
          obtain ⟨E, hE⟩ : ∃ E, remAt s.data.toList (k + 1) = E := ⟨_, rfl⟩
          have hEr := rem_le (t := s.data.toList) (k := k + 1) (by rw [size_len]; omega)
          rw [hE, size_len] at hEr
          rw [hE] at HE HF0
          clear h59 hE
          go_wp2_with fail
          clear c0 c1 c2 c3 c4 c5 c6 c7 fz hXl
          go_loopg [] (s.size + 1 - k) (fun gas wr => ∃ j : Nat, j + gas = s.size + 1 ∧ j ≤ s.size ∧ k ≤ j ∧ Hid (remAt s.data.toList j = E) ∧ Hid (SM X lo s w wr j ln op now ws ov P))
          case atStart => exact ⟨k, by omega, by omega, by omega, HE, HS2⟩
          case round =>
            obtain ⟨j, hjg, hj, hkj, HEJ, HSJ⟩ := hrel
            have HJG := Lib.hid hjg
            clear hjg
            obtain ⟨c0, c1, c2, c3, c4, c5, c6, c7, fz⟩ := sc_cells HSJ.out.box
            have hXl := blk_lt HSJ.out.box
            have zj : (0 : Int) ≤ (j : Int) := by omega
            by_cases hjl : j < s.size
            · have zjl : (j : Int) < (s.size : Int) := by omega
              by_cases hj10 : s[j] = 10
              · have d10 : ((s[j].toNat : Int) != 10) = false := by rw [hj10]; rfl
                have hEj : E = j := by rw [← HEJ.out]; exact rem_stop (by rw [s_at s j hjl, hj10])
                clear hj10
                go_upto_region 13 with fail
                go_quiet (fail)
                generalize hqw : World.drewN _ _ = w3
                have HS3 : Hid (SM X lo s w w3 j ln op now ws ov P) := Lib.hid (by rw [← hqw]; exact SM.drewN HSJ.out _)
                have HF : Hid (scanE 2 10 s.data.toList g j ⟨ln, op, P.map Prod.fst, now⟩ = R) := Lib.hid (by rw [← hEj]; exact HF0.out)
                have hkj1 : k + 1 ≤ j := by omega
                clear hqw hEj
                go_wp2_with fail
                have hkg := HKG.out
                go_roundg g
                case rel => exact ⟨j, ln, op, now, ws, ov, P, by omega, by omega, by omega, by omega, by omega, by omega, Lib.hid (Nat.le_trans HPL.out (by omega)), Lib.hid (Nat.le_trans HWL.out (by omega)), Lib.hid (Nat.le_trans HPW.out (by omega)), HF, HS3⟩
                case measure => omega
              · have d10 : ((s[j].toNat : Int) != 10) = true := by have h := nb (m := 10) rfl hj10; rw [bne, h]; rfl
                have HEJ2 := Lib.hid ((rem_step (s_at s j hjl) hj10).symm.trans HEJ.out)
                clear hj10
                go_upto_region 13 with fail
                go_quiet (fail)
                generalize hqw : World.drewN _ _ = w3
                have HS3 : Hid (SM X lo s w w3 j ln op now ws ov P) := Lib.hid (by rw [← hqw]; exact SM.drewN HSJ.out _)
                clear hqw c0 c1 c2 c3 c4 c5 c6 c7 fz hXl
                obtain ⟨c0, c1, c2, c3, c4, c5, c6, c7, fz⟩ := sc_cells HS3.out.box
                have hXl := blk_lt HS3.out.box
                have f1 := fz 1
                go_wp2_with fail
                have HS4 := Lib.hid (HS3.out.setK (j + 1))
                have hjg := HJG.out
                go_roundg (gk - 1)
                case rel => exact ⟨j + 1, by omega, by omega, by omega, HEJ2, HS4⟩
                case measure => omega
            · have hEj : E = j := by rw [← HEJ.out]; exact rem_end (by rw [size_len]; omega)
              go_upto_region 13 with fail
              go_quiet (fail)
              generalize hqw : World.drewN _ _ = w3
              have HS3 : Hid (SM X lo s w w3 j ln op now ws ov P) := Lib.hid (by rw [← hqw]; exact SM.drewN HSJ.out _)
              have HF : Hid (scanE 2 10 s.data.toList g j ⟨ln, op, P.map Prod.fst, now⟩ = R) := Lib.hid (by rw [← hEj]; exact HF0.out)
              have hkj1 : k + 1 ≤ j := by omega
              clear hqw hEj
              go_wp2_with fail
              have hkg := HKG.out
              go_roundg g
              case rel => exact ⟨j, ln, op, now, ws, ov, P, by omega, by omega, by omega, by omega, by omega, by omega, Lib.hid (Nat.le_trans HPL.out (by omega)), Lib.hid (Nat.le_trans HWL.out (by omega)), Lib.hid (Nat.le_trans HPW.out (by omega)), HF, HS3⟩
              case measure => omega
      have b59 := nb (m := 59) rfl h59
      have H59 := Lib.hid h59
      clear h59
      by_cases h40 : s[k] = 40
      · as_aux_lemma =>
          have b40 := yb (m := 40) rfl h40
          have HC := Lib.hid (HAT.out.trans (congrArg some h40))
          have b41 : ((s[k].toNat : Int) == 41) = false := by rw [h40]; rfl
          clear h40
          by_cases hop : op = 0
          · subst hop
            have HF := Lib.hid ((sc_open0 HC.out rfl).symm.trans HSC.out)
            have f1 := fz 1; have f3 := fz 3
            go_upto_region 17 with fail
            generalize hst : World.setCell _ _ _ = w3
            have HS3 : Hid (SM X lo s w w3 k ln ln now ws ov P) := Lib.hid (by rw [← hst]; exact HS2.out.setO ln)
            clear hst
            clear c0 c1 c2 c3 c4 c5 c6 c7 fz hXl
            obtain ⟨c0, c1, c2, c3, c4, c5, c6, c7, fz⟩ := sc_cells HS3.out.box
            have hXl := blk_lt HS3.out.box
            have f1 := fz 1
            go_wp2_with fail
            have HS4 := Lib.hid (HS3.out.setK (k + 1))
            have hkg := HKG.out
            go_roundg g
            case rel => exact ⟨k + 1, ln, ln, now, ws, ov, P, by omega, by omega, by omega, by omega, by omega, by omega, Lib.hid (Nat.le_trans HPL.out (by omega)), Lib.hid (Nat.le_trans HWL.out (by omega)), Lib.hid (Nat.le_trans HPW.out (by omega)), HF, HS4⟩
            case measure => omega
          · have hob : (op == 0) = false := by rw [beq_eq_false_iff_ne]; exact hop
            have HF := Lib.hid (HSC.out.symm.trans (sc_open1 HC.out hop))
            have CBAD := Lib.hid (badW.bad_any X 2 ln w2)
            go_wp2_with (go_at_call 37; refine CBAD.out.mono ?_; rintro e wf ⟨rfl, rfl⟩)
            try rw [Exit.noGoto_ret]
            go_ret
            exact run_bad HR.out HF.out (HS2.out.eff.trans (EffL.of_below ((Below.refl _ _).alloc HS2.out.siz _))) HS2.out.siz (heap_alloc_new _ _)
      have b40 := nb (m := 40) rfl h40
      have H40 := Lib.hid h40
      clear h40
      by_cases h41 : s[k] = 41
      · as_aux_lemma =>
          have b41 := yb (m := 41) rfl h41
          have HC := Lib.hid (HAT.out.trans (congrArg some h41))
          clear h41
          by_cases hop : op = 0
          · subst hop
            have HF := Lib.hid (HSC.out.symm.trans (sc_close0 HC.out rfl))
            have CBAD := Lib.hid (badW.bad_any X 2 ln w2)
            go_wp2_with (go_at_call 37; refine CBAD.out.mono ?_; rintro e wf ⟨rfl, rfl⟩)
            try rw [Exit.noGoto_ret]
            go_ret
            exact run_bad HR.out HF.out (HS2.out.eff.trans (EffL.of_below ((Below.refl _ _).alloc HS2.out.siz _))) HS2.out.siz (heap_alloc_new _ _)
          · have hop2 : 0 < op := by omega
            have HF := Lib.hid ((sc_close1 HC.out hop).symm.trans HSC.out)
            have f1 := fz 1; have f3 := fz 3
            go_upto_region 20 with fail
            generalize hst : World.setCell _ _ _ = w3
            have HS3 : Hid (SM X lo s w w3 k ln 0 now ws ov P) := Lib.hid (by rw [← hst]; exact HS2.out.setO 0)
            clear hst
            clear c0 c1 c2 c3 c4 c5 c6 c7 fz hXl
            obtain ⟨c0, c1, c2, c3, c4, c5, c6, c7, fz⟩ := sc_cells HS3.out.box
            have hXl := blk_lt HS3.out.box
            have f1 := fz 1
            go_wp2_with fail
            have HS4 := Lib.hid (HS3.out.setK (k + 1))
            have hkg := HKG.out
            go_roundg g
            case rel => exact ⟨k + 1, ln, 0, now, ws, ov, P, by omega, by omega, by omega, by omega, by omega, by omega, Lib.hid (Nat.le_trans HPL.out (by omega)), Lib.hid (Nat.le_trans HWL.out (by omega)), Lib.hid (Nat.le_trans HPW.out (by omega)), HF, HS4⟩
            case measure => omega
      have b41 := nb (m := 41) rfl h41
      have H41 := Lib.hid h41
      clear h41
      by_cases h34 : s[k] = 34
      · as_aux_lemma =>
          have b34 := yb (m := 34) rfl h34
          have HC := Lib.hid (HAT.out.trans (congrArg some h34))
          clear h34
          obtain ⟨b, hb⟩ : ∃ b, w2.heap.size = b := ⟨_, rfl⟩
          have HX2 := Lib.hid (blk_lt HS2.out.box)
          have HA : Hid (SM X lo s w (w2.alloc (.cells #[.string ⟨#[]⟩, .bool true] 33)) k ln op now ws ov P) := Lib.hid (HS2.out.below ((Below.refl _ _).alloc (Nat.le_refl _) _))
          have HBA : Hid ((w2.alloc (.cells #[.string ⟨#[]⟩, .bool true] 33)).heap[b]? = some (.cells #[.string ⟨#[]⟩, .bool true] 33)) := Lib.hid (by rw [← hb]; exact heap_alloc_new _ _)
          have HEA : Hid (EffX X w2 (w2.alloc (.cells #[.string ⟨#[]⟩, .bool true] 33))) := Lib.hid (EffX.of_below ((Below.refl _ _).alloc (Nat.le_refl _) _))
          go_upto_region 26 with fail
          generalize hal : World.alloc _ _ = wa
          have HSa : Hid (SM X lo s w wa k ln op now ws ov P) := Lib.hid (by rw [← hal]; exact HA.out)
          have HBa : Hid (wa.heap[b]? = some (.cells #[.string ⟨#[]⟩, .bool true] 33)) := Lib.hid (by rw [← hal]; exact HBA.out)
          have HEa : Hid (EffX X w2 wa) := Lib.hid (by rw [← hal]; exact HEA.out)
          clear hal HA HBA HEA c0 c1 c2 c3 c4 c5 c6 c7 fz hXl
          obtain ⟨c0, c1, c2, c3, c4, c5, c6, c7, fz⟩ := sc_cells HSa.out.box
          have hXl := blk_lt HSa.out.box
          have f1 := fz 1
          go_upto_region 27 with fail
          generalize hst : World.setCell _ _ _ = w3
          have HS3 : Hid (SM X lo s w w3 (k + 1) ln op now ws ov P) := Lib.hid (by rw [← hst]; exact HSa.out.setK (k + 1))
          have HB3 : Hid (w3.heap[b]? = some (.cells #[.string ⟨#[]⟩, .bool true] 33)) := Lib.hid (by rw [← hst]; exact (set_far (by have := HX2.out; omega)).trans HBa.out)
          have HE3 : Hid (EffX X w2 w3) := Lib.hid (by rw [← hst]; exact HEa.out.trans (EffX.set _ _ _ _))
          have HL3 : Hid (b < w3.heap.size) := Lib.hid (blk_lt HB3.out)
          clear hst HSa HBa HEa f1 c0 c1 c2 c3 c4 c5 c6 c7 fz hXl
          obtain ⟨k1, hk1⟩ : ∃ k1, k + 1 = k1 := ⟨_, rfl⟩
          rw [hk1] at HS3
          have HK1 := Lib.hid hk1
          have hk1s : k1 ≤ s.size := by omega
          clear hk1
          have CW := Lib.hid (word_any true ⟨#[34, 10]⟩ s stopP.stop_q X k1 ln op now.line now.blank ws ov w3 hs (by omega) HS3.out.box)
          go_wp2_with fail
          refine CW.out.mono ?_
          rintro e w4 ⟨hE4, j, hb4, hj, (⟨hw, rfl⟩ | ⟨hw, Y, hY, hYb, rfl⟩)⟩
          · obtain ⟨TX, hTX⟩ : ∃ TX, s.extract k1 j = TX := ⟨_, rfl⟩
            have HTX : Hid (TX = ⟨(cutE s.data.toList k1 j).toArray⟩) := Lib.hid (by rw [← hTX]; exact cut_str s k1 j)
            rw [hTX]
            clear hTX
            have hwj := word_le (by rw [size_len]; omega) hw
            rw [size_len] at hwj
            have HW := Lib.hid hw
            clear hw
            have HB4 : Hid (w4.heap[b]? = some (.cells #[.string ⟨#[]⟩, .bool true] 33)) := Lib.hid ((hE4.kept b HL3.out (by have := HX2.out; omega)).trans HB3.out)
            have HB5 : Hid ((w4.setCell ⟨b, 0, none⟩ (.string TX)).heap[b]? = some (.cells #[.string TX, .bool true] 33)) := Lib.hid (set_same HB4.out)
            have HS5 : Hid (SM X lo s w (w4.setCell ⟨b, 0, none⟩ (.string TX)) j ln op now ws ov P) := Lib.hid (HS2.out.word (EffX.new (HE3.out.trans hE4) (by omega)) ((set_far (by have := HX2.out; omega)).trans hb4))
            have y0 := blk_cell HB4.out 0
            simp only [List.getElem?_toArray, List.getElem?_cons_zero] at y0
            have z0 : w4.frozen? ⟨b, 0, none⟩ = false := by simp [World.frozen?, HB4.out]
            have yb := blk_lt HB4.out
            clear CW hb4
            go_upto_region 28 with fail
            generalize hst : World.setCell _ _ _ = w5 at HB5 HS5 ⊢
            clear hst y0 z0 yb HB4
            obtain ⟨c0, c1, c2, c3, c4, c5, c6, c7, fz⟩ := sc_cells HS5.out.box
            have hXl := blk_lt HS5.out.box
            have zj : (0 : Int) ≤ (j : Int) := by omega
            by_cases hjl : j < s.size
            · by_cases hj10 : s[j] = 10
              · have d10 := yb (m := 10) rfl hj10
                have zjl : (j : Int) < (s.size : Int) := by omega
                have ejl : ((j : Int) == (s.size : Int)) = false := by rw [beq_eq_false_iff_ne]; omega
                have HFB : Hid (R = ([], 2, ln)) := Lib.hid (HSC.out.symm.trans (sc_quo1 HC.out (by rw [HK1.out]; exact HW.out) (by rw [s_at s j hjl, hj10]; decide)))
                clear hj10
                go_quiet (fail)
                generalize hqw : World.drewN _ _ = w6
                have HS6 : Hid (SM X lo s w w6 j ln op now ws ov P) := Lib.hid (by rw [← hqw]; exact SM.drewN HS5.out _)
                have HB6 : Hid (w6.heap[b]? = some (.cells #[.string TX, .bool true] 33)) := Lib.hid (by rw [← hqw]; exact HB5.out)
                clear hqw HS5 HB5 c0 c1 c2 c3 c4 c5 c6 c7 fz hXl
                obtain ⟨c0, c1, c2, c3, c4, c5, c6, c7, fz⟩ := sc_cells HS6.out.box
                have hXl := blk_lt HS6.out.box
                have CBAD := Lib.hid (badW.bad_any X 2 ln w6)
                have f1 := fz 1
                go_wp2_with (go_at_call 37; refine CBAD.out.mono ?_; rintro e wf ⟨rfl, rfl⟩)
                try rw [Exit.noGoto_ret]
                go_ret
                exact run_bad HR.out HFB.out (HS6.out.eff.trans (EffL.set_alloc HS6.out.siz _)) HS6.out.siz alloc_set
              · have d10 := nb (m := 10) rfl hj10
                have zjl : (j : Int) < (s.size : Int) := by omega
                have ejl : ((j : Int) == (s.size : Int)) = false := by rw [beq_eq_false_iff_ne]; omega
                have h34 : s[j] = 34 := by
                  have h := word_stops HW.out (s_at s j hjl)
                  simp only [stopB, if_true, Bool.or_eq_true, beq_iff_eq] at h
                  rcases h with h | h
                  · exact h
                  · exact absurd h hj10
                have HF := Lib.hid ((sc_quo2 HC.out (by rw [HK1.out]; exact HW.out) (by rw [s_at s j hjl, h34])).symm.trans HSC.out)
                rw [HK1.out] at HF
                have hkj : k < j + 1 := by have := HK1.out; omega
                clear hj10 h34
                go_quiet (fail)
                generalize hqw : World.drewN _ _ = w6
                have HS6 : Hid (SM X lo s w w6 j ln op now ws ov P) := Lib.hid (by rw [← hqw]; exact SM.drewN HS5.out _)
                have HB6 : Hid (w6.heap[b]? = some (.cells #[.string TX, .bool true] 33)) := Lib.hid (by rw [← hqw]; exact HB5.out)
                clear hqw HS5 HB5 c0 c1 c2 c3 c4 c5 c6 c7 fz hXl
                obtain ⟨c0, c1, c2, c3, c4, c5, c6, c7, fz⟩ := sc_cells HS6.out.box
                have hXl := blk_lt HS6.out.box
                have f1 := fz 1
                go_upto_region 32 with fail
                generalize hst : World.setCell _ _ _ = w7
                have HSW : Hid (SM X lo s w w7 (j + 1) ln op now ws ov P) := Lib.hid (by rw [← hst]; exact HS6.out.setK (j + 1))
                have HBW : Hid (w7.heap[b]? = some (.cells #[.string TX, .bool true] 33)) := Lib.hid (by rw [← hst]; exact (set_far (by have := HX2.out; omega)).trans HB6.out)
                clear hst f1 HS6 HB6 c0 c1 c2 c3 c4 c5 c6 c7 fz hXl
                have hX7 := HX2.out
                clear hE4 HS3 HB3 HE3 HL3 HX2
                obtain ⟨aw, cw, hwv, hwc, hwm⟩ := own_slice HSW.out.st.words
                subst hwv
                obtain ⟨nw, hnw⟩ : ∃ nw, now.words.length = nw := ⟨_, rfl⟩
                rw [hnw] at HSW hwc
                have HNW := Lib.hid hnw
                have hwl := HWL.out
                rw [hnw] at hwl
                clear hnw
                obtain ⟨c0, c1, c2, c3, c4, c5, c6, c7, fz⟩ := sc_cells HSW.out.box
                have hXl := blk_lt HSW.out.box
                have y6 := fz 6
                have e0 := blk_cell HBW.out 0; have e1 := blk_cell HBW.out 1
                simp only [List.getElem?_toArray, List.getElem?_cons_zero, List.getElem?_cons_succ] at e0 e1
                have hrow : w7.ownsRow lo 33 2 (.slice aw nw cw) nw (now.words.flatMap wdC) := by have h := HSW.out.st.words; rw [HNW.out] at h; exact h
                have hrowd : w7.drew.ownsRow lo 33 2 (.slice aw nw cw) nw (now.words.flatMap wdC) := hrow
                have hsz := HSW.out.siz
                have FIN : Hid (∀ (g3 cp3 : Nat) (w9 : World), w9.ownsRow lo 33 2 (.slice (some ⟨g3, 0, none⟩) (nw + 1) cp3) (nw + 1) (now.words.flatMap wdC ++ [.string TX, .bool true]) → (w7.drew.alloc (.cells #[.string TX, .bool true] 33)).grownBy w9 (Value.slice aw nw cw).ownBlock → ((Value.slice aw nw cw).ownBlock = some g3 ∨ g3 = w7.heap.size + 1) →
                    w9.cell? ⟨X, 6, none⟩ = some (.slice aw nw cw) ∧ w9.frozen? ⟨X, 6, none⟩ = false ∧ X < w9.heap.size ∧ SM X lo s w (w9.setCell ⟨X, 6, none⟩ (.slice (some ⟨g3, 0, none⟩) (nw + 1) cp3)) (j + 1) ln op { now with words := now.words ++ [(⟨cutE s.data.toList k1 j, true⟩ : Wd)] } (.slice (some ⟨g3, 0, none⟩) (nw + 1) cp3) ov P) := Lib.hid (by
                  intro g3 cp3 w9 h1 h2 h9
                  have hd := SM.below HSW.out ((Below.refl _ _).drew)
                  obtain ⟨q1, q2⟩ := hd.push (⟨cutE s.data.toList k1 j, true⟩ : Wd) (nv := .slice (some ⟨g3, 0, none⟩) (nw + 1) cp3) h2 (by rw [HNW.out]; rw [HTX.out] at h1; exact h1) (by
                    rcases h9 with h | h
                    · exact .inl h.symm
                    · exact .inr (by rw [h]; rfl))
                  obtain ⟨_, _, _, _, _, _, p6, _, pz⟩ := sc_cells q1
                  exact ⟨p6, pz 6, blk_lt q1, q2⟩)
                clear fz c0 c1 c2 c3 c4 c5 c7
                go_upto_region 34 with fail
                go_region_law (refine step_append_lies _ (by rfl) (.tmp 224) (.tmp 226) 29 (by rfl) lo 33 i0 (.agg #[.string ⟨#[]⟩, .bool false]) 2 24 Tryd.underlying29 hi hz0 hz1 hz2 (by rfl) (by decide) (.slice aw nw cw) nw (now.words.flatMap wdC) (by simp [Act.eval]) (by first | exact hrow.alloc _ | exact hrowd.alloc _) ⟨w7.heap.size, 0, none⟩ 1 1 [.string TX, .bool true] (by simp [Act.eval]) (by rfl) (by exact World.news_of_block (heap_alloc_new _ _)) (by simp [Value.oneCell']) (by decide) (by unfold maxLen; omega) (by omega) (by simp; omega) (w7.heap.size + 1) (by simp) ?_; intro g3 cp3 w9 hown4 hgr4 hli4 _; have hfin := FIN.out _ _ _ hown4 hgr4 hli4; have q2 := hfin.1; have y3 := hfin.2.1; have hlt2 := hfin.2.2.1; have HFIN := Lib.hid hfin.2.2.2; clear hown4 hgr4 hli4 hfin)
                all_goals
                  go_wp2_with fail
                  have hkg := HKG.out
                  go_roundg g
                  case rel => exact ⟨j + 1, ln, op, _, _, ov, P, by omega, by omega, by omega, by omega, by omega, by omega, Lib.hid (Nat.le_trans HPL.out (by omega)), Lib.hid (by rw [List.length_append, HNW.out]; simp; omega), Lib.hid (by have h := HPW.out; rw [HNW.out] at h; rw [List.length_append, HNW.out]; simp; omega), HF, HFIN⟩
                  case measure => omega
            · have ejl : ((j : Int) == (s.size : Int)) = true := by rw [beq_iff_eq]; omega
              have HFB : Hid (R = ([], 2, ln)) := Lib.hid (HSC.out.symm.trans (sc_quo1 HC.out (by rw [HK1.out]; exact HW.out) (by rw [List.getElem?_eq_none (by rw [size_len]; omega)]; simp)))
              go_quiet (fail)
              generalize hqw : World.drewN _ _ = w6
              have HS6 : Hid (SM X lo s w w6 j ln op now ws ov P) := Lib.hid (by rw [← hqw]; exact SM.drewN HS5.out _)
              have HB6 : Hid (w6.heap[b]? = some (.cells #[.string TX, .bool true] 33)) := Lib.hid (by rw [← hqw]; exact HB5.out)
              clear hqw HS5 HB5 c0 c1 c2 c3 c4 c5 c6 c7 fz hXl
              obtain ⟨c0, c1, c2, c3, c4, c5, c6, c7, fz⟩ := sc_cells HS6.out.box
              have hXl := blk_lt HS6.out.box
              have CBAD := Lib.hid (badW.bad_any X 2 ln w6)
              have f1 := fz 1
              go_wp2_with (go_at_call 37; refine CBAD.out.mono ?_; rintro e wf ⟨rfl, rfl⟩)
              try rw [Exit.noGoto_ret]
              go_ret
              exact run_bad HR.out HFB.out (HS6.out.eff.trans (EffL.set_alloc HS6.out.siz _)) HS6.out.siz alloc_set
          · have HF := Lib.hid (HSC.out.symm.trans (sc_quo0 HC.out (by rw [HK1.out]; exact hw)))
            have HY : Hid (lo ≤ Y) := Lib.hid (Nat.le_trans HS3.out.siz hY)
            clear hw
            have HYB5 : Hid ((w4.setCell ⟨b, 0, none⟩ (.string ⟨#[]⟩)).heap[Y]? = some (.cells #[.int .i64 2, .string ⟨#[]⟩, .int .i64 ln] 73)) := Lib.hid ((set_far (by have := HL3.out; omega)).trans hYb)
            have HYX : Hid (Y ≠ X) := Lib.hid (by have := blk_lt HS3.out.box; omega)
            have HB4 : Hid (w4.heap[b]? = some (.cells #[.string ⟨#[]⟩, .bool true] 33)) := Lib.hid ((hE4.kept b HL3.out (by have := HX2.out; omega)).trans HB3.out)
            have HB5 : Hid ((w4.setCell ⟨b, 0, none⟩ (.string ⟨#[]⟩)).heap[b]? = some (.cells #[.string ⟨#[]⟩, .bool true] 33)) := Lib.hid (set_same HB4.out)
            have HS5 : Hid (SM X lo s w (w4.setCell ⟨b, 0, none⟩ (.string ⟨#[]⟩)) j ln op now ws ov P) := Lib.hid (HS2.out.word (EffX.new (HE3.out.trans hE4) (by omega)) ((set_far (by have := HX2.out; omega)).trans hb4))
            have y0 := blk_cell HB4.out 0
            simp only [List.getElem?_toArray, List.getElem?_cons_zero] at y0
            have z0 : w4.frozen? ⟨b, 0, none⟩ = false := by simp [World.frozen?, HB4.out]
            have yb := blk_lt HB4.out
            clear CW hb4
            go_upto_region 28 with fail
            generalize hst : World.setCell _ _ _ = w5 at HYB5 HB5 HS5 ⊢
            clear hst y0 z0 yb HB4
            obtain ⟨c0, c1, c2, c3, c4, c5, c6, c7, fz⟩ := sc_cells HS5.out.box
            have hXl := blk_lt HS5.out.box
            go_quiet (fail)
            generalize hqw : World.drewN _ _ = w6
            have HS6 : Hid (SM X lo s w w6 j ln op now ws ov P) := Lib.hid (by rw [← hqw]; exact SM.drewN HS5.out _)
            have HYB6 : Hid (w6.heap[Y]? = some (.cells #[.int .i64 2, .string ⟨#[]⟩, .int .i64 ln] 73)) := Lib.hid (by rw [← hqw]; exact HYB5.out)
            clear hqw HS5 HB5 c0 c1 c2 c3 c4 c5 c6 c7 fz hXl
            obtain ⟨c0, c1, c2, c3, c4, c5, c6, c7, fz⟩ := sc_cells HS6.out.box
            have hXl := blk_lt HS6.out.box
            have f1 := fz 1
            go_wp2_with fail
            try rw [Exit.noGoto_ret]
            go_ret
            exact run_bad HR.out HF.out (HS6.out.eff.trans (EffL.set _ _ _ _ _)) HY.out ((set_far HYX.out).trans HYB6.out)
      have b34 := nb (m := 34) rfl h34
      have HSB : Hid (stopB false s[k] = false) := Lib.hid (by
        have h1 := HBF.out
        simp only [stopB, h1, Bool.false_eq_true, if_false, Bool.false_or]
        simp [H10.out, H59.out, H40.out, H41.out, h34])
      clear h34
      obtain ⟨b, hb⟩ : ∃ b, w2.heap.size = b := ⟨_, rfl⟩
      have HX2 := Lib.hid (blk_lt HS2.out.box)
      have HA : Hid (SM X lo s w (w2.alloc (.cells #[.string ⟨#[]⟩, .bool false] 33)) k ln op now ws ov P) := Lib.hid (HS2.out.below ((Below.refl _ _).alloc (Nat.le_refl _) _))
      have HBA : Hid ((w2.alloc (.cells #[.string ⟨#[]⟩, .bool false] 33)).heap[b]? = some (.cells #[.string ⟨#[]⟩, .bool false] 33)) := Lib.hid (by rw [← hb]; exact heap_alloc_new _ _)
      have HEA : Hid (EffX X w2 (w2.alloc (.cells #[.string ⟨#[]⟩, .bool false] 33))) := Lib.hid (EffX.of_below ((Below.refl _ _).alloc (Nat.le_refl _) _))
      go_upto_region 31 with fail
      generalize hal : World.alloc _ _ = w3
      have HS3 : Hid (SM X lo s w w3 k ln op now ws ov P) := Lib.hid (by rw [← hal]; exact HA.out)
      have HB3 : Hid (w3.heap[b]? = some (.cells #[.string ⟨#[]⟩, .bool false] 33)) := Lib.hid (by rw [← hal]; exact HBA.out)
      have HE3 : Hid (EffX X w2 w3) := Lib.hid (by rw [← hal]; exact HEA.out)
      have HL3 : Hid (b < w3.heap.size) := Lib.hid (blk_lt HB3.out)
      clear hal HA HBA HEA c0 c1 c2 c3 c4 c5 c6 c7 fz hXl
      have CW := Lib.hid (word_any false ⟨#[32, 9, 13, 10, 59, 40, 41, 34]⟩ s stopP.stop_w X k ln op now.line now.blank ws ov w3 hs (by omega) HS3.out.box)
      go_wp2_with fail
      refine CW.out.mono ?_
      rintro e w4 ⟨hE4, j, hb4, hj, (⟨hw, rfl⟩ | ⟨hw, Y, hY, hYb, rfl⟩)⟩
      · obtain ⟨TX, hTX⟩ : ∃ TX, s.extract k j = TX := ⟨_, rfl⟩
        have HTX : Hid (TX = ⟨(cutE s.data.toList k j).toArray⟩) := Lib.hid (by rw [← hTX]; exact cut_str s k j)
        rw [hTX]
        clear hTX
        have HF := Lib.hid ((sc_word1 HAT.out HSB.out hw).symm.trans HSC.out)
        have hkj := word_gt HAT.out HSB.out hw
        clear hw
        have HB4 : Hid (w4.heap[b]? = some (.cells #[.string ⟨#[]⟩, .bool false] 33)) := Lib.hid ((hE4.kept b HL3.out (by have := HX2.out; omega)).trans HB3.out)
        have HB5 : Hid ((w4.setCell ⟨b, 0, none⟩ (.string TX)).heap[b]? = some (.cells #[.string TX, .bool false] 33)) := Lib.hid (set_same HB4.out)
        have HS5 : Hid (SM X lo s w (w4.setCell ⟨b, 0, none⟩ (.string TX)) j ln op now ws ov P) := Lib.hid (HS2.out.word (EffX.new (HE3.out.trans hE4) (by omega)) ((set_far (by have := HX2.out; omega)).trans hb4))
        have y0 := blk_cell HB4.out 0
        simp only [List.getElem?_toArray, List.getElem?_cons_zero] at y0
        have z0 : w4.frozen? ⟨b, 0, none⟩ = false := by simp [World.frozen?, HB4.out]
        have yb := blk_lt HB4.out
        clear CW hb4
        go_upto_region 32 with fail
        generalize hst : World.setCell _ _ _ = w5 at HB5 HS5 ⊢
        clear hst y0 z0 yb HB4
        obtain ⟨c0, c1, c2, c3, c4, c5, c6, c7, fz⟩ := sc_cells HS5.out.box
        have hXl := blk_lt HS5.out.box
        obtain ⟨HSW, HBW⟩ : Hid (SM X lo s w w5 j ln op now ws ov P) ∧ Hid (w5.heap[b]? = some (.cells #[.string TX, .bool false] 33)) := ⟨HS5, HB5⟩
        clear HS5 HB5 hE4 HS3 HB3 HE3 HL3 HX2 c0 c1 c2 c3 c4 c5 c6 c7 fz hXl
        obtain ⟨aw, cw, hwv, hwc, hwm⟩ := own_slice HSW.out.st.words
        subst hwv
        obtain ⟨nw, hnw⟩ : ∃ nw, now.words.length = nw := ⟨_, rfl⟩
        rw [hnw] at HSW hwc
        have HNW := Lib.hid hnw
        have hwl := HWL.out
        rw [hnw] at hwl
        clear hnw
        obtain ⟨c0, c1, c2, c3, c4, c5, c6, c7, fz⟩ := sc_cells HSW.out.box
        have hXl := blk_lt HSW.out.box
        have y6 := fz 6
        have e0 := blk_cell HBW.out 0; have e1 := blk_cell HBW.out 1
        simp only [List.getElem?_toArray, List.getElem?_cons_zero, List.getElem?_cons_succ] at e0 e1
        have hrow : w5.ownsRow lo 33 2 (.slice aw nw cw) nw (now.words.flatMap wdC) := by have h := HSW.out.st.words; rw [HNW.out] at h; exact h
        have hrowd : w5.drew.ownsRow lo 33 2 (.slice aw nw cw) nw (now.words.flatMap wdC) := hrow
        have hsz := HSW.out.siz
        have FIN : Hid (∀ (g3 cp3 : Nat) (w9 : World), w9.ownsRow lo 33 2 (.slice (some ⟨g3, 0, none⟩) (nw + 1) cp3) (nw + 1) (now.words.flatMap wdC ++ [.string TX, .bool false]) → (w5.drew.alloc (.cells #[.string TX, .bool false] 33)).grownBy w9 (Value.slice aw nw cw).ownBlock → ((Value.slice aw nw cw).ownBlock = some g3 ∨ g3 = w5.heap.size + 1) →
            w9.cell? ⟨X, 6, none⟩ = some (.slice aw nw cw) ∧ w9.frozen? ⟨X, 6, none⟩ = false ∧ X < w9.heap.size ∧ SM X lo s w (w9.setCell ⟨X, 6, none⟩ (.slice (some ⟨g3, 0, none⟩) (nw + 1) cp3)) j ln op { now with words := now.words ++ [(⟨cutE s.data.toList k j, false⟩ : Wd)] } (.slice (some ⟨g3, 0, none⟩) (nw + 1) cp3) ov P) := Lib.hid (by
          intro g3 cp3 w9 h1 h2 h9
          have hd := SM.below HSW.out ((Below.refl _ _).drew)
          obtain ⟨q1, q2⟩ := hd.push (⟨cutE s.data.toList k j, false⟩ : Wd) (nv := .slice (some ⟨g3, 0, none⟩) (nw + 1) cp3) h2 (by rw [HNW.out]; rw [HTX.out] at h1; exact h1) (by
            rcases h9 with h | h
            · exact .inl h.symm
            · exact .inr (by rw [h]; rfl))
          obtain ⟨_, _, _, _, _, _, p6, _, pz⟩ := sc_cells q1
          exact ⟨p6, pz 6, blk_lt q1, q2⟩)
        clear fz c0 c1 c2 c3 c4 c5 c7
        go_upto_region 34 with fail
        go_region_law (refine step_append_lies _ (by rfl) (.tmp 224) (.tmp 226) 29 (by rfl) lo 33 i0 (.agg #[.string ⟨#[]⟩, .bool false]) 2 24 Tryd.underlying29 hi hz0 hz1 hz2 (by rfl) (by decide) (.slice aw nw cw) nw (now.words.flatMap wdC) (by simp [Act.eval]) (by first | exact hrow.alloc _ | exact hrowd.alloc _) ⟨w5.heap.size, 0, none⟩ 1 1 [.string TX, .bool false] (by simp [Act.eval]) (by rfl) (by exact World.news_of_block (heap_alloc_new _ _)) (by simp [Value.oneCell']) (by decide) (by unfold maxLen; omega) (by omega) (by simp; omega) (w5.heap.size + 1) (by simp) ?_; intro g3 cp3 w9 hown4 hgr4 hli4 _; have hfin := FIN.out _ _ _ hown4 hgr4 hli4; have q2 := hfin.1; have y3 := hfin.2.1; have hlt2 := hfin.2.2.1; have HFIN := Lib.hid hfin.2.2.2; clear hown4 hgr4 hli4 hfin)
        all_goals
          go_wp2_with fail
          have hkg := HKG.out
          go_roundg g
          case rel => exact ⟨j, ln, op, _, _, ov, P, by omega, by omega, by omega, by omega, by omega, by omega, Lib.hid (Nat.le_trans HPL.out (by omega)), Lib.hid (by rw [List.length_append, HNW.out]; simp; omega), Lib.hid (by have h := HPW.out; rw [HNW.out] at h; rw [List.length_append, HNW.out]; simp; omega), HF, HFIN⟩
          case measure => omega
      · have HF := Lib.hid (HSC.out.symm.trans (sc_word0 HAT.out HSB.out hw))
        have HY : Hid (lo ≤ Y) := Lib.hid (Nat.le_trans HS3.out.siz hY)
        clear hw
        have HYB5 : Hid ((w4.setCell ⟨b, 0, none⟩ (.string ⟨#[]⟩)).heap[Y]? = some (.cells #[.int .i64 2, .string ⟨#[]⟩, .int .i64 ln] 73)) := Lib.hid ((set_far (by have := HL3.out; omega)).trans hYb)
        have HYX : Hid (Y ≠ X) := Lib.hid (by have := blk_lt HS3.out.box; omega)
        have HB4 : Hid (w4.heap[b]? = some (.cells #[.string ⟨#[]⟩, .bool false] 33)) := Lib.hid ((hE4.kept b HL3.out (by have := HX2.out; omega)).trans HB3.out)
        have HB5 : Hid ((w4.setCell ⟨b, 0, none⟩ (.string ⟨#[]⟩)).heap[b]? = some (.cells #[.string ⟨#[]⟩, .bool false] 33)) := Lib.hid (set_same HB4.out)
        have HS5 : Hid (SM X lo s w (w4.setCell ⟨b, 0, none⟩ (.string ⟨#[]⟩)) j ln op now ws ov P) := Lib.hid (HS2.out.word (EffX.new (HE3.out.trans hE4) (by omega)) ((set_far (by have := HX2.out; omega)).trans hb4))
        have y0 := blk_cell HB4.out 0
        simp only [List.getElem?_toArray, List.getElem?_cons_zero] at y0
        have z0 : w4.frozen? ⟨b, 0, none⟩ = false := by simp [World.frozen?, HB4.out]
        have yb := blk_lt HB4.out
        clear CW hb4
        go_upto_region 32 with fail
        generalize hst : World.setCell _ _ _ = w5 at HYB5 HB5 HS5 ⊢
        clear hst y0 z0 yb HB4
        obtain ⟨c0, c1, c2, c3, c4, c5, c6, c7, fz⟩ := sc_cells HS5.out.box
        have hXl := blk_lt HS5.out.box
        go_wp2_with fail
        try rw [Exit.noGoto_ret]
        go_ret
        exact run_bad HR.out HF.out HS5.out.eff HY.out HYB5.out
    · as_aux_lemma =>
        have hke : k = s.size := by omega
        obtain ⟨g, rfl⟩ : ∃ g, gk = g + 1 := ⟨gk - 1, by have := HKG.out; omega⟩
        go_upto_region 3 with fail
        go_quiet (fail)
        generalize hqw : World.drewN _ _ = w1
        have HS1 : Hid (SM X lo s w w1 k ln op now ws ov P) := Lib.hid (by rw [← hqw]; exact SM.drewN HSM.out _)
        clear hqw c0 c1 c2 c3 c4 c5 c6 c7 fz hXl
        obtain ⟨c0, c1, c2, c3, c4, c5, c6, c7, fz⟩ := sc_cells HS1.out.box
        have hXl := blk_lt HS1.out.box
        by_cases hop : op = 0
        · subst hop
          have HF0 := Lib.hid (HSC.out.symm.trans (sc_end2 (by rw [size_len]; omega) (by simp)))
          have CF := Lib.hid (flush_any X lo s w w1 k ln 0 now ws ov P HS1.out hs (by omega) (by have := HPL.out; omega) (by have := HWL.out; omega))
          go_upto_region 37 with fail
          go_wp2_with fail
          refine CF.out.mono ?_
          rintro e wf ⟨rfl, ov', P', HS', HF', HL'⟩
          have HS5 := Lib.hid HS'
          have HF5 : Hid (R = (P'.map Prod.fst, 0, 0)) := Lib.hid (by rw [HF']; exact HF0.out)
          clear HS' HF' HL' CF
          go_wp2_with fail
          try rw [Exit.noGoto_ret]
          go_ret
          exact ⟨HS5.out.eff, .inl ⟨_, _, _, _, _, _, P', rfl, HS5.out, by rw [HR.out, HF5.out]⟩⟩
        · have hop2 : 0 < op := by omega
          have HF := Lib.hid (HSC.out.symm.trans (sc_end1 (by rw [size_len]; omega) hop2))
          have CBAD := Lib.hid (badW.bad_any X 10 op w1)
          go_wp2_with (go_at_call 37; refine CBAD.out.mono ?_; rintro e wf ⟨rfl, rfl⟩)
          try rw [Exit.noGoto_ret]
          go_ret
          exact run_bad HR.out HF.out (HS1.out.eff.trans (EffL.of_below ((Below.refl _ _).alloc HS1.out.siz _))) HS1.out.siz (heap_alloc_new _ _)
end Go.Proofs.YtabmcambgdnaiaaDoor.runW
