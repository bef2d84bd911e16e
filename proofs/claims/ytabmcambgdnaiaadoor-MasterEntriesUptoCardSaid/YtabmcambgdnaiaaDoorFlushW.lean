/- (*master.scanner).flush: walk. -/
import Derived.Test.YtabmcambgdnaiaaDoorEntW
import Derived.Test.YtabmcambgdnaiaaDoorWordW
import Derived.StillTailTactics
namespace Go.Proofs.YtabmcambgdnaiaaDoor.flushW
open Go.RowKit Go.Proofs.YtabmcambgdnaiaaDoor.kit Go.Proofs.YtabmcambgdnaiaaDoor.timed Go.Proofs.YtabmcambgdnaiaaDoor.entP Go.Proofs.YtabmcambgdnaiaaDoor.wordsS Go.Proofs.YtabmcambgdnaiaaDoor.entsS Go.Proofs.YtabmcambgdnaiaaDoor.entM Go.Proofs.YtabmcambgdnaiaaDoor.entG Go.Proofs.YtabmcambgdnaiaaDoor.tokW Go.Proofs.YtabmcambgdnaiaaDoor.tokP Go.Proofs.YtabmcambgdnaiaaDoor.entR Go.Proofs.YtabmcambgdnaiaaDoor.wordW
set_option linter.unusedVariables false

/-- all below lo is kept but the scanner's box -/
structure EffL (X lo : Nat) (w w' : World) : Prop where
  os : w'.os = w.os
  tape : w'.tape = w.tape
  output : w'.output = w.output
  size : w.heap.size ≤ w'.heap.size
  kept : ∀ k, k < lo → k ≠ X → w'.heap[k]? = w.heap[k]?
section
variable {X lo : Nat} {w w1 w2 : World}
theorem EffL.refl (X lo : Nat) (w : World) : EffL X lo w w := ⟨rfl, rfl, rfl, Nat.le_refl _, fun _ _ _ => rfl⟩
theorem EffL.trans (h : EffL X lo w w1) (g : EffL X lo w1 w2) : EffL X lo w w2 :=
  ⟨g.os.trans h.os, g.tape.trans h.tape, g.output.trans h.output, Nat.le_trans h.size g.size, fun k hk hn => (g.kept k hk hn).trans (h.kept k hk hn)⟩
theorem EffL.of_x (h : EffX X w w1) (hl : lo ≤ w.heap.size) : EffL X lo w w1 := ⟨h.os, h.tape, h.output, h.size, fun k hk hn => h.kept k (Nat.lt_of_lt_of_le hk hl) hn⟩
theorem EffL.of_below (h : Below lo w w1) : EffL X lo w w1 := ⟨h.os, h.tape, h.output, h.size, fun k hk _ => h.block k hk⟩
theorem EffL.set (X lo i : Nat) (v : Value) (w : World) : EffL X lo w (w.setCell ⟨X, i, none⟩ v) :=
  ⟨rfl, rfl, rfl, by simp [World.setCell], fun k _ hn => Below.heap_setCell w ⟨X, i, none⟩ v k hn⟩
end
/-- the scanner on the way: its box, the entries -/
structure SM (X lo : Nat) (s : ByteArray) (w0 wr : World) (k : Nat) (ln op : Int) (now : En) (ws ov : Value) (P : List (En × Value)) : Prop where
  box : wr.heap[X]? = some (scO s k ln op now.line now.blank ws ov)
  st : StM wr lo ov ws P now
  eff : EffL X lo w0 wr
  low : X < lo
  siz : lo ≤ wr.heap.size
section
variable {X lo : Nat} {s : ByteArray} {w0 wr w1 : World} {k : Nat} {ln op : Int} {now : En} {ws ov : Value} {P : List (En × Value)}
/-- a cell of the head laid: at, line, open -/
theorem SM.setK (h : SM X lo s w0 wr k ln op now ws ov P) (j : Nat) : SM X lo s w0 (wr.setCell ⟨X, 1, none⟩ (.int .i64 (j : Int))) j ln op now ws ov P :=
  ⟨sc_at h.box _, h.st.keptB (fun i hi _ => set_far (by have := h.low; omega)), h.eff.trans (EffL.set _ _ _ _ _), h.low, by have := h.siz; simp [World.setCell]; exact this⟩
theorem SM.setL (h : SM X lo s w0 wr k ln op now ws ov P) (l : Int) : SM X lo s w0 (wr.setCell ⟨X, 2, none⟩ (.int .i64 l)) k l op now ws ov P :=
  ⟨by simpa using set_same (i := 2) (v := .int .i64 l) h.box, h.st.keptB (fun i hi _ => set_far (by have := h.low; omega)), h.eff.trans (EffL.set _ _ _ _ _), h.low, by have := h.siz; simp [World.setCell]; exact this⟩
theorem SM.setO (h : SM X lo s w0 wr k ln op now ws ov P) (o : Int) : SM X lo s w0 (wr.setCell ⟨X, 3, none⟩ (.int .i64 o)) k ln o now ws ov P :=
  ⟨by simpa using set_same (i := 3) (v := .int .i64 o) h.box, h.st.keptB (fun i hi _ => set_far (by have := h.low; omega)), h.eff.trans (EffL.set _ _ _ _ _), h.low, by have := h.siz; simp [World.setCell]; exact this⟩
theorem SM.below (h : SM X lo s w0 wr k ln op now ws ov P) (hB : Below wr.heap.size wr w1) : SM X lo s w0 w1 k ln op now ws ov P :=
  ⟨(hB.block X (blk_lt h.box)).trans h.box, h.st.below hB, h.eff.trans (EffL.of_below (hB.mono h.siz)), h.low, Nat.le_trans h.siz hB.size⟩
/-- behind word -/
theorem SM.word (h : SM X lo s w0 wr k ln op now ws ov P) (hE : EffX X wr w1) {j : Nat} (hb : w1.heap[X]? = some (scO s j ln op now.line now.blank ws ov)) : SM X lo s w0 w1 j ln op now ws ov P :=
  ⟨hb, h.st.keptB (fun i hi hs => hE.kept i hs (by have := h.low; omega)), h.eff.trans (EffL.of_x hE h.siz), h.low, Nat.le_trans h.siz hE.size⟩
/-- a word more -/
theorem SM.push (h : SM X lo s w0 wr k ln op now ws ov P) (x : Wd) {nv : Value} {o : Obj} (hg : (wr.alloc o).grownBy w1 ws.ownBlock)
    (hw : w1.ownsRow lo 33 2 nv (now.words.length + 1) (now.words.flatMap wdC ++ wdC x)) (hat : nv.ownBlock = ws.ownBlock ∨ nv.ownBlock = some (wr.heap.size + 1)) :
    w1.heap[X]? = some (scO s k ln op now.line now.blank ws ov) ∧ SM X lo s w0 (w1.setCell ⟨X, 6, none⟩ nv) k ln op { now with words := now.words ++ [x] } nv ov P := by
  have hb := (grown_box h.st.words hg h.low (blk_lt h.box)).trans h.box
  refine ⟨hb, by simpa using set_same (i := 6) (v := nv) hb, ?_, ?_, h.low, ?_⟩
  · exact (h.st.push x hg hw (by rw [World.size_alloc]; exact hat)).keptB fun k hk _ => set_far (by have := h.low; omega)
  · refine h.eff.trans ⟨hg.os, hg.tape, hg.output, ?_, fun k hk hn => ?_⟩
    · have := hg.size; rw [World.size_alloc] at this; simp [World.setCell]; omega
    · exact (set_far hn).trans (grown_box h.st.words hg hk (by have := h.siz; omega))
  · have h1 := hg.size; have := h.siz; rw [World.size_alloc] at h1; simp [World.setCell]; omega
/-- an entry more: the list is laid, then the entry begins anew -/
theorem SM.flush (h : SM X lo s w0 wr k ln op now ws ov P) {nv : Value} {o : Obj} (hg : (wr.alloc o).grownBy w1 ov.ownBlock)
    (hw : w1.ownsRow lo 31 3 nv (P.length + 1) (P.flatMap enC ++ enC (now, ws))) :
    w1.heap[X]? = some (scO s k ln op now.line now.blank ws ov) ∧ (∀ line bl, StM (w1.setCell ⟨X, 7, none⟩ nv) lo nv (.slice none 0 0) (P ++ [(now, ws)]) ⟨line, bl, []⟩) ∧ EffL X lo w0 (w1.setCell ⟨X, 7, none⟩ nv) ∧ lo ≤ (w1.setCell ⟨X, 7, none⟩ nv).heap.size := by
  refine ⟨(grown_box h.st.out.row hg h.low (blk_lt h.box)).trans h.box, fun line bl => ?_, ?_, ?_⟩
  · exact (h.st.flush hg hw line bl).keptB fun k hk _ => set_far (by have := h.low; omega)
  · refine h.eff.trans ⟨hg.os, hg.tape, hg.output, ?_, fun k hk hn => ?_⟩
    · have := hg.size; rw [World.size_alloc] at this; simp [World.setCell]; omega
    · exact (set_far hn).trans (grown_box h.st.out.row hg hk (by have := h.siz; omega))
  · have h1 := hg.size; have := h.siz; rw [World.size_alloc] at h1; simp [World.setCell]; omega
/-- the entry laid anew -/
theorem lay_now {nv : Value} {a b c : Value} {t : ByteArray} {kk l p el : Int} {eb : Bool} {wv o2 : Value} (hb : wr.heap[X]? = some (scO t kk l p el eb wv o2)) (l2 : Int) (b2 : Bool) :
    ((((wr.setCell ⟨X, 4, none⟩ (.int .i64 l2)).setCell ⟨X, 5, none⟩ (.bool b2)).setCell ⟨X, 6, none⟩ (.slice none 0 0)).heap[X]? = some (scO t kk l p l2 b2 (.slice none 0 0) o2)) :=
  set_same (set_same (set_same hb))
theorem lay_far (l2 : Int) (b2 : Bool) {j : Nat} (hj : j ≠ X) : ((((wr.setCell ⟨X, 4, none⟩ (.int .i64 l2)).setCell ⟨X, 5, none⟩ (.bool b2)).setCell ⟨X, 6, none⟩ (.slice none 0 0)).heap[j]? = wr.heap[j]?) :=
  (set_far hj).trans ((set_far hj).trans (set_far hj))
/-- behind flush's last store -/
theorem SM.begun (hb : wr.heap[X]? = some (scO s k ln op now.line now.blank ws ov)) (hs : ∀ line bl, StM wr lo ov (.slice none 0 0) P ⟨line, bl, []⟩) (he : EffL X lo w0 wr) (hl : X < lo) (hz : lo ≤ wr.heap.size) (l2 : Int) (b2 : Bool) :
    SM X lo s w0 (((wr.setCell ⟨X, 4, none⟩ (.int .i64 l2)).setCell ⟨X, 5, none⟩ (.bool b2)).setCell ⟨X, 6, none⟩ (.slice none 0 0)) k ln op ⟨l2, b2, []⟩ (.slice none 0 0) ov P :=
  ⟨set_same (set_same (set_same hb)), (hs l2 b2).keptB (fun k hk _ => lay_far l2 b2 (by omega)), he.trans ((EffL.set _ _ _ _ _).trans ((EffL.set _ _ _ _ _).trans (EffL.set _ _ _ _ _))), hl, by simp [World.setCell]; exact hz⟩
end
theorem mblank_same (c : UInt8) (w : World) : Calls Tryd.prog 36 #[.int .u8 (c.toNat : Int)] w fun e w' => e = .returned (.bool (blankB c)) ∧ w' = w := (mblank_any c w).mono fun e w' h => ⟨h.1, h.2.symm⟩
/-- what flush leaves -/
def FlP (X lo : Nat) (s : ByteArray) (w0 : World) (k : Nat) (ln op : Int) (now : En) (ws ov : Value) (P : List (En × Value)) (e : Ending) (w' : World) : Prop :=
  e = .returned (.tuple #[]) ∧ ∃ ov' P', SM X lo s w0 w' k ln op (freshE s.data.toList k ln) (.slice none 0 0) ov' P' ∧ P'.map Prod.fst = flushE (P.map Prod.fst) now ∧ P'.length ≤ P.length + now.words.length
attribute [local irreducible] wpStill
set_option maxRecDepth 100000 in
set_option maxHeartbeats 2400000 in
theorem flush_any (X lo : Nat) (s : ByteArray) (w0 w : World) (k : Nat) (ln op : Int) (now : En) (ws ov : Value) (P : List (En × Value)) (h : SM X lo s w0 w k ln op now ws ov P) (hs : s.size ≤ 1099511627776) (hk : k ≤ s.size) (hp : P.length ≤ s.size) (hw : now.words.length ≤ s.size) :
    Calls Tryd.prog 35 #[.pointer (some ⟨X, 0, none⟩)] w (FlP X lo s w0 k ln op now ws ov P) := by
  obtain ⟨i1, hj, hy0, hy1, hy2⟩ := info_parts entW.infoEn
  have H := Lib.hid h
  clear h
  obtain ⟨aw, cw, hwv, hwc, hwm⟩ := own_slice H.out.st.words
  subst hwv
  obtain ⟨nw, hnw⟩ : ∃ nw, now.words.length = nw := ⟨_, rfl⟩
  rw [hnw] at H hwc hw
  have HNW := Lib.hid hnw
  obtain ⟨c0, c1, c2, c3, c4, c5, c6, c7, fz⟩ := sc_cells H.out.box
  have hX := blk_lt H.out.box
  clear hnw
  go_enter Tryd.func35, Tryd.ntmps35
  go_upto_if 8 with fail
  go_cut [] (fun wx => ∃ (ov' : Value) (P' : List (En × Value)), Hid (wx.heap[X]? = some (scO s k ln op now.line now.blank (.slice aw nw cw) ov')) ∧ Hid ((∀ line bl, StM wx lo ov' (.slice none 0 0) P' ⟨line, bl, []⟩) ∧ EffL X lo w0 wx ∧ lo ≤ wx.heap.size) ∧ Hid (P'.map Prod.fst = flushE (P.map Prod.fst) now ∧ P'.length ≤ P.length + nw))
  case first =>
    by_cases hn0 : nw = 0
    · subst hn0
      have HF : Hid (flushE (P.map Prod.fst) now = P.map Prod.fst) := Lib.hid (flush_none _ _ (by rw [List.isEmpty_iff]; exact List.eq_nil_of_length_eq_zero HNW.out))
      go_wp2_with fail
      go_meet
      exact ⟨ov, P, Lib.hid H.out.box, Lib.hid ⟨fun l b => H.out.st.fresh l b, H.out.eff, H.out.siz⟩, Lib.hid ⟨HF.out.symm, Nat.le_add_right _ _⟩⟩
    · have hn1 : 0 < nw := by omega
      have HF : Hid (flushE (P.map Prod.fst) now = (P ++ [(now, Value.slice aw nw cw)]).map Prod.fst) := Lib.hid (flush_map _ _ (Value.slice aw nw cw) (by rw [List.isEmpty_eq_false_iff]; intro h; have h2 := HNW.out; rw [h] at h2; exact hn0 h2.symm))
      have hrow := H.out.st.out.row
      have hrowd : w.drew.ownsRow lo 31 3 ov P.length (P.flatMap enC) := hrow
      have hsz := H.out.siz
      have FIN : Hid (∀ (g3 cp3 : Nat) (w2 : World), w2.ownsRow lo 31 3 (.slice (some ⟨g3, 0, none⟩) (P.length + 1) cp3) (P.length + 1) (P.flatMap enC ++ [.int .i64 now.line, .bool now.blank, .slice aw nw cw]) → (w.drew.alloc (.cells #[.int .i64 now.line, .bool now.blank, .slice aw nw cw] 31)).grownBy w2 ov.ownBlock →
          w2.cell? ⟨X, 7, none⟩ = some ov ∧ w2.frozen? ⟨X, 7, none⟩ = false ∧ X < w2.heap.size ∧ (w2.setCell ⟨X, 7, none⟩ (.slice (some ⟨g3, 0, none⟩) (P.length + 1) cp3)).heap[X]? = some (scO s k ln op now.line now.blank (.slice aw nw cw) (.slice (some ⟨g3, 0, none⟩) (P.length + 1) cp3)) ∧ (∀ line bl, StM (w2.setCell ⟨X, 7, none⟩ (.slice (some ⟨g3, 0, none⟩) (P.length + 1) cp3)) lo (.slice (some ⟨g3, 0, none⟩) (P.length + 1) cp3) (.slice none 0 0) (P ++ [(now, Value.slice aw nw cw)]) ⟨line, bl, []⟩) ∧ EffL X lo w0 (w2.setCell ⟨X, 7, none⟩ (.slice (some ⟨g3, 0, none⟩) (P.length + 1) cp3)) ∧ lo ≤ (w2.setCell ⟨X, 7, none⟩ (.slice (some ⟨g3, 0, none⟩) (P.length + 1) cp3)).heap.size) := Lib.hid (by
        intro g3 cp3 w2 h1 h2
        have hd := H.out.below ((Below.refl _ _).drew)
        obtain ⟨q1, q2, q3, q4⟩ := hd.flush (nv := .slice (some ⟨g3, 0, none⟩) (P.length + 1) cp3) h2 h1
        obtain ⟨_, _, _, _, _, _, _, p7, pz⟩ := sc_cells q1
        exact ⟨p7, pz 7, blk_lt q1, by simpa using set_same (i := 7) (v := Value.slice (some ⟨g3, 0, none⟩) (P.length + 1) cp3) q1, q2, q3, q4⟩)
      have y7 := fz 7
      clear hn0
      go_upto_region 1 with fail
      clear fz
      go_region_law (refine step_append_lies _ (by rfl) (.tmp 13) (.tmp 18) 22 (by rfl) lo 31 i1 (.agg #[.int .i64 0, .bool false, .slice none 0 0]) 3 40 Tryd.underlying22 hj hy0 hy1 hy2 (by rfl) (by decide) ov P.length (P.flatMap enC) (by simp [Act.eval]) (by first | exact hrow.alloc _ | exact hrowd.alloc _) ⟨w.heap.size, 0, none⟩ 1 1 [.int .i64 now.line, .bool now.blank, .slice aw nw cw] (by simp [Act.eval]) (by rfl) (by exact World.news_of_block (heap_alloc_new _ _)) (by simp [Value.oneCell']) (by decide) (by unfold maxLen; omega) (by omega) (by simp; omega) (w.heap.size + 1) (by simp) ?_; intro g3 cp3 w2 hown4 hgr4 hli4 _; have hfin := FIN.out _ _ _ hown4 hgr4; have q2 := hfin.1; have y3 := hfin.2.1; have hlt2 := hfin.2.2.1; have HFIN := Lib.hid hfin.2.2.2; clear hown4 hgr4 hli4 hfin)
      all_goals
        go_wp2_with fail
        go_meet
        exact ⟨_, _, Lib.hid HFIN.out.1, Lib.hid ⟨HFIN.out.2.1, HFIN.out.2.2.1, HFIN.out.2.2.2⟩, Lib.hid ⟨HF.out.symm, by rw [List.length_append]; simp; omega⟩⟩
  case rest =>
    obtain ⟨ov', P', HB, HS, HF⟩ := hcut
    clear c0 c1 c2 c3 c4 c5 c6 c7 fz hX
    obtain ⟨c0, c1, c2, c3, c4, c5, c6, c7, fz⟩ := sc_cells HB.out
    have hX := blk_lt HB.out
    have y4 := fz 4; have y5 := fz 5; have y6 := fz 6
    clear fz
    have zk : (0 : Int) ≤ (k : Int) := by omega
    by_cases hlt : k < s.size
    · have zl : (k : Int) < (s.size : Int) := by omega
      have CB := Lib.hid (fun w => mblank_same s[k] w)
      have HFR : Hid (freshE s.data.toList k ln = ⟨ln, blankB s[k], []⟩) := Lib.hid (by unfold freshE; rw [s_at s k hlt])
      obtain ⟨B, hB⟩ : ∃ B, blankB s[k] = B := ⟨_, rfl⟩
      rw [hB] at CB HFR
      clear hB
      go_upto_region 2 with fail
      go_still_tail 30, (by kernel_rfl)
      still_call (CB.out _)
      repeat still_step
      refine wpStill_nil ?_
      change wpList _ _ _ _ _ wc.drew
      generalize hqw : World.drew wc = wd
      have HBd : Hid (wd.heap[X]? = some (scO s k ln op now.line now.blank (.slice aw nw cw) ov')) := Lib.hid (by rw [← hqw]; exact HB.out)
      have HSd : Hid ((∀ line bl, StM wd lo ov' (.slice none 0 0) P' ⟨line, bl, []⟩) ∧ EffL X lo w0 wd ∧ lo ≤ wd.heap.size) := Lib.hid (by
        rw [← hqw]
        exact ⟨fun l b => (HS.out.1 l b).below ((Below.refl _ _).drew), HS.out.2.1.trans (EffL.of_below ((Below.refl _ _).drew)), HS.out.2.2⟩)
      clear c0 c1 c2 c3 c4 c5 c6 c7 y4 y5 y6 hqw HB HS
      obtain ⟨c0, c1, c2, c3, c4, c5, c6, c7, fz⟩ := sc_cells HBd.out
      have y4 := fz 4; have y5 := fz 5; have y6 := fz 6
      have hX := blk_lt HBd.out
      go_wp2_with fail
      refine bodyPost_ret (v := .tuple #[]) (by simp [results, Tryd.results35, go_sem]) rfl ⟨rfl, ov', P', ?_, HF.out.1, by rw [HNW.out]; exact HF.out.2⟩
      rw [HFR.out]
      exact SM.begun HBd.out HSd.out.1 HSd.out.2.1 H.out.low HSd.out.2.2 ln B
    · have zd : decide ((k : Int) < (s.size : Int)) = false := by rw [decide_eq_false_iff_not]; omega
      have HFR : Hid (freshE s.data.toList k ln = ⟨ln, false, []⟩) := Lib.hid (by unfold freshE; rw [List.getElem?_eq_none (by rw [size_len]; omega)])
      go_upto_region 2 with fail
      go_still_tail 30, (by kernel_rfl)
      change wpList _ _ _ _ _ wc.drew
      generalize hqw : World.drew wc = wd
      have HBd : Hid (wd.heap[X]? = some (scO s k ln op now.line now.blank (.slice aw nw cw) ov')) := Lib.hid (by rw [← hqw]; exact HB.out)
      have HSd : Hid ((∀ line bl, StM wd lo ov' (.slice none 0 0) P' ⟨line, bl, []⟩) ∧ EffL X lo w0 wd ∧ lo ≤ wd.heap.size) := Lib.hid (by
        rw [← hqw]
        exact ⟨fun l b => (HS.out.1 l b).below ((Below.refl _ _).drew), HS.out.2.1.trans (EffL.of_below ((Below.refl _ _).drew)), HS.out.2.2⟩)
      clear c0 c1 c2 c3 c4 c5 c6 c7 y4 y5 y6 hqw HB HS
      obtain ⟨c0, c1, c2, c3, c4, c5, c6, c7, fz⟩ := sc_cells HBd.out
      have y4 := fz 4; have y5 := fz 5; have y6 := fz 6
      have hX := blk_lt HBd.out
      go_wp2_with fail
      refine bodyPost_ret (v := .tuple #[]) (by simp [results, Tryd.results35, go_sem]) rfl ⟨rfl, ov', P', ?_, HF.out.1, by rw [HNW.out]; exact HF.out.2⟩
      rw [HFR.out]
      exact SM.begun HBd.out HSd.out.1 HSd.out.2.1 H.out.low HSd.out.2.2 ln false
end Go.Proofs.YtabmcambgdnaiaaDoor.flushW
