/- (*master.scanner).word: walk. (UNDER WAY: does it build? see NOTES) -/
import Derived.Test.YtabmcambgdnaiaaDoorBadW
import Derived.Test.YtabmcambgdnaiaaDoorShelf
import Derived.Deep.QuietTactic
import Derived.BigQuiet
import Derived.Deep.DeepCutAuto
namespace Go.Proofs.YtabmcambgdnaiaaDoor.wordW
open Go.RowKit Go.Proofs.YtabmcambgdnaiaaDoor.kit Go.Proofs.YtabmcambgdnaiaaDoor.entP Go.Proofs.YtabmcambgdnaiaaDoor.tokW
set_option linter.unusedVariables false

/-- the scanner's box -/
abbrev scO (s : ByteArray) (k ln op el : Int) (eb : Bool) (ws out : Value) : Obj := .cells #[.string s, .int .i64 k, .int .i64 ln, .int .i64 op, .int .i64 el, .bool eb, ws, out] 44
theorem sc_cells {w : World} {X : Nat} {s : ByteArray} {k ln op el : Int} {eb : Bool} {ws out : Value} (h : w.heap[X]? = some (scO s k ln op el eb ws out)) :
    w.cell? ⟨X, 0, none⟩ = some (.string s) ∧ w.cell? ⟨X, 1, none⟩ = some (.int .i64 k) ∧ w.cell? ⟨X, 2, none⟩ = some (.int .i64 ln) ∧ w.cell? ⟨X, 3, none⟩ = some (.int .i64 op) ∧ w.cell? ⟨X, 4, none⟩ = some (.int .i64 el) ∧ w.cell? ⟨X, 5, none⟩ = some (.bool eb) ∧ w.cell? ⟨X, 6, none⟩ = some ws ∧ w.cell? ⟨X, 7, none⟩ = some out ∧ ∀ j, w.frozen? ⟨X, j, none⟩ = false := by
  refine ⟨?_, ?_, ?_, ?_, ?_, ?_, ?_, ?_, fun j => by simp [World.frozen?, h]⟩ <;> (simp only [World.cell?, h]; rfl)
theorem sc_at {w : World} {X : Nat} {s : ByteArray} {k ln op el : Int} {eb : Bool} {ws out : Value} (h : w.heap[X]? = some (scO s k ln op el eb ws out)) (j : Int) : (w.setCell ⟨X, 1, none⟩ (.int .i64 j)).heap[X]? = some (scO s j ln op el eb ws out) := by
  simp [World.setCell, Array.getElem?_modify, h]
/-- all is kept but the box -/
structure EffX (X : Nat) (w w' : World) : Prop where
  os : w'.os = w.os
  tape : w'.tape = w.tape
  output : w'.output = w.output
  size : w.heap.size ≤ w'.heap.size
  kept : ∀ k, k < w.heap.size → k ≠ X → w'.heap[k]? = w.heap[k]?
theorem EffX.refl (X : Nat) (w : World) : EffX X w w := ⟨rfl, rfl, rfl, Nat.le_refl _, fun _ _ _ => rfl⟩
theorem EffX.trans {X : Nat} {w w1 w2 : World} (h : EffX X w w1) (g : EffX X w1 w2) : EffX X w w2 :=
  ⟨g.os.trans h.os, g.tape.trans h.tape, g.output.trans h.output, Nat.le_trans h.size g.size, fun k hk hn => (g.kept k (Nat.lt_of_lt_of_le hk h.size) hn).trans (h.kept k hk hn)⟩
theorem EffX.of_below {X : Nat} {w w1 : World} (h : Below w.heap.size w w1) : EffX X w w1 := ⟨h.os, h.tape, h.output, h.size, fun k hk _ => h.block k hk⟩
theorem EffX.set (X i : Nat) (v : Value) (w : World) : EffX X w (w.setCell ⟨X, i, none⟩ v) :=
  ⟨rfl, rfl, rfl, by simp [World.setCell], fun k _ hn => Below.heap_setCell w ⟨X, i, none⟩ v k hn⟩
theorem EffX.drew (X : Nat) (w : World) : EffX X w w.drew := ⟨rfl, rfl, rfl, Nat.le_refl _, fun _ _ _ => rfl⟩
theorem ib (s : ByteArray) (c : UInt8) (w : World) : Calls Tryd.prog 53 #[.string s, .int .u8 (c.toNat : Int)] w fun e w' => e = .returned (.int .i64 (Lib.indexByte s.data.toList c)) ∧ w' = w := by
  have h := Tryd.strings_IndexByte s (c.toNat : Int) w
  have e : ((c.toNat : Int)).toNat.toUInt8 = c := by simp
  rw [e] at h; exact h
/-- the bytes that end a word, as a text -/
def StopT (q : Bool) (st : ByteArray) : Prop := ∀ c : UInt8, (Lib.indexByte st.data.toList c < 0) ↔ stopB q c = false
/-- what word answers -/
def WordR (q : Bool) (s : ByteArray) (X k : Nat) (ln op el : Int) (eb : Bool) (ws out : Value) (w : World) (e : Ending) (w' : World) : Prop := EffX X w w' ∧ ∃ j : Nat, w'.heap[X]? = some (scO s j ln op el eb ws out) ∧ j ≤ s.size ∧
      ((wordAt q s.data.toList k = some j ∧ e = .returned (.tuple #[.string (s.extract k j), .nilIface])) ∨
       (wordAt q s.data.toList k = none ∧ ∃ Y, w.heap.size ≤ Y ∧ w'.heap[Y]? = some (.cells #[.int .i64 2, .string ⟨#[]⟩, .int .i64 ln] 73) ∧ e = .returned (.tuple #[.string ⟨#[]⟩, .iface 69 (.pointer (some ⟨Y, 0, none⟩))])))
theorem word_bad {q : Bool} {s : ByteArray} {X k j : Nat} {ln op el : Int} {eb : Bool} {ws out : Value} {w v : World} (hE : EffX X w v) (hX : v.heap[X]? = some (scO s j ln op el eb ws out)) (hj : j ≤ s.size) (hR : wordAt q s.data.toList k = none) :
    WordR q s X k ln op el eb ws out w (.returned (.tuple #[.string ⟨#[]⟩, .iface 69 (.pointer (some ⟨v.heap.size, 0, none⟩))])) (v.alloc (.cells #[.int .i64 2, .string ⟨#[]⟩, .int .i64 ln] 73)) :=
  ⟨hE.trans (EffX.of_below ((Below.refl _ _).alloc (Nat.le_refl _) _)), j, (((Below.refl v.heap.size v).alloc (Nat.le_refl _) _).block X (Array.getElem?_eq_some_iff.1 hX).1).trans hX, hj, .inr ⟨hR, v.heap.size, hE.size, heap_alloc_new _ _, rfl⟩⟩
set_option maxRecDepth 100000 in
set_option maxHeartbeats 2400000 in
theorem word_any (q : Bool) (st s : ByteArray) (hst : StopT q st) (X k : Nat) (ln op el : Int) (eb : Bool) (ws out : Value) (w : World) (hs : s.size ≤ 1099511627776) (hk : k ≤ s.size) (hX : w.heap[X]? = some (scO s k ln op el eb ws out)) :
    Calls Tryd.prog 38 #[.pointer (some ⟨X, 0, none⟩), .string st] w (WordR q s X k ln op el eb ws out w) := by
  obtain ⟨R, hR⟩ : ∃ R, wordAt q s.data.toList k = R := ⟨_, rfl⟩
  have HR := Lib.hid hR
  have HX := Lib.hid hX
  have HST := Lib.hid hst
  obtain ⟨c0, c1, c2, c3, c4, c5, c6, c7, fz⟩ := sc_cells hX
  clear hX hR hst
  go_enter Tryd.func38, Tryd.ntmps38
  go_wp2_with fail
  clear c0 c1 c2 c3 c4 c5 c6 c7 fz
  go_loopg [] (s.size + 1 - k) (fun gas wr => ∃ j : Nat, j + gas = s.size + 1 ∧ j ≤ s.size ∧ k ≤ j ∧ Hid (wordAt q s.data.toList j = R) ∧ Hid (wr.heap[X]? = some (scO s j ln op el eb ws out)) ∧ Hid (EffX X w wr))
  case atStart => exact ⟨k, by omega, by omega, by omega, HR, HX, Lib.hid (EffX.refl _ _)⟩
  case round =>
    obtain ⟨j, hj, hjs, hkj, HRJ, HXJ, HE⟩ := hrel
    have HJ := Lib.hid hj
    clear hj
    obtain ⟨c0, c1, c2, c3, c4, c5, c6, c7, fz⟩ := sc_cells HXJ.out
    by_cases hlt : j < s.size
    · have CI := Lib.hid (fun w => ib st s[j] w)
      obtain ⟨V, hV⟩ : ∃ V, Lib.indexByte st.data.toList s[j] = V := ⟨_, rfl⟩
      rw [hV] at CI
      have HV := Lib.hid hV
      clear hV
      by_cases hneg : V < 0
      · have hsf := (HST.out s[j]).1 (by rw [HV.out]; exact hneg)
        have HSF := Lib.hid hsf
        clear hsf
        go_upto_region 2 with fail
        go_quiet ((go_at_call 53; exact Calls.quiet_of_same (CI.out _)))
        generalize hqw1 : World.drewN _ _ = w1
        have HXw1 : Hid (w1.heap[X]? = some (scO s (j : Int) ln op el eb ws out)) := Lib.hid (by rw [← hqw1]; exact HXJ.out)
        have HEw1 : Hid (EffX X w w1) := Lib.hid (by rw [← hqw1]; exact ⟨HE.out.os, HE.out.tape, HE.out.output, HE.out.size, HE.out.kept⟩)
        clear hqw1 c0 c1 c2 c3 c4 c5 c6 c7 fz
        obtain ⟨c0, c1, c2, c3, c4, c5, c6, c7, fz⟩ := sc_cells HXw1.out
        by_cases h92 : s[j] = 92
        · have c92 := yb (m := 92) rfl h92
          have HAT := Lib.hid ((s_at s j hlt).trans (congrArg some h92))
          clear h92
          trace "1"
          go_upto_region 3 with fail
          go_quiet (fail)
          generalize hqw2 : World.drewN _ _ = w2
          have HXw2 : Hid (w2.heap[X]? = some (scO s (j : Int) ln op el eb ws out)) := Lib.hid (by rw [← hqw2]; exact HXw1.out)
          have HEw2 : Hid (EffX X w w2) := Lib.hid (by rw [← hqw2]; exact ⟨HEw1.out.os, HEw1.out.tape, HEw1.out.output, HEw1.out.size, HEw1.out.kept⟩)
          clear hqw2 c0 c1 c2 c3 c4 c5 c6 c7 fz
          obtain ⟨c0, c1, c2, c3, c4, c5, c6, c7, fz⟩ := sc_cells HXw2.out
          trace "2"
          have f1 := fz 1
          go_upto_region 5 with fail
          generalize hs3 : World.setCell _ _ _ = w3
          have HXw3 : Hid (w3.heap[X]? = some (scO s ((j + 1 : Nat) : Int) ln op el eb ws out)) := Lib.hid (by rw [← hs3]; exact sc_at HXw2.out _)
          have HEw3 : Hid (EffX X w w3) := Lib.hid (by rw [← hs3]; exact HEw2.out.trans (EffX.set _ _ _ _))
          clear hs3 f1 c0 c1 c2 c3 c4 c5 c6 c7 fz
          obtain ⟨j1, hj1⟩ : ∃ j1, j + 1 = j1 := ⟨_, rfl⟩
          rw [hj1] at HXw3
          obtain ⟨c0, c1, c2, c3, c4, c5, c6, c7, fz⟩ := sc_cells HXw3.out
          by_cases hl2 : j1 = s.size
          · have HF : Hid (R = none) := Lib.hid (by rw [← HRJ.out]; exact word_bad1 HAT.out (by simp; omega))
            have e1 : ((j1 : Int) == (s.size : Int)) = true := by rw [hl2]; simp
            go_quiet (fail)
            generalize hqw4 : World.drewN _ _ = w4
            have HXw4 : Hid (w4.heap[X]? = some (scO s (j1 : Int) ln op el eb ws out)) := Lib.hid (by rw [← hqw4]; exact HXw3.out)
            have HEw4 : Hid (EffX X w w4) := Lib.hid (by rw [← hqw4]; exact ⟨HEw3.out.os, HEw3.out.tape, HEw3.out.output, HEw3.out.size, HEw3.out.kept⟩)
            clear hqw4 c0 c1 c2 c3 c4 c5 c6 c7 fz
            obtain ⟨c0, c1, c2, c3, c4, c5, c6, c7, fz⟩ := sc_cells HXw4.out
            have CBAD := Lib.hid (badW.bad_any X 2 ln w4)
            trace "2b"
            go_wp2_with fail
            refine CBAD.out.mono ?_
            rintro e w5 ⟨rfl, rfl⟩
            go_wp2_with fail
            go_ret2
            exact word_bad HEw4.out HXw4.out (by omega) (by rw [HR.out, HF.out])
          have e1 : ((j1 : Int) == (s.size : Int)) = false := by rw [beq_eq_false_iff_ne]; omega
          have hlt2 : j1 < s.size := by omega
          by_cases e10 : s[j1] = 10
          · have d10 := yb (m := 10) rfl e10
            have HF : Hid (R = none) := Lib.hid (by rw [← HRJ.out]; exact word_bad2 HAT.out (by rw [hj1, s_at s j1 hlt2, e10]))
            clear e10
            go_quiet (fail)
            generalize hqw4 : World.drewN _ _ = w4
            have HXw4 : Hid (w4.heap[X]? = some (scO s (j1 : Int) ln op el eb ws out)) := Lib.hid (by rw [← hqw4]; exact HXw3.out)
            have HEw4 : Hid (EffX X w w4) := Lib.hid (by rw [← hqw4]; exact ⟨HEw3.out.os, HEw3.out.tape, HEw3.out.output, HEw3.out.size, HEw3.out.kept⟩)
            clear hqw4 c0 c1 c2 c3 c4 c5 c6 c7 fz
            obtain ⟨c0, c1, c2, c3, c4, c5, c6, c7, fz⟩ := sc_cells HXw4.out
            have CBAD := Lib.hid (badW.bad_any X 2 ln w4)
            trace "2b"
            go_wp2_with fail
            refine CBAD.out.mono ?_
            rintro e w5 ⟨rfl, rfl⟩
            go_wp2_with fail
            go_ret2
            exact word_bad HEw4.out HXw4.out (by omega) (by rw [HR.out, HF.out])
          have d10 := nb (m := 10) rfl e10
          have HF : Hid (wordAt q s.data.toList (j + 2) = R) := Lib.hid ((word_esc HAT.out (by rw [hj1]; exact s_at s j1 hlt2) e10).symm.trans HRJ.out)
          clear e10
          go_quiet (fail)
          generalize hqw4 : World.drewN _ _ = w4
          have HXw4 : Hid (w4.heap[X]? = some (scO s (j1 : Int) ln op el eb ws out)) := Lib.hid (by rw [← hqw4]; exact HXw3.out)
          have HEw4 : Hid (EffX X w w4) := Lib.hid (by rw [← hqw4]; exact ⟨HEw3.out.os, HEw3.out.tape, HEw3.out.output, HEw3.out.size, HEw3.out.kept⟩)
          clear hqw4 c0 c1 c2 c3 c4 c5 c6 c7 fz
          obtain ⟨c0, c1, c2, c3, c4, c5, c6, c7, fz⟩ := sc_cells HXw4.out
          have f1 := fz 1
          have HFIN : Hid ((w4.setCell ⟨X, 1, none⟩ (.int .i64 ((j1 : Int) + 1))).heap[X]? = some (scO s ((j + 2 : Nat) : Int) ln op el eb ws out)) := Lib.hid (by
            have h9 : ((j + 2 : Nat) : Int) = (j1 : Int) + 1 := by omega
            rw [h9]; exact sc_at HXw4.out _)
          trace "2c"
          go_wp2_with fail
          have hj := HJ.out
          go_roundg (gk - 2)
          case rel => exact ⟨j + 2, by omega, by omega, by omega, HF, HFIN, Lib.hid (HEw4.out.trans (EffX.set _ _ _ _))⟩
          case measure => omega
        · have c92 := nb (m := 92) rfl h92
          have HF := Lib.hid ((word_plain (s_at s j hlt) HSF.out h92).symm.trans HRJ.out)
          clear h92
          trace "3"
          go_upto_region 3 with fail
          go_quiet (fail)
          generalize hqw2 : World.drewN _ _ = w2
          have HXw2 : Hid (w2.heap[X]? = some (scO s (j : Int) ln op el eb ws out)) := Lib.hid (by rw [← hqw2]; exact HXw1.out)
          have HEw2 : Hid (EffX X w w2) := Lib.hid (by rw [← hqw2]; exact ⟨HEw1.out.os, HEw1.out.tape, HEw1.out.output, HEw1.out.size, HEw1.out.kept⟩)
          clear hqw2 c0 c1 c2 c3 c4 c5 c6 c7 fz
          obtain ⟨c0, c1, c2, c3, c4, c5, c6, c7, fz⟩ := sc_cells HXw2.out
          have f1 := fz 1
          trace "4"
          go_wp2_with fail
          have hj := HJ.out
          go_roundg (gk - 1)
          case rel => exact ⟨j + 1, by omega, by omega, by omega, HF, Lib.hid (sc_at HXw2.out _), Lib.hid (HEw2.out.trans (EffX.set _ _ _ _))⟩
          case measure => omega
      · have hsf : stopB q s[j] = true := by
          cases hb : stopB q s[j] with
          | true => rfl
          | false => exact absurd ((HST.out s[j]).2 hb) (by rw [HV.out]; exact hneg)
        have HF : Hid (R = some j) := Lib.hid (by rw [← HRJ.out]; exact word_stop (s_at s j hlt) hsf)
        clear hsf
        trace "5"
        go_upto_region 2 with fail
        go_quiet ((go_at_call 53; exact Calls.quiet_of_same (CI.out _)))
        generalize hqw1 : World.drewN _ _ = w1
        have HXw1 : Hid (w1.heap[X]? = some (scO s (j : Int) ln op el eb ws out)) := Lib.hid (by rw [← hqw1]; exact HXJ.out)
        have HEw1 : Hid (EffX X w w1) := Lib.hid (by rw [← hqw1]; exact ⟨HE.out.os, HE.out.tape, HE.out.output, HE.out.size, HE.out.kept⟩)
        clear hqw1 c0 c1 c2 c3 c4 c5 c6 c7 fz
        obtain ⟨c0, c1, c2, c3, c4, c5, c6, c7, fz⟩ := sc_cells HXw1.out
        trace "6"
        go_upto_region 8 with fail
        go_quiet (fail)
        generalize hqw2 : World.drewN _ _ = w2
        have HXw2 : Hid (w2.heap[X]? = some (scO s (j : Int) ln op el eb ws out)) := Lib.hid (by rw [← hqw2]; exact HXw1.out)
        have HEw2 : Hid (EffX X w w2) := Lib.hid (by rw [← hqw2]; exact ⟨HEw1.out.os, HEw1.out.tape, HEw1.out.output, HEw1.out.size, HEw1.out.kept⟩)
        clear hqw2 c0 c1 c2 c3 c4 c5 c6 c7 fz
        obtain ⟨c0, c1, c2, c3, c4, c5, c6, c7, fz⟩ := sc_cells HXw2.out
        trace "7"
        go_wp2_with fail
        go_ret2
        exact ⟨HEw2.out, j, HXw2.out, by omega, .inl ⟨by rw [HR.out, HF.out], rfl⟩⟩
    · have HF : Hid (R = some j) := Lib.hid (by rw [← HRJ.out]; exact word_end (by simp; omega))
      trace "8"
      go_upto_region 2 with fail
      go_quiet (fail)
      generalize hqw1 : World.drewN _ _ = w1
      have HXw1 : Hid (w1.heap[X]? = some (scO s (j : Int) ln op el eb ws out)) := Lib.hid (by rw [← hqw1]; exact HXJ.out)
      have HEw1 : Hid (EffX X w w1) := Lib.hid (by rw [← hqw1]; exact ⟨HE.out.os, HE.out.tape, HE.out.output, HE.out.size, HE.out.kept⟩)
      clear hqw1 c0 c1 c2 c3 c4 c5 c6 c7 fz
      obtain ⟨c0, c1, c2, c3, c4, c5, c6, c7, fz⟩ := sc_cells HXw1.out
      trace "9"
      go_upto_region 8 with fail
      go_quiet (fail)
      generalize hqw2 : World.drewN _ _ = w2
      have HXw2 : Hid (w2.heap[X]? = some (scO s (j : Int) ln op el eb ws out)) := Lib.hid (by rw [← hqw2]; exact HXw1.out)
      have HEw2 : Hid (EffX X w w2) := Lib.hid (by rw [← hqw2]; exact ⟨HEw1.out.os, HEw1.out.tape, HEw1.out.output, HEw1.out.size, HEw1.out.kept⟩)
      clear hqw2 c0 c1 c2 c3 c4 c5 c6 c7 fz
      obtain ⟨c0, c1, c2, c3, c4, c5, c6, c7, fz⟩ := sc_cells HXw2.out
      go_wp2_with fail
      go_ret2
      exact ⟨HEw2.out, j, HXw2.out, by omega, .inl ⟨by rw [HR.out, HF.out], rfl⟩⟩
end Go.Proofs.YtabmcambgdnaiaaDoor.wordW
