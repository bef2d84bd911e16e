/- gazetteersame.Entries on equal lists: walk. -/
import Derived.Test.YtabmcambgdnaiaaDoorWordsS
import Derived.Deep.DeepCutAuto
namespace Go.Proofs.YtabmcambgdnaiaaDoor.entsS
open Go.RowKit Go.Proofs.YtabmcambgdnaiaaDoor.kit Go.Proofs.YtabmcambgdnaiaaDoor.timed Go.Proofs.YtabmcambgdnaiaaDoor.entP Go.Proofs.YtabmcambgdnaiaaDoor.wordsS
set_option linter.unusedVariables false

/-- an entry that can be read, its words too -/
def AtE (w : World) (g o : Nat) (x : En) (wa : Option Addr) (wc : Nat) : Prop := w.cell? ⟨g, o, none⟩ = some (.int .i64 x.line) ∧ w.cell? ⟨g, o + 1, none⟩ = some (.bool x.blank) ∧ w.cell? ⟨g, o + 2, none⟩ = some (.slice wa x.words.length wc)
def RdE (w : World) (a : Option Addr) (L : List En) : Prop := ∀ (j : Nat) (x : En), L[j]? = some x → ∃ g o wa wc, a = some ⟨g, o, none⟩ ∧ g < w.heap.size ∧ AtE w g (o + j * 3) x wa wc ∧ RdC w wa 2 (x.words.map wdC) ∧ x.words.length ≤ 1099511627776
theorem AtE.below {w w' : World} {g o B wc : Nat} {x : En} {wa : Option Addr} (h : AtE w g o x wa wc) (hB : Below B w w') (hg : g < B) : AtE w' g o x wa wc :=
  ⟨(hB.cell (p := ⟨g, _, none⟩) hg).trans h.1, (hB.cell (p := ⟨g, _, none⟩) hg).trans h.2.1, (hB.cell (p := ⟨g, _, none⟩) hg).trans h.2.2⟩
set_option maxRecDepth 100000 in
set_option maxHeartbeats 2400000 in
theorem entries_same (a b : Option Addr) (n c d : Nat) (L : List En) (w : World) (hn : n = L.length) (hx : RdE w a L) (hy : RdE w b L) (hl : n ≤ 1099511627776) :
    Calls Tryd.prog 7 #[.slice a n c, .slice b n d] w fun e w' => e = .returned (.bool true) ∧ ∃ m, w' = w.drewN m := by
  have HN := Lib.hid hn; have HX := Lib.hid hx; have HY := Lib.hid hy
  clear hn hx hy
  go_enter Tryd.func7, Tryd.ntmps7
  go_wp2
  go_loopg [5, 13] (n + 1) (fun gas _ kv wr => ∃ (k : Nat), kv = .int .i64 k ∧ k ≤ n ∧ k + gas = n + 1 ∧ Hid (∃ m, wr = w.drewN m))
  case atStart => exact ⟨0, rfl, by omega, by omega, Lib.hid ⟨0, rfl⟩⟩
  case round =>
    obtain ⟨k, rfl, hk, hkg, HD⟩ := hrel
    have hB : Hid (Below w.heap.size w wr) := Lib.hid (by obtain ⟨m, e⟩ := HD.out; rw [e]; exact wordsS.bel_drewN (Below.refl _ _) m)
    have HK := Lib.hid hkg; clear hkg
    by_cases hlt : k < n
    · obtain ⟨x, hp⟩ : ∃ x, L[k]? = some x := ⟨_, List.getElem?_eq_getElem (by have := HN.out; omega)⟩
      obtain ⟨g1, o1, wa1, wc1, rfl, hg1, hcl1, hr1, hwl⟩ := HX.out k x hp
      obtain ⟨g2, o2, wa2, wc2, rfl, hg2, hcl2, hr2, _⟩ := HY.out k x hp
      obtain ⟨x0, x1, x2⟩ := hcl1.below hB.out hg1
      obtain ⟨y0, y1, y2⟩ := hcl2.below hB.out hg2
      obtain ⟨nw, hnw⟩ : ∃ nw, x.words.length = nw := ⟨_, rfl⟩
      have CW := Lib.hid (fun (m : Nat) => words_same wa1 wa2 nw wc1 wc2 x.words (wr.drewN m) hnw.symm ((hr1.below hB.out rfl).below (wordsS.bel_drewN (Below.refl wr.heap.size wr) m) rfl) ((hr2.below hB.out rfl).below (wordsS.bel_drewN (Below.refl wr.heap.size wr) m) rfl) (by omega))
      rw [hnw] at x2 y2
      obtain ⟨ln, hln⟩ : ∃ ln, x.line = ln := ⟨_, rfl⟩
      obtain ⟨bl, hbl⟩ : ∃ bl, x.blank = bl := ⟨_, rfl⟩
      rw [hln] at x0 y0
      rw [hbl] at x1 y1
      have zk : (0 : Int) ≤ (k : Int) := by omega
      have zl : (k : Int) < (n : Int) := by omega
      have e0 : (ln != ln) = false := by simp
      have e1 : (bl != bl) = false := by simp
      clear hp hcl1 hcl2 hln hbl hr1 hr2 hnw hwl
      go_upto_region 6 with fail
      trace "1"
      go_quiet ((go_at_call 21; exact Calls.quiet_of (CW.out _)))
      trace "2"
      have hBn : Hid (∃ m, wr.drewN nq = w.drewN m) := Lib.hid (by obtain ⟨m, e⟩ := HD.out; rw [e]; exact ⟨m + nq, drew_two w m nq⟩)
      go_wp2_with fail
      have hkg := HK.out
      go_roundg (gk - 1)
      case rel => exact ⟨k + 1, by go_num, by omega, by omega, hBn⟩
      case measure => omega
    · go_wp2_with fail
      go_ret
      exact ⟨rfl, HD.out⟩
end Go.Proofs.YtabmcambgdnaiaaDoor.entsS
