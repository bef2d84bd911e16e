/- gazetteersame.Words on equal lists: walk. -/
import Derived.Test.YtabmcambgdnaiaaDoorEntP
import Derived.Test.YtabmcambgdnaiaaDoorTimed
import Derived.Deep.QuietTactic
import Derived.BigQuiet
namespace Go.Proofs.YtabmcambgdnaiaaDoor.wordsS
open Go.RowKit Go.Proofs.YtabmcambgdnaiaaDoor.kit Go.Proofs.YtabmcambgdnaiaaDoor.timed Go.Proofs.YtabmcambgdnaiaaDoor.entP
set_option linter.unusedVariables false

def wdC (x : Wd) : List Value := [.string ⟨x.t.toArray⟩, .bool x.q]
def AtW (w : World) (g o : Nat) (x : Wd) : Prop := w.cell? ⟨g, o, none⟩ = some (.string ⟨x.t.toArray⟩) ∧ w.cell? ⟨g, o + 1, none⟩ = some (.bool x.q)
theorem at_w {w : World} {a : Option Addr} {L : List Wd} (h : RdC w a 2 (L.map wdC)) {j : Nat} {x : Wd} (hj : L[j]? = some x) : ∃ g o, a = some ⟨g, o, none⟩ ∧ g < w.heap.size ∧ AtW w g (o + j * 2) x := by
  obtain ⟨_, g, o, h1, h2, h3⟩ := h j (wdC x) (by rw [List.getElem?_map, hj]; rfl)
  exact ⟨g, o, h1, h2, h3 0 _ rfl, h3 1 _ rfl⟩
theorem AtW.below {w w' : World} {g o B : Nat} {x : Wd} (h : AtW w g o x) (hB : Below B w w') (hg : g < B) : AtW w' g o x :=
  ⟨(hB.cell (p := ⟨g, _, none⟩) hg).trans h.1, (hB.cell (p := ⟨g, _, none⟩) hg).trans h.2⟩
theorem drew_two (w : World) (m n : Nat) : (w.drewN m).drewN n = w.drewN (m + n) := by
  simp [World.drewN, Nat.add_assoc]
theorem bel_drewN {B : Nat} {w w' : World} (h : Below B w w') (n : Nat) : Below B w (w'.drewN n) := ⟨h.os, h.tape, h.output, h.size, h.block⟩
set_option maxRecDepth 100000 in
set_option maxHeartbeats 2000000 in
theorem words_same (a b : Option Addr) (n c d : Nat) (L : List Wd) (w : World) (hn : n = L.length) (hx : RdC w a 2 (L.map wdC)) (hy : RdC w b 2 (L.map wdC)) (hl : n ≤ 1099511627776) :
    Calls Tryd.prog 21 #[.slice a n c, .slice b n d] w fun e w' => e = .returned (.bool true) ∧ ∃ m, w' = w.drewN m := by
  have HN := Lib.hid hn; have HX := Lib.hid hx; have HY := Lib.hid hy
  clear hn hx hy
  go_enter Tryd.func21, Tryd.ntmps21
  go_wp2
  go_loopg [5, 13] (n + 1) (fun gas _ kv wr => ∃ (k : Nat), kv = .int .i64 k ∧ k ≤ n ∧ k + gas = n + 1 ∧ Hid (∃ m, wr = w.drewN m))
  case atStart => exact ⟨0, rfl, by omega, by omega, Lib.hid ⟨0, rfl⟩⟩
  case round =>
    obtain ⟨k, rfl, hk, hkg, HD⟩ := hrel
    have hB : Hid (Below w.heap.size w wr) := Lib.hid (by obtain ⟨m, e⟩ := HD.out; rw [e]; exact bel_drewN (Below.refl _ _) m)
    have HK := Lib.hid hkg; clear hkg
    by_cases hlt : k < n
    · obtain ⟨x, hp⟩ : ∃ x, L[k]? = some x := ⟨_, List.getElem?_eq_getElem (by have := HN.out; omega)⟩
      obtain ⟨g1, o1, rfl, hg1, hcl1⟩ := at_w HX.out hp
      obtain ⟨g2, o2, rfl, hg2, hcl2⟩ := at_w HY.out hp
      obtain ⟨x0, x1⟩ := hcl1.below hB.out hg1
      obtain ⟨y0, y1⟩ := hcl2.below hB.out hg2
      obtain ⟨T, hT⟩ : ∃ T : ByteArray, (⟨x.t.toArray⟩ : ByteArray) = T := ⟨_, rfl⟩
      obtain ⟨q, hq⟩ : ∃ q, x.q = q := ⟨_, rfl⟩
      rw [hT] at x0 y0
      rw [hq] at x1 y1
      clear hp hcl1 hcl2 hT hq
      have zk : (0 : Int) ≤ (k : Int) := by omega
      have zl : (k : Int) < (n : Int) := by omega
      go_wp2_with fail
      go_quiet (fail)
      have hBn : Hid (∃ m, wr.drewN nq = w.drewN m) := Lib.hid (by obtain ⟨m, e⟩ := HD.out; rw [e]; exact ⟨m + nq, drew_two w m nq⟩)
      go_wp2
      have hkg := HK.out
      go_roundg (gk - 1)
      case rel => exact ⟨k + 1, by go_num, by omega, by omega, hBn⟩
      case measure => omega
    · go_wp2_with fail
      go_ret
      exact ⟨rfl, HD.out⟩
end Go.Proofs.YtabmcambgdnaiaaDoor.wordsS
