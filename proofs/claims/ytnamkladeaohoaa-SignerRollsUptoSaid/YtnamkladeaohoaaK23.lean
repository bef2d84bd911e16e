/- wire.Unpack's deferred closure: walk. wire.Unpack's memory on the way. signer.Safe's two lists of times on the way. signer.meet, gazetteerref4.Served: walks. -/
import Derived.Test.YtnamkladeaohoaaK21
import Derived.Test.YtnamkladeaohoaaK22
import Derived.Test.YtnamkladeaohoaaK2
import Derived.Recover
import Derived.BigRegion
import Derived.Deep.RegionHeld3
import Derived.OwnWalk
namespace Go.Proofs.Ytnamkladeaohoaa.udoor
open Go.RowKit Go.Proofs.Ytnamkladeaohoaa.kit Go.Proofs.Ytnamkladeaohoaa.unpP Go.Proofs.Ytnamkladeaohoaa.wireP Go.Proofs.Ytnamkladeaohoaa.wireM Go.Proofs.Ytnamkladeaohoaa.wpack Go.Proofs.Ytnamkladeaohoaa.putM
set_option linter.unusedVariables false

theorem lt_cell {w : World} {a : Addr} {v : Value} (h : w.cell? a = some v) : a.block < w.heap.size := World.block_lt_of_cell? w a h
end Go.Proofs.Ytnamkladeaohoaa.udoor
namespace Go.Proofs.Ytnamkladeaohoaa.ust
open Go.RowKit Go.Proofs.Ytnamkladeaohoaa.kit Go.Proofs.Ytnamkladeaohoaa.nspec Go.Proofs.Ytnamkladeaohoaa.unpP Go.Proofs.Ytnamkladeaohoaa.wireP Go.Proofs.Ytnamkladeaohoaa.wireM Go.Proofs.Ytnamkladeaohoaa.wireC Go.Proofs.Ytnamkladeaohoaa.wpack Go.Proofs.Ytnamkladeaohoaa.rows Go.Proofs.Ytnamkladeaohoaa.cur Go.Proofs.Ytnamkladeaohoaa.putM Go.Proofs.Ytnamkladeaohoaa.udoor
set_option linter.unusedVariables false

/-- two places in blocks of their own -/
def Apart (a b : Option Addr) : Prop := ∀ x y, a = some x → b = some y → x.block ≠ y.block
theorem Apart.none_l (b : Option Addr) : Apart none b := fun _ _ h => by cases h
theorem Apart.none_r (a : Option Addr) : Apart a none := fun _ _ _ h => by cases h
theorem Apart.symm {a b : Option Addr} (h : Apart a b) : Apart b a := fun x y hx hy e => h y x hy hx e.symm
/-- what came in -/
structure In0 (b0 : Nat) (w0 : World) (a : Option Addr) (b : Bs) (cap : Nat) : Prop where
  hb : w0.heap.size = b0
  rd : RdB w0 a b
  le : b.length ≤ cap
  cm : cap ≤ maxLen
theorem rdB_below {w w1 : World} {a : Option Addr} {b : Bs} (h : RdB w a b) (hB : Below w.heap.size w w1) : RdB w1 a b := by
  intro j c hc
  obtain ⟨g, o, h1, h2, h3⟩ := h j c hc
  exact ⟨g, o, h1, Nat.lt_of_lt_of_le h2 hB.size, (hB.cell (p := ⟨g, o + j, none⟩) h2).trans h3⟩
section
variable {b0 : Nat} {w0 wr w1 : World} {a : Option Addr} {b : Bs} {cap : Nat} {pl : Pl} {m : Mg} {k g : Nat}
theorem blk_lt {w : World} {k : Nat} {o : Obj} (h : w.heap[k]? = some o) : k < w.heap.size := (Array.getElem?_eq_some_iff.1 h).1
theorem other_t {w : World} {k X : Nat} {c c' : Array Value} {t t' : TypeId} (h : w.heap[k]? = some (.cells c t (0, 0))) (hX : w.heap[X]? = some (.cells c' t' (0, 0))) (hne : t ≠ t') : k ≠ X := by
  intro e; subst e; rw [h] at hX; injection hX with hX; injection hX with _ h2 _; exact hne h2
theorem own_far {W : World} {v v' : Value} {n n' : Nat} {xs xs' : List Value} {sz sz' : Nat} {t t' : TypeId} (h : W.ownsRow b0 t' sz' v' n' xs') (hv : W.ownsRow b0 t sz v n xs) (hgr : W.grownBy w1 v.ownBlock) (ht : t ≠ t') : w1.ownsRow b0 t' sz' v' n' xs' :=
  own_keptG h (fun j c hj => (hgr.block j (blk_lt hj) (row_neG hv hj (fun c' f e => by injection e with _ e2 _; exact ht e2.symm))).trans hj)
theorem ownB (x : Option Addr) (n c : Nat) : (Value.slice x n c).ownBlock = x.map Addr.block := by cases x <;> rfl
theorem own_apart {W : World} {x y : Option Addr} {n c : Nat} {xs' : List Value} {n' c' : Nat} {sz' : Nat} {t' : TypeId} (h : W.ownsRow b0 t' sz' (.slice y n' c') n' xs') (hgr : W.grownBy w1 (Value.slice x n c).ownBlock) (ha : Apart x y) : w1.ownsRow b0 t' sz' (.slice y n' c') n' xs' := by
  refine h.kept hgr ?_
  rw [ownB, ownB]
  cases y with
  | none => exact .inl rfl
  | some y =>
    right
    cases x with
    | none => simp
    | some x => simp only [Option.map_some]; intro e; injection e with e; exact ha x y rfl rfl e.symm
theorem new_apart {W : World} {x y : Option Addr} {n c n' c' g3 : Nat} {xs' : List Value} {sz' : Nat} {t' : TypeId} (h : W.ownsRow b0 t' sz' (.slice y n' c') n' xs') (ha : Apart x y) (hat : (Value.slice x n c).ownBlock = some g3 ∨ g3 = W.heap.size) : Apart (some ⟨g3, 0, none⟩) y := by
  intro p q hp hq e
  cases hp; subst hq
  rcases hat with hat | hat
  · rw [ownB] at hat
    cases x with
    | none => cases hat
    | some x => simp only [Option.map_some, Option.some.injEq] at hat; exact ha x q rfl rfl (hat.trans e)
  · rcases h.2 with ⟨e1, _⟩ | ⟨g', _, _, e1, _, hg', _⟩
    · cases e1
    · cases e1
      have := blk_lt hg'
      have e : g3 = g' := e
      omega
theorem own_ne {w : World} {X i : Nat} {v0 : Value} {x : Option Addr} {e : TypeId} {sz n c : Nat} {xs : List Value} (h : w.ownsRow b0 e sz (.slice x n c) n xs) (hne : ∀ y, x = some y → y.block ≠ X) : (w.setCell ⟨X, i, none⟩ v0).ownsRow b0 e sz (.slice x n c) n xs := by
  refine ⟨h.1, ?_⟩
  rcases h.2 with h1 | ⟨g, cap, cur, h1, h2, h3, h4⟩
  · exact .inl h1
  · refine .inr ⟨g, cap, cur, h1, h2, ?_, h4⟩
    cases h1
    rw [far_one (hne _ rfl)]; exact h3
/-- a section's list: where it lies -/
def secA (p : Pl) : Nat → Option Addr | 0 => p.na | 1 => p.ua | _ => p.ra
def secC (p : Pl) : Nat → Nat | 0 => p.nc | 1 => p.uc | _ => p.rc
def updP (p : Pl) (s : Nat) (x : Option Addr) (c : Nat) : Pl := match s with | 0 => { p with na := x, nc := c } | 1 => { p with ua := x, uc := c } | _ => { p with ra := x, rc := c }
def updM (m : Mg) (s : Nat) (L : List Rc) : Mg := match s with | 0 => { m with an := L } | 1 => { m with au := L } | _ => { m with ar := L }
theorem secL_upd (m : Mg) (s : Nat) (L : List Rc) : secL (updM m s L) s = L := by match s with | 0 => rfl | 1 => rfl | _ + 2 => rfl
theorem updM_upd (m : Mg) (s : Nat) (L M : List Rc) : updM (updM m s L) s M = updM m s M := by match s with | 0 => rfl | 1 => rfl | _ + 2 => rfl
end
end Go.Proofs.Ytnamkladeaohoaa.ust
namespace Go.Proofs.Ytnamkladeaohoaa.safeM
open Go.RowKit Go.Proofs.Ytnamkladeaohoaa.kit Go.Proofs.Ytnamkladeaohoaa.timed Go.Proofs.Ytnamkladeaohoaa.safeP Go.Proofs.Ytnamkladeaohoaa.ust
set_option linter.unusedVariables false

theorem told_step {L : List Tm} {k : Nat} {t : Tm} (h : L[k]? = some t) : toldL (L.take (k + 1)) = toldL (L.take k) ++ [t.p, t.v] := by
  unfold toldL
  rw [List.take_add_one, h, List.flatMap_append]
  simp
theorem sign_step {L : List Tm} {k : Nat} {t : Tm} (h : L[k]? = some t) : signL (L.take (k + 1)) = signL (L.take k) ++ [t.a, t.r] := by
  unfold signL
  rw [List.take_add_one, h, List.flatMap_append]
  simp
/-- both lists, one's own and apart -/
structure TS (b0 : Nat) (wr : World) (L : List Tm) (k : Nat) (aT : Option Addr) (cT : Nat) (aS : Option Addr) (cS : Nat) : Prop where
  t : wr.ownsRow b0 3 1 (.slice aT (2 * k) cT) (2 * k) ((toldL (L.take k)).map (Value.int .i64))
  s : wr.ownsRow b0 3 1 (.slice aS (2 * k) cS) (2 * k) ((signL (L.take k)).map (Value.int .i64))
  ap : Apart aT aS
theorem TS.start (b0 : Nat) (w : World) (L : List Tm) : TS b0 w L 0 none 0 none 0 := ⟨World.ownsRow_nil _ _ _ _, World.ownsRow_nil _ _ _ _, .none_l _⟩
theorem TS.below {b0 : Nat} {wr w1 : World} {L : List Tm} {k : Nat} {aT aS : Option Addr} {cT cS : Nat} (h : TS b0 wr L k aT cT aS cS) (hB : Below wr.heap.size wr w1) : TS b0 w1 L k aT cT aS cS :=
  ⟨rows.own_keptG h.t fun j c hj => (hB.block j (blk_lt hj)).trans hj, rows.own_keptG h.s fun j c hj => (hB.block j (blk_lt hj)).trans hj, h.ap⟩
/-- one key's times, told first (world W, grown to W1), signs then (grown to W2) -/
theorem TS.told {b0 : Nat} {W W1 : World} {L : List Tm} {k g cp : Nat} {aT aS : Option Addr} {cT cS : Nat} {t : Tm} (h : TS b0 W L k aT cT aS cS) (ht : L[k]? = some t)
    (ho : W1.ownsRow b0 3 1 (.slice (some ⟨g, 0, none⟩) (2 * k + 2) cp) (2 * k + 2) ((toldL (L.take k)).map (Value.int .i64) ++ [.int .i64 t.p, .int .i64 t.v])) (hgr : W.grownBy W1 (Value.slice aT (2 * k) cT).ownBlock) (hat : (Value.slice aT (2 * k) cT).ownBlock = some g ∨ g = W.heap.size) :
    W1.ownsRow b0 3 1 (.slice (some ⟨g, 0, none⟩) (2 * (k + 1)) cp) (2 * (k + 1)) ((toldL (L.take (k + 1))).map (Value.int .i64)) ∧ W1.ownsRow b0 3 1 (.slice aS (2 * k) cS) (2 * k) ((signL (L.take k)).map (Value.int .i64)) ∧ Apart (some ⟨g, 0, none⟩) aS := by
  refine ⟨?_, own_apart h.s hgr h.ap, new_apart h.s h.ap hat⟩
  rw [told_step ht, List.map_append]
  exact ho
theorem TS.signs {b0 : Nat} {W W1 : World} {L : List Tm} {k g cp : Nat} {aT aS : Option Addr} {cT cS : Nat} {t : Tm} (h1 : W.ownsRow b0 3 1 (.slice aT (2 * (k + 1)) cT) (2 * (k + 1)) ((toldL (L.take (k + 1))).map (Value.int .i64))) (h2 : W.ownsRow b0 3 1 (.slice aS (2 * k) cS) (2 * k) ((signL (L.take k)).map (Value.int .i64))) (h3 : Apart aT aS) (ht : L[k]? = some t)
    (ho : W1.ownsRow b0 3 1 (.slice (some ⟨g, 0, none⟩) (2 * k + 2) cp) (2 * k + 2) ((signL (L.take k)).map (Value.int .i64) ++ [.int .i64 t.a, .int .i64 t.r])) (hgr : W.grownBy W1 (Value.slice aS (2 * k) cS).ownBlock) (hat : (Value.slice aS (2 * k) cS).ownBlock = some g ∨ g = W.heap.size) :
    TS b0 W1 L (k + 1) aT cT (some ⟨g, 0, none⟩) cp := by
  refine ⟨own_apart h1 hgr h3.symm, ?_, (new_apart h1 h3.symm hat).symm⟩
  rw [sign_step ht, List.map_append]
  exact ho
end Go.Proofs.Ytnamkladeaohoaa.safeM
namespace Go.Proofs.Ytnamkladeaohoaa.safeA
open Go.RowKit Go.Proofs.Ytnamkladeaohoaa.kit Go.Proofs.Ytnamkladeaohoaa.timed Go.Proofs.Ytnamkladeaohoaa.safeP
set_option linter.unusedVariables false

theorem tup_eq {a b a' b' : Int} {c c' : Bool} (h1 : a = a') (h2 : b = b') (h3 : c = c') : Ending.returned (.tuple #[.int .i64 a, .int .i64 b, .bool c]) = Ending.returned (.tuple #[.int .i64 a', .int .i64 b', .bool c']) := by
  subst h1; subst h2; subst h3; rfl
set_option maxRecDepth 100000 in
set_option maxHeartbeats 4000000 in
theorem meet_any (a la b lb ka sa : Int) (w : World) (h1 : 0 ≤ a) (h2 : a ≤ 8589934592) (h3 : 0 ≤ la) (h4 : la ≤ 8589934592) (h5 : 0 ≤ b) (h6 : b ≤ 8589934592) (h7 : 0 ≤ lb) (h8 : lb ≤ 8589934592) (h9 : 0 ≤ ka) (h10 : ka ≤ 8589934592) (h11 : 0 ≤ sa) (h12 : sa ≤ 8589934592) :
    Calls Try.prog 17 #[.int .i64 a, .int .i64 la, .int .i64 b, .int .i64 lb, .int .i64 ka, .int .i64 sa] w fun e w' => e = .returned (.tuple #[.int .i64 (meetS a la b lb ka sa).1, .int .i64 (meetS a la b lb ka sa).2.1, .bool (meetS a la b lb ka sa).2.2]) ∧ w' = w := by
  unfold meetS
  by_cases hc : min (la - b) sa < max (a - lb) (-ka)
  · rw [if_pos hc]
    go_enter Try.func17, Try.ntmps17
    go_wp2_with fail
    all_goals first | omega | (go_ret3; exact ⟨tup_eq (by omega) (by omega) rfl, rfl⟩)
  · rw [if_neg hc]
    go_enter Try.func17, Try.ntmps17
    go_wp2_with fail
    all_goals first | omega | (go_ret3; exact ⟨tup_eq (by omega) (by omega) rfl, rfl⟩)
theorem served_step {L : List Tm} {k : Nat} {t : Tm} (h : L[k]? = some t) (x y : Int) : servL (L.drop k) x y = (servK t x y || servL (L.drop (k + 1)) x y) := by
  obtain ⟨hk, he⟩ := List.getElem?_eq_some_iff.1 h
  rw [List.drop_eq_getElem_cons hk, he]
  rfl
set_option maxRecDepth 100000 in
set_option maxHeartbeats 4000000 in
theorem served_any (a : Option Addr) (n c : Nat) (L : List Tm) (x y : Int) (w : World) (hn : n = L.length) (hr : RdC w a 8 (L.map Tm.cells)) (hbig : n ≤ 1099511627776) :
    Calls Try.prog 8 #[.slice a n c, .int .i64 x, .int .i64 y] w fun e w' => e = .returned (.bool (servL L x y)) ∧ Below w.heap.size w w' := by
  obtain ⟨R, hR⟩ : ∃ R, servL L x y = R := ⟨_, rfl⟩
  rw [hR]
  have HR := Lib.hid hR
  have HN := Lib.hid hn; have HRD := Lib.hid hr
  clear hn hr hR
  go_enter Try.func8, Try.ntmps8
  go_wp2_with fail
  go_loopg [11] (n + 1) (fun gas kv wr => ∃ (k : Nat), kv = .int .i64 k ∧ k ≤ n ∧ k + gas = n + 1 ∧ Hid (servL (L.drop k) x y = R) ∧ Hid (Below w.heap.size w wr))
  case atStart => exact ⟨0, rfl, by omega, by omega, Lib.hid (by rw [List.drop_zero]; exact HR.out), Lib.hid (Below.refl _ _)⟩
  case round =>
    obtain ⟨k, rfl, hk, hkg, HW, HB⟩ := hrel
    have HK := Lib.hid hkg; clear hkg
    by_cases hlt : k < n
    · obtain ⟨t, hx⟩ : ∃ t, L[k]? = some t := ⟨_, List.getElem?_eq_getElem (by have := HN.out; omega)⟩
      obtain ⟨g1, o1, rfl, hg1, hcl1⟩ := HRD.out.at_t hx
      obtain ⟨x0, x1, x2, x3, x4, x5, x6, x7⟩ := hcl1.below HB.out hg1
      have HST := Lib.hid ((served_step hx x y).symm.trans HW.out)
      have zk : (0 : Int) ≤ (k : Int) := by omega
      have zl : (k : Int) < (n : Int) := by omega
      have hBn := HB.out.alloc HB.out.size (.cells #[.int .i64 t.f, .int .i64 t.m, .int .i64 t.e, .int .i64 t.s, .int .i64 t.p, .int .i64 t.a, .int .i64 t.r, .int .i64 t.v] 36)
      have HBN := Lib.hid hBn
      clear hx hcl1 hlt hBn
      by_cases ha : t.a ≤ y
      · have ea : decide (t.a ≤ y) = true := decide_eq_true ha
        by_cases hb : y < t.r
        · have eb : decide (y < t.r) = true := decide_eq_true hb
          by_cases hc : t.p ≤ x
          · have ec : decide (t.p ≤ x) = true := decide_eq_true hc
            by_cases hd : x < t.v
            · have ed : decide (x < t.v) = true := decide_eq_true hd
              have HRT : Hid (R = true) := Lib.hid (by rw [← HST.out]; unfold servK; rw [ea, eb, ec, ed]; rfl)
              go_wp2_with fail
              go_ret
              exact ⟨by rw [HRT.out]; rfl, HBN.out⟩
            · have ed : decide (x < t.v) = false := decide_eq_false hd
              have HRN : Hid (servL (L.drop (k + 1)) x y = R) := Lib.hid (by rw [← HST.out]; unfold servK; rw [ea, eb, ec, ed]; rfl)
              go_wp2_with fail
              have hkg := HK.out
              go_roundg (gk - 1)
              case rel => exact ⟨k + 1, by go_num, by omega, by omega, HRN, HBN⟩
              case measure => omega
          · have ec : decide (t.p ≤ x) = false := decide_eq_false hc
            have HRN : Hid (servL (L.drop (k + 1)) x y = R) := Lib.hid (by rw [← HST.out]; unfold servK; rw [ea, eb, ec]; rfl)
            go_wp2_with fail
            have hkg := HK.out
            go_roundg (gk - 1)
            case rel => exact ⟨k + 1, by go_num, by omega, by omega, HRN, HBN⟩
            case measure => omega
        · have eb : decide (y < t.r) = false := decide_eq_false hb
          have HRN : Hid (servL (L.drop (k + 1)) x y = R) := Lib.hid (by rw [← HST.out]; unfold servK; rw [ea, eb]; rfl)
          go_wp2_with fail
          have hkg := HK.out
          go_roundg (gk - 1)
          case rel => exact ⟨k + 1, by go_num, by omega, by omega, HRN, HBN⟩
          case measure => omega
      · have ea : decide (t.a ≤ y) = false := decide_eq_false ha
        have HRN : Hid (servL (L.drop (k + 1)) x y = R) := Lib.hid (by rw [← HST.out]; unfold servK; rw [ea]; rfl)
        go_wp2_with fail
        have hkg := HK.out
        go_roundg (gk - 1)
        case rel => exact ⟨k + 1, by go_num, by omega, by omega, HRN, HBN⟩
        case measure => omega
    · have hke : k = n := by omega
      subst hke
      have HRF : Hid (R = false) := Lib.hid (by rw [← HW.out, List.drop_of_length_le (by rw [← HN.out]; exact Nat.le_refl _)]; rfl)
      have hz : ¬ (k : Int) < (k : Int) := by omega
      go_wp2_with fail
      go_ret
      exact ⟨by rw [HRF.out]; rfl, HB.out⟩
end Go.Proofs.Ytnamkladeaohoaa.safeA
