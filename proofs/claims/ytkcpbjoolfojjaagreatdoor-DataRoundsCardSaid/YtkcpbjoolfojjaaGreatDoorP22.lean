/- data.Read's deferred closure, and how data.Read ends. PLAIN: what a field's words tell is not too long. PLAIN: a group of four letters, as the program goes over it. gazetteerref1.spread: walk. gazetteerref1.whole, From32: walks. The reference's among, Escape: walks. The reference's ShowName: walk. How data are written: plain. gazetteerref1.unhex, unbase64: walks. -/
import Derived.Test.YtkcpbjoolfojjaaGreatDoorP21
import Derived.Test.YtkcpbjoolfojjaaGreatDoorP14
import Derived.Test.YtkcpbjoolfojjaaGreatDoorP2
import Derived.Test.YtkcpbjoolfojjaaGreatDoorP9
import Derived.Test.YtkcpbjoolfojjaaGreatDoorP4
import Derived.Test.YtkcpbjoolfojjaaGreatDoorP6
import Derived.Test.YtkcpbjoolfojjaaGreatDoorP12
import Derived.Test.YtkcpbjoolfojjaaGreatDoorP8
import Derived.Test.YtkcpbjoolfojjaaGreatDoorP11
import Derived.Recover
import Derived.BigRegion
import Derived.Deep.RegionHeld3
namespace Go.Proofs.YtkcpbjoolfojjaaGreatDoor.rdDoor
open Go.RowKit Go.Proofs.YtkcpbjoolfojjaaGreatDoor.kit Go.Proofs.YtkcpbjoolfojjaaGreatDoor.nspec Go.Proofs.YtkcpbjoolfojjaaGreatDoor.rdP Go.Proofs.YtkcpbjoolfojjaaGreatDoor.rdQ Go.Proofs.YtkcpbjoolfojjaaGreatDoor.wd
set_option linter.unusedVariables false

set_option maxRecDepth 100000 in
set_option maxHeartbeats 2000000 in
/-- no panic: nothing is done -/
theorem rdoor_ret (a b c : Value) (w : World) :
    CallsD Tryz.prog 15 #[a, b, c] .returning w fun e u' w' => u' = .returning ∧ e = .returned (.tuple #[]) ∧ w' = w := by
  refine callsD_of_wpS Tryz.func15 rfl fun c₀ cs hu => ?_
  apply wpS_seq
  apply wpS_region
  simp [wpOpsS, go_sem, recoverD, hu, Tryz.ntmps15, Exit.thenS]
  apply wpS_seq
  apply wpS_region
  simp [wpOpsS, go_sem, Exit.thenS]
  refine wpS_cond (t := false) (by simp [Act.eval, Array.replicate]) ?_
  simp only [Bool.false_eq_true, if_false]
  refine wpS_of_wp (wp_skip ?_)
  cases c₀
  simp_all [bodyPostS, results, Tryz.results15]
theorem ask_fault (x y : Int) (w : World) : (Instr.typeAssert (.iface 40 (.agg #[.int .i64 x, .int .i64 y])) 20 40 true).run Tryz.prog w = .ok (.tuple #[.agg #[.int .i64 x, .int .i64 y], .bool true]) w := by
  kernel_rfl
theorem lt_cell {w : World} {a : Addr} {v : Value} (h : w.cell? a = some v) : a.block < w.heap.size := World.block_lt_of_cell? w a h
/-- what a fault leaves: the three boxes laid anew -/
def afterF (w : World) (D A E : Nat) (x y : Int) : World := (((w.alloc (.cells #[.int .i64 x, .int .i64 y] 40)).setCell ⟨D, 0, none⟩ (.string ⟨#[]⟩)).setCell ⟨A, 0, none⟩ (.int .i64 x)).setCell ⟨E, 0, none⟩ (.int .i64 y)
set_option maxRecDepth 100000 in
set_option maxHeartbeats 2000000 in
/-- a fault: what is returned is laid anew -/
theorem rdoor_fault (D A E : Nat) (x y : Int) (dv av ev : Value) (older : List PanicEntry) (w : World)
    (hd : w.cell? ⟨D, 0, none⟩ = some dv) (hdz : w.frozen? ⟨D, 0, none⟩ = false) (ha : w.cell? ⟨A, 0, none⟩ = some av) (haz : w.frozen? ⟨A, 0, none⟩ = false) (he : w.cell? ⟨E, 0, none⟩ = some ev) (hez : w.frozen? ⟨E, 0, none⟩ = false) (d1 : D ≠ A) (d2 : D ≠ E) (d3 : A ≠ E) :
    CallsD Tryz.prog 15 #[.pointer (some ⟨D, 0, none⟩), .pointer (some ⟨A, 0, none⟩), .pointer (some ⟨E, 0, none⟩)] (.panicking ({ v := faultV x y, recovered := false } :: older)) w fun e u' w' =>
      u' = .panicking ({ v := faultV x y, recovered := true } :: older) ∧ e = .returned (.tuple #[]) ∧ ∃ n, w' = (afterF w D A E x y).drewN n := by
  unfold faultV
  have hta := fun w => ask_fault x y w
  have lD := lt_cell hd; have lA := lt_cell ha; have lE := lt_cell he
  have HD := Lib.hid hd; have HDZ := Lib.hid hdz; have HA := Lib.hid ha; have HAZ := Lib.hid haz; have HE := Lib.hid he; have HEZ := Lib.hid hez
  clear hd hdz ha haz he hez
  refine callsD_of_wpS Tryz.func15 rfl fun c₀ cs hu => ?_
  apply wpS_seq
  apply wpS_region
  simp [wpOpsS, go_sem, recoverD, hu, Tryz.ntmps15, Exit.thenS]
  refine wpS_of_wp ?_
  have ht : (#[Value.pointer (some { block := D, off := 0 }), Value.pointer (some { block := A, off := 0 }), Value.pointer (some { block := E, off := 0 })] ++
          ((Array.replicate 18 undef).setIfInBounds 3 (Value.iface 40 (Value.agg #[Value.int IntKind.i64 x, Value.int IntKind.i64 y]))).setIfInBounds 0 (Value.iface 40 (Value.agg #[Value.int IntKind.i64 x, Value.int IntKind.i64 y]))) =
      #[Value.pointer (some { block := D, off := 0 }), Value.pointer (some { block := A, off := 0 }), Value.pointer (some { block := E, off := 0 }), Value.iface 40 (Value.agg #[Value.int IntKind.i64 x, Value.int IntKind.i64 y]), undef, undef, Value.iface 40 (Value.agg #[Value.int IntKind.i64 x, Value.int IntKind.i64 y]), undef, undef, undef, undef, undef, undef, undef, undef, undef, undef, undef, undef, undef, undef] := rfl
  rw [ht]
  clear ht
  go_upto_region 5 with fail
  have hB := (Below.refl w.heap.size w).alloc (Nat.le_refl _) (Obj.cells #[.int .i64 x, .int .i64 y] 40)
  have hS := heap_alloc_new w (Obj.cells #[.int .i64 x, .int .i64 y] 40)
  have hd := (hB.cell (p := ⟨D, 0, none⟩) lD).trans HD.out
  have ha := (hB.cell (p := ⟨A, 0, none⟩) lA).trans HA.out
  have he := (hB.cell (p := ⟨E, 0, none⟩) lE).trans HE.out
  have hdz := (hB.frozen (p := ⟨D, 0, none⟩) lD).trans HDZ.out
  have haz := (hB.frozen (p := ⟨A, 0, none⟩) lA).trans HAZ.out
  have hez := (hB.frozen (p := ⟨E, 0, none⟩) lE).trans HEZ.out
  obtain ⟨W, hW⟩ : ∃ W, w.alloc (Obj.cells #[.int .i64 x, .int .i64 y] 40) = W := ⟨_, rfl⟩
  obtain ⟨S, hSS⟩ : ∃ S, w.heap.size = S := ⟨_, rfl⟩
  rw [hW] at hd ha he hdz haz hez hS ⊢
  rw [hSS] at hS lD lA lE ⊢
  have s0 : W.cell? ⟨S, 0, none⟩ = some (.int .i64 x) := by simp only [World.cell?, hS]; rfl
  have s1 : W.cell? ⟨S, 1, none⟩ = some (.int .i64 y) := by simp only [World.cell?, hS]; rfl
  have HWE := Lib.hid hW; have HSE := Lib.hid hSS
  have e1 : S ≠ D := by show S ≠ D; have : D < S := lD; omega
  have e2 : S ≠ A := by show S ≠ A; have : A < S := lA; omega
  have e3 : S ≠ E := by show S ≠ E; have : E < S := lE; omega
  clear HD HDZ HA HAZ HE HEZ hB hW hSS hS
  go_region
  go_wp2_with fail
  refine ⟨rfl, _, rfl, .tuple #[], ?_, rfl, rfl, 1, ?_⟩
  · simp [results, Tryz.results15]
  · unfold afterF
    rw [HWE.out]; rfl
/-- the three boxes of what is returned -/
structure St (b0 : Nat) (w0 w : World) (dv : ByteArray) (av ev : Int) : Prop where
  hd : w.heap[b0]? = some (.cells #[.string dv] 9 (0, 0))
  ha : w.heap[b0 + 1]? = some (.cells #[.int .i64 av] 3 (0, 0))
  he : w.heap[b0 + 2]? = some (.cells #[.int .i64 ev] 25 (0, 0))
  bel : Below b0 w0 w
  top : b0 + 3 ≤ w.heap.size
section
variable {b0 : Nat} {w0 w w1 : World} {dv : ByteArray} {av ev : Int}
theorem St.eff (h : St b0 w0 w dv av ev) (he : EffW (b0 + 3) w w1) : St b0 w0 w1 dv av ev :=
  ⟨(he.kept _ (by have := h.top; omega) (by omega)).trans h.hd, (he.kept _ (by have := h.top; omega) (by omega)).trans h.ha, (he.kept _ (by have := h.top; omega) (by omega)).trans h.he,
    h.bel.trans (he.to_below (by omega) (by have := h.top; omega)), Nat.le_trans h.top he.size⟩
theorem St.below (h : St b0 w0 w dv av ev) (hB : Below w.heap.size w w1) : St b0 w0 w1 dv av ev := h.eff (EffW.of_below hB)
theorem St.cd (h : St b0 w0 w dv av ev) : w.cell? ⟨b0, 0, none⟩ = some (.string dv) := by simp only [World.cell?, h.hd]; rfl
theorem St.ca (h : St b0 w0 w dv av ev) : w.cell? ⟨b0 + 1, 0, none⟩ = some (.int .i64 av) := by simp only [World.cell?, h.ha]; rfl
theorem St.ce (h : St b0 w0 w dv av ev) : w.cell? ⟨b0 + 2, 0, none⟩ = some (.int .i64 ev) := by simp only [World.cell?, h.he]; rfl
theorem St.zd (h : St b0 w0 w dv av ev) : w.frozen? ⟨b0, 0, none⟩ = false := by simp only [World.frozen?, h.hd]; simp
theorem St.za (h : St b0 w0 w dv av ev) : w.frozen? ⟨b0 + 1, 0, none⟩ = false := by simp only [World.frozen?, h.ha]; simp
theorem St.ze (h : St b0 w0 w dv av ev) : w.frozen? ⟨b0 + 2, 0, none⟩ = false := by simp only [World.frozen?, h.he]; simp
theorem far_one {w : World} {b i k : Nat} {v : Value} (h : k ≠ b) : (w.setCell ⟨b, i, none⟩ v).heap[k]? = w.heap[k]? := Below.heap_setCell _ ⟨b, i, none⟩ _ k h
theorem below_one {b0 b i : Nat} {w0 w : World} {v : Value} (h : Below b0 w0 w) (hb : b0 ≤ b) : Below b0 w0 (w.setCell ⟨b, i, none⟩ v) := h.setCell (p := ⟨b, i, none⟩) hb v
theorem St.setD (h : St b0 w0 w dv av ev) (d : ByteArray) : St b0 w0 (w.setCell ⟨b0, 0, none⟩ (.string d)) d av ev :=
  ⟨by rw [heap_setCell_same w b0 0 _ _ (.string d) h.hd]; rfl, (far_one (by omega)).trans h.ha, (far_one (by omega)).trans h.he, below_one h.bel (Nat.le_refl _), by rw [World.size_setCell]; exact h.top⟩
theorem St.setA (h : St b0 w0 w dv av ev) (a : Int) : St b0 w0 (w.setCell ⟨b0 + 1, 0, none⟩ (.int .i64 a)) dv a ev :=
  ⟨(far_one (by omega)).trans h.hd, by rw [heap_setCell_same w (b0 + 1) 0 _ _ (.int .i64 a) h.ha]; rfl, (far_one (by omega)).trans h.he, below_one h.bel (by omega), by rw [World.size_setCell]; exact h.top⟩
theorem St.setE (h : St b0 w0 w dv av ev) (e : Int) : St b0 w0 (w.setCell ⟨b0 + 2, 0, none⟩ (.int .i64 e)) dv av e :=
  ⟨(far_one (by omega)).trans h.hd, (far_one (by omega)).trans h.ha, by rw [heap_setCell_same w (b0 + 2) 0 _ _ (.int .i64 e) h.he]; rfl, below_one h.bel (by omega), by rw [World.size_setCell]; exact h.top⟩
theorem St.drewN (h : St b0 w0 w dv av ev) (n : Nat) : St b0 w0 (w.drewN n) dv av ev := ⟨h.hd, h.ha, h.he, ⟨h.bel.os, h.bel.tape, h.bel.output, h.bel.size, h.bel.block⟩, h.top⟩
theorem St.lay (h : St b0 w0 w dv av ev) (o : Obj) : St b0 w0 (w.alloc o) dv av ev := h.below ((Below.refl w.heap.size w).alloc (Nat.le_refl _) o)
end
/-- what Read leaves -/
def ReadE (b0 : Nat) (w0 : World) (r : Bs × Int × Int) (e : Ending) (w' : World) : Prop :=
  e = .returned (.tuple #[.string ⟨r.1.toArray⟩, .int .i64 r.2.1, .int .i64 r.2.2]) ∧ Below b0 w0 w'
theorem res_read {b0 : Nat} {w0 w : World} {dv : ByteArray} {x y : Int} (h : St b0 w0 w dv x y) (tmps : Array Value) (h6 : tmps[6]?.getD undef = .pointer (some ⟨b0, 0, none⟩)) (h7 : tmps[7]?.getD undef = .pointer (some ⟨b0 + 1, 0, none⟩)) (h8 : tmps[8]?.getD undef = .pointer (some ⟨b0 + 2, 0, none⟩)) :
    (results Tryz.f5 tmps).run Tryz.prog w = .ok (.tuple #[.string dv, .int .i64 x, .int .i64 y]) w := by
  have a := h.cd; have b := h.ca; have c := h.ce
  simp [results, Tryz.results5, h6, h7, h8, asAddr, go_sem, a, b, c]
/-- the closure, laid to be called at the end -/
def theDoor (b0 : Nat) : List Deferred := [{ target := .fn (.func 15) #[.pointer (some ⟨b0, 0, none⟩), .pointer (some ⟨b0 + 1, 0, none⟩), .pointer (some ⟨b0 + 2, 0, none⟩)], args := #[] }]
/-- a fault on the way -/
theorem door_no {b0 : Nat} {w0 w1 : World} {dv : ByteArray} {av ev x y : Int} (h : St b0 w0 w1 dv av ev) (tmps : Array Value)
    (h6 : tmps[6]?.getD undef = .pointer (some ⟨b0, 0, none⟩)) (h7 : tmps[7]?.getD undef = .pointer (some ⟨b0 + 1, 0, none⟩)) (h8 : tmps[8]?.getD undef = .pointer (some ⟨b0 + 2, 0, none⟩)) :
    bodyPostD Tryz.prog Tryz.f5 (ReadE b0 w0 ([], x, y)) (.panic [{ v := faultV x y, recovered := false }]) { tmps := tmps, defers := theDoor b0 } w1 := by
  unfold bodyPostD theDoor
  refine leaves_cons (f := 15) (args := #[.pointer (some ⟨b0, 0, none⟩), .pointer (some ⟨b0 + 1, 0, none⟩), .pointer (some ⟨b0 + 2, 0, none⟩)]) (by simp) (by simp [go_sem]) ?_
  refine (rdoor_fault b0 (b0 + 1) (b0 + 2) x y _ _ _ [] w1 h.cd h.zd h.ca h.za h.ce h.ze (by omega) (by omega) (by omega)).mono ?_
  rintro e u' w'' ⟨rfl, rfl, n, rfl⟩
  have hS : St b0 w0 ((afterF w1 b0 (b0 + 1) (b0 + 2) x y).drewN n) ⟨#[]⟩ x y := ((((h.lay _).setD ⟨#[]⟩).setA x).setE y).drewN n
  obtain ⟨Y, hY⟩ : ∃ Y, (afterF w1 b0 (b0 + 1) (b0 + 2) x y).drewN n = Y := ⟨_, rfl⟩
  rw [hY] at hS ⊢
  exact ⟨_, res_read hS tmps h6 h7 h8, rfl, hS.bel⟩
/-- a return -/
theorem door_yes {b0 : Nat} {w0 w1 : World} {dv : ByteArray} {x y : Int} (h : St b0 w0 w1 dv x y) (tmps : Array Value)
    (h6 : tmps[6]?.getD undef = .pointer (some ⟨b0, 0, none⟩)) (h7 : tmps[7]?.getD undef = .pointer (some ⟨b0 + 1, 0, none⟩)) (h8 : tmps[8]?.getD undef = .pointer (some ⟨b0 + 2, 0, none⟩)) :
    bodyPostD Tryz.prog Tryz.f5 (ReadE b0 w0 (dv.data.toList, x, y)) .ret { tmps := tmps, defers := theDoor b0 } w1 := by
  unfold bodyPostD theDoor
  refine leaves_cons (f := 15) (args := #[.pointer (some ⟨b0, 0, none⟩), .pointer (some ⟨b0 + 1, 0, none⟩), .pointer (some ⟨b0 + 2, 0, none⟩)]) (by simp) (by simp [go_sem]) ?_
  refine (rdoor_ret _ _ _ w1).mono ?_
  rintro e u' w'' ⟨rfl, rfl, rfl⟩
  exact ⟨_, res_read h tmps h6 h7 h8, rfl, h.bel⟩
/-- a return ahead of the door's laying -/
theorem door_none {b0 : Nat} {w0 w1 : World} {dv : ByteArray} {x y : Int} (h : St b0 w0 w1 dv x y) (tmps : Array Value)
    (h6 : tmps[6]?.getD undef = .pointer (some ⟨b0, 0, none⟩)) (h7 : tmps[7]?.getD undef = .pointer (some ⟨b0 + 1, 0, none⟩)) (h8 : tmps[8]?.getD undef = .pointer (some ⟨b0 + 2, 0, none⟩)) :
    bodyPostD Tryz.prog Tryz.f5 (ReadE b0 w0 (dv.data.toList, x, y)) .ret { tmps := tmps, defers := [] } w1 :=
  ⟨_, res_read h tmps h6 h7 h8, rfl, h.bel⟩
end Go.Proofs.YtkcpbjoolfojjaaGreatDoor.rdDoor
namespace Go.Proofs.YtkcpbjoolfojjaaGreatDoor.rdLen
open Go.RowKit Go.Proofs.YtkcpbjoolfojjaaGreatDoor.kit Go.Proofs.YtkcpbjoolfojjaaGreatDoor.nspec Go.Proofs.YtkcpbjoolfojjaaGreatDoor.fld Go.Proofs.YtkcpbjoolfojjaaGreatDoor.rdP Go.Proofs.YtkcpbjoolfojjaaGreatDoor.rdQ Go.Proofs.YtkcpbjoolfojjaaGreatDoor.wdM
set_option linter.unusedVariables false

theorem readS_len (text org : Bs) : (readS.readS text org).1.length ≤ org.length + 255 := by
  unfold readS.readS
  cases nspec.split org with
  | none => simp
  | some base =>
    simp only
    split
    · simp
    · split
      · simp
      · split
        · simp
        · cases readS.rd [] [] 0 0 text with
          | error e => simp [readS.resS]
          | ok q =>
            obtain ⟨l, now⟩ := q
            simp only [readS.resS, readS.finS]
            split
            · simp
            · simp only; rw [put_length]; omega
theorem octL_len : ∀ (P : List ByteArray) (d : Bs), octL P = some d → d.length = P.length
  | [], d, h => by simp [octL] at h; subst h; rfl
  | p :: r, d, h => by
    rw [octL] at h
    cases hp : octS p.data.toList with
    | none => rw [hp] at h; cases h
    | some x =>
      rw [hp] at h
      simp only at h
      obtain ⟨u, hu, rfl⟩ := Option.map_eq_some_iff.1 h
      simp [octL_len r u hu]
theorem lenR_len {o : Option Bs} {d : Bs} (h : lenR o = some d) : d.length ≤ 256 := wdG.lenR_len h
theorem textsL_len : ∀ (W : List Wo) (k : Nat) (d : Bs), textsL W k = .ok d → d.length ≤ 256 * W.length
  | [], k, d, h => by simp [textsL] at h; subst h; simp
  | w :: r, k, d, h => by
    rw [textsL] at h
    cases hl : lenR (looseS w.s.data.toList) with
    | none => rw [hl] at h; cases h
    | some x =>
      rw [hl] at h
      simp only at h
      cases hr : textsL r (k + 1) with
      | error e => rw [hr] at h; cases h
      | ok y =>
        rw [hr] at h
        simp only [Except.ok.injEq] at h
        subst h
        have h1 := textsL_len r _ y hr
        have h2 := lenR_len hl
        rw [List.length_append, List.length_cons]; omega
theorem whole_len : ∀ (n : Nat) (l : List Nat) (most : Nat) (d : Bs), l.length ≤ n → back.whole most l = some d → d.length ≤ l.length
  | 0, l, most, d, hn, h => by
    have : l = [] := List.eq_nil_of_length_eq_zero (by omega)
    subst this
    rw [back.whole_end (by simp)] at h
    split at h
    · cases h; simp
    · cases h
  | n + 1, l, most, d, hn, h => by
    by_cases h8 : 8 ≤ l.length
    · rw [back.whole_step h8] at h
      obtain ⟨u, hu, rfl⟩ := Option.map_eq_some_iff.1 h
      have := whole_len n _ most u (by rw [List.length_drop]; omega) hu
      rw [List.length_drop] at this
      simp only [List.length_cons]; omega
    · rw [back.whole_end (by omega)] at h
      split at h
      · cases h; simp
      · cases h
theorem b64_len {s d : Bs} (h : unb64S s = some d) : d.length ≤ 6 * s.length := by
  unfold unb64S at h
  split at h
  · cases h
  · obtain ⟨l, hl, hw⟩ := Option.bind_eq_some_iff.1 h
    have h1 := back.spread_len 6 val64 _ _ hl
    have h2 := whole_len _ _ _ _ (Nat.le_refl _) hw
    rw [List.length_take] at h1
    omega
theorem someR_len {o : Option Bs} {d : Bs} (h : someR o = some d) : o = some d := by
  unfold someR at h
  cases o with
  | none => cases h
  | some x =>
    simp only at h
    split at h
    · cases h
    · exact h
theorem one_len {W : List Wo} {k k' : Nat} {f : ByteArray → Option Bs} {d : Bs} (h : oneW W k f = .ok (d, k')) : ∃ x : Wo, x ∈ W ∧ f x.s = some d := by
  unfold oneW at h
  cases hk : W[k]? with
  | none => rw [hk] at h; cases h
  | some x =>
    rw [hk] at h
    simp only at h
    split at h
    · cases h
    · cases hf : f x.s with
      | none => rw [hf] at h; cases h
      | some u =>
        rw [hf] at h
        simp only [Except.ok.injEq, Prod.mk.injEq] at h
        obtain ⟨rfl, _⟩ := h
        exact ⟨x, List.mem_of_getElem? hk, hf⟩
theorem rest_len2 {W : List Wo} {k k' : Nat} {f : Bs → Option Bs} {d : Bs} (h : restR W k f = .ok (d, k')) : ∃ s, restW (W.drop k) k = .ok s ∧ f s = some d := by
  unfold restR at h
  cases hr : restW (W.drop k) k with
  | error j => rw [hr] at h; cases h
  | ok s =>
    rw [hr] at h
    simp only at h
    cases hs : someR (f s) with
    | none => rw [hs] at h; cases h
    | some u =>
      rw [hs] at h
      simp only [Except.ok.injEq, Prod.mk.injEq] at h
      obtain ⟨rfl, _⟩ := h
      exact ⟨s, rfl, someR_len hs⟩
/-- what a field tells -/
theorem field_len {org : Bs} {W : List Wo} {k k' : Nat} {f : Fld} {d : Bs} (h : fieldR org W k f = .ok (d, k')) (hf : W.length ≤ 1048576) (hs : ∀ x ∈ W, x.s.size ≤ 1048576) (ho : org.length ≤ 1048576) (hn : ∀ n, f = .num n → n ≤ 100) : d.length ≤ 6597069766656 := by
  have hrest : ∀ s, restW (W.drop k) k = .ok s → s.length ≤ 1099511627776 := fun s e => by
    have h1 := wdB.rest_len _ _ s e (fun x hx => hs x (List.mem_of_mem_drop hx))
    rw [List.length_drop] at h1
    have h3 : 1048576 * (W.length - k) ≤ 1048576 * 1048576 := Nat.mul_le_mul_left _ (by omega)
    omega
  cases f with
  | num n =>
    obtain ⟨x, _, hx⟩ := one_len (show oneW W k (fun s => numR n s.data.toList) = .ok (d, k') from h)
    simp only [numR] at hx
    split at hx
    · cases hx
    · cases hx; rw [big.bigS_len]; have := hn n rfl; omega
  | ip4 =>
    obtain ⟨x, _, hx⟩ := one_len (show oneW W k (ip4R) = .ok (d, k') from h)
    unfold ip4R at hx
    split at hx
    · rename_i h4
      rw [octL_len _ _ hx]; omega
    · cases hx
  | ip6 =>
    obtain ⟨x, _, hx⟩ := one_len (show oneW W k (ip6R) = .ok (d, k') from h)
    unfold ip6R at hx
    split at hx
    · split at hx
      · split at hx
        · cases hx
        · cases hx; simp; omega
      · split at hx
        · cases hx; simp; omega
        · cases hx
    · cases hx
  | host =>
    have h' : hostW org W k = .ok (d, k') := h
    unfold hostW at h'
    cases hk : W[k]? with
    | none => rw [hk] at h'; cases h'
    | some x =>
      rw [hk] at h'
      simp only at h'
      split at h'
      · cases h'
      · split at h'
        · simp only [Except.ok.injEq, Prod.mk.injEq] at h'
          obtain ⟨rfl, _⟩ := h'
          have := readS_len x.s.data.toList org
          omega
        · cases h'
  | text =>
    have h' : looseW W k lenR = .ok (d, k') := h
    unfold looseW at h'
    cases hk : W[k]? with
    | none => rw [hk] at h'; cases h'
    | some x =>
      rw [hk] at h'
      simp only at h'
      cases hl : lenR (looseS x.s.data.toList) with
      | none => rw [hl] at h'; cases h'
      | some u =>
        rw [hl] at h'
        simp only [Except.ok.injEq, Prod.mk.injEq] at h'
        obtain ⟨rfl, _⟩ := h'
        have := lenR_len hl; omega
  | texts =>
    have h' : textsR W k = .ok (d, k') := h
    unfold textsR at h'
    split at h'
    · cases h'
    · cases ht : textsL (W.drop k) k with
      | error e => rw [ht] at h'; cases h'
      | ok u =>
        rw [ht] at h'
        simp only [Except.ok.injEq, Prod.mk.injEq] at h'
        obtain ⟨rfl, _⟩ := h'
        have := textsL_len _ _ _ ht
        rw [List.length_drop] at this
        omega
  | tail =>
    have h' : looseW W k id = .ok (d, k') := h
    unfold looseW at h'
    cases hk : W[k]? with
    | none => rw [hk] at h'; cases h'
    | some x =>
      rw [hk] at h'
      simp only [id] at h'
      cases hl : looseS x.s.data.toList with
      | none => rw [hl] at h'; cases h'
      | some u =>
        rw [hl] at h'
        simp only [Except.ok.injEq, Prod.mk.injEq] at h'
        obtain ⟨rfl, _⟩ := h'
        have h1 := loose_len hl
        rw [size_len] at h1
        have := hs x (List.mem_of_getElem? hk)
        omega
  | hexes =>
    obtain ⟨s, h1, h2⟩ := rest_len2 (show restR W k unhexS = .ok (d, k') from h)
    rw [unhex_pairs] at h2
    have := wdC.pairs_len _ _ h2
    have := hrest s h1
    omega
  | b64 =>
    obtain ⟨s, h1, h2⟩ := rest_len2 (show restR W k unb64S = .ok (d, k') from h)
    have := b64_len h2
    have := hrest s h1
    omega
  | kind =>
    obtain ⟨x, _, hx⟩ := one_len (show oneW W k (fun s => kindR s.data.toList) = .ok (d, k') from h)
    simp only [kindR] at hx
    split at hx
    · cases hx
    · cases hx; rw [big.bigS_len]; omega
  | kinds =>
    have h' : kindsR W k = .ok (d, k') := h
    unfold kindsR at h'
    cases hl : kindsL (W.drop k) k with
    | error e => rw [hl] at h'; cases h'
    | ok l =>
      rw [hl] at h'
      simp only [Except.ok.injEq, Prod.mk.injEq] at h'
      obtain ⟨rfl, _⟩ := h'
      obtain ⟨_, _, _, _, h4⟩ := setP.set_types l
      omega
  | salt =>
    obtain ⟨x, _, hx⟩ := one_len (show oneW W k (fun s => saltR s.data.toList) = .ok (d, k') from h)
    simp only [saltR] at hx
    split at hx
    · cases hx; simp
    · have := lenR_len hx; omega
  | hash =>
    obtain ⟨x, _, hx⟩ := one_len (show oneW W k (fun s => hashR s.data.toList) = .ok (d, k') from h)
    simp only [hashR] at hx
    have := lenR_len hx; omega
end Go.Proofs.YtkcpbjoolfojjaaGreatDoor.rdLen
namespace Go.Proofs.YtkcpbjoolfojjaaGreatDoor.quadP
open Go.RowKit Go.Proofs.YtkcpbjoolfojjaaGreatDoor.kit Go.Proofs.YtkcpbjoolfojjaaGreatDoor.nspec Go.Proofs.YtkcpbjoolfojjaaGreatDoor.rdP Go.Proofs.YtkcpbjoolfojjaaGreatDoor.rdQ
set_option linter.unusedVariables false

/-- so many letters of four are read, the others are noughts -/
def accS (n : Nat) : Nat → Nat → Bs → Option Nat
  | _, v, [] => some v
  | j, v, c :: r => if j ≤ n then (match val64 c with
    | some x => accS n (j + 1) (v * 64 + x) r
    | none => none) else accS n (j + 1) (v * 64) r
/-- what a group tells: n bytes, the others noughts -/
def grpS (n : Nat) (l : Bs) : Option Bs := match accS n 0 0 l with
  | none => none
  | some v => if (big.bigS v 3).drop n = List.replicate (3 - n) 0 then some ((big.bigS v 3).take n) else none
def finG (n : Nat) (RA : Option Nat) : Option Bs := match RA with
  | none => none
  | some v => if (big.bigS v 3).drop n = List.replicate (3 - n) 0 then some ((big.bigS v 3).take n) else none
theorem grp_fin (n : Nat) (l : Bs) : grpS n l = finG n (accS n 0 0 l) := rfl
theorem acc_go {n j v x : Nat} {c : UInt8} {r : Bs} {R : Option Nat} (h : accS n j v (c :: r) = R) (hj : j ≤ n) (hc : val64 c = some x) : accS n (j + 1) (v * 64 + x) r = R := by rw [← h, accS, if_pos hj, hc]
theorem acc_bad {n j v : Nat} {c : UInt8} {r : Bs} {R : Option Nat} (h : accS n j v (c :: r) = R) (hj : j ≤ n) (hc : val64 c = none) : R = none := by rw [← h, accS, if_pos hj, hc]
theorem acc_skip {n j v : Nat} {c : UInt8} {r : Bs} {R : Option Nat} (h : accS n j v (c :: r) = R) (hj : n < j) : accS n (j + 1) (v * 64) r = R := by rw [← h, accS, if_neg (by omega)]
theorem big3 (v : Nat) : big.bigS v 3 = [UInt8.ofNat (v / 65536 % 256), UInt8.ofNat (v / 256 % 256), UInt8.ofNat (v % 256)] := by
  show (([] ++ [UInt8.ofNat (v / 256 / 256 % 256)]) ++ [UInt8.ofNat (v / 256 % 256)]) ++ [UInt8.ofNat (v % 256)] = _
  rw [Nat.div_div_eq_div_mul]; rfl
theorem ofNat_zero {v : Nat} (h : v < 256) : UInt8.ofNat v = 0 ↔ v = 0 := by
  constructor
  · intro e
    have := congrArg UInt8.toNat e
    rw [UInt8.toNat_ofNat'] at this
    simp at this; omega
  · rintro rfl; rfl
theorem three_big {v : Nat} (h : v < 16777216) : big.bigS v 3 = three v := by
  rw [big3, Nat.mod_eq_of_lt (by omega : v / 65536 < 256)]; rfl
theorem grp_full (a b c d : UInt8) : grpS 3 [a, b, c, d] = match val64 a, val64 b, val64 c, val64 d with
    | some x, some y, some z, some u => some (three (((x * 64 + y) * 64 + z) * 64 + u))
    | _, _, _, _ => none := by
  unfold grpS
  simp only [accS]
  cases ha : val64 a with
  | none => rfl
  | some x =>
    cases hb : val64 b with
    | none => rfl
    | some y =>
      cases hc : val64 c with
      | none => rfl
      | some z =>
        cases hd : val64 d with
        | none => rfl
        | some u =>
          have h1 := val64_lt ha; have h2 := val64_lt hb; have h3 := val64_lt hc; have h4 := val64_lt hd
          simp only [Nat.zero_le, if_true, Nat.zero_mul, Nat.zero_add, show (1 : Nat) ≤ 3 from by omega, show (2 : Nat) ≤ 3 from by omega, show (3 : Nat) ≤ 3 from by omega]
          have hl : (big.bigS (((x * 64 + y) * 64 + z) * 64 + u) 3).length = 3 := big.bigS_len _ _
          rw [List.drop_eq_nil_of_le (by omega), if_pos (by rfl), List.take_of_length_le (by omega), three_big (by omega)]
theorem quad_go {p : Nat} {a b c d e : UInt8} {r A : Bs} {R : Option Bs} {B : Bs} (h : (quadS p (a :: b :: c :: d :: e :: r)).map (A ++ ·) = R) (hg : grpS 3 [a, b, c, d] = some B) : (quadS p (e :: r)).map ((A ++ B) ++ ·) = R := by
  rw [grp_full] at hg
  rw [← h]
  cases ha : val64 a with
  | none => rw [ha] at hg; cases hg
  | some x =>
    cases hb : val64 b with
    | none => rw [ha, hb] at hg; cases hg
    | some y =>
      cases hc : val64 c with
      | none => rw [ha, hb, hc] at hg; cases hg
      | some z =>
        cases hd : val64 d with
        | none => rw [ha, hb, hc, hd] at hg; cases hg
        | some u =>
          rw [ha, hb, hc, hd] at hg
          simp only [Option.some.injEq] at hg
          subst hg
          rw [quadS]
          · simp only [ha, hb, hc, hd]
            cases quadS p (e :: r) <;> simp
          · simp
theorem quad_bad {p : Nat} {a b c d e : UInt8} {r A : Bs} {R : Option Bs} (h : (quadS p (a :: b :: c :: d :: e :: r)).map (A ++ ·) = R) (hg : grpS 3 [a, b, c, d] = none) : R = none := by
  rw [grp_full] at hg
  rw [← h, quadS]
  · cases ha : val64 a with
    | none => rfl
    | some x =>
      cases hb : val64 b with
      | none => rfl
      | some y =>
        cases hc : val64 c with
        | none => rfl
        | some z =>
          cases hd : val64 d with
          | none => rfl
          | some u => rw [ha, hb, hc, hd] at hg; cases hg
  · simp
/-- the last group -/
theorem grp_last (p : Nat) (hp : p ≤ 2) (a b c d : UInt8) : grpS (3 - p) [a, b, c, d] = lastQ p a b c d := by
  unfold grpS lastQ
  simp only [accS]
  cases ha : val64 a with
  | none => rfl
  | some x =>
    have h1 := val64_lt ha
    cases hb : val64 b with
    | none => simp only [Nat.zero_le, if_true, show (1 : Nat) ≤ 3 - p from by omega]
    | some y =>
      have h2 := val64_lt hb
      simp only [Nat.zero_le, if_true, show (1 : Nat) ≤ 3 - p from by omega, Nat.zero_mul, Nat.zero_add]
      by_cases hp2 : p = 2
      · subst hp2
        rw [if_neg (by omega), if_neg (by omega), if_pos rfl]
        simp only
        have e1 : (x * 64 + y) * 64 * 64 / 65536 % 256 = (x * 64 + y) / 16 := by omega
        rw [big3, e1]
        show (if [UInt8.ofNat ((x * 64 + y) * 64 * 64 / 256 % 256), UInt8.ofNat ((x * 64 + y) * 64 * 64 % 256)] = [0, 0] then _ else _) = _
        by_cases h0 : (x * 64 + y) % 16 = 0
        · rw [if_pos h0, if_pos]
          · rfl
          · rw [show (x * 64 + y) * 64 * 64 / 256 % 256 = 0 by omega, show (x * 64 + y) * 64 * 64 % 256 = 0 by omega]; rfl
        · rw [if_neg h0, if_neg]
          intro e
          simp only [List.cons.injEq] at e
          have := (ofNat_zero (by omega)).1 e.1
          omega
      · rw [if_neg hp2]
        rw [if_pos (by omega)]
        cases hc : val64 c with
        | none => rfl
        | some z =>
          have h3 := val64_lt hc
          simp only
          by_cases hp1 : p = 1
          · subst hp1
            rw [if_neg (by omega), if_pos rfl]
            simp only
            have e1 : ((x * 64 + y) * 64 + z) * 64 / 65536 % 256 = ((x * 64 + y) * 64 + z) / 1024 := by omega
            have e2 : ((x * 64 + y) * 64 + z) * 64 / 256 % 256 = ((x * 64 + y) * 64 + z) / 4 % 256 := by omega
            rw [big3, e1, e2]
            show (if [UInt8.ofNat (((x * 64 + y) * 64 + z) * 64 % 256)] = [0] then _ else _) = _
            by_cases h0 : ((x * 64 + y) * 64 + z) % 4 = 0
            · rw [if_pos h0, if_pos]
              · rfl
              · rw [show ((x * 64 + y) * 64 + z) * 64 % 256 = 0 by omega]; rfl
            · rw [if_neg h0, if_neg]
              intro e
              simp only [List.cons.injEq, and_true] at e
              have := (ofNat_zero (by omega)).1 e
              omega
          · obtain rfl : p = 0 := by omega
            rw [if_pos (by omega), if_neg hp1]
            cases hd : val64 d with
            | none => rfl
            | some u =>
              have h4 := val64_lt hd
              simp only
              have hl : (big.bigS (((x * 64 + y) * 64 + z) * 64 + u) 3).length = 3 := big.bigS_len _ _
              rw [show 3 - 0 = 3 from rfl, List.drop_eq_nil_of_le (by omega), if_pos (by rfl), List.take_of_length_le (by omega), three_big (by omega)]
theorem quad_end {p : Nat} {a b c d : UInt8} {A : Bs} {R : Option Bs} (hp : p ≤ 2) (h : (quadS p [a, b, c, d]).map (A ++ ·) = R) : (grpS (3 - p) [a, b, c, d]).map (A ++ ·) = R := by
  rw [grp_last p hp, ← h, quadS]
end Go.Proofs.YtkcpbjoolfojjaaGreatDoor.quadP
namespace Go.Proofs.YtkcpbjoolfojjaaGreatDoor.spread
open Go.RowKit Go.Proofs.YtkcpbjoolfojjaaGreatDoor.kit Go.Proofs.YtkcpbjoolfojjaaGreatDoor.bits Go.Proofs.YtkcpbjoolfojjaaGreatDoor.ints Go.Proofs.YtkcpbjoolfojjaaGreatDoor.back Go.Proofs.YtkcpbjoolfojjaaGreatDoor.low

def valA (al : List UInt8) (c : UInt8) : Option Nat := if Lib.indexByte al c < 0 then none else some (Lib.indexByte al c).toNat
theorem idx_lt : ∀ (l : List UInt8) (c : UInt8), -1 ≤ Lib.indexByte l c ∧ Lib.indexByte l c < l.length
  | [], c => by simp [Lib.indexByte]
  | b :: l, c => by
    have ih := idx_lt l c
    simp only [Lib.indexByte, List.length_cons]
    by_cases h : b = c
    · simp [h]
    · have h' : (b == c) = false := by simpa using h
      rw [h', if_neg (by simp)]
      by_cases h2 : Lib.indexByte l c = -1
      · rw [if_pos (by simpa using h2)]; omega
      · rw [if_neg (by simpa using h2)]; omega
end Go.Proofs.YtkcpbjoolfojjaaGreatDoor.spread
namespace Go.Proofs.YtkcpbjoolfojjaaGreatDoor.whole
open Go.RowKit Go.Proofs.YtkcpbjoolfojjaaGreatDoor.kit Go.Proofs.YtkcpbjoolfojjaaGreatDoor.bits Go.Proofs.YtkcpbjoolfojjaaGreatDoor.ints Go.Proofs.YtkcpbjoolfojjaaGreatDoor.back Go.Proofs.YtkcpbjoolfojjaaGreatDoor.low Go.Proofs.YtkcpbjoolfojjaaGreatDoor.bld Go.Proofs.YtkcpbjoolfojjaaGreatDoor.coded Go.Proofs.YtkcpbjoolfojjaaGreatDoor.spread

end Go.Proofs.YtkcpbjoolfojjaaGreatDoor.whole
namespace Go.Proofs.YtkcpbjoolfojjaaGreatDoor.showA
open Go.RowKit Go.Proofs.YtkcpbjoolfojjaaGreatDoor.kit Go.Proofs.YtkcpbjoolfojjaaGreatDoor.check Go.Proofs.YtkcpbjoolfojjaaGreatDoor.nspec Go.Proofs.YtkcpbjoolfojjaaGreatDoor.rsplit Go.Proofs.YtkcpbjoolfojjaaGreatDoor.low

def escL (c : UInt8) : List UInt8 := [48 + c / 100, 48 + c / 10 % 10, 48 + c % 10]
theorem dig (c : UInt8) : ((48 + c / 100 : UInt8).toNat : Int) = 48 + (c.toNat : Int) / 100 ∧ ((48 + c / 10 % 10 : UInt8).toNat : Int) = 48 + (c.toNat : Int) / 10 % 10 ∧ ((48 + c % 10 : UInt8).toNat : Int) = 48 + (c.toNat : Int) % 10 := by
  have h := c.toNat_lt
  refine ⟨?_, ?_, ?_⟩
  · rw [UInt8.toNat_add, UInt8.toNat_div]
    have e1 : (48 : UInt8).toNat = 48 := rfl
    have e2 : (100 : UInt8).toNat = 100 := rfl
    rw [e1, e2]; omega
  · rw [UInt8.toNat_add, UInt8.toNat_mod, UInt8.toNat_div]
    have e1 : (48 : UInt8).toNat = 48 := rfl
    have e2 : (10 : UInt8).toNat = 10 := rfl
    rw [e1, e2]; omega
  · rw [UInt8.toNat_add, UInt8.toNat_mod]
    have e1 : (48 : UInt8).toNat = 48 := rfl
    have e2 : (10 : UInt8).toNat = 10 := rfl
    rw [e1, e2]; omega

end Go.Proofs.YtkcpbjoolfojjaaGreatDoor.showA
namespace Go.Proofs.YtkcpbjoolfojjaaGreatDoor.showB
open Go.RowKit Go.Proofs.YtkcpbjoolfojjaaGreatDoor.kit Go.Proofs.YtkcpbjoolfojjaaGreatDoor.check Go.Proofs.YtkcpbjoolfojjaaGreatDoor.nspec Go.Proofs.YtkcpbjoolfojjaaGreatDoor.rsplit Go.Proofs.YtkcpbjoolfojjaaGreatDoor.low Go.Proofs.YtkcpbjoolfojjaaGreatDoor.showA Go.Proofs.YtkcpbjoolfojjaaGreatDoor.rcmp Go.Proofs.YtkcpbjoolfojjaaGreatDoor.refA

def spec8 : Bs := [46, 92, 34, 40, 41, 59, 64, 36]
def escB (c : UInt8) : Bs := if spec8.contains c then [92, c] else if c.toNat < 33 ∨ 126 < c.toNat then 92 :: escL c else [c]
def labSh (x : Bs) : Bs := x.flatMap escB ++ [46]
def showL (ls : List Bs) : Bs := ls.flatMap labSh
def showS (l : Bs) : Bs := match split l with | none => [] | some [] => [46] | some ls => showL ls
theorem escB_len (c : UInt8) : (escB c).length ≤ 4 := by
  unfold escB
  split
  · simp
  · split
    · simp [escL]
    · simp
theorem esc_len (x : Bs) : (x.flatMap escB).length ≤ 4 * x.length := by
  induction x with
  | nil => simp
  | cons c r ih => have := escB_len c; simp only [List.flatMap_cons, List.length_append, List.length_cons]; omega
theorem show_len (ls : List Bs) : (showL ls).length ≤ 4 * room ls := by
  induction ls with
  | nil => simp [showL]
  | cons x r ih => have := esc_len x; simp only [showL, labSh, room, List.flatMap_cons, List.length_append, List.map_cons, List.sum_cons, List.length_cons, List.length_nil] at *; omega
theorem escB_cases (c : UInt8) : (spec8.contains c = true ∧ escB c = [92, c]) ∨ (spec8.contains c = false ∧ escB c = 92 :: escL c ∧ ((c.toNat : Int) < 33 ∨ 126 < (c.toNat : Int))) ∨ (spec8.contains c = false ∧ escB c = [c] ∧ ¬ (c.toNat : Int) < 33 ∧ ¬ 126 < (c.toNat : Int)) := by
  unfold escB
  cases spec8.contains c with
  | true => exact .inl ⟨rfl, rfl⟩
  | false =>
    by_cases h : c.toNat < 33 ∨ 126 < c.toNat
    · exact .inr (.inl ⟨rfl, by rw [if_neg (by simp), if_pos h], by omega⟩)
    · exact .inr (.inr ⟨rfl, by rw [if_neg (by simp), if_neg h], by omega, by omega⟩)

end Go.Proofs.YtkcpbjoolfojjaaGreatDoor.showB
namespace Go.Proofs.YtkcpbjoolfojjaaGreatDoor.dshow
open Go.Proofs.YtkcpbjoolfojjaaGreatDoor.nspec Go.Proofs.YtkcpbjoolfojjaaGreatDoor.bits Go.Proofs.YtkcpbjoolfojjaaGreatDoor.fld Go.Proofs.YtkcpbjoolfojjaaGreatDoor.tname Go.Proofs.YtkcpbjoolfojjaaGreatDoor.to32 Go.Proofs.YtkcpbjoolfojjaaGreatDoor.showA Go.Proofs.YtkcpbjoolfojjaaGreatDoor.showB Go.Proofs.YtkcpbjoolfojjaaGreatDoor.val
set_option linter.unusedVariables false

def set16 : List UInt8 := [48, 49, 50, 51, 52, 53, 54, 55, 56, 57, 97, 98, 99, 100, 101, 102]
def set64 : List UInt8 := [65, 66, 67, 68, 69, 70, 71, 72, 73, 74, 75, 76, 77, 78, 79, 80, 81, 82, 83, 84, 85, 86, 87, 88, 89, 90, 97, 98, 99, 100, 101, 102, 103, 104, 105, 106, 107, 108, 109, 110, 111, 112, 113, 114, 115, 116, 117, 118, 119, 120, 121, 122, 48, 49, 50, 51, 52, 53, 54, 55, 56, 57, 43, 47]
def quoteB (c : UInt8) : Bs := if c = 34 ∨ c = 92 then [92, c] else if c.toNat < 32 ∨ 126 < c.toNat then 92 :: escL c else [c]
def quoteS (d : Bs) : Bs := 34 :: (d.flatMap quoteB ++ [34])
def hexS (d : Bs) : Bs := enc 4 set16 (bitsL d)
def padS (s : Bs) : Bs := s ++ List.replicate ((4 - s.length % 4) % 4) 61
def b64S (d : Bs) : Bs := padS (enc 6 set64 (bitsL d))

theorem quoteB_len (c : UInt8) : (quoteB c).length ≤ 4 := by
  unfold quoteB; split
  · simp
  · split
    · simp [escL]
    · simp
theorem quote_len (d : Bs) : (d.flatMap quoteB).length ≤ 4 * d.length := by
  induction d with
  | nil => simp
  | cons c r ih => have := quoteB_len c; simp only [List.flatMap_cons, List.length_append, List.length_cons]; omega
theorem quoteS_len (d : Bs) : (quoteS d).length ≤ 4 * d.length + 2 := by
  have := quote_len d; simp only [quoteS, List.length_cons, List.length_append, List.length_nil]; omega

theorem tob_split (v n m : Nat) : tob v (n + m) = tob (v / 2 ^ m) n ++ tob v m := by
  have h := tob_append (v / 2 ^ m) (v % 2 ^ m) n m (Nat.mod_lt _ (Nat.two_pow_pos m))
  rw [Nat.div_add_mod', tob_mod v m m (Nat.le_refl _)] at h
  exact h
theorem hex_step (c : UInt8) (r : Bs) : hexS (c :: r) = [set16.getD (c.toNat / 16) 0, set16.getD (c.toNat % 16) 0] ++ hexS r := by
  have hc := c.toNat_lt
  unfold hexS
  rw [bits_cons, show (8 : Nat) = 4 + 4 from rfl, tob_split, List.append_assoc, enc_full _ _ _ (by omega) (tob_length _ _), enc_full _ _ _ (by omega) (tob_length _ _), ofb_tob, ofb_tob]
  rw [show c.toNat / 2 ^ 4 % 2 ^ 4 = c.toNat / 16 by omega]
  rfl
theorem hex_nil : hexS [] = [] := rfl
theorem hex_len (d : Bs) : (hexS d).length = 2 * d.length := by
  induction d with
  | nil => rfl
  | cons c r ih => rw [hex_step, List.length_append, ih]; simp; omega

def sext (v k : Nat) : UInt8 := set64.getD (v / 2 ^ (18 - 6 * k) % 64) 0
theorem b64_three (a b c : UInt8) (r : Bs) : b64S (a :: b :: c :: r) = [sext (valL [a, b, c] 0) 0, sext (valL [a, b, c] 0) 1, sext (valL [a, b, c] 0) 2, sext (valL [a, b, c] 0) 3] ++ b64S r := by
  have ha := a.toNat_lt; have hb := b.toNat_lt; have hc := c.toNat_lt
  have e : bitsL (a :: b :: c :: r) = tob (valL [a, b, c] 0) 24 ++ bitsL r := by
    simp only [bits_cons, valL]
    have e1 := tob_append (a.toNat * 256 + b.toNat) c.toNat 16 8 hc
    have e2 := tob_append a.toNat b.toNat 8 8 hb
    simp only [show (2 : Nat) ^ 8 = 256 from rfl] at e1 e2
    rw [show (0 * 256 + a.toNat) = a.toNat by omega, show (24 : Nat) = 16 + 8 from rfl, e1, show (16 : Nat) = 8 + 8 from rfl, e2]
    simp
  unfold b64S
  rw [e]
  obtain ⟨v, hv⟩ : ∃ v, valL [a, b, c] 0 = v := ⟨_, rfl⟩
  rw [hv, show (24 : Nat) = 6 + 18 from rfl, tob_split, show (18 : Nat) = 6 + 12 from rfl, tob_split v 6 12, show (12 : Nat) = 6 + 6 from rfl, tob_split v 6 6]
  simp only [List.append_assoc]
  rw [enc_full _ _ _ (by omega) (tob_length _ _), enc_full _ _ _ (by omega) (tob_length _ _), enc_full _ _ _ (by omega) (tob_length _ _), enc_full _ _ _ (by omega) (tob_length _ _)]
  simp only [ofb_tob]
  unfold padS sext
  simp only [List.length_cons, List.cons_append, List.nil_append]
  rw [show (enc 6 set64 (bitsL r)).length + 1 + 1 + 1 + 1 = (enc 6 set64 (bitsL r)).length + 4 by omega, Nat.add_mod_right]
  simp
theorem b64_two (a b : UInt8) : b64S [a, b] = [sext (valL [a, b, 0] 0) 0, sext (valL [a, b, 0] 0) 1, sext (valL [a, b, 0] 0) 2, 61] := by
  have ha := a.toNat_lt; have hb := b.toNat_lt
  have e : bitsL [a, b] = tob (a.toNat * 256 + b.toNat) 16 := by
    have e2 := tob_append a.toNat b.toNat 8 8 hb
    simp only [show (2 : Nat) ^ 8 = 256 from rfl] at e2
    rw [show (16 : Nat) = 8 + 8 from rfl, e2]; simp [bitsL]
  unfold b64S
  rw [e]
  obtain ⟨v, hv⟩ : ∃ v, a.toNat * 256 + b.toNat = v := ⟨_, rfl⟩
  have hvl : valL [a, b, 0] 0 = v * 256 := by simp only [valL]; rw [← hv]; simp
  rw [hv, hvl, show (16 : Nat) = 6 + 10 from rfl, tob_split, show (10 : Nat) = 6 + 4 from rfl, tob_split v 6 4]
  rw [enc_full _ _ _ (by omega) (tob_length _ _), enc_full _ _ _ (by omega) (tob_length _ _), enc_last _ _ (by rw [tob_length]; omega) (by rw [tob_length]; omega)]
  simp only [ofb_tob, tob_length]
  unfold padS sext
  have h1 : v / 2 ^ (6 + 4) % 2 ^ 6 = v * 256 / 2 ^ (18 - 6 * 0) % 64 := by omega
  have h2 : v / 2 ^ 4 % 2 ^ 6 = v * 256 / 2 ^ (18 - 6 * 1) % 64 := by omega
  have h3 : v % 2 ^ 4 * 2 ^ (6 - 4) = v * 256 / 2 ^ (18 - 6 * 2) % 64 := by omega
  rw [h1, h2, h3]; rfl
theorem b64_one (a : UInt8) : b64S [a] = [sext (valL [a, 0, 0] 0) 0, sext (valL [a, 0, 0] 0) 1, 61, 61] := by
  have ha := a.toNat_lt
  have e : bitsL [a] = tob a.toNat 8 := by simp [bitsL]
  unfold b64S
  rw [e]
  obtain ⟨v, hv⟩ : ∃ v, a.toNat = v := ⟨_, rfl⟩
  have hvl : valL [a, 0, 0] 0 = v * 65536 := by simp only [valL]; rw [← hv]; simp; omega
  rw [hv, hvl, show (8 : Nat) = 6 + 2 from rfl, tob_split]
  rw [enc_full _ _ _ (by omega) (tob_length _ _), enc_last _ _ (by rw [tob_length]; omega) (by rw [tob_length]; omega)]
  simp only [ofb_tob, tob_length]
  unfold padS sext
  have h1 : v / 2 ^ 2 % 2 ^ 6 = v * 65536 / 2 ^ (18 - 6 * 0) % 64 := by omega
  have h2 : v % 2 ^ 2 * 2 ^ (6 - 2) = v * 65536 / 2 ^ (18 - 6 * 1) % 64 := by omega
  rw [h1, h2]; rfl
theorem b64_nil : b64S [] = [] := rfl

/-- the words of a row of texts, one after the other -/
def textsF2 : Nat → Bs → List Bs
  | 0, _ => []
  | _ + 1, [] => []
  | f + 1, c :: r => quoteS (r.take c.toNat) :: textsF2 f (r.drop c.toNat)
def textsW (d : Bs) : List Bs := textsF2 (d.length + 1) d
theorem texts2_fuel : ∀ (f g : Nat) (d : Bs), d.length < f → d.length < g → textsF2 f d = textsF2 g d
  | 0, _, _, h, _ => by omega
  | _ + 1, 0, _, _, h => by omega
  | f + 1, g + 1, [], _, _ => rfl
  | f + 1, g + 1, c :: r, h1, h2 => by
    simp only [List.length_cons] at h1 h2
    simp only [textsF2]
    rw [texts2_fuel f g _ (by rw [List.length_drop]; omega) (by rw [List.length_drop]; omega)]
theorem textsW_cons (c : UInt8) (r : Bs) : textsW (c :: r) = quoteS (r.take c.toNat) :: textsW (r.drop c.toNat) := by
  unfold textsW
  rw [textsF2, texts2_fuel _ ((r.drop c.toNat).length + 1) _ (by rw [List.length_drop, List.length_cons]; omega) (by omega)]
theorem textsW_nil : textsW [] = [] := rfl

/-- an address of sixteen bytes -/
def hexNF : Nat → Nat → Bs
  | 0, _ => []
  | f + 1, n => if n < 16 then [set16.getD n 0] else hexNF f (n / 16) ++ [set16.getD (n % 16) 0]
def hexN (n : Nat) : Bs := hexNF 4 n
def group (d : Bs) (k : Nat) : Nat := (d.getD (2 * k) 0).toNat * 256 + (d.getD (2 * k + 1) 0).toNat
def zeroG (d : Bs) (k : Nat) : Bool := d.getD (2 * k) 0 == 0 && d.getD (2 * k + 1) 0 == 0
def zAt (z : List Bool) (k : Nat) : Bool := z.getD k false
/-- how many noughts stand from k on -/
def runZ (z : List Bool) : Nat → Nat → Nat
  | 0, _ => 0
  | f + 1, k => if k < 8 ∧ zAt z k = true then 1 + runZ z f (k + 1) else 0
def bestF (z : List Bool) : Nat → Nat → Int → Nat → Int × Nat
  | 0, _, a, m => (a, m)
  | f + 1, k, a, m => if m < runZ z 8 k then bestF z f (k + 1) k (runZ z 8 k) else bestF z f (k + 1) a m
def bestS (z : List Bool) : Int × Nat := bestF z 8 0 (-1) 1
def allZ (z : List Bool) (k m : Nat) : Bool := ((z.drop k).take m).all id
def tryM (z : List Bool) (k : Nat) : Nat → Nat → Nat × Nat → Nat × Nat
  | 0, _, p => p
  | f + 1, m, p => if k + m ≤ 8 then tryM z k f (m + 1) (if allZ z k m = true ∧ p.2 < m then (k, m) else p) else p
def refF (z : List Bool) : Nat → Nat → Nat × Nat → Nat × Nat
  | 0, _, p => p
  | f + 1, k, p => refF z f (k + 1) (tryM z k 8 2 p)
def refZ (z : List Bool) : Nat × Nat := refF z 8 0 (0, 0)
def agree (z : List Bool) : Bool :=
  (decide ((bestS z).1 = -1) && decide ((refZ z).2 = 0) && decide ((bestS z).2 = 1)) || (decide ((bestS z).1 = ((refZ z).1 : Int)) && decide ((bestS z).2 = (refZ z).2) && decide (2 ≤ (refZ z).2) && decide ((refZ z).1 + (refZ z).2 ≤ 8))
set_option maxRecDepth 100000 in
theorem agree_all : ∀ a b c d e f g h : Bool, agree [a, b, c, d, e, f, g, h] = true := by decide +kernel

def colon (h : List Bs) : Bs := match h with
  | [] => []
  | x :: r => x ++ r.flatMap (fun y => 58 :: y)
/-- how the code goes over the groups -/
def outF (h : List Bs) (a : Int) (m : Nat) : Nat → Nat → Bs
  | 0, _ => []
  | f + 1, k => if 8 ≤ k then [] else if (k : Int) = a then [58, 58] ++ outF h a m f (k + m) else (if 0 < k ∧ (k : Int) ≠ a + m then [58] else if 0 < k ∧ a < 0 then [58] else []) ++ h.getD k [] ++ outF h a m f (k + 1)
def outS (h : List Bs) (a : Int) (m : Nat) : Bs := outF h a m 9 0
def refOut (h : List Bs) (a m : Nat) : Bs := if m = 0 then colon h else colon (h.take a) ++ [58, 58] ++ colon (h.drop (a + m))
theorem out_none (h0 h1 h2 h3 h4 h5 h6 h7 : Bs) : outS [h0, h1, h2, h3, h4, h5, h6, h7] (-1) 1 = refOut [h0, h1, h2, h3, h4, h5, h6, h7] 0 0 := by
  simp [outS, outF, refOut, colon]
theorem out_some (h0 h1 h2 h3 h4 h5 h6 h7 : Bs) : ∀ a m : Nat, 2 ≤ m → a + m ≤ 8 → outS [h0, h1, h2, h3, h4, h5, h6, h7] (a : Int) m = refOut [h0, h1, h2, h3, h4, h5, h6, h7] a m := by
  intro a m h2 h8
  have ha : a = 0 ∨ a = 1 ∨ a = 2 ∨ a = 3 ∨ a = 4 ∨ a = 5 ∨ a = 6 := by omega
  have hm : m = 2 ∨ m = 3 ∨ m = 4 ∨ m = 5 ∨ m = 6 ∨ m = 7 ∨ m = 8 := by omega
  rcases ha with rfl | rfl | rfl | rfl | rfl | rfl | rfl <;> rcases hm with rfl | rfl | rfl | rfl | rfl | rfl | rfl <;> first | (exfalso; omega) | simp [outS, outF, refOut, colon]
def grpS (d : Bs) (k : Nat) : Bs := hexN (group d k)
def hs6 (d : Bs) : List Bs := (List.range 8).map (grpS d)
def zs6 (d : Bs) : List Bool := (List.range 8).map (zeroG d)
def ip6S (d : Bs) : Bs := outS (hs6 d) (bestS (zs6 d)).1 (bestS (zs6 d)).2
def ip4S (d : Bs) : Bs := Lib.decDigits (d.getD 0 0).toNat ++ [46] ++ Lib.decDigits (d.getD 1 0).toNat ++ [46] ++ Lib.decDigits (d.getD 2 0).toNat ++ [46] ++ Lib.decDigits (d.getD 3 0).toNat
def saltS (d : Bs) : Bs := if d.length = 1 then [45] else hexS (d.drop 1)
/-- the words of one field -/
def showF : Fld → Bs → List Bs
  | .num _, d => [Lib.decDigits (valL d 0)]
  | .ip4, d => [ip4S d]
  | .ip6, d => [ip6S d]
  | .host, d => [showS d]
  | .text, d => [quoteS (d.drop 1)]
  | .texts, d => textsW d
  | .tail, d => [quoteS d]
  | .hexes, d => [hexS d]
  | .b64, d => [b64S d]
  | .kind, d => [tnameS ((valL d 0 : Nat) : Int)]
  | .kinds, d => ((typesS d).getD []).map (fun t => tnameS ((t : Nat) : Int))
  | .salt, d => [saltS d]
  | .hash, d => [to32S (d.drop 1)]
def wordsL : List Fld → List Bs → List Bs
  | f :: fs, x :: p => showF f x ++ wordsL fs p
  | _, _ => []
def joinS : List Bs → Bs
  | [] => []
  | x :: r => x ++ r.flatMap (fun y => 32 :: y)
def showDS (t : Int) (d : Bs) : Bs := if checkS t d = 0 then (match formS t, partsS t d with | some fs, some p => joinS (wordsL fs p) | _, _ => [92, 35, 32] ++ Lib.decDigits d.length ++ (if d = [] then [] else 32 :: hexS d)) else []

/-- a part is what its field takes -/
def OkP (f : Fld) (x : Bs) : Prop := takeS f x = (x.length : Int)
theorem ok_text {c : UInt8} {r : Bs} (h : ¬ r.length < c.toNat) : textS ((c :: r).take (1 + c.toNat)) = 1 + (c.toNat : Int) := by
  rw [Nat.add_comm 1, List.take_succ_cons]
  simp only [textS, List.length_take]
  rw [if_neg (by omega)]
theorem texts_whole : ∀ (f at0 : Nat) (d : Bs), 0 ≤ textsF f at0 d → textsF f at0 d = (at0 : Int) + d.length
  | 0, at0, d, h => by simp [textsF] at h
  | f + 1, at0, [], h => by
    simp only [textsF] at h ⊢
    split at h
    · omega
    · rename_i h0; rw [if_neg h0]; simp
  | f + 1, at0, c :: r, h => by
    simp only [textsF] at h ⊢
    split at h
    · omega
    · rename_i h0
      rw [if_neg h0, texts_whole f _ _ h]
      rw [List.length_drop, List.length_cons]; omega
theorem host_part {d : Bs} {m : Nat} (h : hostS d = (m : Int)) : hostS (d.take m) = (m : Int) ∧ m ≤ d.length := by
  have hle := (hostS_le d).1
  unfold hostS at h
  cases hf : (List.range 256).find? (fun k => (split (d.take k)).isSome) with
  | none => rw [hf] at h; simp at h
  | some k =>
    rw [hf] at h
    have hkm : k = m := by have h' : (k : Int) = m := by simpa using h
                           omega
    subst hkm
    obtain ⟨h1, h2, h3⟩ := List.find?_range_eq_some.1 hf
    refine ⟨?_, by unfold hostS at hle; rw [hf] at hle; simpa using hle⟩
    have : (List.range 256).find? (fun j => (split ((d.take k).take j)).isSome) = some k := by
      rw [List.find?_range_eq_some]
      refine ⟨by rw [List.take_take, Nat.min_self]; exact h1, h2, fun j hj => ?_⟩
      rw [List.take_take, Nat.min_eq_left (by omega)]; exact h3 j hj
    unfold hostS
    rw [this]
theorem ok_take {f : Fld} {d : Bs} {m : Nat} (h : takeS f d = (m : Int)) : OkP f (d.take m) := by
  have hle := (takeS_le f d).1
  rw [h] at hle
  have hl : (d.take m).length = m := by rw [List.length_take]; omega
  unfold OkP
  rw [hl]
  have whole : m = d.length → takeS f (d.take m) = (m : Int) := fun e => by rw [e, List.take_length, ← e]; exact h
  cases f with
  | num k => simp only [takeS] at h ⊢; rw [hl]; split at h <;> split <;> omega
  | ip4 => simp only [takeS] at h ⊢; rw [hl]; split at h <;> split <;> omega
  | ip6 => simp only [takeS] at h ⊢; rw [hl]; split at h <;> split <;> omega
  | host => exact (host_part h).1
  | text =>
    cases d with
    | nil => simp only [takeS, textS] at h; omega
    | cons c r =>
      simp only [takeS, textS] at h
      split at h
      · omega
      · rename_i h0
        obtain rfl : m = 1 + c.toNat := by omega
        show textS _ = _
        rw [ok_text h0]; omega
  | salt =>
    cases d with
    | nil => simp only [takeS, textS] at h; omega
    | cons c r =>
      simp only [takeS, textS] at h
      split at h
      · omega
      · rename_i h0
        obtain rfl : m = 1 + c.toNat := by omega
        show textS _ = _
        rw [ok_text h0]; omega
  | hash =>
    cases d with
    | nil => simp [takeS] at h
    | cons c r =>
      simp only [takeS] at h ⊢
      split at h
      · omega
      · rename_i hz
        simp only [textS] at h
        split at h
        · omega
        · rename_i h0
          obtain rfl : m = 1 + c.toNat := by omega
          rw [if_neg, ok_text h0]
          · omega
          · rw [Nat.add_comm 1, List.take_succ_cons]
            simpa using hz
  | texts =>
    refine whole ?_
    simp only [takeS, textsS] at h
    have := texts_whole _ _ _ (by rw [h]; omega)
    omega
  | tail => exact whole (by simp only [takeS] at h; omega)
  | hexes =>
    refine whole ?_
    simp only [takeS, someS] at h
    split at h <;> omega
  | b64 =>
    refine whole ?_
    simp only [takeS, someS] at h
    split at h <;> omega
  | kind =>
    simp only [takeS] at h ⊢
    split at h
    · omega
    · rename_i hz
      obtain rfl : m = 2 := by omega
      have h2 : 2 ≤ d.length := by
        rcases Nat.lt_or_ge d.length 2 with h' | h'
        · exact absurd (Or.inl h') hz
        · exact h'
      match d, h2, hz with
      | a :: b :: r, _, hz =>
        rw [if_neg]; · rfl
        intro hc; apply hz
        rcases hc with hc | hc
        · simp at hc
        · exact .inr (by simpa using hc)
  | kinds =>
    refine whole ?_
    simp only [takeS] at h
    split at h <;> omega
theorem ok_parts : ∀ (fs : List Fld) (d : Bs) (p : List Bs) (r : Bs), splitS fs d = some (p, r) → ∀ (k : Nat) (f : Fld) (x : Bs), fs[k]? = some f → p[k]? = some x → OkP f x
  | [], d, p, r, h, k, f, x, hf, hx => by simp at hf
  | g :: fs, d, p, r, h, k, f, x, hf, hx => by
    simp only [splitS] at h
    split at h
    · cases h
    · rename_i hn
      cases hs : splitS fs (d.drop (takeS g d).toNat) with
      | none => rw [hs] at h; cases h
      | some q =>
        rw [hs] at h
        simp only [Option.map_some, Option.some.injEq, Prod.mk.injEq] at h
        obtain ⟨rfl, rfl⟩ := h
        cases k with
        | zero =>
          simp only [List.getElem?_cons_zero, Option.some.injEq] at hf hx
          subst hf; subst hx
          exact ok_take (m := (takeS g d).toNat) (by omega)
        | succ k =>
          simp only [List.getElem?_cons_succ] at hf hx
          exact ok_parts fs _ _ _ hs k f x hf hx

/-- how long words are, put together with blanks -/
def totW (ls : List Bs) : Nat := (ls.map (fun x => x.length + 1)).sum
theorem totW_cons (x : Bs) (r : List Bs) : totW (x :: r) = x.length + 1 + totW r := rfl
theorem totW_append (a b : List Bs) : totW (a ++ b) = totW a + totW b := by simp [totW]
theorem totW_count (ls : List Bs) : ls.length ≤ totW ls := by
  induction ls with
  | nil => simp
  | cons x r ih => rw [totW_cons, List.length_cons]; omega
theorem flat_len (r : List Bs) : (r.flatMap (fun y => (32 : UInt8) :: y)).length = totW r := by
  induction r with
  | nil => rfl
  | cons x r ih => rw [totW_cons, List.flatMap_cons, List.length_append, ih, List.length_cons]
theorem join_len (ls : List Bs) : (joinS ls).length ≤ totW ls := by
  cases ls with
  | nil => simp [joinS]
  | cons x r => rw [totW_cons]; simp only [joinS, List.length_append, flat_len]; omega
theorem valL_lt : ∀ (l : Bs) (v : Nat), valL l v < (v + 1) * 256 ^ l.length
  | [], v => by simp [valL]
  | c :: r, v => by
    have h := valL_lt r (v * 256 + c.toNat)
    have hc := c.toNat_lt
    rw [valL, List.length_cons, Nat.pow_succ]
    refine Nat.lt_of_lt_of_le h ?_
    rw [Nat.mul_comm (256 ^ r.length) 256, ← Nat.mul_assoc]
    exact Nat.mul_le_mul_right _ (by omega)
theorem valL_four {l : Bs} (h : l.length ≤ 4) : valL l 0 < 4294967296 := by
  have h1 := valL_lt l 0
  have h2 : 256 ^ l.length ≤ 256 ^ 4 := Nat.pow_le_pow_right (by omega) h
  omega
theorem valL_two {l : Bs} (h : l.length ≤ 2) : valL l 0 < 65536 := by
  have h1 := valL_lt l 0
  have h2 : 256 ^ l.length ≤ 256 ^ 2 := Nat.pow_le_pow_right (by omega) h
  omega
theorem dec_byte (c : UInt8) : (Lib.decDigits c.toNat).length ≤ 3 := dec_len 2 _ (by have := c.toNat_lt; omega)
theorem ip4_len (d : Bs) : (ip4S d).length ≤ 15 := by
  have h0 := dec_byte (d.getD 0 0); have h1 := dec_byte (d.getD 1 0); have h2 := dec_byte (d.getD 2 0); have h3 := dec_byte (d.getD 3 0)
  simp only [ip4S, List.length_append, List.length_cons, List.length_nil]; omega
theorem hexN_len (n : Nat) : 1 ≤ (hexN n).length ∧ (hexN n).length ≤ 4 := by
  have h : ∀ f n, (hexNF f n).length ≤ f := by
    intro f
    induction f with
    | zero => intro n; simp [hexNF]
    | succ f ih => intro n; simp only [hexNF]; split
                   · simp
                   · have := ih (n / 16); simp; exact this
  refine ⟨?_, h 4 n⟩
  unfold hexN
  rw [hexNF]; split
  · simp
  · simp
theorem outF_len (h : List Bs) (hh : ∀ x ∈ h, x.length ≤ 4) (a : Int) (m : Nat) : ∀ f k, (outF h a m f k).length ≤ 5 * f
  | 0, k => by simp [outF]
  | f + 1, k => by
    have h1 := outF_len h hh a m f (k + m)
    have h2 := outF_len h hh a m f (k + 1)
    have h3 : (h.getD k []).length ≤ 4 := by
      rw [List.getD]
      cases e : h[k]? with
      | none => simp
      | some x => exact hh x (List.mem_of_getElem? e)
    simp only [outF]
    split
    · simp
    · split
      · simp only [List.length_append, List.length_cons, List.length_nil]; omega
      · simp only [List.length_append]
        split
        · simp only [List.length_cons, List.length_nil]; omega
        · split
          · simp only [List.length_cons, List.length_nil]; omega
          · simp only [List.length_nil]; omega
theorem hs6_len (d : Bs) : ∀ x ∈ hs6 d, x.length ≤ 4 := by
  intro x hx
  obtain ⟨k, _, rfl⟩ := List.mem_map.1 hx
  exact (hexN_len _).2
theorem ip6_len (d : Bs) : (ip6S d).length ≤ 45 := outF_len _ (hs6_len d) _ _ _ _
theorem mnem_len (t : Int) : (mnemS t).length ≤ 10 := by
  unfold mnemS
  cases h : mnemL.find? (·.1 == t) with
  | none => simp
  | some p =>
    have hm := List.mem_of_find?_eq_some h
    have : ∀ p ∈ mnemL, p.2.length ≤ 10 := by decide
    exact this p hm
theorem tname_len (t : Int) : (tnameS t).length ≤ 10 := by
  have h := mnem_len t
  unfold tnameS
  split
  · split
    · simp
    · rename_i ht
      have := itoa_len (t := t) (by omega) (by omega)
      simp; omega
  · exact h
theorem pick_len (b : Nat) : ∀ (l : List Nat) (k : Nat), (pickL b k l).length ≤ l.length
  | [], k => by simp [pickL]
  | x :: l, k => by
    have := pick_len b l (k + 1)
    simp only [pickL]; split
    · simp only [List.length_cons]; omega
    · simp only [List.length_cons]; omega
theorem types_len : ∀ (f : Nat) (last : Int) (out : List Nat) (d : Bs) (l : List Nat), typesF f last out d = some l → l.length ≤ out.length + 8 * d.length
  | 0, last, out, d, l, h => by simp [typesF] at h
  | f + 1, last, out, [], l, h => by
    have e : out = l := by simpa [typesF] using h
    rw [← e]; omega
  | f + 1, last, out, [b], l, h => by simp [typesF] at h
  | f + 1, last, out, b :: n :: m, l, h => by
    simp only [typesF] at h
    split at h
    · cases h
    · have h1 := types_len f _ _ _ _ h
      have h2 := pick_len b.toNat (bitsL (m.take n.toNat)) 0
      rw [bitsL_len] at h2
      rw [List.length_append, List.length_drop] at h1
      rw [List.length_take] at h2
      unfold blockL at h1
      simp only [List.length_cons]; omega
theorem types_count {d : Bs} {l : List Nat} (h : typesS d = some l) : l.length ≤ 8 * d.length := by
  unfold typesS at h
  cases e : typesF (d.length + 1) (-1) [] d with
  | none => rw [e] at h; cases h
  | some l' =>
    rw [e] at h
    simp only at h
    split at h
    · cases h
    · have : l' = l := by simpa using h
      subst this
      have := types_len _ _ _ _ _ e
      simpa using this
theorem pad_len (s : Bs) : (padS s).length ≤ s.length + 3 := by simp only [padS, List.length_append, List.length_replicate]; omega
theorem showS_len (d : Bs) : (showS d).length ≤ 1100 := by
  unfold showS
  split
  · simp
  · simp
  · rename_i ls h1 h2
    have hN := split_iff.1 h2
    have hr := isN_room hN
    have := show_len ls
    omega
theorem textsW_len : ∀ (f : Nat) (d : Bs), d.length < f → 0 ≤ textsF f 1 d → totW (textsF2 f d) ≤ 4 * d.length
  | 0, d, h, _ => by omega
  | f + 1, [], h, _ => by simp [textsF2, totW]
  | f + 1, c :: r, h, h0 => by
    simp only [List.length_cons] at h ⊢
    simp only [textsF] at h0
    split at h0
    · omega
    · rename_i hc
      have hany : ∀ (f : Nat) (a b : Nat) (d : Bs), 1 ≤ a → 1 ≤ b → 0 ≤ textsF f a d → 0 ≤ textsF f b d := by
        intro f
        induction f with
        | zero => intro a b d _ _ h; simp [textsF] at h
        | succ f ih =>
          intro a b d ha hb h
          cases d with
          | nil => simp only [textsF]; rw [if_neg (by omega)]; omega
          | cons c r =>
            simp only [textsF] at h ⊢
            split at h
            · omega
            · rename_i hc; rw [if_neg hc]; exact ih _ _ _ (by omega) (by omega) h
      have h1 := textsW_len f (r.drop c.toNat) (by rw [List.length_drop]; omega) (hany _ _ _ _ (by omega) (by omega) h0)
      have h2 := quoteS_len (r.take c.toNat)
      rw [List.length_take] at h2
      rw [List.length_drop] at h1
      rw [textsF2, totW_cons]
      omega
def Num4 (f : Fld) : Prop := ∀ k, f = .num k → k ≤ 4
theorem show_tot {f : Fld} {x : Bs} (h : OkP f x) (h4 : Num4 f) : totW (showF f x) ≤ 1200 + 100 * x.length := by
  have one : ∀ y : Bs, totW [y] = y.length + 1 := fun y => rfl
  unfold OkP at h
  cases f with
  | num k =>
    have hk := h4 k rfl
    simp only [takeS] at h
    have hl : x.length ≤ 4 := by split at h <;> omega
    have := dec_len 9 (valL x 0) (by have := valL_four hl; omega)
    rw [showF, one]; omega
  | ip4 => have := ip4_len x; rw [showF, one]; omega
  | ip6 => have := ip6_len x; rw [showF, one]; omega
  | host => have := showS_len x; rw [showF, one]; omega
  | text => have := quoteS_len (x.drop 1); rw [List.length_drop] at this; rw [showF, one]; omega
  | texts =>
    cases x with
    | nil => simp [showF, textsW, textsF2, totW]
    | cons c r =>
      have h0 : 0 ≤ textsF ((c :: r).length + 1) 1 (c :: r) := by
        simp only [takeS, textsS, textsF] at h ⊢
        split at h
        · omega
        · rename_i hc
          rw [if_neg hc]
          have hany : ∀ (f : Nat) (a b : Nat) (d : Bs), 1 ≤ a → 1 ≤ b → 0 ≤ textsF f a d → 0 ≤ textsF f b d := by
            intro f
            induction f with
            | zero => intro a b d _ _ h; simp [textsF] at h
            | succ f ih =>
              intro a b d ha hb h
              cases d with
              | nil => simp only [textsF]; rw [if_neg (by omega)]; omega
              | cons c r =>
                simp only [textsF] at h ⊢
                split at h
                · omega
                · rename_i hc; rw [if_neg hc]; exact ih _ _ _ (by omega) (by omega) h
          exact hany _ (0 + (1 + c.toNat)) (1 + (1 + c.toNat)) _ (by omega) (by omega) (by rw [h]; exact Int.natCast_nonneg _)
      have := textsW_len _ _ (by omega) h0
      rw [showF]; unfold textsW; omega
  | tail => have := quoteS_len x; rw [showF, one]; omega
  | hexes => have := hex_len x; rw [showF, one]; omega
  | b64 =>
    have h1 := pad_len (enc 6 set64 (bitsL x))
    have h2 := enc_len 6 set64 (by omega) (bitsL x)
    rw [bitsL_len] at h2
    rw [showF, one]; unfold b64S; omega
  | kind => have := tname_len ((valL x 0 : Nat) : Int); rw [showF, one]; omega
  | kinds =>
    rw [showF]
    cases e : typesS x with
    | none => simp [totW]
    | some l =>
      have h1 := types_count e
      have h2 : ∀ l : List Nat, totW (l.map (fun t => tnameS ((t : Nat) : Int))) ≤ 11 * l.length := by
        intro l
        induction l with
        | nil => simp [totW]
        | cons t r ih => have := tname_len ((t : Nat) : Int); rw [List.map_cons, totW_cons, List.length_cons]; omega
      have := h2 l
      simp only [Option.getD_some]; omega
  | salt =>
    rw [showF, one]
    unfold saltS
    split
    · simp; omega
    · have := hex_len (x.drop 1); rw [List.length_drop] at this; omega
  | hash =>
    have h2 := enc_len 5 set32 (by omega) (bitsL (x.drop 1))
    rw [bitsL_len, List.length_drop] at h2
    rw [showF, one]; unfold to32S; omega
theorem words_go {A : List Bs} {R : List Bs} {fs : List Fld} {p : List Bs} {k : Nat} {f : Fld} {x : Bs} (h : A ++ wordsL (fs.drop k) (p.drop k) = R) (hf : fs[k]? = some f) (hx : p[k]? = some x) : (A ++ showF f x) ++ wordsL (fs.drop (k + 1)) (p.drop (k + 1)) = R := by
  obtain ⟨h1, h2⟩ := List.getElem?_eq_some_iff.1 hf
  obtain ⟨h3, h4⟩ := List.getElem?_eq_some_iff.1 hx
  rw [List.drop_eq_getElem_cons h1, h2, List.drop_eq_getElem_cons h3, h4, wordsL] at h
  rw [← h]; simp
end Go.Proofs.YtkcpbjoolfojjaaGreatDoor.dshow
namespace Go.Proofs.YtkcpbjoolfojjaaGreatDoor.runhex
open Go.RowKit Go.Proofs.YtkcpbjoolfojjaaGreatDoor.kit Go.Proofs.YtkcpbjoolfojjaaGreatDoor.nspec Go.Proofs.YtkcpbjoolfojjaaGreatDoor.bits Go.Proofs.YtkcpbjoolfojjaaGreatDoor.ints Go.Proofs.YtkcpbjoolfojjaaGreatDoor.back Go.Proofs.YtkcpbjoolfojjaaGreatDoor.low Go.Proofs.YtkcpbjoolfojjaaGreatDoor.bld Go.Proofs.YtkcpbjoolfojjaaGreatDoor.coded Go.Proofs.YtkcpbjoolfojjaaGreatDoor.spread Go.Proofs.YtkcpbjoolfojjaaGreatDoor.whole Go.Proofs.YtkcpbjoolfojjaaGreatDoor.rdP
set_option linter.unusedVariables false

theorem byte_all {p : UInt8 → Prop} (h : ∀ i : Fin 256, p (UInt8.ofNat i.val)) (c : UInt8) : p c := by
  have := h ⟨c.toNat, c.toNat_lt⟩
  simpa using this
def al64 : List UInt8 := [65, 66, 67, 68, 69, 70, 71, 72, 73, 74, 75, 76, 77, 78, 79, 80, 81, 82, 83, 84, 85, 86, 87, 88, 89, 90, 97, 98, 99, 100, 101, 102, 103, 104, 105, 106, 107, 108, 109, 110, 111, 112, 113, 114, 115, 116, 117, 118, 119, 120, 121, 122, 48, 49, 50, 51, 52, 53, 54, 55, 56, 57, 43, 47]
theorem val64_same (c : UInt8) : valA al64 c = val64 c := byte_all (p := fun c => valA al64 c = val64 c) (by decide +kernel) c
theorem last_at {s : ByteArray} (h : 0 < s.size) : s.data.toList.getLast? = some (s[s.size - 1]'(by omega)) := by
  rw [List.getLast?_eq_getElem?, size_len, List.getElem?_eq_getElem (by rw [size_len]; omega)]
  rfl
theorem last_at2 {s : ByteArray} (h : 1 < s.size) : s.data.toList.dropLast.getLast? = some (s[s.size - 2]'(by omega)) := by
  rw [List.getLast?_eq_getElem?, List.length_dropLast, size_len, List.getElem?_dropLast, if_pos (by rw [size_len]; omega), List.getElem?_eq_getElem (by rw [size_len]; omega)]
  rfl
end Go.Proofs.YtkcpbjoolfojjaaGreatDoor.runhex
