/- signer.rightLine: walks. signer.Safe: the early ends: walk. name.Check of a text of any size: walk. The fields of data: plain. -/
import Derived.Test.YtnamkladeaohoaaK4
import Derived.Test.YtnamkladeaohoaaK15
import Derived.Test.YtnamkladeaohoaaK3
import Derived.Test.YtnamkladeaohoaaK9
import Derived.Deep.Cut
namespace Go.Proofs.Ytnamkladeaohoaa.line
open Go.RowKit Go.Proofs.Ytnamkladeaohoaa.kit Go.Proofs.Ytnamkladeaohoaa.timed Go.Proofs.Ytnamkladeaohoaa.safeP Go.Proofs.Ytnamkladeaohoaa.contains Go.Proofs.Ytnamkladeaohoaa.right Go.Proofs.Ytnamkladeaohoaa.pub
set_option linter.unusedVariables false

def okT (t : Tm) : Bool := rightB t.f t.m t.e t.s && (decide (0 ≤ t.p) && (decide (t.p ≤ t.a) && (decide (t.a ≤ t.r) && (decide (t.r ≤ t.v) && decide (t.v ≤ 4294967296)))))
def lineB (L : List Tm) : Bool := L.all okT && decide (L.length ≤ 50)
theorem pub_empty (f m e s : Int) : ((⟨(pubS f m e s).toArray⟩ : ByteArray).toList == ([] : List UInt8)) = !rightB f m e s := by
  rw [Lib.toList_data]
  unfold pubS
  cases rightB f m e s with
  | true =>
    rw [if_pos rfl]
    simp
  | false => rw [if_neg (by decide)]; rfl
set_option maxRecDepth 100000 in
set_option maxHeartbeats 8000000 in
theorem bad_any (t : Tm) (w : World) :
    Calls Try.prog 25 #[.agg #[.int .i64 t.f, .int .i64 t.m, .int .i64 t.e, .int .i64 t.s, .int .i64 t.p, .int .i64 t.a, .int .i64 t.r, .int .i64 t.v]] w fun e w' => e = .returned (.bool (!okT t)) ∧ Below w.heap.size w w' := by
  have hB0 := (Below.refl w.heap.size w).alloc (Nat.le_refl _) (.cells #[.int .i64 t.f, .int .i64 t.m, .int .i64 t.e, .int .i64 t.s, .int .i64 t.p, .int .i64 t.a, .int .i64 t.r, .int .i64 t.v] 36)
  have hx := heap_alloc_new w (.cells #[.int .i64 t.f, .int .i64 t.m, .int .i64 t.e, .int .i64 t.s, .int .i64 t.p, .int .i64 t.a, .int .i64 t.r, .int .i64 t.v] 36)
  obtain ⟨X, hX⟩ : ∃ X, w.heap.size = X := ⟨_, rfl⟩
  obtain ⟨W, hW⟩ : ∃ W, w.alloc (.cells #[.int .i64 t.f, .int .i64 t.m, .int .i64 t.e, .int .i64 t.s, .int .i64 t.p, .int .i64 t.a, .int .i64 t.r, .int .i64 t.v] 36) = W := ⟨_, rfl⟩
  rw [hW] at hB0 hx
  rw [hX] at hx
  have HB0 := Lib.hid hB0; have HW := Lib.hid hW; have HX := Lib.hid hX
  have CP := Lib.hid (pub_any t.f t.m t.e t.s W)
  have hpe := pub_empty t.f t.m t.e t.s
  obtain ⟨S, hS⟩ : ∃ S : ByteArray, (⟨(pubS t.f t.m t.e t.s).toArray⟩ : ByteArray) = S := ⟨_, rfl⟩
  rw [hS] at CP hpe
  have x0 : W.cell? ⟨X, 0, none⟩ = some (.int .i64 t.f) := by simp only [World.cell?, hx]; rfl
  have x1 : W.cell? ⟨X, 1, none⟩ = some (.int .i64 t.m) := by simp only [World.cell?, hx]; rfl
  have x2 : W.cell? ⟨X, 2, none⟩ = some (.int .i64 t.e) := by simp only [World.cell?, hx]; rfl
  have x3 : W.cell? ⟨X, 3, none⟩ = some (.int .i64 t.s) := by simp only [World.cell?, hx]; rfl
  have HXX := Lib.hid hx
  clear hB0 hW hX hS hx
  go_enter Try.func25, Try.ntmps25
  go_upto_region 1 with fail
  rw [HW.out]
  try rw [HX.out]
  go_wp2_with fail
  refine CP.out.mono ?_
  rintro e w1 ⟨rfl, hB1⟩
  have hx := (hB1.block X (by have := (Array.getElem?_eq_some_iff.1 HXX.out).1; exact this)).trans HXX.out
  have y4 : w1.cell? ⟨X, 4, none⟩ = some (.int .i64 t.p) := by simp only [World.cell?, hx]; rfl
  have y5 : w1.cell? ⟨X, 5, none⟩ = some (.int .i64 t.a) := by simp only [World.cell?, hx]; rfl
  have y6 : w1.cell? ⟨X, 6, none⟩ = some (.int .i64 t.r) := by simp only [World.cell?, hx]; rfl
  have y7 : w1.cell? ⟨X, 7, none⟩ = some (.int .i64 t.v) := by simp only [World.cell?, hx]; rfl
  have HB1 := Lib.hid (HB0.out.trans (hB1.mono HB0.out.size))
  clear hB1 hx x0 x1 x2 x3 CP HXX
  cases hr : rightB t.f t.m t.e t.s with
  | false =>
    rw [hr] at hpe
    have hres : Hid (okT t = false) := Lib.hid (by simp [okT, hr])
    simp only [Bool.not_false] at hpe
    clear hr
    go_wp2_with fail
    go_ret
    exact ⟨by rw [hres.out]; rfl, HB1.out⟩
  | true =>
    rw [hr] at hpe
    have HRR := Lib.hid hr
    simp only [Bool.not_true] at hpe
    clear hr
    by_cases ha : t.p < 0
    · have ea : decide (t.p < 0) = true := decide_eq_true ha
      have hres : Hid (okT t = false) := Lib.hid (by simp only [okT, HRR.out, decide_eq_false (show ¬ 0 ≤ t.p by omega)]; rfl)
      go_wp2_with fail
      go_ret
      exact ⟨by rw [hres.out]; rfl, HB1.out⟩
    have ea : decide (t.p < 0) = false := decide_eq_false ha
    have na : decide (0 ≤ t.p) = true := decide_eq_true (show 0 ≤ t.p by omega)
    by_cases hb : t.a < t.p
    · have eb : decide (t.a < t.p) = true := decide_eq_true hb
      have hres : Hid (okT t = false) := Lib.hid (by simp only [okT, HRR.out, na, decide_eq_false (show ¬ t.p ≤ t.a by omega)]; rfl)
      go_wp2_with fail
      go_ret
      exact ⟨by rw [hres.out]; rfl, HB1.out⟩
    have eb : decide (t.a < t.p) = false := decide_eq_false hb
    have nb : decide (t.p ≤ t.a) = true := decide_eq_true (show t.p ≤ t.a by omega)
    by_cases hc : t.r < t.a
    · have ec : decide (t.r < t.a) = true := decide_eq_true hc
      have hres : Hid (okT t = false) := Lib.hid (by simp only [okT, HRR.out, na, nb, decide_eq_false (show ¬ t.a ≤ t.r by omega)]; rfl)
      go_wp2_with fail
      go_ret
      exact ⟨by rw [hres.out]; rfl, HB1.out⟩
    have ec : decide (t.r < t.a) = false := decide_eq_false hc
    have nc : decide (t.a ≤ t.r) = true := decide_eq_true (show t.a ≤ t.r by omega)
    by_cases hd : t.v < t.r
    · have ed : decide (t.v < t.r) = true := decide_eq_true hd
      have hres : Hid (okT t = false) := Lib.hid (by simp only [okT, HRR.out, na, nb, nc, decide_eq_false (show ¬ t.r ≤ t.v by omega)]; rfl)
      go_wp2_with fail
      go_ret
      exact ⟨by rw [hres.out]; rfl, HB1.out⟩
    have ed : decide (t.v < t.r) = false := decide_eq_false hd
    have nd : decide (t.r ≤ t.v) = true := decide_eq_true (show t.r ≤ t.v by omega)
    by_cases he : 4294967296 < t.v
    · have ee : decide (4294967296 < t.v) = true := decide_eq_true he
      have hres : Hid (okT t = false) := Lib.hid (by simp only [okT, HRR.out, na, nb, nc, nd, decide_eq_false (show ¬ t.v ≤ 4294967296 by omega)]; rfl)
      go_wp2_with fail
      go_ret
      exact ⟨by rw [hres.out]; rfl, HB1.out⟩
    have ee : decide (4294967296 < t.v) = false := decide_eq_false he
    have ne : decide (t.v ≤ 4294967296) = true := decide_eq_true (show t.v ≤ 4294967296 by omega)
    have hres : Hid (okT t = true) := Lib.hid (by simp only [okT, HRR.out, na, nb, nc, nd, ne]; rfl)
    go_wp2_with fail
    go_ret
    exact ⟨by rw [hres.out]; rfl, HB1.out⟩
theorem all_step {L : List Tm} {k : Nat} {t : Tm} (h : L[k]? = some t) : (L.drop k).all okT = (okT t && (L.drop (k + 1)).all okT) := by
  obtain ⟨hk, he⟩ := List.getElem?_eq_some_iff.1 h
  rw [List.drop_eq_getElem_cons hk, he]
  rfl
theorem any_not (L : List Tm) : (L.any fun t => !okT t) = !L.all okT := by
  induction L with
  | nil => rfl
  | cons t L ih => rw [List.any_cons, List.all_cons, ih]; cases okT t <;> rfl
set_option maxRecDepth 100000 in
set_option maxHeartbeats 4000000 in
theorem line_any (a : Option Addr) (n c : Nat) (L : List Tm) (w : World) (hn : n = L.length) (hr : RdC w a 8 (L.map Tm.cells)) (hbig : n ≤ 1099511627776) :
    Calls Try.prog 13 #[.slice a n c] w fun e w' => e = .returned (.bool (lineB L)) ∧ Below w.heap.size w w' := by
  have CC := Lib.hid (fun (wx : World) (hB : Below w.heap.size w wx) => contains_any 25 #[] (fun t => !okT t) a n c L wx (fun _ _ => rfl) hn (hr.below hB rfl) hbig (fun t _ wy _ => bad_any t wy))
  have HN := Lib.hid hn
  have hl : lineB L = (!(L.any fun t => !okT t) && decide (n ≤ 50)) := by unfold lineB; rw [any_not, Bool.not_not, hn]
  rw [hl]
  obtain ⟨A, hA⟩ : ∃ A, (L.any fun t => !okT t) = A := ⟨_, rfl⟩
  simp only [hA] at CC
  rw [hA]
  clear hn hr hl hA
  by_cases h5 : n ≤ 50
  · have h5i : (n : Int) ≤ 50 := by omega
    have hd : decide (n ≤ 50) = true := decide_eq_true h5
    rw [hd]
    go_enter Try.func13, Try.ntmps13
    go_wp2_with fail
    refine (CC.out _ (Below.refl _ _)).mono ?_
    rintro e w1 ⟨rfl, hB⟩
    have HB := Lib.hid hB
    clear hB
    cases A
    · go_wp2_with fail
      go_ret
      exact ⟨rfl, HB.out⟩
    · go_wp2_with fail
      go_ret
      exact ⟨rfl, HB.out⟩
  · have h5i : ¬ (n : Int) ≤ 50 := by omega
    have hd : decide (n ≤ 50) = false := decide_eq_false h5
    rw [hd, Bool.and_false]
    go_enter Try.func13, Try.ntmps13
    go_wp2_with fail
    go_ret
    exact ⟨rfl, Below.refl _ _⟩
end Go.Proofs.Ytnamkladeaohoaa.line
namespace Go.Proofs.Ytnamkladeaohoaa.safeW
open Go.RowKit Go.Proofs.Ytnamkladeaohoaa.kit Go.Proofs.Ytnamkladeaohoaa.timed Go.Proofs.Ytnamkladeaohoaa.safeP Go.Proofs.Ytnamkladeaohoaa.age Go.Proofs.Ytnamkladeaohoaa.line
set_option linter.unusedVariables false

def argsB (ka sa lo hi : Int) : Bool := ageB ka && (ageB sa && (decide (0 ≤ lo) && (decide (lo ≤ hi) && decide (hi ≤ 4294967295))))
set_option maxRecDepth 100000 in
set_option maxHeartbeats 4000000 in
theorem safe_args (a : Option Addr) (n c : Nat) (ka sa lo hi : Int) (w : World) (h : argsB ka sa lo hi = false) :
    Calls Try.prog 5 #[.slice a n c, .int .i64 ka, .int .i64 sa, .int .i64 lo, .int .i64 hi] w fun e w' => e = .returned (.tuple #[.int .i64 0, .int .i64 0, .int .i64 23]) ∧ w' = w := by
  have CK := Lib.hid (fun w => age_any ka w)
  have CS := Lib.hid (fun w => age_any sa w)
  cases hka : ageB ka with
  | false =>
    rw [hka] at CK
    clear h
    go_enter Try.func5, Try.ntmps5
    go_wp2_with fail
    refine (CK.out _).mono ?_
    rintro e w1 ⟨rfl, rfl⟩
    go_wp2_with fail
    go_ret3
    exact ⟨rfl, rfl⟩
  | true =>
    rw [hka] at CK
    cases hsa : ageB sa with
    | false =>
      rw [hsa] at CS
      clear h
      go_enter Try.func5, Try.ntmps5
      go_wp2_with fail
      refine (CK.out _).mono ?_
      rintro e w1 ⟨rfl, rfl⟩
      go_wp2_with fail
      refine (CS.out _).mono ?_
      rintro e w1 ⟨rfl, rfl⟩
      go_wp2_with fail
      go_ret3
      exact ⟨rfl, rfl⟩
    | true =>
      rw [hsa] at CS
      have hd : lo < 0 ∨ hi < lo ∨ 4294967295 < hi := by
        unfold argsB at h
        rw [hka, hsa] at h
        simp at h
        omega
      clear h
      by_cases h1 : lo < 0
      · have e1 : decide (lo < 0) = true := decide_eq_true h1
        go_enter Try.func5, Try.ntmps5
        go_wp2_with fail
        refine (CK.out _).mono ?_
        rintro e w1 ⟨rfl, rfl⟩
        go_wp2_with fail
        refine (CS.out _).mono ?_
        rintro e w1 ⟨rfl, rfl⟩
        go_wp2_with fail
        go_ret3
        exact ⟨rfl, rfl⟩
      · have e1 : decide (lo < 0) = false := decide_eq_false h1
        by_cases h2 : hi < lo
        · have e2 : decide (hi < lo) = true := decide_eq_true h2
          go_enter Try.func5, Try.ntmps5
          go_wp2_with fail
          refine (CK.out _).mono ?_
          rintro e w1 ⟨rfl, rfl⟩
          go_wp2_with fail
          refine (CS.out _).mono ?_
          rintro e w1 ⟨rfl, rfl⟩
          go_wp2_with fail
          go_ret3
          exact ⟨rfl, rfl⟩
        · have e2 : decide (hi < lo) = false := decide_eq_false h2
          have h3 : 4294967295 < hi := by omega
          have e3 : decide (4294967295 < hi) = true := decide_eq_true h3
          go_enter Try.func5, Try.ntmps5
          go_wp2_with fail
          refine (CK.out _).mono ?_
          rintro e w1 ⟨rfl, rfl⟩
          go_wp2_with fail
          refine (CS.out _).mono ?_
          rintro e w1 ⟨rfl, rfl⟩
          go_wp2_with fail
          go_ret3
          exact ⟨rfl, rfl⟩
set_option maxRecDepth 100000 in
set_option maxHeartbeats 4000000 in
theorem safe_line (a : Option Addr) (n c : Nat) (L : List Tm) (ka sa lo hi : Int) (w : World) (hn : n = L.length) (hr : RdC w a 8 (L.map Tm.cells)) (hbig : n ≤ 1099511627776) (h : argsB ka sa lo hi = true) (hl : lineB L = false) :
    Calls Try.prog 5 #[.slice a n c, .int .i64 ka, .int .i64 sa, .int .i64 lo, .int .i64 hi] w fun e w' => e = .returned (.tuple #[.int .i64 0, .int .i64 0, .int .i64 8]) ∧ Below w.heap.size w w' := by
  unfold argsB at h
  simp only [Bool.and_eq_true, decide_eq_true_eq] at h
  obtain ⟨hka, hsa, h1, h2, h3⟩ := h
  have CK := Lib.hid (fun w => age_any ka w)
  have CS := Lib.hid (fun w => age_any sa w)
  have CL := Lib.hid (line_any a n c L w hn hr hbig)
  rw [hka] at CK; rw [hsa] at CS; rw [hl] at CL
  have e1 : decide (lo < 0) = false := decide_eq_false (by omega)
  have e2 : decide (hi < lo) = false := decide_eq_false (by omega)
  have e3 : decide (4294967295 < hi) = false := decide_eq_false (by omega)
  clear hn hr hka hsa hl
  go_enter Try.func5, Try.ntmps5
  go_wp2_with fail
  refine (CK.out _).mono ?_
  rintro e w1 ⟨rfl, rfl⟩
  go_wp2_with fail
  refine (CS.out _).mono ?_
  rintro e w1 ⟨rfl, rfl⟩
  go_wp2_with fail
  refine CL.out.mono ?_
  rintro e w1 ⟨rfl, hB⟩
  have HB := Lib.hid hB
  clear hB
  go_wp2_with fail
  go_ret3
  exact ⟨rfl, HB.out⟩
end Go.Proofs.Ytnamkladeaohoaa.safeW
namespace Go.Proofs.Ytnamkladeaohoaa.checkAll
open Go.RowKit Go.Proofs.Ytnamkladeaohoaa.kit Go.Proofs.Ytnamkladeaohoaa.check
end Go.Proofs.Ytnamkladeaohoaa.checkAll
namespace Go.Proofs.Ytnamkladeaohoaa.fld
open Go.Proofs.Ytnamkladeaohoaa.nspec Go.Proofs.Ytnamkladeaohoaa.bits

inductive Fld where
  | num (k : Nat) | ip4 | ip6 | host | text | texts | tail | hexes | b64 | kind | kinds | salt | hash

def hostS (d : Bs) : Int := match (List.range 256).find? (fun k => (split (d.take k)).isSome) with | some k => (k : Int) | none => -1
def textS : Bs → Int
  | [] => -1
  | c :: r => if r.length < c.toNat then -1 else 1 + (c.toNat : Int)
def textsF : Nat → Nat → Bs → Int
  | 0, _, _ => -1
  | _ + 1, at0, [] => if at0 = 0 then -1 else (at0 : Int)
  | f + 1, at0, c :: r => if r.length < c.toNat then -1 else textsF f (at0 + (1 + c.toNat)) (r.drop c.toNat)
def textsS (d : Bs) : Int := textsF (d.length + 1) 0 d
theorem texts_fuel : ∀ (f g at0 : Nat) (d : Bs), d.length < f → d.length < g → textsF f at0 d = textsF g at0 d
  | 0, _, _, _, h, _ => by omega
  | _ + 1, 0, _, _, _, h => by omega
  | f + 1, g + 1, at0, [], _, _ => rfl
  | f + 1, g + 1, at0, c :: r, h1, h2 => by
    simp only [List.length_cons] at h1 h2
    simp only [textsF]
    by_cases h : r.length < c.toNat
    · rw [if_pos h, if_pos h]
    · rw [if_neg h, if_neg h]; exact texts_fuel f g _ _ (by rw [List.length_drop]; omega) (by rw [List.length_drop]; omega)

/-- the types of one block's bits -/
def pickL (b : Nat) : Nat → List Nat → List Nat
  | _, [] => []
  | k, x :: l => if x = 1 then (b * 256 + k) :: pickL b (k + 1) l else pickL b (k + 1) l
def blockL (b : Nat) (m : Bs) : List Nat := pickL b 0 (bitsL m)
/-- a set's types: what comes behind the blocks up to 'last' -/
def typesF : Nat → Int → List Nat → Bs → Option (List Nat)
  | 0, _, _, _ => none
  | _ + 1, _, out, [] => some out
  | f + 1, last, out, b :: r => match r with
    | [] => none
    | n :: m => if (b.toNat : Int) ≤ last ∨ n.toNat < 1 ∨ 32 < n.toNat ∨ m.length < n.toNat ∨ m.getD (n.toNat - 1) 0 = 0 then none
      else typesF f (b.toNat : Int) (out ++ blockL b.toNat (m.take n.toNat)) (m.drop n.toNat)
def typesS (d : Bs) : Option (List Nat) := match typesF (d.length + 1) (-1) [] d with
  | none => none
  | some l => if 0 ∈ l then none else some l
theorem types_fuel : ∀ (f g : Nat) (last : Int) (out : List Nat) (d : Bs), d.length < f → d.length < g → typesF f last out d = typesF g last out d
  | 0, _, _, _, _, h, _ => by omega
  | _ + 1, 0, _, _, _, _, h => by omega
  | f + 1, g + 1, last, out, [], _, _ => rfl
  | f + 1, g + 1, last, out, [b], _, _ => rfl
  | f + 1, g + 1, last, out, b :: n :: m, h1, h2 => by
    simp only [List.length_cons] at h1 h2
    simp only [typesF]
    split
    · rfl
    · exact types_fuel f g _ _ _ (by rw [List.length_drop]; omega) (by rw [List.length_drop]; omega)

def someS (d : Bs) : Int := if d = [] then -1 else (d.length : Int)
def takeS : Fld → Bs → Int
  | .num k, d => if d.length < k then -1 else (k : Int)
  | .ip4, d => if d.length < 4 then -1 else 4
  | .ip6, d => if d.length < 16 then -1 else 16
  | .host, d => hostS d
  | .text, d => textS d
  | .texts, d => textsS d
  | .tail, d => (d.length : Int)
  | .hexes, d => someS d
  | .b64, d => someS d
  | .kind, d => if d.length < 2 ∨ (d.getD 0 0 = 0 ∧ d.getD 1 0 = 0) then -1 else 2
  | .kinds, d => if typesS d = none then -1 else (d.length : Int)
  | .salt, d => textS d
  | .hash, d => if d = [] ∨ d.getD 0 0 = 0 then -1 else textS d
theorem textS_le (d : Bs) : textS d ≤ d.length ∧ -1 ≤ textS d := by
  cases d with
  | nil => simp [textS]
  | cons c r =>
    simp only [textS, List.length_cons]; split
    · omega
    · omega
theorem textsF_le : ∀ (f at0 : Nat) (d : Bs), textsF f at0 d ≤ at0 + d.length ∧ -1 ≤ textsF f at0 d
  | 0, at0, d => by simp only [textsF]; omega
  | f + 1, at0, [] => by simp only [textsF, List.length_nil]; split <;> omega
  | f + 1, at0, c :: r => by
    simp only [textsF]
    split
    · simp only [List.length_cons]; omega
    · have := textsF_le f (at0 + (1 + c.toNat)) (r.drop c.toNat)
      rw [List.length_drop] at this
      simp only [List.length_cons]; omega
theorem hostS_le (d : Bs) : hostS d ≤ d.length ∧ -1 ≤ hostS d := by
  unfold hostS
  cases h : (List.range 256).find? (fun k => (split (d.take k)).isSome) with
  | none => simp
  | some k =>
    refine ⟨?_, by simp only; omega⟩
    rcases Nat.lt_or_ge d.length k with hk | hk
    · have h1 := List.find?_some h
      have hm := List.mem_of_find?_eq_some h
      rw [List.mem_range] at hm
      have e : d.take k = d.take d.length := by rw [List.take_of_length_le (by omega), List.take_of_length_le (Nat.le_refl _)]
      rw [e] at h1
      have h2 := (List.find?_range_eq_some.1 h).2.2 d.length hk
      simp only [Bool.not_eq_true', h1] at h2
      exact absurd h2 (by simp)
    · simp only; omega
theorem takeS_le (f : Fld) (d : Bs) : takeS f d ≤ d.length ∧ -1 ≤ takeS f d := by
  cases f <;> simp only [takeS, someS]
  case host => exact hostS_le d
  case text => exact textS_le d
  case salt => exact textS_le d
  case texts => exact (by have := textsF_le (d.length + 1) 0 d; unfold textsS; omega)
  case hash =>
    split
    · omega
    · exact textS_le d
  all_goals first | omega | (split <;> omega)

def formS (t : Int) : Option (List Fld) :=
  if t = 1 then some [.ip4] else if t = 2 then some [.host] else if t = 5 then some [.host] else if t = 12 then some [.host] else if t = 39 then some [.host]
  else if t = 6 then some [.host, .host, .num 4, .num 4, .num 4, .num 4, .num 4] else if t = 13 then some [.text, .text] else if t = 15 then some [.num 2, .host]
  else if t = 16 then some [.texts] else if t = 28 then some [.ip6] else if t = 33 then some [.num 2, .num 2, .num 2, .host]
  else if t = 35 then some [.num 2, .num 2, .text, .text, .text, .host] else if t = 43 then some [.num 2, .num 1, .num 1, .hexes]
  else if t = 46 then some [.kind, .num 1, .num 1, .num 4, .num 4, .num 4, .num 2, .host, .b64] else if t = 47 then some [.host, .kinds]
  else if t = 48 then some [.num 2, .num 1, .num 1, .b64] else if t = 50 then some [.num 1, .num 1, .num 2, .salt, .hash, .kinds]
  else if t = 51 then some [.num 1, .num 1, .num 2, .salt] else if t = 257 then some [.num 1, .text, .tail] else none
def holdsB (t : Int) : Bool := decide (1 ≤ t) && decide (t ≤ 65535) && (t != 41) && (decide (t < 128) || decide (255 < t))
/-- the parts of the fields, and what stands behind them; none: a field's bytes are not right -/
def splitS : List Fld → Bs → Option (List Bs × Bs)
  | [], d => some ([], d)
  | x :: f, d => if takeS x d < 0 then none else (splitS f (d.drop (takeS x d).toNat)).map (fun p => (d.take (takeS x d).toNat :: p.1, p.2))
/-- what Check says: of the fields, and the parts where all is right -/
def partsS (t : Int) (d : Bs) : Option (List Bs) := match formS t with
  | none => some []
  | some f => match splitS f d with
    | some (p, []) => some p
    | _ => none
def checkS (t : Int) (d : Bs) : Int := if holdsB t = false then 6 else if 65535 < d.length then 7 else if partsS t d = none then 7 else 0
def isHost : Fld → Bool
  | .host => true
  | _ => false
def namesL : List Fld → List Bs → List Bs
  | x :: f, p :: l => if isHost x then p :: namesL f l else namesL f l
  | _, _ => []
end Go.Proofs.Ytnamkladeaohoaa.fld
