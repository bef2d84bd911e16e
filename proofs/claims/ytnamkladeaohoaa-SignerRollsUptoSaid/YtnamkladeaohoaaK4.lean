/- slices.IndexFunc, ContainsFunc of timed keys, over whatever function: walks. Which numbers are a key: seal.right, gazetteerref4.RightKey: walks. Which numbers are a key: seal.right: walk. Which numbers are a key: gazetteerref4.RightKey: walk. Bits: plain lists of noughts and ones; base 2^n. -/
import Derived.Test.YtnamkladeaohoaaK2
import Derived.Test.YtnamkladeaohoaaK1
import Derived.OwnWalk
import Derived.Shelf.RegionOpenPlain
namespace Go.Proofs.Ytnamkladeaohoaa.contains
open Go.RowKit Go.Proofs.Ytnamkladeaohoaa.kit Go.Proofs.Ytnamkladeaohoaa.timed Go.Proofs.Ytnamkladeaohoaa.safeP
set_option linter.unusedVariables false

/-- what a function says of a key -/
def Says (g : FuncId) (lb : Array Value) (pr : Tm → Bool) (L : List Tm) (w : World) : Prop :=
  ∀ t ∈ L, ∀ wx, Below w.heap.size w wx → Calls Try.prog g (#[.agg #[.int .i64 t.f, .int .i64 t.m, .int .i64 t.e, .int .i64 t.s, .int .i64 t.p, .int .i64 t.a, .int .i64 t.r, .int .i64 t.v]] ++ lb) wx fun e w' => e = .returned (.bool (pr t)) ∧ Below wx.heap.size wx w'
theorem any_step {L : List Tm} {k : Nat} {t : Tm} (h : L[k]? = some t) (pr : Tm → Bool) : (L.drop k).any pr = (pr t || (L.drop (k + 1)).any pr) := by
  obtain ⟨hk, he⟩ := List.getElem?_eq_some_iff.1 h
  rw [List.drop_eq_getElem_cons hk, he]
  rfl
set_option maxRecDepth 100000 in
set_option maxHeartbeats 4000000 in
theorem index_any (g : FuncId) (lb : Array Value) (pr : Tm → Bool) (a : Option Addr) (n c : Nat) (L : List Tm) (w : World) (eg : ∀ args w, (callFunc g args).run Try.prog w = .ok (.enter g args) w) (hn : n = L.length) (hr : RdC w a 8 (L.map Tm.cells)) (hbig : n ≤ 1099511627776) (hp : Says g lb pr L w) :
    Calls Try.prog 28 #[.slice a n c, .func (.func g) #[] lb] w fun e w' => (∃ i : Int, e = .returned (.int .i64 i) ∧ -1 ≤ i ∧ i ≤ 1099511627776 ∧ decide (0 ≤ i) = L.any pr) ∧ Below w.heap.size w w' := by
  obtain ⟨R, hR⟩ : ∃ R, L.any pr = R := ⟨_, rfl⟩
  rw [hR]
  have HR := Lib.hid hR
  have HN := Lib.hid hn; have HRD := Lib.hid hr; have HP := Lib.hid hp
  clear hn hr hR hp
  go_enter Try.func28, Try.ntmps28
  go_wp2_with fail
  go_loopg [5, 8] (n + 1) (fun gas _ kv wr => ∃ (k : Nat), kv = .int .i64 k ∧ k ≤ n ∧ k + gas = n + 1 ∧ Hid ((L.drop k).any pr = R) ∧ Hid (Below w.heap.size w wr))
  case atStart => exact ⟨0, rfl, by omega, by omega, Lib.hid (by rw [List.drop_zero]; exact HR.out), Lib.hid (Below.refl _ _)⟩
  case round =>
    obtain ⟨k, rfl, hk, hkg, HW, HB⟩ := hrel
    have HK := Lib.hid hkg; clear hkg
    by_cases hlt : k < n
    · obtain ⟨t, hx⟩ : ∃ t, L[k]? = some t := ⟨_, List.getElem?_eq_getElem (by have := HN.out; omega)⟩
      obtain ⟨g1, o1, rfl, hg1, hcl1⟩ := HRD.out.at_t hx
      obtain ⟨x0, x1, x2, x3, x4, x5, x6, x7⟩ := hcl1.below HB.out hg1
      have HST := Lib.hid ((any_step hx pr).symm.trans HW.out)
      have CG := Lib.hid (HP.out t (List.mem_of_getElem? hx) wr HB.out)
      have zk : (0 : Int) ≤ (k : Int) := by omega
      have zl : (k : Int) < (n : Int) := by omega
      clear hx hcl1 hlt
      cases hq : pr t with
      | true =>
        rw [hq] at CG
        have HRT : Hid (R = true) := Lib.hid (by rw [← HST.out, hq]; rfl)
        go_wp2_with (go_at_fn g; refine CG.out.mono ?_; rintro e w1 ⟨rfl, hB1⟩)
        go_ret
        exact ⟨⟨(k : Int), rfl, by omega, by omega, by rw [HRT.out]; exact decide_eq_true zk⟩, HB.out.trans (hB1.mono HB.out.size)⟩
      | false =>
        rw [hq] at CG
        have HRN : Hid ((L.drop (k + 1)).any pr = R) := Lib.hid (by rw [← HST.out, hq]; rfl)
        go_wp2_with (go_at_fn g; refine CG.out.mono ?_; rintro e w1 ⟨rfl, hB1⟩)
        have HB1 := Lib.hid (HB.out.trans (hB1.mono HB.out.size))
        have hkg := HK.out
        go_roundg (gk - 1)
        case rel => exact ⟨k + 1, by go_num, by omega, by omega, HRN, HB1⟩
        case measure => omega
    · have hke : k = n := by omega
      subst hke
      have HRF : Hid (R = false) := Lib.hid (by rw [← HW.out, List.drop_of_length_le (by rw [← HN.out]; exact Nat.le_refl _)]; rfl)
      have hz : ¬ (k : Int) < (k : Int) := by omega
      go_wp2_with fail
      go_ret
      exact ⟨⟨-1, rfl, by omega, by omega, by rw [HRF.out]; rfl⟩, HB.out⟩
set_option maxRecDepth 100000 in
set_option maxHeartbeats 4000000 in
theorem contains_any (g : FuncId) (lb : Array Value) (pr : Tm → Bool) (a : Option Addr) (n c : Nat) (L : List Tm) (w : World) (eg : ∀ args w, (callFunc g args).run Try.prog w = .ok (.enter g args) w) (hn : n = L.length) (hr : RdC w a 8 (L.map Tm.cells)) (hbig : n ≤ 1099511627776) (hp : Says g lb pr L w) :
    Calls Try.prog 16 #[.slice a n c, .func (.func g) #[] lb] w fun e w' => e = .returned (.bool (L.any pr)) ∧ Below w.heap.size w w' := by
  have CI := Lib.hid (index_any g lb pr a n c L w eg hn hr hbig hp)
  clear eg hn hr hbig hp
  go_enter Try.func16, Try.ntmps16
  go_wp2_with fail
  refine CI.out.mono ?_
  rintro e w1 ⟨⟨i, rfl, h1, h2, h3⟩, hB⟩
  have HB := Lib.hid hB
  clear hB
  go_wp2_with fail
  go_ret
  exact ⟨by rw [← h3]; rfl, HB.out⟩
end Go.Proofs.Ytnamkladeaohoaa.contains
namespace Go.Proofs.Ytnamkladeaohoaa.right
open Go.RowKit Go.Proofs.Ytnamkladeaohoaa.kit
set_option linter.unusedVariables false

def someB (v low : Int) : Bool := decide (low ≤ v) && decide (v ≤ 2147483647)
theorem some_yes {v low : Int} (h1 : low ≤ v) (h2 : v ≤ 2147483647) : someB v low = true := by unfold someB; simp [h1, h2]
theorem some_no {v low : Int} (h : v < low ∨ 2147483647 < v) : someB v low = false := by
  unfold someB; rw [Bool.and_eq_false_iff, decide_eq_false_iff_not, decide_eq_false_iff_not]; omega
def rightB (f m e s : Int) : Bool := (f == 256 || f == 257) && someB m 6 && someB e 1 && someB s 1

set_option maxRecDepth 100000 in
theorem small_any (v low : Int) (w : World) : Calls Try.prog 35 #[.int .i64 v, .int .i64 low] w fun e w' => e = .returned (.bool (someB v low)) ∧ w = w' := by
  by_cases h1 : low ≤ v
  · by_cases h2 : v ≤ 2147483647
    · have H := Lib.hid (some_yes h1 h2)
      go_enter Try.func35, Try.ntmps35
      go_wp2
      go_ret
      exact ⟨by rw [H.out]; rfl, rfl⟩
    · have H := Lib.hid (some_no (v := v) (low := low) (.inr (by omega)))
      have h2 : 2147483647 < v := by omega
      go_enter Try.func35, Try.ntmps35
      go_wp2
      go_ret
      exact ⟨by rw [H.out]; rfl, rfl⟩
  · have H := Lib.hid (some_no (v := v) (low := low) (.inl (by omega)))
    have h1 : v < low := by omega
    go_enter Try.func35, Try.ntmps35
    go_wp2
    go_ret
    exact ⟨by rw [H.out]; rfl, rfl⟩
set_option maxRecDepth 100000 in
theorem some_any (v low : Int) (w : World) : Calls Try.prog 29 #[.int .i64 v, .int .i64 low] w fun e w' => e = .returned (.bool (someB v low)) ∧ w = w' := by
  by_cases h1 : low ≤ v
  · by_cases h2 : v ≤ 2147483647
    · have H := Lib.hid (some_yes h1 h2)
      go_enter Try.func29, Try.ntmps29
      go_wp2
      go_ret
      exact ⟨by rw [H.out]; rfl, rfl⟩
    · have H := Lib.hid (some_no (v := v) (low := low) (.inr (by omega)))
      have h2 : 2147483647 < v := by omega
      go_enter Try.func29, Try.ntmps29
      go_wp2
      go_ret
      exact ⟨by rw [H.out]; rfl, rfl⟩
  · have H := Lib.hid (some_no (v := v) (low := low) (.inl (by omega)))
    have h1 : v < low := by omega
    go_enter Try.func29, Try.ntmps29
    go_wp2
    go_ret
    exact ⟨by rw [H.out]; rfl, rfl⟩
end Go.Proofs.Ytnamkladeaohoaa.right
namespace Go.Proofs.Ytnamkladeaohoaa.rightA
open Go.RowKit Go.Proofs.Ytnamkladeaohoaa.kit Go.Proofs.Ytnamkladeaohoaa.right
set_option linter.unusedVariables false

set_option maxRecDepth 100000 in
set_option maxHeartbeats 2000000 in
theorem right_any (f m e s : Int) (w : World) : Calls Try.prog 30 #[.agg #[.int .i64 f, .int .i64 m, .int .i64 e, .int .i64 s]] w fun en w' => en = .returned (.bool (rightB f m e s)) ∧ Below w.heap.size w w' := by
  obtain ⟨R, HR⟩ : ∃ R, Hid (rightB f m e s = R) := ⟨_, Lib.hid rfl⟩
  rw [HR.out]
  have H1 := Lib.hid (fun w => small_any m 6 w)
  have H2 := Lib.hid (fun w => small_any e 1 w)
  have H3 := Lib.hid (fun w => small_any s 1 w)
  have HR2 : Hid (((f == 256 || f == 257) && someB m 6 && someB e 1 && someB s 1) = R) := HR
  obtain ⟨x, hx⟩ : ∃ x, (f == 256) = x := ⟨_, rfl⟩
  obtain ⟨y, hy⟩ : ∃ y, (f == 257) = y := ⟨_, rfl⟩
  obtain ⟨b1, hb1⟩ : ∃ b, someB m 6 = b := ⟨_, rfl⟩
  obtain ⟨b2, hb2⟩ : ∃ b, someB e 1 = b := ⟨_, rfl⟩
  obtain ⟨b3, hb3⟩ : ∃ b, someB s 1 = b := ⟨_, rfl⟩
  rw [hx, hy, hb1, hb2, hb3] at HR2
  rw [hb1] at H1
  rw [hb2] at H2
  rw [hb3] at H3
  clear hb1 hb2 hb3 HR
  have hBa := (Below.refl w.heap.size w).alloc (Nat.le_refl _) (.cells #[.int .i64 f, .int .i64 m, .int .i64 e, .int .i64 s] 32)
  cases x
  · cases y
    · have HN : Hid (R = false) := Lib.hid (by rw [← HR2.out]; rfl)
      go_enter Try.func30, Try.ntmps30
      go_wp2_with fail
      go_ret
      exact ⟨by rw [HN.out]; rfl, hBa⟩
    · cases b1
      · have HN : Hid (R = false) := Lib.hid (by rw [← HR2.out]; rfl)
        go_enter Try.func30, Try.ntmps30
        go_wp2_with fail
        refine (H1.out _).mono ?_
        rintro e0 w1 ⟨rfl, rfl⟩
        go_wp2_with fail
        go_ret
        exact ⟨by rw [HN.out]; rfl, hBa⟩
      · cases b2
        · have HN : Hid (R = false) := Lib.hid (by rw [← HR2.out]; rfl)
          go_enter Try.func30, Try.ntmps30
          go_wp2_with fail
          refine (H1.out _).mono ?_
          rintro e0 w1 ⟨rfl, rfl⟩
          go_wp2_with fail
          refine (H2.out _).mono ?_
          rintro e0 w2 ⟨rfl, rfl⟩
          go_wp2_with fail
          go_ret
          exact ⟨by rw [HN.out]; rfl, hBa⟩
        · have HN : Hid (R = b3) := Lib.hid (by rw [← HR2.out]; cases b3 <;> rfl)
          go_enter Try.func30, Try.ntmps30
          go_wp2_with fail
          refine (H1.out _).mono ?_
          rintro e0 w1 ⟨rfl, rfl⟩
          go_wp2_with fail
          refine (H2.out _).mono ?_
          rintro e0 w2 ⟨rfl, rfl⟩
          go_wp2_with fail
          refine (H3.out _).mono ?_
          rintro e0 w3 ⟨rfl, rfl⟩
          go_wp2_with fail
          go_ret
          exact ⟨by rw [HN.out]; rfl, hBa⟩
  · clear hy
    cases b1
    · have HN : Hid (R = false) := Lib.hid (by rw [← HR2.out]; simp)
      go_enter Try.func30, Try.ntmps30
      go_wp2_with fail
      refine (H1.out _).mono ?_
      rintro e0 w1 ⟨rfl, rfl⟩
      go_wp2_with fail
      go_ret
      exact ⟨by rw [HN.out]; rfl, hBa⟩
    · cases b2
      · have HN : Hid (R = false) := Lib.hid (by rw [← HR2.out]; simp)
        go_enter Try.func30, Try.ntmps30
        go_wp2_with fail
        refine (H1.out _).mono ?_
        rintro e0 w1 ⟨rfl, rfl⟩
        go_wp2_with fail
        refine (H2.out _).mono ?_
        rintro e0 w2 ⟨rfl, rfl⟩
        go_wp2_with fail
        go_ret
        exact ⟨by rw [HN.out]; rfl, hBa⟩
      · have HN : Hid (R = b3) := Lib.hid (by rw [← HR2.out]; cases b3 <;> simp)
        go_enter Try.func30, Try.ntmps30
        go_wp2_with fail
        refine (H1.out _).mono ?_
        rintro e0 w1 ⟨rfl, rfl⟩
        go_wp2_with fail
        refine (H2.out _).mono ?_
        rintro e0 w2 ⟨rfl, rfl⟩
        go_wp2_with fail
        refine (H3.out _).mono ?_
        rintro e0 w3 ⟨rfl, rfl⟩
        go_wp2_with fail
        go_ret
        exact ⟨by rw [HN.out]; rfl, hBa⟩
end Go.Proofs.Ytnamkladeaohoaa.rightA
namespace Go.Proofs.Ytnamkladeaohoaa.rightBB
open Go.RowKit Go.Proofs.Ytnamkladeaohoaa.kit Go.Proofs.Ytnamkladeaohoaa.right
set_option linter.unusedVariables false

set_option maxRecDepth 100000 in
set_option maxHeartbeats 2000000 in
theorem rright_any (f m e s : Int) (w : World) : Calls Try.prog 18 #[.agg #[.int .i64 f, .int .i64 m, .int .i64 e, .int .i64 s]] w fun en w' => en = .returned (.bool (rightB f m e s)) ∧ Below w.heap.size w w' := by
  obtain ⟨R, HR⟩ : ∃ R, Hid (rightB f m e s = R) := ⟨_, Lib.hid rfl⟩
  rw [HR.out]
  have H1 := Lib.hid (fun w => some_any m 6 w)
  have H2 := Lib.hid (fun w => some_any e 1 w)
  have H3 := Lib.hid (fun w => some_any s 1 w)
  have HR2 : Hid (((f == 256 || f == 257) && someB m 6 && someB e 1 && someB s 1) = R) := HR
  obtain ⟨x, hx⟩ : ∃ x, (f == 256) = x := ⟨_, rfl⟩
  obtain ⟨y, hy⟩ : ∃ y, (f == 257) = y := ⟨_, rfl⟩
  obtain ⟨b1, hb1⟩ : ∃ b, someB m 6 = b := ⟨_, rfl⟩
  obtain ⟨b2, hb2⟩ : ∃ b, someB e 1 = b := ⟨_, rfl⟩
  obtain ⟨b3, hb3⟩ : ∃ b, someB s 1 = b := ⟨_, rfl⟩
  rw [hx, hy, hb1, hb2, hb3] at HR2
  rw [hb1] at H1
  rw [hb2] at H2
  rw [hb3] at H3
  clear hb1 hb2 hb3 HR
  have hBa := (Below.refl w.heap.size w).alloc (Nat.le_refl _) (.cells #[.int .i64 f, .int .i64 m, .int .i64 e, .int .i64 s] 32)
  cases x
  · cases y
    · have HN : Hid (R = false) := Lib.hid (by rw [← HR2.out]; rfl)
      go_enter Try.func18, Try.ntmps18
      go_wp2_with fail
      go_ret
      exact ⟨by rw [HN.out]; rfl, hBa⟩
    · cases b1
      · have HN : Hid (R = false) := Lib.hid (by rw [← HR2.out]; rfl)
        go_enter Try.func18, Try.ntmps18
        go_wp2_with fail
        refine (H1.out _).mono ?_
        rintro e0 w1 ⟨rfl, rfl⟩
        go_wp2_with fail
        go_ret
        exact ⟨by rw [HN.out]; rfl, hBa⟩
      · cases b2
        · have HN : Hid (R = false) := Lib.hid (by rw [← HR2.out]; rfl)
          go_enter Try.func18, Try.ntmps18
          go_wp2_with fail
          refine (H1.out _).mono ?_
          rintro e0 w1 ⟨rfl, rfl⟩
          go_wp2_with fail
          refine (H2.out _).mono ?_
          rintro e0 w2 ⟨rfl, rfl⟩
          go_wp2_with fail
          go_ret
          exact ⟨by rw [HN.out]; rfl, hBa⟩
        · have HN : Hid (R = b3) := Lib.hid (by rw [← HR2.out]; cases b3 <;> rfl)
          go_enter Try.func18, Try.ntmps18
          go_wp2_with fail
          refine (H1.out _).mono ?_
          rintro e0 w1 ⟨rfl, rfl⟩
          go_wp2_with fail
          refine (H2.out _).mono ?_
          rintro e0 w2 ⟨rfl, rfl⟩
          go_wp2_with fail
          refine (H3.out _).mono ?_
          rintro e0 w3 ⟨rfl, rfl⟩
          go_wp2_with fail
          go_ret
          exact ⟨by rw [HN.out]; rfl, hBa⟩
  · clear hy
    cases b1
    · have HN : Hid (R = false) := Lib.hid (by rw [← HR2.out]; simp)
      go_enter Try.func18, Try.ntmps18
      go_wp2_with fail
      refine (H1.out _).mono ?_
      rintro e0 w1 ⟨rfl, rfl⟩
      go_wp2_with fail
      go_ret
      exact ⟨by rw [HN.out]; rfl, hBa⟩
    · cases b2
      · have HN : Hid (R = false) := Lib.hid (by rw [← HR2.out]; simp)
        go_enter Try.func18, Try.ntmps18
        go_wp2_with fail
        refine (H1.out _).mono ?_
        rintro e0 w1 ⟨rfl, rfl⟩
        go_wp2_with fail
        refine (H2.out _).mono ?_
        rintro e0 w2 ⟨rfl, rfl⟩
        go_wp2_with fail
        go_ret
        exact ⟨by rw [HN.out]; rfl, hBa⟩
      · have HN : Hid (R = b3) := Lib.hid (by rw [← HR2.out]; cases b3 <;> simp)
        go_enter Try.func18, Try.ntmps18
        go_wp2_with fail
        refine (H1.out _).mono ?_
        rintro e0 w1 ⟨rfl, rfl⟩
        go_wp2_with fail
        refine (H2.out _).mono ?_
        rintro e0 w2 ⟨rfl, rfl⟩
        go_wp2_with fail
        refine (H3.out _).mono ?_
        rintro e0 w3 ⟨rfl, rfl⟩
        go_wp2_with fail
        go_ret
        exact ⟨by rw [HN.out]; rfl, hBa⟩
end Go.Proofs.Ytnamkladeaohoaa.rightBB
namespace Go.Proofs.Ytnamkladeaohoaa.bits

/-- the n bits of v, the highest first -/
def tob (v : Nat) : Nat → List Nat
  | 0 => []
  | n + 1 => (v / 2 ^ n % 2) :: tob v n
/-- the number of bits, the highest first -/
def ofb (l : List Nat) : Nat := l.foldl (fun a b => 2 * a + b) 0
def bitsL (d : List UInt8) : List Nat := d.flatMap (fun c => tob c.toNat 8)
theorem tob_length (v n : Nat) : (tob v n).length = n := by
  induction n with
  | zero => rfl
  | succ n ih => simp [tob, ih]
theorem foldl_add (l : List Nat) (a : Nat) : l.foldl (fun a b => 2 * a + b) a = a * 2 ^ l.length + l.foldl (fun a b => 2 * a + b) 0 := by
  induction l generalizing a with
  | nil => simp
  | cons b r ih =>
    simp only [List.foldl_cons, List.length_cons]
    rw [ih, ih (2 * 0 + b), Nat.pow_succ]
    have : (2 * a + b) * 2 ^ r.length = a * (2 ^ r.length * 2) + (2 * 0 + b) * 2 ^ r.length := by
      rw [Nat.add_mul, Nat.mul_comm 2 a, Nat.mul_assoc, Nat.mul_comm 2 (2 ^ r.length)]; simp
    omega
theorem ofb_cons (b : Nat) (r : List Nat) : ofb (b :: r) = b * 2 ^ r.length + ofb r := by
  unfold ofb; rw [List.foldl_cons, foldl_add]; simp
theorem ofb_tob (v n : Nat) : ofb (tob v n) = v % 2 ^ n := by
  induction n with
  | zero => simp [tob, ofb, Nat.mod_one]
  | succ n ih =>
    rw [tob, ofb_cons, tob_length, ih, Nat.pow_succ]
    have := Nat.mod_mul (x := v) (a := 2 ^ n) (b := 2)
    rw [this, Nat.mul_comm]; omega
theorem tob_mod (v n m : Nat) (h : n ≤ m) : tob (v % 2 ^ m) n = tob v n := by
  induction n with
  | zero => rfl
  | succ n ih =>
    rw [tob, tob, ih (by omega)]
    congr 1
    obtain ⟨d, rfl⟩ : ∃ d, m = n + 1 + d := ⟨m - (n + 1), by omega⟩
    rw [show n + 1 + d = n + (1 + d) by omega, Nat.pow_add, Nat.mod_mul_right_div_self, Nat.pow_add, Nat.pow_one, Nat.mod_mul_right_mod]
theorem tob_append (v w n m : Nat) (hw : w < 2 ^ m) : tob (v * 2 ^ m + w) (n + m) = tob v n ++ tob w m := by
  induction n with
  | zero =>
    rw [Nat.zero_add, tob, List.nil_append]
    rw [← tob_mod (v * 2 ^ m + w) m m (Nat.le_refl _), Nat.mul_comm, Nat.mul_add_mod, Nat.mod_eq_of_lt hw]
  | succ n ih =>
    rw [show n + 1 + m = (n + m) + 1 by omega, tob, ih, tob, List.cons_append]
    congr 1
    rw [Nat.add_comm n m, Nat.pow_add, ← Nat.div_div_eq_div_mul, Nat.mul_comm v, Nat.mul_add_div (Nat.two_pow_pos m), Nat.div_eq_of_lt hw, Nat.add_zero]

/-- n bits a letter, the last filled up with noughts -/
def encF (n : Nat) (al : List UInt8) : Nat → List Nat → List UInt8
  | 0, _ => []
  | f + 1, l => if l = [] then [] else al.getD (ofb ((l ++ List.replicate n 0).take n)) 0 :: encF n al f (l.drop n)
def enc (n : Nat) (al : List UInt8) (l : List Nat) : List UInt8 := encF n al l.length l
theorem encF_fuel (n : Nat) (al : List UInt8) (hn : 1 ≤ n) : ∀ (f g : Nat) (l : List Nat), l.length ≤ f → l.length ≤ g → encF n al f l = encF n al g l
  | 0, 0, _, _, _ => rfl
  | 0, g + 1, l, h, _ => by
    have : l = [] := List.eq_nil_of_length_eq_zero (by omega)
    subst this; simp [encF]
  | f + 1, 0, l, _, h => by
    have : l = [] := List.eq_nil_of_length_eq_zero (by omega)
    subst this; simp [encF]
  | f + 1, g + 1, l, h1, h2 => by
    simp only [encF]
    by_cases hl : l = []
    · simp [hl]
    · have hp : 0 < l.length := List.length_pos_iff.2 hl
      rw [if_neg hl, if_neg hl, encF_fuel n al hn f g (l.drop n) (by rw [List.length_drop]; omega) (by rw [List.length_drop]; omega)]
theorem enc_nil (n : Nat) (al : List UInt8) : enc n al [] = [] := rfl
theorem enc_step {n : Nat} (al : List UInt8) {l : List Nat} (hn : 1 ≤ n) (hl : l ≠ []) : enc n al l = al.getD (ofb ((l ++ List.replicate n 0).take n)) 0 :: enc n al (l.drop n) := by
  have hp : 0 < l.length := List.length_pos_iff.2 hl
  unfold enc
  obtain ⟨f, hf⟩ : ∃ f, l.length = f + 1 := ⟨l.length - 1, by omega⟩
  rw [hf, encF, if_neg hl, encF_fuel n al hn f (l.drop n).length (l.drop n) (by rw [List.length_drop]; omega) (Nat.le_refl _)]
theorem enc_full {n : Nat} (al : List UInt8) (l t : List Nat) (hn : 1 ≤ n) (hl : l.length = n) : enc n al (l ++ t) = al.getD (ofb l) 0 :: enc n al t := by
  have hne : l ++ t ≠ [] := by
    intro h
    have := congrArg List.length h
    rw [List.length_append, List.length_nil] at this; omega
  rw [enc_step al hn hne, List.append_assoc, List.take_left' hl, List.drop_left' hl]
theorem ofb_zero (k : Nat) : ofb (List.replicate k 0) = 0 := by
  induction k with
  | zero => rfl
  | succ k ih => rw [List.replicate_succ, ofb_cons, ih]; simp
theorem ofb_append (x y : List Nat) : ofb (x ++ y) = ofb x * 2 ^ y.length + ofb y := by
  unfold ofb; rw [List.foldl_append, foldl_add]
theorem enc_last {n : Nat} (al : List UInt8) (l : List Nat) (hl : 0 < l.length) (hn : l.length ≤ n) : enc n al l = [al.getD (ofb l * 2 ^ (n - l.length)) 0] := by
  have hne : l ≠ [] := List.length_pos_iff.1 hl
  rw [enc_step (n := n) al (by omega) hne, List.take_append, List.take_of_length_le hn, List.take_replicate, List.drop_eq_nil_iff.2 hn, enc_nil, ofb_append, ofb_zero, List.length_replicate]
  rw [show min (n - l.length) n = n - l.length by omega, Nat.add_zero]
theorem bits_cons (c : UInt8) (r : List UInt8) : bitsL (c :: r) = tob c.toNat 8 ++ bitsL r := rfl
theorem encF_len (n : Nat) (al : List UInt8) (hn : 1 ≤ n) : ∀ (f : Nat) (l : List Nat), (encF n al f l).length ≤ l.length
  | 0, l => by simp [encF]
  | f + 1, l => by
    simp only [encF]
    by_cases hl : l = []
    · simp [hl]
    · have hp : 0 < l.length := List.length_pos_iff.2 hl
      have := encF_len n al hn f (l.drop n)
      rw [List.length_drop] at this
      rw [if_neg hl, List.length_cons]; omega
theorem enc_len (n : Nat) (al : List UInt8) (hn : 1 ≤ n) (l : List Nat) : (enc n al l).length ≤ l.length := encF_len n al hn _ _
theorem bitsL_len (d : List UInt8) : (bitsL d).length = 8 * d.length := by
  induction d with
  | nil => rfl
  | cons c r ih => rw [bits_cons, List.length_append, tob_length, ih, List.length_cons]; omega
theorem to_step {n : Nat} {al : List UInt8} {A : List UInt8} {h b : Nat} {c : UInt8} {r l : List UInt8} {R : List UInt8} (h1 : A ++ enc n al (tob h b ++ bitsL l) = R) (hl : l = c :: r) (hb : b + 8 ≤ 12) {H : Nat} (hH : (h * 256 + c.toNat) % 4096 = H) :
    A ++ enc n al (tob H (b + 8) ++ bitsL r) = R := by
  subst hl
  have hc := c.toNat_lt
  have e1 : tob H (b + 8) = tob h b ++ tob c.toNat 8 := by
    rw [← hH, show (4096 : Nat) = 2 ^ 12 from rfl, tob_mod _ _ _ hb, show (256 : Nat) = 2 ^ 8 from rfl, tob_append _ _ _ _ (by omega)]
  rw [e1, List.append_assoc, ← bits_cons]
  exact h1
theorem to_letter {n : Nat} {al : List UInt8} {A : List UInt8} {H q : Nat} {l : List Nat} {R : List UInt8} (h1 : A ++ enc n al (tob H (q + n) ++ l) = R) (hn : 1 ≤ n) :
    (A ++ [al.getD (H / 2 ^ q % 2 ^ n) 0]) ++ enc n al (tob H q ++ l) = R := by
  have e : tob H (q + n) = tob (H / 2 ^ q) n ++ tob H q := by
    have h2 := tob_append (H / 2 ^ q) (H % 2 ^ q) n q (Nat.mod_lt _ (Nat.two_pow_pos q))
    rw [Nat.div_add_mod', tob_mod H q q (Nat.le_refl _), Nat.add_comm n q] at h2
    exact h2
  rw [e, List.append_assoc, enc_full al _ _ hn (tob_length _ _), ofb_tob] at h1
  rw [← h1]; simp
theorem to_last {n : Nat} {al : List UInt8} {A : List UInt8} {H b : Nat} {R : List UInt8} (h1 : A ++ enc n al (tob H b ++ bitsL []) = R) (hb : 0 < b) (hn : b ≤ n) :
    A ++ [al.getD (H * 2 ^ (n - b) % 2 ^ n) 0] = R := by
  have e : tob H b ++ bitsL [] = tob H b := by simp [bitsL]
  rw [e, enc_last al _ (by rw [tob_length]; exact hb) (by rw [tob_length]; exact hn), tob_length, ofb_tob] at h1
  rw [← h1]
  obtain ⟨d, rfl⟩ : ∃ d, n = b + d := ⟨n - b, by omega⟩
  rw [Nat.add_sub_cancel_left, Nat.pow_add, Nat.mul_mod_mul_right]
theorem to_end {n : Nat} {al : List UInt8} {A : List UInt8} {H : Nat} {R : List UInt8} (h1 : A ++ enc n al (tob H 0 ++ bitsL []) = R) : A = R := by
  rw [← h1]; simp [tob, bitsL, enc_nil]
end Go.Proofs.Ytnamkladeaohoaa.bits
