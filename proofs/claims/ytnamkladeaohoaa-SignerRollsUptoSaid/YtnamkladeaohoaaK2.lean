/- Lists of timed keys, and of keys of a plan, in memory; both are held against their like. signer.Safe in plain words: spans, edges, what serves. -/
import Derived.Test.YtnamkladeaohoaaK1
import Derived.BigQuiet
import Derived.Deep.QuietTactic
namespace Go.Proofs.Ytnamkladeaohoaa.timed
open Go.RowKit Go.Proofs.Ytnamkladeaohoaa.kit
set_option linter.unusedVariables false

theorem bel_drewN {B : Nat} {a w : World} (h : Below B a w) (q : Nat) : Below B a (w.drewN q) := ⟨h.os, h.tape, h.output, h.size, h.block⟩
/-- a key with its times -/
structure Tm where
  f : Int
  m : Int
  e : Int
  s : Int
  p : Int
  a : Int
  r : Int
  v : Int
deriving DecidableEq
def Tm.cells (x : Tm) : List Value := [.int .i64 x.f, .int .i64 x.m, .int .i64 x.e, .int .i64 x.s, .int .i64 x.p, .int .i64 x.a, .int .i64 x.r, .int .i64 x.v]
/-- a key of a plan -/
structure Pk where
  f : Int
  m : Int
  e : Int
  s : Int
  on : Bool
deriving DecidableEq
def Pk.cells (x : Pk) : List Value := [.int .i64 x.f, .int .i64 x.m, .int .i64 x.e, .int .i64 x.s, .bool x.on]

/-- rows of so many cells can be read from address a on -/
def RdC (w : World) (a : Option Addr) (n : Nat) (ls : List (List Value)) : Prop :=
  ∀ (j : Nat) (x : List Value), ls[j]? = some x → x.length = n ∧ ∃ g o, a = some ⟨g, o, none⟩ ∧ g < w.heap.size ∧ ∀ i u, x[i]? = some u → w.cell? ⟨g, o + j * n + i, none⟩ = some u
theorem RdC.below {w w' : World} {a : Option Addr} {n B : Nat} {ls : List (List Value)} (h : RdC w a n ls) (hB : Below B w w') (hz : B = w.heap.size) : RdC w' a n ls := by
  intro j x hx
  obtain ⟨h0, g, o, h1, h3, h4⟩ := h j x hx
  exact ⟨h0, g, o, h1, Nat.lt_of_lt_of_le h3 hB.size, fun i u hu => (hB.cell (p := ⟨g, o + j * n + i, none⟩) (by rw [hz]; exact h3)).trans (h4 i u hu)⟩
theorem RdC.nil (w : World) (a : Option Addr) (n : Nat) : RdC w a n [] := by intro j x h; simp at h

def AtT (w : World) (g o : Nat) (x : Tm) : Prop :=
  w.cell? ⟨g, o, none⟩ = some (.int .i64 x.f) ∧ w.cell? ⟨g, o + 1, none⟩ = some (.int .i64 x.m) ∧ w.cell? ⟨g, o + 2, none⟩ = some (.int .i64 x.e) ∧ w.cell? ⟨g, o + 3, none⟩ = some (.int .i64 x.s) ∧
  w.cell? ⟨g, o + 4, none⟩ = some (.int .i64 x.p) ∧ w.cell? ⟨g, o + 5, none⟩ = some (.int .i64 x.a) ∧ w.cell? ⟨g, o + 6, none⟩ = some (.int .i64 x.r) ∧ w.cell? ⟨g, o + 7, none⟩ = some (.int .i64 x.v)
theorem RdC.at_t {w : World} {a : Option Addr} {L : List Tm} (h : RdC w a 8 (L.map Tm.cells)) {j : Nat} {x : Tm} (hj : L[j]? = some x) : ∃ g o, a = some ⟨g, o, none⟩ ∧ g < w.heap.size ∧ AtT w g (o + j * 8) x := by
  obtain ⟨_, g, o, h1, h2, h3⟩ := h j x.cells (by rw [List.getElem?_map, hj]; rfl)
  exact ⟨g, o, h1, h2, h3 0 _ rfl, h3 1 _ rfl, h3 2 _ rfl, h3 3 _ rfl, h3 4 _ rfl, h3 5 _ rfl, h3 6 _ rfl, h3 7 _ rfl⟩
theorem AtT.below {w w' : World} {g o B : Nat} {x : Tm} (h : AtT w g o x) (hB : Below B w w') (hg : g < B) : AtT w' g o x := by
  obtain ⟨h0, h1, h2, h3, h4, h5, h6, h7⟩ := h
  exact ⟨(hB.cell (p := ⟨g, _, none⟩) hg).trans h0, (hB.cell (p := ⟨g, _, none⟩) hg).trans h1, (hB.cell (p := ⟨g, _, none⟩) hg).trans h2, (hB.cell (p := ⟨g, _, none⟩) hg).trans h3, (hB.cell (p := ⟨g, _, none⟩) hg).trans h4, (hB.cell (p := ⟨g, _, none⟩) hg).trans h5, (hB.cell (p := ⟨g, _, none⟩) hg).trans h6, (hB.cell (p := ⟨g, _, none⟩) hg).trans h7⟩
def AtK (w : World) (g o : Nat) (x : Pk) : Prop :=
  w.cell? ⟨g, o, none⟩ = some (.int .i64 x.f) ∧ w.cell? ⟨g, o + 1, none⟩ = some (.int .i64 x.m) ∧ w.cell? ⟨g, o + 2, none⟩ = some (.int .i64 x.e) ∧ w.cell? ⟨g, o + 3, none⟩ = some (.int .i64 x.s) ∧ w.cell? ⟨g, o + 4, none⟩ = some (.bool x.on)
theorem RdC.at_k {w : World} {a : Option Addr} {L : List Pk} (h : RdC w a 5 (L.map Pk.cells)) {j : Nat} {x : Pk} (hj : L[j]? = some x) : ∃ g o, a = some ⟨g, o, none⟩ ∧ g < w.heap.size ∧ AtK w g (o + j * 5) x := by
  obtain ⟨_, g, o, h1, h2, h3⟩ := h j x.cells (by rw [List.getElem?_map, hj]; rfl)
  exact ⟨g, o, h1, h2, h3 0 _ rfl, h3 1 _ rfl, h3 2 _ rfl, h3 3 _ rfl, h3 4 _ rfl⟩
theorem AtK.below {w w' : World} {g o B : Nat} {x : Pk} (h : AtK w g o x) (hB : Below B w w') (hg : g < B) : AtK w' g o x := by
  obtain ⟨h0, h1, h2, h3, h4⟩ := h
  exact ⟨(hB.cell (p := ⟨g, _, none⟩) hg).trans h0, (hB.cell (p := ⟨g, _, none⟩) hg).trans h1, (hB.cell (p := ⟨g, _, none⟩) hg).trans h2, (hB.cell (p := ⟨g, _, none⟩) hg).trans h3, (hB.cell (p := ⟨g, _, none⟩) hg).trans h4⟩

set_option maxRecDepth 100000 in
set_option maxHeartbeats 2000000 in
theorem same_line (a b : Option Addr) (n c d : Nat) (L : List Tm) (w : World) (hn : n = L.length) (hx : RdC w a 8 (L.map Tm.cells)) (hy : RdC w b 8 (L.map Tm.cells)) (hl : n ≤ 1099511627776) :
    Calls Try.prog 6 #[.slice a n c, .slice b n d] w fun e w' => e = .returned (.bool true) ∧ Below w.heap.size w w' := by
  have HN := Lib.hid hn; have HX := Lib.hid hx; have HY := Lib.hid hy
  clear hn hx hy
  go_enter Try.func6, Try.ntmps6
  go_wp2
  go_loopg [5, 13] (n + 1) (fun gas _ kv wr => ∃ (k : Nat), kv = .int .i64 k ∧ k ≤ n ∧ k + gas = n + 1 ∧ Hid (Below w.heap.size w wr))
  case atStart => exact ⟨0, rfl, by omega, by omega, Lib.hid (Below.refl _ _)⟩
  case round =>
    obtain ⟨k, rfl, hk, hkg, hB⟩ := hrel
    have HK := Lib.hid hkg; clear hkg
    by_cases hlt : k < n
    · obtain ⟨p, hp⟩ : ∃ p, L[k]? = some p := ⟨_, List.getElem?_eq_getElem (by have := HN.out; omega)⟩
      obtain ⟨g1, o1, rfl, hg1, hcl1⟩ := HX.out.at_t hp
      obtain ⟨g2, o2, rfl, hg2, hcl2⟩ := HY.out.at_t hp
      obtain ⟨x0, x1, x2, x3, x4, x5, x6, x7⟩ := hcl1.below hB.out hg1
      obtain ⟨y0, y1, y2, y3, y4, y5, y6, y7⟩ := hcl2.below hB.out hg2
      clear hp hcl1 hcl2
      have zk : (0 : Int) ≤ (k : Int) := by omega
      have zl : (k : Int) < (n : Int) := by omega
      go_wp2_with fail
      go_quiet (fail)
      have hBn : Hid (Below w.heap.size w (wr.drewN nq)) := Lib.hid (bel_drewN hB.out nq)
      go_wp2
      have hkg := HK.out
      go_roundg (gk - 1)
      case rel => exact ⟨k + 1, by go_num, by omega, by omega, hBn⟩
      case measure => omega
    · go_wp2_with fail
      go_ret
      exact ⟨rfl, hB.out⟩
end Go.Proofs.Ytnamkladeaohoaa.timed
namespace Go.Proofs.Ytnamkladeaohoaa.safeP
open Go.RowKit Go.Proofs.Ytnamkladeaohoaa.kit Go.Proofs.Ytnamkladeaohoaa.timed
set_option linter.unusedVariables false

/-- a key serves a, b -/
def servK (k : Tm) (a b : Int) : Bool := decide (k.a ≤ b) && (decide (b < k.r) && (decide (k.p ≤ a) && decide (a < k.v)))
def servL (L : List Tm) (a b : Int) : Bool := L.any fun k => servK k a b
theorem served_iff {L : List Tm} {a b : Int} : servL L a b = true ↔ ∃ k ∈ L, k.a ≤ b ∧ b < k.r ∧ k.p ≤ a ∧ a < k.v := by
  simp [servL, servK, List.any_eq_true]
/-- the times at which something begins, and the end behind -/
def edgeL (lo hi : Int) (ts : List Int) : List Int := lo :: (hi + 1) :: ts.filter fun t => decide (lo < t) && decide (t ≤ hi)
/-- E has them, each once, in order -/
structure Edges (lo hi : Int) (ts E : List Int) : Prop where
  up : E.Pairwise (· < ·)
  mem : ∀ t, t ∈ E ↔ t ∈ edgeL lo hi ts
theorem mem_edge {lo hi : Int} {ts : List Int} {t : Int} : t ∈ edgeL lo hi ts ↔ t = lo ∨ t = hi + 1 ∨ (t ∈ ts ∧ lo < t ∧ t ≤ hi) := by
  simp [edgeL]
section
variable {lo hi : Int} {ts E : List Int}
theorem Edges.low (h : Edges lo hi ts E) (hl : lo ≤ hi) {t : Int} (ht : t ∈ E) : lo ≤ t ∧ t ≤ hi + 1 := by
  rcases mem_edge.1 ((h.mem t).1 ht) with h1 | h1 | h1 <;> omega
theorem Edges.lt (h : Edges lo hi ts E) {i j : Nat} {s t : Int} (hs : E[i]? = some s) (ht : E[j]? = some t) (hij : i < j) : s < t := by
  obtain ⟨h1, e1⟩ := List.getElem?_eq_some_iff.1 hs
  obtain ⟨h2, e2⟩ := List.getElem?_eq_some_iff.1 ht
  have := (List.pairwise_iff_getElem.1 h.up) i j h1 h2 hij
  rw [e1, e2] at this; exact this
/-- no edge stands between two neighbours -/
theorem Edges.gap (h : Edges lo hi ts E) {i : Nat} {s t u : Int} (hs : E[i]? = some s) (ht : E[i + 1]? = some t) (hu : u ∈ E) : u ≤ s ∨ t ≤ u := by
  obtain ⟨j, hj⟩ := List.getElem?_of_mem hu
  rcases Nat.lt_trichotomy j i with h1 | h1 | h1
  · left; have := h.lt hj hs h1; omega
  · subst h1; rw [hs] at hj; cases hj; left; exact Int.le_refl _
  · rcases Nat.lt_trichotomy j (i + 1) with h2 | h2 | h2
    · omega
    · subst h2; rw [ht] at hj; cases hj; right; exact Int.le_refl _
    · right; have := h.lt ht hj h2; omega
/-- every time lies in one span -/
theorem Edges.span (h : Edges lo hi ts E) {x : Int} (h1 : lo ≤ x) (h2 : x ≤ hi) : ∃ (i : Nat) (s t : Int), E[i]? = some s ∧ E[i + 1]? = some t ∧ s ≤ x ∧ x < t := by
  have hfirst : ∃ (j : Nat), ∃ (u : Int), E[j]? = some u ∧ x < u := by
    obtain ⟨j, hj⟩ := List.getElem?_of_mem ((h.mem (hi + 1)).2 (mem_edge.2 (.inr (.inl rfl))))
    exact ⟨j, hi + 1, hj, by omega⟩
  have key : ∀ (n j : Nat), j ≤ n → (∃ u, E[j]? = some u ∧ x < u) → ∃ (i : Nat) (s t : Int), E[i]? = some s ∧ E[i + 1]? = some t ∧ s ≤ x ∧ x < t := by
    intro n
    induction n with
    | zero =>
      intro j hj ⟨u, hu, hxu⟩
      have : j = 0 := by omega
      subst this
      obtain ⟨k, hk⟩ := List.getElem?_of_mem ((h.mem lo).2 (mem_edge.2 (.inl rfl)))
      rcases Nat.eq_zero_or_pos k with e | e
      · subst e; rw [hu] at hk; cases hk; omega
      · have := h.lt hu hk e; omega
    | succ n ih =>
      intro j hj ⟨u, hu, hxu⟩
      rcases Nat.eq_zero_or_pos j with e | e
      · exact ih 0 (by omega) ⟨u, by rw [← e]; exact hu, hxu⟩
      · obtain ⟨i, rfl⟩ : ∃ i, j = i + 1 := ⟨j - 1, by omega⟩
        obtain ⟨s, hs⟩ : ∃ s, E[i]? = some s := ⟨_, List.getElem?_eq_getElem (by have := (List.getElem?_eq_some_iff.1 hu).1; omega)⟩
        by_cases hsx : s ≤ x
        · exact ⟨i, s, u, hs, hu, hsx, hxu⟩
        · exact ih i (by omega) ⟨s, hs, by omega⟩
  obtain ⟨j, hj⟩ := hfirst
  exact key j j (Nat.le_refl _) hj
/-- within a span a time of the list is passed or not, all over -/
theorem Edges.same (h : Edges lo hi ts E) (hl : lo ≤ hi) {i : Nat} {s t x p : Int} (hs : E[i]? = some s) (ht : E[i + 1]? = some t) (h1 : s ≤ x) (h2 : x < t) (hp : p ∈ ts) : p ≤ x ↔ p ≤ s := by
  have hsl := h.low hl (List.mem_of_getElem? hs)
  have htl := h.low hl (List.mem_of_getElem? ht)
  constructor
  · intro hx
    by_cases hps : p ≤ s
    · exact hps
    · have hm : p ∈ E := (h.mem p).2 (mem_edge.2 (.inr (.inr ⟨hp, by omega, by omega⟩)))
      rcases h.gap hs ht hm with h3 | h3 <;> omega
  · intro hx; omega
end
/-- times of two spans that meet -/
def meetS (a lastA b lastB keyAge setAge : Int) : Int × Int × Bool :=
  if min (lastA - b) setAge < max (a - lastB) (-keyAge) then (0, 0, false)
  else (max b (a - max (a - lastB) (-keyAge)) + max (a - lastB) (-keyAge), max b (a - max (a - lastB) (-keyAge)), true)
theorem meet_yes {a lastA b lastB keyAge setAge x y : Int} (ha : a ≤ lastA) (hb : b ≤ lastB) (h : meetS a lastA b lastB keyAge setAge = (x, y, true)) : a ≤ x ∧ x ≤ lastA ∧ b ≤ y ∧ y ≤ lastB ∧ y - x ≤ keyAge ∧ x - y ≤ setAge := by
  unfold meetS at h
  split at h
  · simp at h
  · simp only [Prod.mk.injEq] at h
    omega
theorem meet_no {a lastA b lastB keyAge setAge x y : Int} (h : (meetS a lastA b lastB keyAge setAge).2.2 = false) (h1 : a ≤ x) (h2 : x ≤ lastA) (h3 : b ≤ y) (h4 : y ≤ lastB) (h5 : y - x ≤ keyAge) (h6 : x - y ≤ setAge) : False := by
  unfold meetS at h
  split at h
  · omega
  · simp at h
/-- the two loops: the first spans that meet and have no key -/
def inS (L : List Tm) (keyAge setAge s t : Int) : List Int → Option (Int × Int)
  | u :: v :: B => if servL L s u then inS L keyAge setAge s t (v :: B) else match meetS s (t - 1) u (v - 1) keyAge setAge with
    | (x, y, true) => some (x, y)
    | _ => inS L keyAge setAge s t (v :: B)
  | _ => none
def outS (L : List Tm) (keyAge setAge : Int) (B : List Int) : List Int → Option (Int × Int)
  | s :: t :: A => match inS L keyAge setAge s t B with
    | some r => some r
    | none => outS L keyAge setAge B (t :: A)
  | _ => none
theorem inS_some {L : List Tm} {keyAge setAge s t x y : Int} : ∀ {B : List Int}, inS L keyAge setAge s t B = some (x, y) → ∃ (j : Nat) (u v : Int), B[j]? = some u ∧ B[j + 1]? = some v ∧ servL L s u = false ∧ meetS s (t - 1) u (v - 1) keyAge setAge = (x, y, true)
  | [], h => by cases h
  | [_], h => by cases h
  | u :: v :: B, h => by
    unfold inS at h
    split at h
    · obtain ⟨j, u', v', h1, h2, h3⟩ := inS_some h
      exact ⟨j + 1, u', v', h1, h2, h3⟩
    · rename_i hs
      split at h
      · rename_i x' y' hm
        cases h
        exact ⟨0, u, v, rfl, rfl, by simpa using hs, hm⟩
      · obtain ⟨j, u', v', h1, h2, h3⟩ := inS_some h
        exact ⟨j + 1, u', v', h1, h2, h3⟩
theorem inS_none {L : List Tm} {keyAge setAge s t : Int} : ∀ {B : List Int}, inS L keyAge setAge s t B = none → ∀ (j : Nat) (u v : Int), B[j]? = some u → B[j + 1]? = some v → servL L s u = true ∨ (meetS s (t - 1) u (v - 1) keyAge setAge).2.2 = false
  | [], _, j, u, v, h1, _ => by simp at h1
  | [_], _, j, u, v, _, h2 => by simp at h2
  | u :: v :: B, h, j, u', v', h1, h2 => by
    unfold inS at h
    split at h
    · rename_i hs
      match j, h1, h2 with
      | 0, h1, h2 => simp at h1; subst h1; exact .inl hs
      | j + 1, h1, h2 => exact inS_none h j u' v' h1 h2
    · split at h
      · cases h
      · rename_i hm
        match j, h1, h2 with
        | 0, h1, h2 =>
          simp at h1 h2; subst h1; subst h2
          right
          cases hb : (meetS s (t - 1) u (v - 1) keyAge setAge).2.2 with
          | false => rfl
          | true => exact absurd (by rw [← hb]) (hm (meetS s (t - 1) u (v - 1) keyAge setAge).1 (meetS s (t - 1) u (v - 1) keyAge setAge).2.1)
        | j + 1, h1, h2 => exact inS_none h j u' v' h1 h2
theorem outS_some {L : List Tm} {keyAge setAge x y : Int} {B : List Int} : ∀ {A : List Int}, outS L keyAge setAge B A = some (x, y) → ∃ (i : Nat) (s t : Int), A[i]? = some s ∧ A[i + 1]? = some t ∧ inS L keyAge setAge s t B = some (x, y)
  | [], h => by cases h
  | [_], h => by cases h
  | s :: t :: A, h => by
    unfold outS at h
    split at h
    · rename_i r hr
      cases h
      exact ⟨0, s, t, rfl, rfl, hr⟩
    · obtain ⟨i, s', t', h1, h2, h3⟩ := outS_some h
      exact ⟨i + 1, s', t', h1, h2, h3⟩
theorem outS_none {L : List Tm} {keyAge setAge : Int} {B : List Int} : ∀ {A : List Int}, outS L keyAge setAge B A = none → ∀ (i : Nat) (s t : Int), A[i]? = some s → A[i + 1]? = some t → inS L keyAge setAge s t B = none
  | [], _, i, s, t, h1, _ => by simp at h1
  | [_], _, i, s, t, _, h2 => by simp at h2
  | s :: t :: A, h, i, s', t', h1, h2 => by
    unfold outS at h
    split at h
    · cases h
    · rename_i hn
      match i, h1, h2 with
      | 0, h1, h2 => simp at h1 h2; subst h1; subst h2; exact hn
      | i + 1, h1, h2 => exact outS_none h i s' t' h1 h2
def toldL (L : List Tm) : List Int := L.flatMap fun k => [k.p, k.v]
def signL (L : List Tm) : List Int := L.flatMap fun k => [k.a, k.r]
section
variable {L : List Tm} {lo hi keyAge setAge : Int} {A B : List Int}
/-- within two spans the same keys serve -/
theorem served_same (hA : Edges lo hi (toldL L) A) (hB : Edges lo hi (signL L) B) (hl : lo ≤ hi) {i j : Nat} {s t u v x y : Int} (hs : A[i]? = some s) (ht : A[i + 1]? = some t) (hu : B[j]? = some u) (hv : B[j + 1]? = some v) (h1 : s ≤ x) (h2 : x < t) (h3 : u ≤ y) (h4 : y < v) : servL L x y = servL L s u := by
  have hk : ∀ k ∈ L, servK k x y = servK k s u := by
    intro k hk
    have e1 := hA.same hl hs ht h1 h2 (p := k.p) (List.mem_flatMap.2 ⟨k, hk, by simp⟩)
    have e2 := hA.same hl hs ht h1 h2 (p := k.v) (List.mem_flatMap.2 ⟨k, hk, by simp⟩)
    have e3 := hB.same hl hu hv h3 h4 (p := k.a) (List.mem_flatMap.2 ⟨k, hk, by simp⟩)
    have e4 := hB.same hl hu hv h3 h4 (p := k.r) (List.mem_flatMap.2 ⟨k, hk, by simp⟩)
    unfold servK
    rw [decide_eq_decide.2 e1, decide_eq_decide.2 e3, decide_eq_decide.2 (show x < k.v ↔ s < k.v by omega), decide_eq_decide.2 (show y < k.r ↔ u < k.r by omega)]
  have hany : ∀ M : List Tm, (∀ k ∈ M, servK k x y = servK k s u) → (M.any fun k => servK k x y) = M.any fun k => servK k s u := by
    intro M
    induction M with
    | nil => intro _; rfl
    | cons k M ih => intro h; rw [List.any_cons, List.any_cons, h k List.mem_cons_self, ih fun k' hk' => h k' (List.mem_cons_of_mem _ hk')]
  exact hany L hk
/-- a line that is said to be safe serves -/
theorem safe_yes (hA : Edges lo hi (toldL L) A) (hB : Edges lo hi (signL L) B) (hl : lo ≤ hi) (h : outS L keyAge setAge B A = none) {a b : Int} (ha1 : lo ≤ a) (ha2 : a ≤ hi) (hb1 : lo ≤ b) (hb2 : b ≤ hi) (hk : b - a ≤ keyAge) (hs : a - b ≤ setAge) : servL L a b = true := by
  obtain ⟨i, s, t, e1, e2, h1, h2⟩ := hA.span ha1 ha2
  obtain ⟨j, u, v, e3, e4, h3, h4⟩ := hB.span hb1 hb2
  rw [served_same hA hB hl e1 e2 e3 e4 h1 h2 h3 h4]
  rcases inS_none (outS_none h i s t e1 e2) j u v e3 e4 with h5 | h5
  · exact h5
  · exact absurd (meet_no h5 h1 (by omega) h3 (by omega) hk hs) id
/-- one that isn't is shown times -/
theorem safe_no (hA : Edges lo hi (toldL L) A) (hB : Edges lo hi (signL L) B) (hl : lo ≤ hi) {x y : Int} (h : outS L keyAge setAge B A = some (x, y)) : lo ≤ x ∧ x ≤ hi ∧ lo ≤ y ∧ y ≤ hi ∧ y - x ≤ keyAge ∧ x - y ≤ setAge ∧ servL L x y = false := by
  obtain ⟨i, s, t, e1, e2, h1⟩ := outS_some h
  obtain ⟨j, u, v, e3, e4, h2, h3⟩ := inS_some h1
  have hst := hA.lt e1 e2 (by omega)
  have huv := hB.lt e3 e4 (by omega)
  obtain ⟨m1, m2, m3, m4, m5, m6⟩ := meet_yes (by omega) (by omega) h3
  have l1 := hA.low hl (List.mem_of_getElem? e1); have l2 := hA.low hl (List.mem_of_getElem? e2)
  have l3 := hB.low hl (List.mem_of_getElem? e3); have l4 := hB.low hl (List.mem_of_getElem? e4)
  refine ⟨by omega, by omega, by omega, by omega, m5, m6, ?_⟩
  rw [served_same hA hB hl e1 e2 e3 e4 m1 (by omega) m3 (by omega)]; exact h2
end
end Go.Proofs.Ytnamkladeaohoaa.safeP
