/- wire.right, gazetteerref2.Right: walks (printed by gen_right.py). Messages in memory. Rows of so many cells: read, owned, appended. -/
import Derived.Test.YtkcpbjoolfojjaaGreatDoorP31
import Derived.Test.YtkcpbjoolfojjaaGreatDoorP14
namespace Go.Proofs.YtkcpbjoolfojjaaGreatDoor.wireR
open Go.RowKit Go.Proofs.YtkcpbjoolfojjaaGreatDoor.kit Go.Proofs.YtkcpbjoolfojjaaGreatDoor.takes Go.Proofs.YtkcpbjoolfojjaaGreatDoor.nspec Go.Proofs.YtkcpbjoolfojjaaGreatDoor.rsplit Go.Proofs.YtkcpbjoolfojjaaGreatDoor.check Go.Proofs.YtkcpbjoolfojjaaGreatDoor.checkAll Go.Proofs.YtkcpbjoolfojjaaGreatDoor.dcheck Go.Proofs.YtkcpbjoolfojjaaGreatDoor.checkData Go.Proofs.YtkcpbjoolfojjaaGreatDoor.fld Go.Proofs.YtkcpbjoolfojjaaGreatDoor.wireP
set_option linter.unusedVariables false

end Go.Proofs.YtkcpbjoolfojjaaGreatDoor.wireR
namespace Go.Proofs.YtkcpbjoolfojjaaGreatDoor.wireM
open Go.RowKit Go.Proofs.YtkcpbjoolfojjaaGreatDoor.kit Go.Proofs.YtkcpbjoolfojjaaGreatDoor.timed Go.Proofs.YtkcpbjoolfojjaaGreatDoor.nspec Go.Proofs.YtkcpbjoolfojjaaGreatDoor.rsplit Go.Proofs.YtkcpbjoolfojjaaGreatDoor.check Go.Proofs.YtkcpbjoolfojjaaGreatDoor.fld Go.Proofs.YtkcpbjoolfojjaaGreatDoor.wireP
set_option linter.unusedVariables false

/-- a message -/
structure Mg where
  id : Int
  rs : Bool
  op : Int
  aa : Bool
  tc : Bool
  rd : Bool
  ra : Bool
  ad : Bool
  cd : Bool
  rc : Int
  qs : List Qn
  an : List Rc
  au : List Rc
  ar : List Rc
/-- where a message's lists lie -/
structure Pl where
  qa : Option Addr
  qc : Nat
  na : Option Addr
  nc : Nat
  ua : Option Addr
  uc : Nat
  ra : Option Addr
  rc : Nat
/-- the lists can be read there -/
structure RdM (w : World) (p : Pl) (m : Mg) : Prop where
  q : RdC w p.qa 3 (m.qs.map Qn.cells)
  n : RdC w p.na 5 (m.an.map Rc.cells)
  u : RdC w p.ua 5 (m.au.map Rc.cells)
  r : RdC w p.ra 5 (m.ar.map Rc.cells)
theorem RdM.below {w w' : World} {p : Pl} {m : Mg} {B : Nat} (h : RdM w p m) (hB : Below B w w') (hz : B = w.heap.size) : RdM w' p m :=
  ⟨h.q.below hB hz, h.n.below hB hz, h.u.below hB hz, h.r.below hB hz⟩
/-- sizes that the walks can bear -/
structure OkR (x : Rc) : Prop where
  o : x.o.size ≤ 1099511627776
  d : x.d.size ≤ 1099511627776
structure OkM (m : Mg) : Prop where
  q : ∀ x ∈ m.qs, x.n.size ≤ 1099511627776
  n : ∀ x ∈ m.an, OkR x
  u : ∀ x ∈ m.au, OkR x
  r : ∀ x ∈ m.ar, OkR x
  ql : m.qs.length ≤ 1099511627776
  nl : m.an.length ≤ 1099511627776
  ul : m.au.length ≤ 1099511627776
  rl : m.ar.length ≤ 1099511627776
/-- sizes as they come: what the program itself can bear -/
structure OkW (m : Mg) : Prop where
  n : ∀ x ∈ m.an, x.d.size ≤ maxLen
  u : ∀ x ∈ m.au, x.d.size ≤ maxLen
  r : ∀ x ∈ m.ar, x.d.size ≤ maxLen
  ql : m.qs.length ≤ maxLen
  nl : m.an.length ≤ maxLen
  ul : m.au.length ≤ maxLen
  rl : m.ar.length ≤ maxLen
theorem OkM.w {m : Mg} (h : OkM m) : OkW m :=
  ⟨fun x hx => Nat.le_trans (h.n x hx).d (by unfold maxLen; omega), fun x hx => Nat.le_trans (h.u x hx).d (by unfold maxLen; omega), fun x hx => Nat.le_trans (h.r x hx).d (by unfold maxLen; omega), Nat.le_trans h.ql (by unfold maxLen; omega), Nat.le_trans h.nl (by unfold maxLen; omega), Nat.le_trans h.ul (by unfold maxLen; omega), Nat.le_trans h.rl (by unfold maxLen; omega)⟩
def AtR (w : World) (g o : Nat) (x : Rc) : Prop :=
  w.cell? ⟨g, o, none⟩ = some (.string x.o) ∧ w.cell? ⟨g, o + 1, none⟩ = some (.int .i64 x.t) ∧ w.cell? ⟨g, o + 2, none⟩ = some (.int .i64 x.c) ∧ w.cell? ⟨g, o + 3, none⟩ = some (.int .i64 x.l) ∧ w.cell? ⟨g, o + 4, none⟩ = some (.string x.d)
theorem AtR.below {w w' : World} {g o B : Nat} {x : Rc} (h : AtR w g o x) (hB : Below B w w') (hg : g < B) : AtR w' g o x := by
  obtain ⟨h0, h1, h2, h3, h4⟩ := h
  exact ⟨(hB.cell (p := ⟨g, _, none⟩) hg).trans h0, (hB.cell (p := ⟨g, _, none⟩) hg).trans h1, (hB.cell (p := ⟨g, _, none⟩) hg).trans h2, (hB.cell (p := ⟨g, _, none⟩) hg).trans h3, (hB.cell (p := ⟨g, _, none⟩) hg).trans h4⟩
def AtQ (w : World) (g o : Nat) (x : Qn) : Prop :=
  w.cell? ⟨g, o, none⟩ = some (.string x.n) ∧ w.cell? ⟨g, o + 1, none⟩ = some (.int .i64 x.t) ∧ w.cell? ⟨g, o + 2, none⟩ = some (.int .i64 x.c)
theorem AtQ.below {w w' : World} {g o B : Nat} {x : Qn} (h : AtQ w g o x) (hB : Below B w w') (hg : g < B) : AtQ w' g o x := by
  obtain ⟨h0, h1, h2⟩ := h
  exact ⟨(hB.cell (p := ⟨g, _, none⟩) hg).trans h0, (hB.cell (p := ⟨g, _, none⟩) hg).trans h1, (hB.cell (p := ⟨g, _, none⟩) hg).trans h2⟩

/-- a message's fourteen cells -/
structure BoxM (w : World) (B : Nat) (p : Pl) (m : Mg) : Prop where
  lt : B < w.heap.size
  c0 : w.cell? ⟨B, 0, none⟩ = some (.int .i64 m.id)
  c1 : w.cell? ⟨B, 1, none⟩ = some (.bool m.rs)
  c2 : w.cell? ⟨B, 2, none⟩ = some (.int .i64 m.op)
  c3 : w.cell? ⟨B, 3, none⟩ = some (.bool m.aa)
  c4 : w.cell? ⟨B, 4, none⟩ = some (.bool m.tc)
  c5 : w.cell? ⟨B, 5, none⟩ = some (.bool m.rd)
  c6 : w.cell? ⟨B, 6, none⟩ = some (.bool m.ra)
  c7 : w.cell? ⟨B, 7, none⟩ = some (.bool m.ad)
  c8 : w.cell? ⟨B, 8, none⟩ = some (.bool m.cd)
  c9 : w.cell? ⟨B, 9, none⟩ = some (.int .i64 m.rc)
  c10 : w.cell? ⟨B, 10, none⟩ = some (.slice p.qa m.qs.length p.qc)
  c11 : w.cell? ⟨B, 11, none⟩ = some (.slice p.na m.an.length p.nc)
  c12 : w.cell? ⟨B, 12, none⟩ = some (.slice p.ua m.au.length p.uc)
  c13 : w.cell? ⟨B, 13, none⟩ = some (.slice p.ra m.ar.length p.rc)
theorem BoxM.below {w w' : World} {B N : Nat} {p : Pl} {m : Mg} (h : BoxM w B p m) (hB : Below N w w') (hl : B < N) : BoxM w' B p m :=
  ⟨Nat.lt_of_lt_of_le h.lt hB.size, (hB.cell (p := ⟨B, 0, none⟩) hl).trans h.c0, (hB.cell (p := ⟨B, 1, none⟩) hl).trans h.c1, (hB.cell (p := ⟨B, 2, none⟩) hl).trans h.c2, (hB.cell (p := ⟨B, 3, none⟩) hl).trans h.c3, (hB.cell (p := ⟨B, 4, none⟩) hl).trans h.c4, (hB.cell (p := ⟨B, 5, none⟩) hl).trans h.c5, (hB.cell (p := ⟨B, 6, none⟩) hl).trans h.c6, (hB.cell (p := ⟨B, 7, none⟩) hl).trans h.c7, (hB.cell (p := ⟨B, 8, none⟩) hl).trans h.c8, (hB.cell (p := ⟨B, 9, none⟩) hl).trans h.c9, (hB.cell (p := ⟨B, 10, none⟩) hl).trans h.c10, (hB.cell (p := ⟨B, 11, none⟩) hl).trans h.c11, (hB.cell (p := ⟨B, 12, none⟩) hl).trans h.c12, (hB.cell (p := ⟨B, 13, none⟩) hl).trans h.c13⟩
theorem BoxM.fresh (w : World) (t : TypeId) (b : Nat) (hb : b = w.heap.size) (p : Pl) (m : Mg) : BoxM (w.alloc (.cells #[.int .i64 m.id, .bool m.rs, .int .i64 m.op, .bool m.aa, .bool m.tc, .bool m.rd, .bool m.ra, .bool m.ad, .bool m.cd, .int .i64 m.rc, .slice p.qa m.qs.length p.qc, .slice p.na m.an.length p.nc, .slice p.ua m.au.length p.uc, .slice p.ra m.ar.length p.rc] t)) b p m := by
  subst hb
  have hb : (w.alloc (.cells #[.int .i64 m.id, .bool m.rs, .int .i64 m.op, .bool m.aa, .bool m.tc, .bool m.rd, .bool m.ra, .bool m.ad, .bool m.cd, .int .i64 m.rc, .slice p.qa m.qs.length p.qc, .slice p.na m.an.length p.nc, .slice p.ua m.au.length p.uc, .slice p.ra m.ar.length p.rc] t)).heap[w.heap.size]? = some (.cells #[.int .i64 m.id, .bool m.rs, .int .i64 m.op, .bool m.aa, .bool m.tc, .bool m.rd, .bool m.ra, .bool m.ad, .bool m.cd, .int .i64 m.rc, .slice p.qa m.qs.length p.qc, .slice p.na m.an.length p.nc, .slice p.ua m.au.length p.uc, .slice p.ra m.ar.length p.rc] t (0, 0)) := heap_alloc_new _ _
  constructor
  · simp
  all_goals (simp only [World.cell?, hb]; rfl)
end Go.Proofs.YtkcpbjoolfojjaaGreatDoor.wireM
namespace Go.Proofs.YtkcpbjoolfojjaaGreatDoor.rows
open Go.RowKit Go.Proofs.YtkcpbjoolfojjaaGreatDoor.kit Go.Proofs.YtkcpbjoolfojjaaGreatDoor.timed Go.Proofs.YtkcpbjoolfojjaaGreatDoor.nspec Go.Proofs.YtkcpbjoolfojjaaGreatDoor.wireP Go.Proofs.YtkcpbjoolfojjaaGreatDoor.wireM
set_option linter.unusedVariables false

theorem addr_at (g o k : Nat) : (⟨g, o, none⟩ : Addr).add k = ⟨g, o + k, none⟩ := by unfold Addr.add; split <;> simp_all
theorem flat_len {α : Type} (f : α → List Value) (n : Nat) (hf : ∀ x, (f x).length = n) : ∀ L : List α, (L.flatMap f).length = L.length * n
  | [] => by simp
  | x :: L => by rw [List.flatMap_cons, List.length_append, flat_len f n hf L, hf, List.length_cons, Nat.succ_mul]; omega
theorem flat_at {α : Type} (f : α → List Value) (n : Nat) (hf : ∀ x, (f x).length = n) : ∀ (L : List α) (j : Nat) (x : α) (i : Nat) (u : Value), L[j]? = some x → (f x)[i]? = some u → (L.flatMap f)[j * n + i]? = some u
  | [], j, x, i, u, h, _ => by simp at h
  | y :: L, 0, x, i, u, h, hu => by
    simp at h; subst h
    rw [List.flatMap_cons, Nat.zero_mul, Nat.zero_add, List.getElem?_append_left (List.getElem?_eq_some_iff.1 hu).1]; exact hu
  | y :: L, j + 1, x, i, u, h, hu => by
    rw [List.flatMap_cons, List.getElem?_append_right (by rw [hf, Nat.succ_mul]; omega), hf, show (j + 1) * n + i - n = j * n + i by rw [Nat.succ_mul]; omega]
    exact flat_at f n hf L j x i u (by simpa using h) hu
/-- a row of one's own reads as its rows -/
theorem rdc_own {α : Type} (f : α → List Value) (m : Nat) (hf : ∀ x, (f x).length = m) {w : World} {base : Nat} {e : TypeId} {v : Value} {L : List α} {n : Nat} (hn : n = L.length) (h : w.ownsRow base e m v n (L.flatMap f)) :
    ∃ a c, v = .slice a n c ∧ n ≤ c ∧ c ≤ maxLen ∧ (a = none → n = 0 ∧ c = 0) ∧ RdC w a m (L.map f) := by
  subst hn
  rcases h.2 with ⟨rfl, h0⟩ | ⟨g, cap, cur, rfl, hb, hg, h1, h2, _, htake⟩
  · have : L = [] := List.eq_nil_of_length_eq_zero h0
    subst this
    exact ⟨none, 0, rfl, Nat.le_refl _, Nat.zero_le _, fun _ => ⟨rfl, rfl⟩, RdC.nil _ _ _⟩
  · refine ⟨_, cap, rfl, h1, h2, (fun h => by cases h), ?_⟩
    intro j x hx
    rw [List.getElem?_map] at hx
    obtain ⟨y, hy, rfl⟩ := Option.map_eq_some_iff.1 hx
    refine ⟨hf y, g, 0, rfl, (Array.getElem?_eq_some_iff.1 hg).1, fun i u hu => ?_⟩
    have := h.cells (g := g) rfl (j * m + i) u (flat_at f m hf L j y i u hy hu)
    rw [addr_at] at this
    rw [Nat.add_assoc]
    exact this
end Go.Proofs.YtkcpbjoolfojjaaGreatDoor.rows
