/- Lists of timed keys, and of keys of a plan, in memory; both are held against their like. Messages in memory. Rows of so many cells: read, owned, appended. Lists of proofs in memory: the reference's (11 cells), the program's byName (8) and byHash (10). name.escaped and its closure: walks. name.Read: walk. data.Names: walk. PLAIN: the parts of an NSEC and of an NSEC3, and what makes them proofs that may be used. Two lists of proofs that grow, each proof with its types' list. PLAIN: what both Judge need: the longer of two common names, hashes without a fault, the steps of the searches. -/
import Derived.Test.YtanoiiodnddkfaaGreatJ1
import Derived.Test.YtanoiiodnddkfaaGreatJ18
import Derived.Test.YtanoiiodnddkfaaGreatJ10
import Derived.Test.YtanoiiodnddkfaaGreatJ11
import Derived.Test.YtanoiiodnddkfaaGreatJ15
import Derived.Test.YtanoiiodnddkfaaGreatJ17
import Derived.BigQuiet
import Derived.Deep.QuietTactic
import Derived.Laws.BitsLemmas
import Derived.Outline
namespace Go.Proofs.YtanoiiodnddkfaaGreat.timed
open Go.RowKit Go.Proofs.YtanoiiodnddkfaaGreat.kit
set_option linter.unusedVariables false

theorem bel_drewN {B : Nat} {a w : World} (h : Below B a w) (q : Nat) : Below B a (w.drewN q) := ⟨h.os, h.tape, h.output, h.size, h.block⟩
/-- a key with its times -/
structure Tm where
  f : Int
  m : Int
  e : Int
  s : Int
  p : Int
  a : Int
  r : Int
  v : Int
deriving DecidableEq
def Tm.cells (x : Tm) : List Value := [.int .i64 x.f, .int .i64 x.m, .int .i64 x.e, .int .i64 x.s, .int .i64 x.p, .int .i64 x.a, .int .i64 x.r, .int .i64 x.v]
/-- a key of a plan -/
structure Pk where
  f : Int
  m : Int
  e : Int
  s : Int
  on : Bool
deriving DecidableEq
def Pk.cells (x : Pk) : List Value := [.int .i64 x.f, .int .i64 x.m, .int .i64 x.e, .int .i64 x.s, .bool x.on]

/-- rows of so many cells can be read from address a on -/
def RdC (w : World) (a : Option Addr) (n : Nat) (ls : List (List Value)) : Prop :=
  ∀ (j : Nat) (x : List Value), ls[j]? = some x → x.length = n ∧ ∃ g o, a = some ⟨g, o, none⟩ ∧ g < w.heap.size ∧ ∀ i u, x[i]? = some u → w.cell? ⟨g, o + j * n + i, none⟩ = some u
theorem RdC.below {w w' : World} {a : Option Addr} {n B : Nat} {ls : List (List Value)} (h : RdC w a n ls) (hB : Below B w w') (hz : B = w.heap.size) : RdC w' a n ls := by
  intro j x hx
  obtain ⟨h0, g, o, h1, h3, h4⟩ := h j x hx
  exact ⟨h0, g, o, h1, Nat.lt_of_lt_of_le h3 hB.size, fun i u hu => (hB.cell (p := ⟨g, o + j * n + i, none⟩) (by rw [hz]; exact h3)).trans (h4 i u hu)⟩
theorem RdC.nil (w : World) (a : Option Addr) (n : Nat) : RdC w a n [] := by intro j x h; simp at h

def AtT (w : World) (g o : Nat) (x : Tm) : Prop :=
  w.cell? ⟨g, o, none⟩ = some (.int .i64 x.f) ∧ w.cell? ⟨g, o + 1, none⟩ = some (.int .i64 x.m) ∧ w.cell? ⟨g, o + 2, none⟩ = some (.int .i64 x.e) ∧ w.cell? ⟨g, o + 3, none⟩ = some (.int .i64 x.s) ∧
  w.cell? ⟨g, o + 4, none⟩ = some (.int .i64 x.p) ∧ w.cell? ⟨g, o + 5, none⟩ = some (.int .i64 x.a) ∧ w.cell? ⟨g, o + 6, none⟩ = some (.int .i64 x.r) ∧ w.cell? ⟨g, o + 7, none⟩ = some (.int .i64 x.v)
theorem RdC.at_t {w : World} {a : Option Addr} {L : List Tm} (h : RdC w a 8 (L.map Tm.cells)) {j : Nat} {x : Tm} (hj : L[j]? = some x) : ∃ g o, a = some ⟨g, o, none⟩ ∧ g < w.heap.size ∧ AtT w g (o + j * 8) x := by
  obtain ⟨_, g, o, h1, h2, h3⟩ := h j x.cells (by rw [List.getElem?_map, hj]; rfl)
  exact ⟨g, o, h1, h2, h3 0 _ rfl, h3 1 _ rfl, h3 2 _ rfl, h3 3 _ rfl, h3 4 _ rfl, h3 5 _ rfl, h3 6 _ rfl, h3 7 _ rfl⟩
theorem AtT.below {w w' : World} {g o B : Nat} {x : Tm} (h : AtT w g o x) (hB : Below B w w') (hg : g < B) : AtT w' g o x := by
  obtain ⟨h0, h1, h2, h3, h4, h5, h6, h7⟩ := h
  exact ⟨(hB.cell (p := ⟨g, _, none⟩) hg).trans h0, (hB.cell (p := ⟨g, _, none⟩) hg).trans h1, (hB.cell (p := ⟨g, _, none⟩) hg).trans h2, (hB.cell (p := ⟨g, _, none⟩) hg).trans h3, (hB.cell (p := ⟨g, _, none⟩) hg).trans h4, (hB.cell (p := ⟨g, _, none⟩) hg).trans h5, (hB.cell (p := ⟨g, _, none⟩) hg).trans h6, (hB.cell (p := ⟨g, _, none⟩) hg).trans h7⟩
def AtK (w : World) (g o : Nat) (x : Pk) : Prop :=
  w.cell? ⟨g, o, none⟩ = some (.int .i64 x.f) ∧ w.cell? ⟨g, o + 1, none⟩ = some (.int .i64 x.m) ∧ w.cell? ⟨g, o + 2, none⟩ = some (.int .i64 x.e) ∧ w.cell? ⟨g, o + 3, none⟩ = some (.int .i64 x.s) ∧ w.cell? ⟨g, o + 4, none⟩ = some (.bool x.on)
theorem RdC.at_k {w : World} {a : Option Addr} {L : List Pk} (h : RdC w a 5 (L.map Pk.cells)) {j : Nat} {x : Pk} (hj : L[j]? = some x) : ∃ g o, a = some ⟨g, o, none⟩ ∧ g < w.heap.size ∧ AtK w g (o + j * 5) x := by
  obtain ⟨_, g, o, h1, h2, h3⟩ := h j x.cells (by rw [List.getElem?_map, hj]; rfl)
  exact ⟨g, o, h1, h2, h3 0 _ rfl, h3 1 _ rfl, h3 2 _ rfl, h3 3 _ rfl, h3 4 _ rfl⟩
theorem AtK.below {w w' : World} {g o B : Nat} {x : Pk} (h : AtK w g o x) (hB : Below B w w') (hg : g < B) : AtK w' g o x := by
  obtain ⟨h0, h1, h2, h3, h4⟩ := h
  exact ⟨(hB.cell (p := ⟨g, _, none⟩) hg).trans h0, (hB.cell (p := ⟨g, _, none⟩) hg).trans h1, (hB.cell (p := ⟨g, _, none⟩) hg).trans h2, (hB.cell (p := ⟨g, _, none⟩) hg).trans h3, (hB.cell (p := ⟨g, _, none⟩) hg).trans h4⟩

end Go.Proofs.YtanoiiodnddkfaaGreat.timed
namespace Go.Proofs.YtanoiiodnddkfaaGreat.wireM
open Go.RowKit Go.Proofs.YtanoiiodnddkfaaGreat.kit Go.Proofs.YtanoiiodnddkfaaGreat.timed Go.Proofs.YtanoiiodnddkfaaGreat.nspec Go.Proofs.YtanoiiodnddkfaaGreat.rsplit Go.Proofs.YtanoiiodnddkfaaGreat.check Go.Proofs.YtanoiiodnddkfaaGreat.fld Go.Proofs.YtanoiiodnddkfaaGreat.wireP
set_option linter.unusedVariables false

/-- a message -/
structure Mg where
  id : Int
  rs : Bool
  op : Int
  aa : Bool
  tc : Bool
  rd : Bool
  ra : Bool
  ad : Bool
  cd : Bool
  rc : Int
  qs : List Qn
  an : List Rc
  au : List Rc
  ar : List Rc
/-- where a message's lists lie -/
structure Pl where
  qa : Option Addr
  qc : Nat
  na : Option Addr
  nc : Nat
  ua : Option Addr
  uc : Nat
  ra : Option Addr
  rc : Nat
/-- the lists can be read there -/
structure RdM (w : World) (p : Pl) (m : Mg) : Prop where
  q : RdC w p.qa 3 (m.qs.map Qn.cells)
  n : RdC w p.na 5 (m.an.map Rc.cells)
  u : RdC w p.ua 5 (m.au.map Rc.cells)
  r : RdC w p.ra 5 (m.ar.map Rc.cells)
theorem RdM.below {w w' : World} {p : Pl} {m : Mg} {B : Nat} (h : RdM w p m) (hB : Below B w w') (hz : B = w.heap.size) : RdM w' p m :=
  ⟨h.q.below hB hz, h.n.below hB hz, h.u.below hB hz, h.r.below hB hz⟩
/-- where a list is none, it is empty -/
structure NilM (p : Pl) (m : Mg) : Prop where
  n : p.na = none → m.an.length = 0 ∧ p.nc = 0
  u : p.ua = none → m.au.length = 0 ∧ p.uc = 0
  r : p.ra = none → m.ar.length = 0 ∧ p.rc = 0
/-- sizes that the walks can bear -/
structure OkR (x : Rc) : Prop where
  o : x.o.size ≤ 1099511627776
  d : x.d.size ≤ 1099511627776
structure OkM (m : Mg) : Prop where
  q : ∀ x ∈ m.qs, x.n.size ≤ 1099511627776
  n : ∀ x ∈ m.an, OkR x
  u : ∀ x ∈ m.au, OkR x
  r : ∀ x ∈ m.ar, OkR x
  ql : m.qs.length ≤ 1099511627776
  nl : m.an.length ≤ 1099511627776
  ul : m.au.length ≤ 1099511627776
  rl : m.ar.length ≤ 1099511627776
/-- sizes as they come: what the program itself can bear -/
structure OkW (m : Mg) : Prop where
  n : ∀ x ∈ m.an, x.d.size ≤ maxLen
  u : ∀ x ∈ m.au, x.d.size ≤ maxLen
  r : ∀ x ∈ m.ar, x.d.size ≤ maxLen
  ql : m.qs.length ≤ maxLen
  nl : m.an.length ≤ maxLen
  ul : m.au.length ≤ maxLen
  rl : m.ar.length ≤ maxLen
theorem OkM.w {m : Mg} (h : OkM m) : OkW m :=
  ⟨fun x hx => Nat.le_trans (h.n x hx).d (by unfold maxLen; omega), fun x hx => Nat.le_trans (h.u x hx).d (by unfold maxLen; omega), fun x hx => Nat.le_trans (h.r x hx).d (by unfold maxLen; omega), Nat.le_trans h.ql (by unfold maxLen; omega), Nat.le_trans h.nl (by unfold maxLen; omega), Nat.le_trans h.ul (by unfold maxLen; omega), Nat.le_trans h.rl (by unfold maxLen; omega)⟩
def checkB (m : Mg) : Bool :=
  inB m.id 65535 && (inB m.op 15 && (inB m.rc 15 && (decide (m.qs.length ≤ 65535 ∧ m.an.length ≤ 65535 ∧ m.au.length ≤ 65535 ∧ m.ar.length ≤ 65535) && (m.qs.all rightQ && (m.an.all rightB && (m.au.all rightB && m.ar.all rightB))))))

def AtR (w : World) (g o : Nat) (x : Rc) : Prop :=
  w.cell? ⟨g, o, none⟩ = some (.string x.o) ∧ w.cell? ⟨g, o + 1, none⟩ = some (.int .i64 x.t) ∧ w.cell? ⟨g, o + 2, none⟩ = some (.int .i64 x.c) ∧ w.cell? ⟨g, o + 3, none⟩ = some (.int .i64 x.l) ∧ w.cell? ⟨g, o + 4, none⟩ = some (.string x.d)
theorem at_r {w : World} {a : Option Addr} {L : List Rc} (h : RdC w a 5 (L.map Rc.cells)) {j : Nat} {x : Rc} (hj : L[j]? = some x) : ∃ g o, a = some ⟨g, o, none⟩ ∧ g < w.heap.size ∧ AtR w g (o + j * 5) x := by
  obtain ⟨_, g, o, h1, h2, h3⟩ := h j x.cells (by rw [List.getElem?_map, hj]; rfl)
  exact ⟨g, o, h1, h2, h3 0 _ rfl, h3 1 _ rfl, h3 2 _ rfl, h3 3 _ rfl, h3 4 _ rfl⟩
theorem AtR.below {w w' : World} {g o B : Nat} {x : Rc} (h : AtR w g o x) (hB : Below B w w') (hg : g < B) : AtR w' g o x := by
  obtain ⟨h0, h1, h2, h3, h4⟩ := h
  exact ⟨(hB.cell (p := ⟨g, _, none⟩) hg).trans h0, (hB.cell (p := ⟨g, _, none⟩) hg).trans h1, (hB.cell (p := ⟨g, _, none⟩) hg).trans h2, (hB.cell (p := ⟨g, _, none⟩) hg).trans h3, (hB.cell (p := ⟨g, _, none⟩) hg).trans h4⟩
def AtQ (w : World) (g o : Nat) (x : Qn) : Prop :=
  w.cell? ⟨g, o, none⟩ = some (.string x.n) ∧ w.cell? ⟨g, o + 1, none⟩ = some (.int .i64 x.t) ∧ w.cell? ⟨g, o + 2, none⟩ = some (.int .i64 x.c)
theorem at_q {w : World} {a : Option Addr} {L : List Qn} (h : RdC w a 3 (L.map Qn.cells)) {j : Nat} {x : Qn} (hj : L[j]? = some x) : ∃ g o, a = some ⟨g, o, none⟩ ∧ g < w.heap.size ∧ AtQ w g (o + j * 3) x := by
  obtain ⟨_, g, o, h1, h2, h3⟩ := h j x.cells (by rw [List.getElem?_map, hj]; rfl)
  exact ⟨g, o, h1, h2, h3 0 _ rfl, h3 1 _ rfl, h3 2 _ rfl⟩
theorem AtQ.below {w w' : World} {g o B : Nat} {x : Qn} (h : AtQ w g o x) (hB : Below B w w') (hg : g < B) : AtQ w' g o x := by
  obtain ⟨h0, h1, h2⟩ := h
  exact ⟨(hB.cell (p := ⟨g, _, none⟩) hg).trans h0, (hB.cell (p := ⟨g, _, none⟩) hg).trans h1, (hB.cell (p := ⟨g, _, none⟩) hg).trans h2⟩

/-- a message's fourteen cells -/
structure BoxM (w : World) (B : Nat) (p : Pl) (m : Mg) : Prop where
  lt : B < w.heap.size
  c0 : w.cell? ⟨B, 0, none⟩ = some (.int .i64 m.id)
  c1 : w.cell? ⟨B, 1, none⟩ = some (.bool m.rs)
  c2 : w.cell? ⟨B, 2, none⟩ = some (.int .i64 m.op)
  c3 : w.cell? ⟨B, 3, none⟩ = some (.bool m.aa)
  c4 : w.cell? ⟨B, 4, none⟩ = some (.bool m.tc)
  c5 : w.cell? ⟨B, 5, none⟩ = some (.bool m.rd)
  c6 : w.cell? ⟨B, 6, none⟩ = some (.bool m.ra)
  c7 : w.cell? ⟨B, 7, none⟩ = some (.bool m.ad)
  c8 : w.cell? ⟨B, 8, none⟩ = some (.bool m.cd)
  c9 : w.cell? ⟨B, 9, none⟩ = some (.int .i64 m.rc)
  c10 : w.cell? ⟨B, 10, none⟩ = some (.slice p.qa m.qs.length p.qc)
  c11 : w.cell? ⟨B, 11, none⟩ = some (.slice p.na m.an.length p.nc)
  c12 : w.cell? ⟨B, 12, none⟩ = some (.slice p.ua m.au.length p.uc)
  c13 : w.cell? ⟨B, 13, none⟩ = some (.slice p.ra m.ar.length p.rc)
theorem BoxM.below {w w' : World} {B N : Nat} {p : Pl} {m : Mg} (h : BoxM w B p m) (hB : Below N w w') (hl : B < N) : BoxM w' B p m :=
  ⟨Nat.lt_of_lt_of_le h.lt hB.size, (hB.cell (p := ⟨B, 0, none⟩) hl).trans h.c0, (hB.cell (p := ⟨B, 1, none⟩) hl).trans h.c1, (hB.cell (p := ⟨B, 2, none⟩) hl).trans h.c2, (hB.cell (p := ⟨B, 3, none⟩) hl).trans h.c3, (hB.cell (p := ⟨B, 4, none⟩) hl).trans h.c4, (hB.cell (p := ⟨B, 5, none⟩) hl).trans h.c5, (hB.cell (p := ⟨B, 6, none⟩) hl).trans h.c6, (hB.cell (p := ⟨B, 7, none⟩) hl).trans h.c7, (hB.cell (p := ⟨B, 8, none⟩) hl).trans h.c8, (hB.cell (p := ⟨B, 9, none⟩) hl).trans h.c9, (hB.cell (p := ⟨B, 10, none⟩) hl).trans h.c10, (hB.cell (p := ⟨B, 11, none⟩) hl).trans h.c11, (hB.cell (p := ⟨B, 12, none⟩) hl).trans h.c12, (hB.cell (p := ⟨B, 13, none⟩) hl).trans h.c13⟩
def cellsM (p : Pl) (m : Mg) : Array Value := #[.int .i64 m.id, .bool m.rs, .int .i64 m.op, .bool m.aa, .bool m.tc, .bool m.rd, .bool m.ra, .bool m.ad, .bool m.cd, .int .i64 m.rc, .slice p.qa m.qs.length p.qc, .slice p.na m.an.length p.nc, .slice p.ua m.au.length p.uc, .slice p.ra m.ar.length p.rc]
theorem BoxM.fresh (w : World) (t : TypeId) (b : Nat) (hb : b = w.heap.size) (p : Pl) (m : Mg) : BoxM (w.alloc (.cells #[.int .i64 m.id, .bool m.rs, .int .i64 m.op, .bool m.aa, .bool m.tc, .bool m.rd, .bool m.ra, .bool m.ad, .bool m.cd, .int .i64 m.rc, .slice p.qa m.qs.length p.qc, .slice p.na m.an.length p.nc, .slice p.ua m.au.length p.uc, .slice p.ra m.ar.length p.rc] t)) b p m := by
  subst hb
  have hb : (w.alloc (.cells #[.int .i64 m.id, .bool m.rs, .int .i64 m.op, .bool m.aa, .bool m.tc, .bool m.rd, .bool m.ra, .bool m.ad, .bool m.cd, .int .i64 m.rc, .slice p.qa m.qs.length p.qc, .slice p.na m.an.length p.nc, .slice p.ua m.au.length p.uc, .slice p.ra m.ar.length p.rc] t)).heap[w.heap.size]? = some (.cells #[.int .i64 m.id, .bool m.rs, .int .i64 m.op, .bool m.aa, .bool m.tc, .bool m.rd, .bool m.ra, .bool m.ad, .bool m.cd, .int .i64 m.rc, .slice p.qa m.qs.length p.qc, .slice p.na m.an.length p.nc, .slice p.ua m.au.length p.uc, .slice p.ra m.ar.length p.rc] t (0, 0)) := heap_alloc_new _ _
  constructor
  · simp
  all_goals (simp only [World.cell?, hb]; rfl)
theorem all_no {α : Type} {f : α → Bool} {L : List α} {k : Nat} {x : α} (hx : L[k]? = some x) (h : f x = false) : L.all f = false := by
  rw [List.all_eq_false]
  exact ⟨x, List.mem_of_getElem? hx, by rw [h]; simp⟩
theorem all_step {α : Type} {f : α → Bool} {L : List α} {k : Nat} {x : α} (hx : L[k]? = some x) (h : f x = true) (ha : (L.take k).all f = true) : (L.take (k + 1)).all f = true := by
  obtain ⟨h1, h2⟩ := List.getElem?_eq_some_iff.1 hx
  rw [List.take_succ_eq_append_getElem h1, List.all_append, ha, h2]; simp [h]
theorem all_end {α : Type} {f : α → Bool} {L : List α} {k : Nat} (hk : L.length ≤ k) (ha : (L.take k).all f = true) : L.all f = true := by
  rwa [List.take_of_length_le hk] at ha
end Go.Proofs.YtanoiiodnddkfaaGreat.wireM
namespace Go.Proofs.YtanoiiodnddkfaaGreat.rows
open Go.RowKit Go.Proofs.YtanoiiodnddkfaaGreat.kit Go.Proofs.YtanoiiodnddkfaaGreat.timed Go.Proofs.YtanoiiodnddkfaaGreat.nspec Go.Proofs.YtanoiiodnddkfaaGreat.wireP Go.Proofs.YtanoiiodnddkfaaGreat.wireM
set_option linter.unusedVariables false

theorem addr_at (g o k : Nat) : (⟨g, o, none⟩ : Addr).add k = ⟨g, o + k, none⟩ := by unfold Addr.add; split <;> simp_all
theorem flat_len {α : Type} (f : α → List Value) (n : Nat) (hf : ∀ x, (f x).length = n) : ∀ L : List α, (L.flatMap f).length = L.length * n
  | [] => by simp
  | x :: L => by rw [List.flatMap_cons, List.length_append, flat_len f n hf L, hf, List.length_cons, Nat.succ_mul]; omega
theorem flat_at {α : Type} (f : α → List Value) (n : Nat) (hf : ∀ x, (f x).length = n) : ∀ (L : List α) (j : Nat) (x : α) (i : Nat) (u : Value), L[j]? = some x → (f x)[i]? = some u → (L.flatMap f)[j * n + i]? = some u
  | [], j, x, i, u, h, _ => by simp at h
  | y :: L, 0, x, i, u, h, hu => by
    simp at h; subst h
    rw [List.flatMap_cons, Nat.zero_mul, Nat.zero_add, List.getElem?_append_left (List.getElem?_eq_some_iff.1 hu).1]; exact hu
  | y :: L, j + 1, x, i, u, h, hu => by
    rw [List.flatMap_cons, List.getElem?_append_right (by rw [hf, Nat.succ_mul]; omega), hf, show (j + 1) * n + i - n = j * n + i by rw [Nat.succ_mul]; omega]
    exact flat_at f n hf L j x i u (by simpa using h) hu
/-- a row of one's own reads as its rows -/
theorem rdc_own {α : Type} (f : α → List Value) (m : Nat) (hf : ∀ x, (f x).length = m) {w : World} {base : Nat} {e : TypeId} {v : Value} {L : List α} {n : Nat} (hn : n = L.length) (h : w.ownsRow base e m v n (L.flatMap f)) :
    ∃ a c, v = .slice a n c ∧ n ≤ c ∧ c ≤ maxLen ∧ (a = none → n = 0 ∧ c = 0) ∧ RdC w a m (L.map f) := by
  subst hn
  rcases h.2 with ⟨rfl, h0⟩ | ⟨g, cap, cur, rfl, hb, hg, h1, h2, _, htake⟩
  · have : L = [] := List.eq_nil_of_length_eq_zero h0
    subst this
    exact ⟨none, 0, rfl, Nat.le_refl _, Nat.zero_le _, fun _ => ⟨rfl, rfl⟩, RdC.nil _ _ _⟩
  · refine ⟨_, cap, rfl, h1, h2, (fun h => by cases h), ?_⟩
    intro j x hx
    rw [List.getElem?_map] at hx
    obtain ⟨y, hy, rfl⟩ := Option.map_eq_some_iff.1 hx
    refine ⟨hf y, g, 0, rfl, (Array.getElem?_eq_some_iff.1 hg).1, fun i u hu => ?_⟩
    have := h.cells (g := g) rfl (j * m + i) u (flat_at f m hf L j y i u hy hu)
    rw [addr_at] at this
    rw [Nat.add_assoc]
    exact this
/-- rows that can be read, as the cells that an append takes -/
theorem cells_rd {α : Type} (f : α → List Value) (m : Nat) (hm : 0 < m) (hf : ∀ x, (f x).length = m) {w : World} {a : Option Addr} {L : List α} (h : RdC w a m (L.map f)) (c : Nat) (hc : a = none → L.length = 0 ∧ c = 0) : (a = none ∧ L.length = 0 ∧ c = 0) ∨ ∃ ad, a = some ad ∧ ∀ (j : Nat) (u : Value), (L.flatMap f)[j]? = some u → w.cell? (ad.add j) = some u := by
  cases a with
  | none => exact .inl ⟨rfl, hc rfl⟩
  | some ad =>
    right
    refine ⟨ad, rfl, fun j u hj => ?_⟩
    have hl : j < L.length * m := by rw [← flat_len f m hf]; exact (List.getElem?_eq_some_iff.1 hj).1
    have hdiv : j / m < L.length := (Nat.div_lt_iff_lt_mul hm).2 hl
    have hmod : j % m < m := Nat.mod_lt _ hm
    have hjm : j / m * m + j % m = j := by rw [Nat.mul_comm]; exact Nat.div_add_mod j m
    obtain ⟨x, hx⟩ : ∃ x, L[j / m]? = some x := ⟨_, List.getElem?_eq_getElem hdiv⟩
    obtain ⟨_, g, o, h1, _, h3⟩ := h (j / m) (f x) (by rw [List.getElem?_map, hx]; rfl)
    cases h1
    obtain ⟨u', hu'⟩ : ∃ u', (f x)[j % m]? = some u' := ⟨_, List.getElem?_eq_getElem (by rw [hf]; exact hmod)⟩
    have h4 := flat_at f m hf L (j / m) x (j % m) u' hx hu'
    rw [hjm] at h4
    rw [h4] at hj; cases hj
    have h5 := h3 _ _ hu'
    rw [Nat.add_assoc, hjm] at h5
    rw [addr_at]; exact h5
theorem one_cells {α : Type} {f : α → List Value} {L : List α} (h : ∀ x u, u ∈ f x → u.oneCell' = true) : ∀ u ∈ L.flatMap f, u.oneCell' = true := by
  intro u hu
  obtain ⟨x, _, hx⟩ := List.mem_flatMap.1 hu
  exact h x u hx
theorem rec_one (x : Rc) (u : Value) (h : u ∈ x.cells) : u.oneCell' = true := by
  simp only [Rc.cells, List.mem_cons, List.not_mem_nil, or_false] at h
  rcases h with rfl | rfl | rfl | rfl | rfl <;> rfl
theorem qn_one (x : Qn) (u : Value) (h : u ∈ x.cells) : u.oneCell' = true := by
  simp only [Qn.cells, List.mem_cons, List.not_mem_nil, or_false] at h
  rcases h with rfl | rfl | rfl <;> rfl
theorem infoRec : (Tryz.prog.info? 32).map (fun i => (i.zero, i.size, i.bytes)) = some (some (.agg #[.string ByteArray.empty, .int .i64 0, .int .i64 0, .int .i64 0, .string ByteArray.empty]), 5, 56) := by kernel_rfl
theorem infoQn : (Tryz.prog.info? 26).map (fun i => (i.zero, i.size, i.bytes)) = some (some (.agg #[.string ByteArray.empty, .int .i64 0, .int .i64 0]), 3, 32) := by kernel_rfl
theorem row_neG {w : World} {b0 : Nat} {e : TypeId} {size : Nat} {v : Value} {n : Nat} {xs : List Value} (h : w.ownsRow b0 e size v n xs) {k : Nat} {o : Obj} (hk : w.heap[k]? = some o) (hn : ∀ cur f, o ≠ .cells cur e f) : some k ≠ v.ownBlock := by
  intro e
  rcases h.2 with ⟨rfl, _⟩ | ⟨g, cap, cur, rfl, hb, hg, _⟩
  · cases e
  · simp only [Value.ownBlock, Option.some.injEq] at e
    subst e
    rw [hg] at hk; cases hk
    exact hn _ _ rfl
theorem row_lowG {w : World} {b0 : Nat} {e : TypeId} {size : Nat} {v : Value} {n : Nat} {xs : List Value} (h : w.ownsRow b0 e size v n xs) {k : Nat} (hk : k < b0) : some k ≠ v.ownBlock := by
  intro e
  rcases h.2 with ⟨rfl, _⟩ | ⟨g, cap, cur, rfl, hb, hg, _⟩
  · cases e
  · simp only [Value.ownBlock, Option.some.injEq] at e; omega
theorem own_keptG {w w1 : World} {b0 : Nat} {e : TypeId} {size : Nat} {v : Value} {n : Nat} {xs : List Value} (h : w.ownsRow b0 e size v n xs) (hk : ∀ (k : Nat) (cur : Array Value), w.heap[k]? = some (Obj.cells cur e (0, 0)) → w1.heap[k]? = some (Obj.cells cur e (0, 0))) : w1.ownsRow b0 e size v n xs := by
  refine ⟨h.1, ?_⟩
  rcases h.2 with h1 | ⟨g, cap, cur, h1, h2, h3, h4⟩
  · exact .inl h1
  · exact .inr ⟨g, cap, cur, h1, h2, hk _ _ h3, h4⟩
theorem own_at {w : World} {base : Nat} {e : TypeId} {v : Value} {n size : Nat} {xs : List Value} (h : w.ownsRow base e size v n xs) (hn : 1 ≤ n) : ∃ g cap, v = .slice (some ⟨g, 0, none⟩) n cap ∧ base ≤ g ∧ g < w.heap.size ∧ (∀ j, j < n * size → ∃ u, w.cell? ⟨g, j, none⟩ = some u) ∧ (∀ j, w.frozen? ⟨g, j, none⟩ = false) ∧ ∃ cur, w.heap[g]? = some (.cells cur e (0, 0)) := by
  rcases h.2 with ⟨_, h0⟩ | ⟨g, cap, cur, rfl, hb, hg, h1, h2, _, _⟩
  · omega
  · refine ⟨g, cap, rfl, hb, (Array.getElem?_eq_some_iff.1 hg).1, fun j hj => ?_, fun j => by simp [World.frozen?, hg], cur, hg⟩
    have hl : j < xs.length := by rw [h.1]; exact hj
    refine ⟨xs[j], ?_⟩
    have := h.cells (g := g) rfl j xs[j] (List.getElem?_eq_getElem hl)
    rw [addr_at, Nat.zero_add] at this; exact this
end Go.Proofs.YtanoiiodnddkfaaGreat.rows
namespace Go.Proofs.YtanoiiodnddkfaaGreat.gapR
open Go.RowKit Go.Proofs.YtanoiiodnddkfaaGreat.kit Go.Proofs.YtanoiiodnddkfaaGreat.nspec Go.Proofs.YtanoiiodnddkfaaGreat.fld Go.Proofs.YtanoiiodnddkfaaGreat.timed Go.Proofs.YtanoiiodnddkfaaGreat.wireP Go.Proofs.YtanoiiodnddkfaaGreat.gapP Go.Proofs.YtanoiiodnddkfaaGreat.bits Go.Proofs.YtanoiiodnddkfaaGreat.ints Go.Proofs.YtanoiiodnddkfaaGreat.gapA Go.Proofs.YtanoiiodnddkfaaGreat.gapC Go.Proofs.YtanoiiodnddkfaaGreat.gapN
set_option linter.unusedVariables false

/-- a proof, and where its types' list lies -/
structure Gr where
  g : Gp
  a : Option Addr
  n : Nat
  c : Nat
def Gr.v (r : Gr) : Value := .slice r.a r.n r.c
def Gr.refL (r : Gr) : List Value := [.string r.g.x.o, .int .i64 r.g.x.t, .int .i64 r.g.x.c, .int .i64 r.g.x.l, .string r.g.x.d, .bool r.g.hashed, .string r.g.nx, .string r.g.own, .string r.g.salt, .int .i64 r.g.rounds, r.v]
def Gr.nameL (r : Gr) : List Value := [r.v, .string r.g.x.o, .int .i64 r.g.x.t, .int .i64 r.g.x.c, .int .i64 r.g.x.l, .string r.g.x.d, .string r.g.x.o, .string r.g.nx]
def Gr.hashL (r : Gr) : List Value := [r.v, .string r.g.x.o, .int .i64 r.g.x.t, .int .i64 r.g.x.c, .int .i64 r.g.x.l, .string r.g.x.d, .string r.g.own, .string r.g.nx, .string r.g.salt, .int .i64 r.g.rounds]
/-- what is known of one's types' list, and of itself -/
structure TyR (w : World) (r : Gr) : Prop where
  len : r.g.ty.length = r.n
  le : r.n ≤ 1048576
  rd : RdN w r.a r.g.ty
  ok : OkG r.g
theorem TyR.below {w w' : World} {r : Gr} (h : TyR w r) (hB : Below w.heap.size w w') : TyR w' r := ⟨h.len, h.le, h.rd.below hB rfl, h.ok⟩
/-- a list of them, each m cells by f -/
structure GapsR (f : Gr → List Value) (m : Nat) (w : World) (a : Option Addr) (L : List Gr) : Prop where
  rd : RdC w a m (L.map f)
  ty : ∀ r ∈ L, TyR w r
theorem GapsR.below {f : Gr → List Value} {m : Nat} {w w' : World} {a : Option Addr} {L : List Gr} (h : GapsR f m w a L) (hB : Below w.heap.size w w') : GapsR f m w' a L :=
  ⟨h.rd.below hB rfl, fun r hr => (h.ty r hr).below hB⟩
theorem GapsR.nil (f : Gr → List Value) (m : Nat) (w : World) (a : Option Addr) : GapsR f m w a [] := ⟨RdC.nil _ _ _, fun r hr => by cases hr⟩
/-- the cells of the k-th -/
theorem GapsR.at {f : Gr → List Value} {m : Nat} {w : World} {a : Option Addr} {L : List Gr} (h : GapsR f m w a L) {k : Nat} {r : Gr} (hk : L[k]? = some r) :
    ∃ g o, a = some ⟨g, o, none⟩ ∧ g < w.heap.size ∧ ∀ i u, (f r)[i]? = some u → w.cell? ⟨g, o + k * m + i, none⟩ = some u := by
  obtain ⟨_, g, o, h1, h2, h3⟩ := h.rd k (f r) (by rw [List.getElem?_map, hk]; rfl)
  exact ⟨g, o, h1, h2, h3⟩
end Go.Proofs.YtanoiiodnddkfaaGreat.gapR
namespace Go.Proofs.YtanoiiodnddkfaaGreat.escaped
open Go.RowKit Go.Proofs.YtanoiiodnddkfaaGreat.kit Go.Proofs.YtanoiiodnddkfaaGreat.nspec Go.Proofs.YtanoiiodnddkfaaGreat.readS
set_option linter.unusedVariables false

theorem below_drewN (B : Nat) (w : World) (n : Nat) : Below B w (w.drewN n) := ⟨rfl, rfl, rfl, Nat.le_refl _, fun _ _ => rfl⟩
def digAt (l : Bs) (j : Nat) : Bool := match l[j]? with | none => false | some c => digB c
theorem digAt_out {s : ByteArray} {j : Nat} (h : s.size ≤ j) : digAt s.data.toList j = false := by
  unfold digAt; rw [List.getElem?_eq_none (by rw [size_len]; exact h)]
theorem digAt_in {s : ByteArray} {j : Nat} (h : j < s.size) : digAt s.data.toList j = digB s[j] := by
  unfold digAt
  have : s.data.toList[j]? = some s[j] := List.getElem?_eq_getElem (by rw [size_len]; exact h)
  rw [this]

def retE : Option (UInt8 × Nat) → Ending
  | none => .returned (.tuple #[.int .u8 0, .int .i64 0])
  | some (b, n) => .returned (.tuple #[.int .u8 (b.toNat : Int), .int .i64 (n : Int)])
theorem esc_none {l : Bs} (h : l = []) : escS l = none := by subst h; rfl
theorem esc_plain {l r : Bs} {d : UInt8} (h : l = d :: r) (hd : digB d = false) : escS l = some (d, 2) := by
  subst h; simp [escS, hd]
theorem esc_bad {l r : Bs} {d : UInt8} (h : l = d :: r) (hd : digB d = true) (h2 : digAt r 0 = false ∨ digAt r 1 = false) : escS l = none := by
  subst h
  match r, h2 with
  | [], _ => simp [escS, hd]
  | [a], _ => simp [escS, hd]
  | a :: b :: t, h2 =>
    have h3 : (digB a && digB b) = false := by
      rw [Bool.and_eq_false_iff]
      simpa [digAt] using h2
    simp [escS, hd, h3]
theorem esc_num {l t : Bs} {d a b : UInt8} (h : l = d :: a :: b :: t) (hd : digB d = true) (ha : digB a = true) (hb : digB b = true) :
    escS l = if 255 < (d.toNat - 48) * 100 + (a.toNat - 48) * 10 + (b.toNat - 48) then none else some (UInt8.ofNat ((d.toNat - 48) * 100 + (a.toNat - 48) * 10 + (b.toNat - 48)), 4) := by
  subst h; simp [escS, hd, ha, hb]
theorem digB_cases (c : UInt8) : (digB c = true ∧ 48 ≤ c.toNat ∧ c.toNat ≤ 57) ∨ digB c = false := by
  cases h : digB c
  · exact .inr rfl
  · left
    unfold digB at h
    rw [Bool.and_eq_true, decide_eq_true_eq, decide_eq_true_eq] at h
    exact ⟨rfl, h.1, h.2⟩
theorem digAt_drop (l : Bs) (k j : Nat) : digAt (l.drop k) j = digAt l (k + j) := by unfold digAt; rw [List.getElem?_drop]

end Go.Proofs.YtanoiiodnddkfaaGreat.escaped
namespace Go.Proofs.YtanoiiodnddkfaaGreat.nread
open Go.RowKit Go.Proofs.YtanoiiodnddkfaaGreat.kit Go.Proofs.YtanoiiodnddkfaaGreat.check Go.Proofs.YtanoiiodnddkfaaGreat.nspec Go.Proofs.YtanoiiodnddkfaaGreat.rsplit Go.Proofs.YtanoiiodnddkfaaGreat.rput Go.Proofs.YtanoiiodnddkfaaGreat.bld Go.Proofs.YtanoiiodnddkfaaGreat.coded Go.Proofs.YtanoiiodnddkfaaGreat.readS Go.Proofs.YtanoiiodnddkfaaGreat.escaped Go.Proofs.YtanoiiodnddkfaaGreat.reader
set_option linter.unusedVariables false

set_option maxRecDepth 100000 in
set_option maxHeartbeats 400000 in
theorem clone_any (s : ByteArray) (w : World) (hs : s.size ≤ 1099511627776) :
    Calls Tryz.prog 96 #[.string s] w fun e w' => e = .returned (.string s) ∧ Below w.heap.size w w' := by
  go_enter Tryz.func96, Tryz.ntmps96
  go_wp2_with fail
  refine (Tryz.stringslite_Clone s _ (by omega)).mono ?_
  rintro e w1 ⟨rfl, hB1⟩
  go_wp2
  go_ret
  exact ⟨rfl, hB1⟩

theorem flat_pos (l : List Bs) (now : Bs) : flat (l ++ [now]) = flat l ++ (UInt8.ofNat now.length :: now) := flat_snoc l now
theorem room_snoc (l : List Bs) (x : Bs) : room (l ++ [x]) = room l + (x.length + 1) := by rw [room_append]; simp [room]

end Go.Proofs.YtanoiiodnddkfaaGreat.nread
namespace Go.Proofs.YtanoiiodnddkfaaGreat.dnames
open Go.RowKit Go.Proofs.YtanoiiodnddkfaaGreat.kit Go.Proofs.YtanoiiodnddkfaaGreat.nspec Go.Proofs.YtanoiiodnddkfaaGreat.rsplit Go.Proofs.YtanoiiodnddkfaaGreat.fld Go.Proofs.YtanoiiodnddkfaaGreat.formW Go.Proofs.YtanoiiodnddkfaaGreat.takes Go.Proofs.YtanoiiodnddkfaaGreat.hostT Go.Proofs.YtanoiiodnddkfaaGreat.splitD Go.Proofs.YtanoiiodnddkfaaGreat.dcheck Go.Proofs.YtanoiiodnddkfaaGreat.nread
set_option linter.unusedVariables false

def namesS (t : Int) (d : Bs) : List Bs := if checkS t d = 0 then (match formS t, partsS t d with | some fs, some p => namesL fs p | _, _ => []) else []
theorem own_mono {w : World} {base b' : Nat} {e : TypeId} {v : Value} {n size : Nat} {xs : List Value} (h : w.ownsRow base e size v n xs) (hb : b' ≤ base) : w.ownsRow b' e size v n xs := by
  refine ⟨h.1, ?_⟩
  rcases h.2 with h1 | ⟨g, cap, cur, h1, h2, h3⟩
  · exact .inl h1
  · exact .inr ⟨g, cap, cur, h1, Nat.le_trans hb h2, h3⟩
/-- what stands, where it is right: the fields and their bytes -/
theorem parts_ok {t : Int} {d : Bs} {fs : List Fld} (hc : checkS t d = 0) (hf : formS t = some fs) : ∃ p, partsS t d = some p ∧ splitS fs d = some (p, []) ∧ d.length ≤ 65535 := by
  unfold checkS at hc
  split at hc
  · simp at hc
  · split at hc
    · simp at hc
    · rename_i h1 h2
      cases hp : partsS t d with
      | none => rw [hp] at hc; simp at hc
      | some p =>
        refine ⟨p, rfl, ?_, by omega⟩
        unfold partsS at hp
        rw [hf] at hp
        simp only at hp
        cases hs : splitS fs d with
        | none => rw [hs] at hp; simp at hp
        | some q =>
          obtain ⟨q1, q2⟩ := q
          rw [hs] at hp
          cases q2 with
          | nil => simpa using hp
          | cons x r => simp at hp
theorem parts_len : ∀ (fs : List Fld) (d : Bs) (p : List Bs) (r : Bs), splitS fs d = some (p, r) → p.length = fs.length ∧ ∀ x ∈ p, x.length ≤ d.length
  | [], d, p, r, h => by simp only [splitS, Option.some.injEq, Prod.mk.injEq] at h; rw [← h.1]; simp
  | f :: fs, d, p, r, h => by
    simp only [splitS] at h
    split at h
    · simp at h
    · cases hs : splitS fs (d.drop (takeS f d).toNat) with
      | none => rw [hs] at h; simp at h
      | some q =>
        rw [hs] at h
        simp only [Option.map_some, Option.some.injEq, Prod.mk.injEq] at h
        have ih := parts_len fs _ _ _ hs
        rw [← h.1]
        refine ⟨by simp [ih.1], fun x hx => ?_⟩
        rcases List.mem_cons.1 hx with rfl | hx
        · rw [List.length_take]; omega
        · have := ih.2 x hx; rw [List.length_drop] at this; omega
theorem check_len {t : Int} {d : Bs} (hc : checkS t d = 0) : d.length ≤ 65535 := by
  unfold checkS at hc
  split at hc
  · simp at hc
  · split at hc
    · simp at hc
    · omega
theorem names_go {A R : List Bs} {fs : List Fld} {p : List Bs} {k : Nat} {f : Fld} {x : Bs} (h : A ++ namesL (fs.drop k) (p.drop k) = R) (hf : fs[k]? = some f) (hx : p[k]? = some x) : (A ++ (if isHost f then [x] else [])) ++ namesL (fs.drop (k + 1)) (p.drop (k + 1)) = R := by
  obtain ⟨h1, h2⟩ := List.getElem?_eq_some_iff.1 hf
  obtain ⟨h3, h4⟩ := List.getElem?_eq_some_iff.1 hx
  rw [List.drop_eq_getElem_cons h1, h2, List.drop_eq_getElem_cons h3, h4, namesL] at h
  rw [← h]
  split <;> simp

theorem asked (f : Fld) (w : World) : (Instr.typeAssert (fldV f) 110 112 true).run Tryz.prog w = .ok (.tuple #[.agg #[], .bool (isHost f)]) w := by
  cases f <;> kernel_rfl
set_option maxRecDepth 100000 in
theorem split_nil (s : ByteArray) (w : World) (hs : s.size ≤ 65535) :
    Calls Tryz.prog 95 #[.slice none 0 0, .string s] w fun e w' => ∃ b, e = .returned (.tuple #[.slice none 0 0, .bool b]) ∧ w = w' := by
  go_enter Tryz.func95, Tryz.ntmps95
  go_wp2_with fail
  go_loopg [1, 6, 12] 1 (fun gas dv pv kv wr => dv = .string s ∧ pv = .slice none 0 0 ∧ kv = .int .i64 0 ∧ 1 ≤ gas ∧ w = wr)
  case atStart => exact ⟨rfl, rfl, rfl, by omega, rfl⟩
  case round =>
    obtain ⟨rfl, rfl, rfl, hg, rfl⟩ := hrel
    go_wp2_with fail
    go_ret2
    exact ⟨_, rfl, rfl⟩

set_option maxRecDepth 100000 in
set_option maxHeartbeats 8000000 in
theorem names_any (t : Int) (s : ByteArray) (w : World) (hs : s.size ≤ maxLen) :
    Calls Tryz.prog 67 #[.int .i64 t, .string s] w fun e w' => ∃ v, e = .returned v ∧ w'.ownsRow w.heap.size 9 1 v (namesS t s.data.toList).length ((namesS t s.data.toList).map strV) ∧ Below w.heap.size w w' := by
  obtain ⟨i0, hi, hz0, hz1, hz2⟩ := info_parts infoStr
  obtain ⟨R, HR⟩ : ∃ R, Hid (namesS t s.data.toList = R) := ⟨_, Lib.hid rfl⟩
  rw [HR.out]
  have CC := Lib.hid (fun w => dcheck_any t s w hs)
  obtain ⟨C, hC⟩ : ∃ C, checkS t s.data.toList = C := ⟨_, rfl⟩
  rw [hC] at CC
  by_cases hc0 : C = 0
  · subst hc0
    have hls : s.size ≤ 65535 := by have := check_len hC; rwa [size_len] at this
    cases hf : formS t with
    | none =>
      have HN : Hid (R = []) := Lib.hid (by rw [← HR.out, namesS, if_pos hC, hf])
      have CF := Lib.hid (fun w => form_no t w hf)
      have CS := Lib.hid (fun w => split_nil s w hls)
      clear hf hC
      go_enter Tryz.func67, Tryz.ntmps67
      go_wp2_with fail
      refine (CC.out _).mono ?_
      rintro e w1 ⟨rfl, hB1⟩
      have HB1 := Lib.hid hB1; clear hB1
      go_wp2_with fail
      refine (CF.out _).mono ?_
      rintro e w2 ⟨rfl, rfl⟩
      go_wp2_with fail
      refine (CS.out _).mono ?_
      rintro e w3 ⟨b, rfl, rfl⟩
      go_wp2_with fail
      go_loopg [5, 31] 1 (fun gas ov kv wr => ov = .slice none 0 0 ∧ kv = .int .i64 0 ∧ 1 ≤ gas ∧ w1 = wr)
      case atStart => exact ⟨rfl, rfl, by omega, rfl⟩
      case round =>
        obtain ⟨rfl, rfl, hg, rfl⟩ := hrel
        go_wp2_with fail
        go_ret
        exact ⟨_, rfl, by rw [HN.out]; exact World.ownsRow_nil _ _ _ _, HB1.out⟩
    | some fs =>
      obtain ⟨p, hp1, hp2, hp3⟩ := parts_ok hC hf
      have HN : Hid (R = namesL fs p) := Lib.hid (by rw [← HR.out, namesS, if_pos hC, hf, hp1])
      obtain ⟨n, hn⟩ : ∃ n, fs.length = n := ⟨_, rfl⟩
      obtain ⟨hpl, hpx⟩ := parts_len _ _ _ _ hp2
      have CF := Lib.hid (fun w => form_yes t fs w hf)
      unfold FormPost at CF
      rw [hn] at CF
      have hfa := form_fair hf
      have hn20 : n ≤ 20 := by rw [← hn]; exact hfa.1
      have CS := Lib.hid (fun w => split_any fs w.heap.size s (w.alloc (fieldsO fs)) (fields_rd fs w) (by rw [World.size_alloc]; omega) hfa hls n hn)
      have HSP := Lib.hid hp2; have HNN := Lib.hid hn
      have HPL : Hid (p.length = n) := Lib.hid (by rw [hpl, hn])
      have HPX := Lib.hid hpx
      clear hf hC hp1 hp2 hp3 hpl hpx hfa hn
      go_enter Tryz.func67, Tryz.ntmps67
      go_wp2_with fail
      refine (CC.out _).mono ?_
      rintro e w1 ⟨rfl, hB1⟩
      have HB1 := Lib.hid hB1; clear hB1
      go_wp2_with fail
      refine (CF.out _).mono ?_
      rintro e w2 ⟨rfl, rfl⟩
      go_wp2_with fail
      refine (CS.out _).mono ?_
      rintro e w3 ⟨hB3, ⟨v, p', r', hsp, rfl, hown⟩ | ⟨hsp, _⟩⟩
      case inr => rw [HSP.out] at hsp; simp at hsp
      rw [HSP.out] at hsp
      simp only [Option.some.injEq, Prod.mk.injEq] at hsp
      obtain ⟨rfl, rfl⟩ := hsp
      obtain ⟨a, c, rfl, hrd⟩ := Rd.of_own hown
      rw [HPL.out]
      have HRD := Lib.hid hrd
      have HB3 := Lib.hid hB3
      have HRF : Hid (RdF w3 w1.heap.size fs) := Lib.hid (fun j f hj => (HB3.out.cell (p := ⟨w1.heap.size, j, none⟩) (by rw [World.size_alloc]; exact Nat.lt_succ_self _)).trans (fields_rd fs w1 j f hj))
      have hz3 : w1.heap.size < w3.heap.size := by have := HB3.out.size; rw [World.size_alloc] at this; omega
      have HBW : Hid (Below w.heap.size w w3) := Lib.hid (by
        have g1 := HB1.out.alloc HB1.out.size (fieldsO fs)
        exact g1.trans (HB3.out.mono g1.size))
      clear hB3 hown hrd
      go_wp2_with fail
      go_loopg [5, 31] (n + 1) (fun gas ov kv wr => ∃ (k : Nat) (A : List Bs), kv = .int .i64 k ∧ k ≤ n ∧ n + 1 ≤ k + gas ∧ A.length ≤ k ∧ Hid (A ++ namesL (fs.drop k) (p.drop k) = R) ∧ wr.ownsRow w3.heap.size 9 1 ov A.length (A.map strV) ∧ Below w3.heap.size w3 wr)
      case atStart => exact ⟨0, [], rfl, by omega, by omega, by simp, Lib.hid (by rw [HN.out]; simp), World.ownsRow_nil _ _ _ _, Below.refl _ _⟩
      case round =>
        obtain ⟨k, A, rfl, hk, hkg, hA, HW, hown, hB⟩ := hrel
        have HKG := Lib.hid hkg; clear hkg
        have HB := Lib.hid hB; clear hB
        by_cases hlt : k < n
        · obtain ⟨f, hfk⟩ : ∃ f, fs[k]? = some f := ⟨_, List.getElem?_eq_getElem (by have := HNN.out; omega)⟩
          obtain ⟨x, hxk⟩ : ∃ x, p[k]? = some x := ⟨_, List.getElem?_eq_getElem (by have := HPL.out; omega)⟩
          have hxs := HPX.out x (List.mem_of_getElem? hxk)
          rw [size_len] at hxs
          have HST := Lib.hid (names_go HW.out hfk hxk)
          have hcF := (HB.out.cell (p := ⟨w1.heap.size, k, none⟩) hz3).trans (HRF.out k f hfk)
          obtain ⟨g, o, rfl, _, hg, hcP0⟩ := HRD.out k x hxk
          have hcP := (HB.out.cell (p := ⟨g, o + k, none⟩) hg).trans hcP0
          unfold strV at hcP
          have HOWN := Lib.hid hown
          have HCP := Lib.hid hcP
          obtain ⟨fv, hfv⟩ : ∃ fv, fldV f = fv := ⟨_, rfl⟩
          have HFV := Lib.hid hfv
          rw [hfv] at hcF
          clear hcP0 hfk hxk hfv hown hcP
          obtain ⟨b, hb⟩ : ∃ b, isHost f = b := ⟨_, rfl⟩
          have HBB := Lib.hid hb
          have hta := asked f
          rw [HFV.out, hb] at hta
          have hcP := HCP.out
          clear hb
          cases b with
          | false =>
            have HST2 : Hid (A ++ namesL (fs.drop (k + 1)) (p.drop (k + 1)) = R) := Lib.hid (by have h := HST.out; rw [HBB.out] at h; simpa using h)
            go_wp2_with fail
            have hkg := HKG.out
            go_roundg (gk - 1)
            case rel => exact ⟨k + 1, A, by go_num, by omega, by omega, by omega, HST2, HOWN.out.alloc _, HB.out.alloc HB.out.size _⟩
            case measure => omega
          | true =>
            have HST2 : Hid ((A ++ [x]) ++ namesL (fs.drop (k + 1)) (p.drop (k + 1)) = R) := Lib.hid (by have h := HST.out; rw [HBB.out] at h; simpa using h)
            have CL := Lib.hid (fun w => clone_any ⟨x.toArray⟩ w (by rw [mk_size]; omega))
            have hok : 0 ≤ (k : Int) := by omega
            have hgw : g < wr.heap.size := Nat.lt_of_lt_of_le hg HB.out.size
            go_wp2_with fail
            refine (CL.out _).mono ?_
            rintro e w5 ⟨rfl, hB5⟩
            have hown := ownsRow_below (HOWN.out.alloc _) hB5
            have hBa := HB.out.alloc HB.out.size (.cells #[] 112)
            have hB' := hBa.trans (hB5.mono hBa.size)
            have hsz := hB'.size
            clear hB5 hcP
            go_wp2_with (at_builtin; go_must (refine wpList_append_own _ rfl _ _ 74 rfl w3.heap.size 9 i0 (.string ByteArray.empty) 1 16 Tryz.underlying74 hi hz0 hz1 hz2 rfl (by decide) _ _ _ rfl (hown.alloc _) ⟨_, 0, none⟩ 1 1 [.string ⟨x.toArray⟩] rfl rfl ?c1 ?c2 ?c3 ?c4 ?c5 ?_))
            case c1 => exact cell_one_new _ _ _
            case c2 => simp [Value.oneCell']
            case c3 => unfold maxLen; omega
            case c4 => omega
            case c5 => simp; omega
            intro v' w6 hown' hgrow hnil
            have hown2 := own_snoc (x := .string ⟨x.toArray⟩) rfl hown'
            have hB6 := below_append hB' hsz hown hgrow
            clear hown' hgrow hown hnil
            go_wp2_with fail
            have hkg := HKG.out
            go_roundg (gk - 1)
            case rel => exact ⟨k + 1, A ++ [x], by go_num, by omega, by omega, by simp; omega, HST2, hown2, hB6⟩
            case measure => omega
        · have hke : k = n := by omega
          have HE : Hid (A = R) := Lib.hid (by
            have h := HW.out
            rw [List.drop_eq_nil_iff.2 (show fs.length ≤ k by have := HNN.out; omega)] at h
            simpa [namesL] using h)
          subst hke
          go_wp2_with fail
          go_ret
          refine ⟨_, rfl, ?_, HBW.out.trans (HB.out.mono HBW.out.size)⟩
          rw [← HE.out]
          exact own_mono hown HBW.out.size
  · have HN : Hid (R = []) := Lib.hid (by rw [← HR.out, namesS, if_neg (by rw [hC]; exact hc0)])
    have hb : (C != 0) = true := by rw [bne_iff_ne]; exact hc0
    clear hC hc0
    go_enter Tryz.func67, Tryz.ntmps67
    go_wp2_with fail
    refine (CC.out _).mono ?_
    rintro e w1 ⟨rfl, hB1⟩
    go_wp2_with fail
    go_ret
    exact ⟨_, rfl, by rw [HN.out]; exact World.ownsRow_nil _ _ _ _, hB1⟩
end Go.Proofs.YtanoiiodnddkfaaGreat.dnames
namespace Go.Proofs.YtanoiiodnddkfaaGreat.useP
open Go.RowKit Go.Proofs.YtanoiiodnddkfaaGreat.kit Go.Proofs.YtanoiiodnddkfaaGreat.nspec Go.Proofs.YtanoiiodnddkfaaGreat.refA Go.Proofs.YtanoiiodnddkfaaGreat.refB Go.Proofs.YtanoiiodnddkfaaGreat.fld Go.Proofs.YtanoiiodnddkfaaGreat.wireP Go.Proofs.YtanoiiodnddkfaaGreat.gapP Go.Proofs.YtanoiiodnddkfaaGreat.gapC Go.Proofs.YtanoiiodnddkfaaGreat.dnames
set_option linter.unusedVariables false

theorem split_cons {f : Fld} {fs : List Fld} {d : Bs} {p : List Bs} {r : Bs} (h : splitS (f :: fs) d = some (p, r)) : ∃ m p', takeS f d = ((m : Nat) : Int) ∧ m ≤ d.length ∧ p = d.take m :: p' ∧ splitS fs (d.drop m) = some (p', r) := by
  simp only [splitS] at h
  split at h
  · cases h
  · rename_i hn
    obtain ⟨m, hm⟩ : ∃ m : Nat, takeS f d = (m : Int) := ⟨(takeS f d).toNat, by omega⟩
    rw [hm, Int.toNat_natCast] at h
    cases hs : splitS fs (d.drop m) with
    | none => rw [hs] at h; cases h
    | some q =>
      rw [hs] at h
      simp only [Option.map_some, Option.some.injEq, Prod.mk.injEq] at h
      obtain ⟨h1, h2⟩ := h
      refine ⟨m, q.1, hm, by have := (takeS_le f d).1; omega, h1.symm, ?_⟩
      rw [hs, ← h2]
theorem split_app {f : Fld} {fs : List Fld} {d : Bs} {p : List Bs} {r : Bs} (h : splitS (f :: fs) d = some (p, r)) : ∃ c d' p', takeS f d = ((c.length : Nat) : Int) ∧ d = c ++ d' ∧ p = c :: p' ∧ splitS fs d' = some (p', r) := by
  obtain ⟨m, p', h1, h2, h3, h4⟩ := split_cons h
  have hl : (d.take m).length = m := by rw [List.length_take]; omega
  exact ⟨d.take m, d.drop m, p', by rw [hl]; exact h1, (List.take_append_drop m d).symm, h3, h4⟩
theorem split_nil {d : Bs} {p : List Bs} {r : Bs} (h : splitS [] d = some (p, r)) : p = [] ∧ r = d := by
  simp only [splitS, Option.some.injEq, Prod.mk.injEq] at h
  exact ⟨h.1.symm, h.2.symm⟩
theorem host_name {d : Bs} {m : Nat} (h : takeS .host d = (m : Int)) : ∃ ls, IsN (d.take m) ls := by
  simp only [takeS, hostS] at h
  cases hf : (List.range 256).find? (fun k => (split (d.take k)).isSome) with
  | none => rw [hf] at h; simp at h
  | some k =>
    rw [hf] at h
    simp only at h
    obtain rfl : k = m := by omega
    have h1 := List.find?_some hf
    obtain ⟨ls, hl⟩ := Option.isSome_iff_exists.1 h1
    exact ⟨ls, split_iff.1 hl⟩
theorem kinds_all {d : Bs} {m : Nat} (h : takeS .kinds d = (m : Int)) : m = d.length ∧ ∃ l, typesS d = some l := by
  simp only [takeS] at h
  split at h
  · omega
  · rename_i hn
    cases ht : typesS d with
    | none => exact absurd ht hn
    | some l => exact ⟨by omega, l, rfl⟩
theorem text_parts {d : Bs} {m : Nat} (h : textS d = (m : Int)) : ∃ c r, d.take m = c :: r ∧ r.length = c.toNat := by
  cases d with
  | nil => simp [textS] at h
  | cons c r =>
    simp only [textS] at h
    split at h
    · omega
    · obtain rfl : m = c.toNat + 1 := by omega
      exact ⟨c, r.take c.toNat, rfl, by rw [List.length_take]; omega⟩
theorem num_all {k : Nat} {d : Bs} {m : Nat} (h : takeS (.num k) d = (m : Int)) : m = k := by
  simp only [takeS] at h
  split at h <;> omega
theorem hash_text {d : Bs} {m : Nat} (h : takeS .hash d = (m : Int)) : textS d = (m : Int) := by
  simp only [takeS] at h
  split at h
  · omega
  · exact h
/-- what an NSEC that is right holds -/
structure NsP (d a b : Bs) (l : List Nat) : Prop where
  parts : partsS 47 d = some [a, b]
  all : d = a ++ b
  name : ∃ ls, IsN a ls
  ty : typesS b = some l
  names : namesS 47 d = [a]
  small : d.length ≤ 65535
theorem check_parts {t : Int} {d : Bs} {fs : List Fld} (h : checkS t d = 0) (hf : formS t = some fs) : ∃ p, splitS fs d = some (p, []) ∧ partsS t d = some p ∧ d.length ≤ 65535 := by
  unfold checkS at h
  split at h
  · omega
  split at h
  · omega
  rename_i hl
  split at h
  · omega
  rename_i hp
  unfold partsS at hp ⊢
  rw [hf] at hp ⊢
  simp only at hp ⊢
  cases hs : splitS fs d with
  | none => rw [hs] at hp; exact absurd rfl hp
  | some q =>
    obtain ⟨p, r⟩ := q
    cases r with
    | nil => exact ⟨p, rfl, rfl, by omega⟩
    | cons c r => rw [hs] at hp; exact absurd rfl hp
theorem ns_parts {d : Bs} (h : checkS 47 d = 0) : ∃ a b l, NsP d a b l := by
  obtain ⟨p, h1, h2, h3⟩ := check_parts h (fs := [.host, .kinds]) rfl
  obtain ⟨m, p1, e1, l1, rfl, s1⟩ := split_cons h1
  obtain ⟨m2, p2, e2, l2, rfl, s2⟩ := split_cons s1
  obtain ⟨rfl, s3⟩ := split_nil s2
  obtain ⟨k1, l, k2⟩ := kinds_all e2
  have e : List.take m2 (List.drop m d) = List.drop m d := List.take_of_length_le (by omega)
  rw [e] at h2
  refine ⟨d.take m, d.drop m, l, h2, (List.take_append_drop m d).symm, host_name e1, k2, ?_, h3⟩
  unfold namesS
  rw [if_pos h, h2, show formS 47 = some [.host, .kinds] from rfl]
  rfl
/-- what an NSEC3 that is right holds -/
structure HsP (d : Bs) (a b c0 c1 sc nc : UInt8) (s n k : Bs) (l : List Nat) : Prop where
  parts : partsS 50 d = some [[a], [b], [c0, c1], sc :: s, nc :: n, k]
  all : d = a :: b :: c0 :: c1 :: sc :: (s ++ nc :: (n ++ k))
  salt : s.length = sc.toNat
  nx : n.length = nc.toNat
  ty : typesS k = some l
  small : d.length ≤ 65535
theorem one_of {l : Bs} (h : l.length = 1) : ∃ a, l = [a] := by
  match l, h with
  | [a], _ => exact ⟨a, rfl⟩
theorem two_of {l : Bs} (h : l.length = 2) : ∃ a b, l = [a, b] := by
  match l, h with
  | [a, b], _ => exact ⟨a, b, rfl⟩
theorem hs_parts {d : Bs} (h : checkS 50 d = 0) : ∃ a b c0 c1 sc nc s n k l, HsP d a b c0 c1 sc nc s n k l := by
  obtain ⟨p, h1, h2, h3⟩ := check_parts h (fs := [.num 1, .num 1, .num 2, .salt, .hash, .kinds]) rfl
  obtain ⟨p1, d1, r1, e1, q1, rfl, s1⟩ := split_app h1
  obtain ⟨p2, d2, r2, e2, q2, rfl, s2⟩ := split_app s1
  obtain ⟨p3, d3, r3, e3, q3, rfl, s3⟩ := split_app s2
  obtain ⟨p4, d4, r4, e4, q4, rfl, s4⟩ := split_app s3
  obtain ⟨p5, d5, r5, e5, q5, rfl, s5⟩ := split_app s4
  obtain ⟨p6, d6, r6, e6, q6, rfl, s6⟩ := split_app s5
  obtain ⟨rfl, h6⟩ := split_nil s6
  obtain ⟨a, rfl⟩ := one_of (num_all e1)
  obtain ⟨b, rfl⟩ := one_of (num_all e2)
  obtain ⟨c0, c1, rfl⟩ := two_of (num_all e3)
  obtain ⟨k6, l, t6⟩ := kinds_all e6
  obtain ⟨sc, s, hs, hsl⟩ := text_parts (d := d3) (m := p4.length) e4
  rw [q4, List.take_left] at hs
  subst hs
  obtain ⟨nc, n, hn, hnl⟩ := text_parts (d := d4) (m := p5.length) (hash_text e5)
  rw [q5, List.take_left] at hn
  subst hn
  have e : p6 = d5 := by
    rw [q6] at k6 ⊢
    rw [List.length_append] at k6
    have : d6 = [] := List.eq_nil_of_length_eq_zero (by omega)
    rw [this, List.append_nil]
  subst e
  exact ⟨a, b, c0, c1, sc, nc, s, n, p6, l, h2, by rw [q1, q2, q3, q4, q5]; simp, hsl, hnl, t6, h3⟩
/-- a record as a proof -/
def useG (ap : Bs) (x : Rc) : Option Gp := if x.t = 47 then useN ap x else useH ap x
theorem useN_no {ap : Bs} {x : Rc} (h : x.t ≠ 47) : useN ap x = none := by unfold useN; rw [if_neg (fun k => h k.1)]
theorem useH_no {ap : Bs} {x : Rc} (h : x.t ≠ 50) : useH ap x = none := by unfold useH; rw [if_neg (fun k => h k.1)]
theorem useN_bad {ap : Bs} {x : Rc} (h : rgtB ap x = false) : useN ap x = none := by unfold useN; rw [if_neg (fun k => by rw [h] at k; exact absurd k.2 (by simp))]
theorem useH_bad {ap : Bs} {x : Rc} (h : rgtB ap x = false) : useH ap x = none := by unfold useH; rw [if_neg (fun k => by rw [h] at k; exact absurd k.2 (by simp))]
theorem useN_at {ap : Bs} {x : Rc} {a b : Bs} {l : List Nat} (h : rgtB ap x = true) (ht : x.t = 47) (hp : NsP x.d.data.toList a b l) : useN ap x = if withinS a ap = true then some ⟨x, false, ⟨a.toArray⟩, ⟨#[]⟩, ⟨#[]⟩, 0, l⟩ else none := by
  unfold useN
  rw [if_pos ⟨ht, h⟩, hp.parts]
  simp only [hp.ty]
  rfl
/-- the hash that an NSEC3 stands for -/
def ownH (x : Rc) : Option Bs := back.from32S ((nameL.labS x.o.data.toList).headD [])
theorem useH_at {ap : Bs} {x : Rc} {a b c0 c1 sc nc : UInt8} {s n k : Bs} {l : List Nat} (h : rgtB ap x = true) (ht : x.t = 50) (hp : HsP x.d.data.toList a b c0 c1 sc nc s n k l) :
    useH ap x = if (a = 1 ∧ b = 0) ∧ equalS (parentS x.o.data.toList) ap = true ∧ (val.valL [c0, c1] 0 : Int) ≤ 50 ∧ n.length = 10 then
      (match ownH x with | some o => if o.length = 10 then some ⟨x, true, ⟨n.toArray⟩, ⟨o.toArray⟩, ⟨s.toArray⟩, val.valL [c0, c1] 0, l⟩ else none | none => none) else none := by
  unfold useH ownH
  rw [if_pos ⟨ht, h⟩, hp.parts]
  simp only [hp.ty, List.length_cons, List.drop_succ_cons, List.drop_zero, List.cons.injEq, and_true, Nat.reduceEqDiff, Option.getD_some]
  rfl
theorem isN_size {l : Bs} {ls : List Bs} (h : IsN l ls) : l.length ≤ 255 := by have := h.2.2; omega
theorem within_name {n z : Bs} (h : withinS n z = true) : ∃ ls, IsN n ls := by
  cases hs : split n with
  | some ls => exact ⟨ls, split_iff.1 hs⟩
  | none =>
    unfold withinS at h
    rw [show countS n = -1 by unfold countS; rw [hs]] at h
    simp [wF] at h
theorem rgt_owner {ap : Bs} {x : Rc} (h : rgtB ap x = true) : withinS x.o.data.toList ap = true ∧ checkS x.t x.d.data.toList = 0 := by
  unfold rgtB at h
  simp only [Bool.and_eq_true, decide_eq_true_eq] at h
  exact ⟨h.1, h.2.2.2.2⟩
/-- how many types a set can hold -/
theorem block_len (b : Nat) (m : Bs) : (blockL b m).length ≤ 8 * m.length := by
  unfold blockL
  refine Nat.le_trans (typesP.pick_len _ _ _) ?_
  induction m with
  | nil => simp [bits.bitsL]
  | cons c r ih =>
    rw [bits.bits_cons, List.length_append, bits.tob_length, List.length_cons]
    omega
theorem typesF_len : ∀ (f : Nat) (last : Int) (out : List Nat) (d : Bs) (l : List Nat), typesF f last out d = some l → l.length ≤ out.length + 8 * d.length
  | 0, _, _, _, _, h => by simp [typesF] at h
  | f + 1, last, out, [], l, h => by
    simp only [typesF, Option.some.injEq] at h
    subst h; simp
  | f + 1, last, out, [b], l, h => by simp [typesF] at h
  | f + 1, last, out, b :: n :: m, l, h => by
    simp only [typesF] at h
    split at h
    · cases h
    · have h1 := typesF_len f _ _ _ l h
      have h2 := block_len b.toNat (m.take n.toNat)
      rw [List.length_append, List.length_drop] at h1
      rw [List.length_take] at h2
      simp only [List.length_cons]
      omega
theorem types_len {d : Bs} {l : List Nat} (h : typesS d = some l) : l.length ≤ 8 * d.length := by
  unfold typesS at h
  split at h
  · cases h
  · rename_i l' h'
    split at h
    · cases h
    · cases h
      have := typesF_len _ _ _ _ _ h'
      simpa using this
end Go.Proofs.YtanoiiodnddkfaaGreat.useP
namespace Go.Proofs.YtanoiiodnddkfaaGreat.useM
open Go.RowKit Go.Proofs.YtanoiiodnddkfaaGreat.kit Go.Proofs.YtanoiiodnddkfaaGreat.nspec Go.Proofs.YtanoiiodnddkfaaGreat.fld Go.Proofs.YtanoiiodnddkfaaGreat.timed Go.Proofs.YtanoiiodnddkfaaGreat.wireP Go.Proofs.YtanoiiodnddkfaaGreat.gapP Go.Proofs.YtanoiiodnddkfaaGreat.bits Go.Proofs.YtanoiiodnddkfaaGreat.ints Go.Proofs.YtanoiiodnddkfaaGreat.gapA Go.Proofs.YtanoiiodnddkfaaGreat.gapC Go.Proofs.YtanoiiodnddkfaaGreat.gapN Go.Proofs.YtanoiiodnddkfaaGreat.gapR Go.Proofs.YtanoiiodnddkfaaGreat.rows Go.Proofs.YtanoiiodnddkfaaGreat.useP
set_option linter.unusedVariables false

theorem own_keptB {w w1 : World} {b0 : Nat} {e : TypeId} {size : Nat} {v : Value} {n : Nat} {xs : List Value} (h : w.ownsRow b0 e size v n xs) (hk : ∀ k, v.ownBlock = some k → w1.heap[k]? = w.heap[k]?) : w1.ownsRow b0 e size v n xs := by
  refine ⟨h.1, ?_⟩
  rcases h.2 with h1 | ⟨g, cap, cur, rfl, h2, h3, h4⟩
  · exact .inl h1
  · exact .inr ⟨g, cap, cur, rfl, h2, (hk g rfl).trans h3, h4⟩
/-- rows of two types lie in two blocks -/
theorem own_types {w : World} {b0 b1 : Nat} {e e' : TypeId} {s s' : Nat} {v v' : Value} {n n' : Nat} {xs xs' : List Value} (h : w.ownsRow b0 e s v n xs) (h' : w.ownsRow b1 e' s' v' n' xs') (he : e ≠ e') : ∀ k, v.ownBlock = some k → v'.ownBlock ≠ some k := by
  intro k hk hk'
  rcases h.2 with ⟨rfl, _⟩ | ⟨g, cap, cur, rfl, _, hg, _⟩
  · simp [Value.ownBlock] at hk
  rcases h'.2 with ⟨rfl, _⟩ | ⟨g', cap', cur', rfl, _, hg', _⟩
  · simp [Value.ownBlock] at hk'
  simp [Value.ownBlock] at hk hk'
  subst hk; subst hk'
  rw [hg] at hg'
  simp only [Option.some.injEq, Obj.cells.injEq] at hg'
  exact he hg'.2.1
def Ap (a b : Value) : Prop := ∀ k, a.ownBlock = some k → b.ownBlock ≠ some k
theorem Ap.nil (a : Value) : Ap a (.slice none 0 0) := fun k _ h => by simp [Value.ownBlock] at h
theorem Ap.symm {a b : Value} (h : Ap a b) : Ap b a := fun k h1 h2 => h k h2 h1
/-- a proof's types' list is its own, made since lo -/
structure TyO (w : World) (lo : Nat) (r : Gr) : Prop where
  len : r.g.ty.length = r.n
  le : r.n ≤ 1048576
  own : w.ownsRow lo 3 1 r.v r.n (r.g.ty.map bitV)
  ok : OkG r.g
theorem TyO.toR {w : World} {lo : Nat} {r : Gr} (h : TyO w lo r) : TyR w r := by
  have h1 := h.own
  rw [← h.len] at h1
  obtain ⟨a, c, he, _, _, hr⟩ := RdN.of_own h1
  unfold Gr.v at he
  simp only [Value.slice.injEq] at he
  rw [← he.1] at hr
  exact ⟨h.len, h.le, hr, h.ok⟩
theorem TyO.kept {w w1 : World} {lo : Nat} {r : Gr} (h : TyO w lo r) (hk : ∀ k, r.v.ownBlock = some k → w1.heap[k]? = w.heap[k]?) : TyO w1 lo r := ⟨h.len, h.le, own_keptB h.own hk, h.ok⟩
theorem own_mono {w : World} {base b' : Nat} {e : TypeId} {v : Value} {n size : Nat} {xs : List Value} (h : w.ownsRow base e size v n xs) (hb : b' ≤ base) : w.ownsRow b' e size v n xs := by
  refine ⟨h.1, ?_⟩
  rcases h.2 with h1 | ⟨g, cap, cur, h1, h2, h3⟩
  · exact .inl h1
  · exact .inr ⟨g, cap, cur, h1, Nat.le_trans hb h2, h3⟩
theorem TyO.mono {w : World} {lo lo' : Nat} {r : Gr} (h : TyO w lo r) (hl : lo' ≤ lo) : TyO w lo' r := ⟨h.len, h.le, own_mono h.own hl, h.ok⟩
theorem TyO.below {w w1 : World} {lo : Nat} {r : Gr} (h : TyO w lo r) (hB : Below w.heap.size w w1) : TyO w1 lo r := h.kept fun k hk => hB.block k (h.own.lt k hk).2
/-- two lists that grow -/
structure TwoL (w : World) (lo : Nat) (e1 e2 : TypeId) (m1 m2 : Nat) (f1 f2 : Gr → List Value) (v1 v2 : Value) (P Q : List Gr) : Prop where
  one : w.ownsRow lo e1 m1 v1 P.length (P.flatMap f1)
  two : w.ownsRow lo e2 m2 v2 Q.length (Q.flatMap f2)
  apart : Ap v1 v2
  ty1 : ∀ r ∈ P, TyO w lo r
  ty2 : ∀ r ∈ Q, TyO w lo r
section
variable {w w1 : World} {lo : Nat} {e1 e2 : TypeId} {m1 m2 : Nat} {f1 f2 : Gr → List Value} {v1 v2 nv : Value} {P Q : List Gr}
theorem TwoL.nil (w : World) (lo : Nat) (e1 e2 : TypeId) (m1 m2 : Nat) (f1 f2 : Gr → List Value) : TwoL w lo e1 e2 m1 m2 f1 f2 (.slice none 0 0) (.slice none 0 0) [] [] :=
  ⟨World.ownsRow_nil _ _ _ _, World.ownsRow_nil _ _ _ _, Ap.nil _, fun r h => (by cases h), fun r h => (by cases h)⟩
theorem TwoL.swap (h : TwoL w lo e1 e2 m1 m2 f1 f2 v1 v2 P Q) : TwoL w lo e2 e1 m2 m1 f2 f1 v2 v1 Q P := ⟨h.two, h.one, h.apart.symm, h.ty2, h.ty1⟩
theorem TwoL.below (h : TwoL w lo e1 e2 m1 m2 f1 f2 v1 v2 P Q) (hB : Below w.heap.size w w1) : TwoL w1 lo e1 e2 m1 m2 f1 f2 v1 v2 P Q :=
  ⟨own_keptB h.one (fun k hk => hB.block k (h.one.lt k hk).2), own_keptB h.two (fun k hk => hB.block k (h.two.lt k hk).2), h.apart, fun r hr => (h.ty1 r hr).below hB, fun r hr => (h.ty2 r hr).below hB⟩
/-- one more in the first list -/
theorem TwoL.push (h : TwoL w lo e1 e2 m1 m2 f1 f2 v1 v2 P Q) (he : 3 ≠ e1) {r : Gr} (hr : TyO w lo r) (hg : w.grownBy w1 v1.ownBlock)
    (hw : w1.ownsRow lo e1 m1 nv (P.length + 1) (P.flatMap f1 ++ f1 r)) (hat : nv.ownBlock = v1.ownBlock ∨ nv.ownBlock = some w.heap.size) : TwoL w1 lo e1 e2 m1 m2 f1 f2 nv v2 (P ++ [r]) Q := by
  have hb : ∀ k, k < w.heap.size → v1.ownBlock ≠ some k → w1.heap[k]? = w.heap[k]? := fun k hk hn => hg.block k hk (fun h => hn h.symm)
  have hT : ∀ {r : Gr}, TyO w lo r → TyO w1 lo r := fun h1 => h1.kept fun k hk => hb k (h1.own.lt k hk).2 (own_types h1.own h.one he k hk)
  refine ⟨?_, own_keptB h.two (fun k hk => hb k (h.two.lt k hk).2 (fun h1 => h.apart k h1 hk)), ?_, ?_, fun r hr => hT (h.ty2 r hr)⟩
  · rw [List.length_append, List.flatMap_append]
    simpa using hw
  · intro k h1 h2
    rcases hat with e | e
    · exact h.apart k (e ▸ h1) h2
    · rw [e] at h1
      have := (h.two.lt k h2).2
      simp only [Option.some.injEq] at h1
      omega
  · intro q hq
    rcases List.mem_append.1 hq with hq | hq
    · exact hT (h.ty1 q hq)
    · rcases List.mem_singleton.1 hq with rfl
      exact hT hr
end
theorem own_slice {w : World} {b0 : Nat} {e : TypeId} {s : Nat} {v : Value} {n : Nat} {xs : List Value} (h : w.ownsRow b0 e s v n xs) : ∃ a c, v = .slice a n c ∧ n ≤ c ∧ c ≤ maxLen := by
  rcases h.2 with ⟨rfl, rfl⟩ | ⟨g, cap, cur, rfl, _, _, h1, h2, _⟩
  · exact ⟨none, 0, rfl, Nat.le_refl _, Nat.zero_le _⟩
  · exact ⟨_, cap, rfl, h1, h2⟩
/-- a list that grew, as one that is read -/
theorem gaps_own {w : World} {lo : Nat} {e : TypeId} {m : Nat} {f : Gr → List Value} {v : Value} {P : List Gr} (hf : ∀ r, (f r).length = m) (h : w.ownsRow lo e m v P.length (P.flatMap f)) (ht : ∀ r ∈ P, TyO w lo r) :
    ∃ a c, v = .slice a P.length c ∧ P.length ≤ c ∧ c ≤ maxLen ∧ GapsR f m w a P := by
  obtain ⟨a, c, h1, h2, h3, _, h4⟩ := rdc_own f m hf rfl h
  exact ⟨a, c, h1, h2, h3, ⟨h4, fun r hr => (ht r hr).toR⟩⟩
/-- a proof of the right kind fits the bound -/
theorem okg {x : Rc} {h : Bool} {a o s : Bs} {r : Int} {l : List Nat} (h1 : x.o.size ≤ 1048576) (h2 : a.length ≤ 1048576) (h3 : h = true → o.length = 10) (h4 : s.length ≤ 1048576) : OkG ⟨x, h, ⟨a.toArray⟩, ⟨o.toArray⟩, ⟨s.toArray⟩, r, l⟩ :=
  ⟨h1, by simpa [ByteArray.size] using h2, fun hh => by simpa [ByteArray.size] using h3 hh, by simpa [ByteArray.size] using h4⟩
theorem cells5 {w : World} {Y : Nat} {t : TypeId} {v0 v1 v2 v3 v4 : Value} (e : w.heap[Y]? = some (.cells #[v0, v1, v2, v3, v4] t)) :
    w.cell? ⟨Y, 0, none⟩ = some v0 ∧ w.cell? ⟨Y, 1, none⟩ = some v1 ∧ w.cell? ⟨Y, 2, none⟩ = some v2 ∧ w.cell? ⟨Y, 3, none⟩ = some v3 ∧ w.cell? ⟨Y, 4, none⟩ = some v4 := by
  refine ⟨?_, ?_, ?_, ?_, ?_⟩ <;> (simp only [World.cell?, e]; rfl)
end Go.Proofs.YtanoiiodnddkfaaGreat.useM
namespace Go.Proofs.YtanoiiodnddkfaaGreat.judgeP
open Go.RowKit Go.Proofs.YtanoiiodnddkfaaGreat.kit Go.Proofs.YtanoiiodnddkfaaGreat.nspec Go.Proofs.YtanoiiodnddkfaaGreat.refA Go.Proofs.YtanoiiodnddkfaaGreat.refB Go.Proofs.YtanoiiodnddkfaaGreat.fld Go.Proofs.YtanoiiodnddkfaaGreat.wireP Go.Proofs.YtanoiiodnddkfaaGreat.gapP Go.Proofs.YtanoiiodnddkfaaGreat.useP Go.Proofs.YtanoiiodnddkfaaGreat.nameC
set_option linter.unusedVariables false

/-- what comes out of common is one's own tail -/
theorem common_tail (a b : Bs) : ∀ g : Nat, cF a b g = [] ∨ ∃ k : Nat, k < g ∧ cF a b g = tailS a (k : Int)
  | 0 => .inl rfl
  | g + 1 => by
    simp only [cF]
    split
    · exact .inr ⟨g, Nat.lt_succ_self _, rfl⟩
    · rcases common_tail a b g with h | ⟨k, h1, h2⟩
      · exact .inl h
      · exact .inr ⟨k, by omega, h2⟩
theorem tail_room {n : Bs} {l : List Bs} (h : IsN n l) {j : Nat} (hj : j ≤ l.length) : (tailS n (j : Int)).length = room (l.drop (l.length - j)) + 1 := by
  have h1 := (tail_isN h j hj).1
  rw [h1, put_length]
theorem room_cons (x : Bs) (r : List Bs) : room (x :: r) = x.length + 1 + room r := by simp [room]
theorem room_lt (l : List Bs) : ∀ {i j : Nat}, i < j → j ≤ l.length → room (l.drop j) < room (l.drop i) := by
  intro i j hij hj
  induction l generalizing i j with
  | nil => simp at hj; omega
  | cons x r ih =>
    cases i with
    | zero =>
      obtain ⟨j, rfl⟩ : ∃ k, j = k + 1 := ⟨j - 1, by omega⟩
      simp only [List.drop_succ_cons, List.drop_zero, room_cons]
      have := room_drop r j
      omega
    | succ i =>
      obtain ⟨j, rfl⟩ : ∃ k, j = k + 1 := ⟨j - 1, by omega⟩
      simp only [List.drop_succ_cons]
      exact ih (by omega) (by simp at hj; omega)
theorem tail_more {n : Bs} {l : List Bs} (h : IsN n l) {i j : Nat} (hi : i ≤ l.length) (hj : j ≤ l.length) : (tailS n (i : Int)).length < (tailS n (j : Int)).length ↔ i < j := by
  rw [tail_room h hi, tail_room h hj]
  constructor
  · intro hr
    rcases Nat.lt_or_ge i j with h1 | h1
    · exact h1
    · rcases Nat.lt_or_ge j i with h2 | h2
      · have := room_lt l (i := l.length - i) (j := l.length - j) (by omega) (by omega); omega
      · have : i = j := by omega
        subst this; omega
  · intro hr
    have := room_lt l (i := l.length - j) (j := l.length - i) (by omega) (by omega); omega
theorem tail_count {n : Bs} {l : List Bs} (h : IsN n l) {i : Nat} (hi : i ≤ l.length) : countS (tailS n (i : Int)) = (i : Int) := by
  rw [countS_yes (tail_isN h i hi), List.length_drop]
  have : l.length - (l.length - i) = i := by omega
  rw [this]
/-- the two ways to tell the longer of two common names -/
theorem longer {q a b : Bs} {l : List Bs} (h : IsN q l) : (countS (commonS q a) < countS (commonS q b)) ↔ ((commonS q a).length < (commonS q b).length) := by
  have hc := countS_yes h
  have hg : (countS q + 1).toNat = l.length + 1 := by rw [hc]; omega
  have e0 : countS [] = -1 := countS_no split_nil
  unfold commonS
  rw [hg]
  rcases common_tail q a (l.length + 1) with h1 | ⟨i, hi, h1⟩ <;> rcases common_tail q b (l.length + 1) with h2 | ⟨j, hj, h2⟩
  · rw [h1, h2]; simp
  · rw [h1, h2, e0, tail_count h (by omega), tail_room h (by omega)]
    simp <;> omega
  · rw [h1, h2, e0, tail_count h (by omega), tail_room h (by omega)]
    simp
  · rw [h1, h2, tail_count h (by omega), tail_count h (by omega), tail_more h (by omega) (by omega)]
    omega
/-- the closest name that is shown to be, as both tell it -/
theorem encl_len {g : Gp} {q : Bs} {l : List Bs} (h : IsN q l) : encl g q = if (commonS q g.x.o.data.toList).length < (commonS q g.nx.data.toList).length then commonS q g.nx.data.toList else commonS q g.x.o.data.toList := by
  unfold encl
  by_cases hc : countS (commonS q g.x.o.data.toList) < countS (commonS q g.nx.data.toList)
  · rw [if_pos hc, if_pos ((longer h).1 hc)]
  · rw [if_neg hc, if_neg (fun k => hc ((longer h).2 k))]
theorem common_le (a b : Bs) : (commonS a b).length ≤ 255 := by
  unfold commonS
  rcases common_tail a b (countS a + 1).toNat with h | ⟨k, _, h⟩
  · rw [h]; simp
  · rw [h]; exact tailS_len _ _
theorem star_le (l : Bs) : (star.starS l).length ≤ 255 := by
  unfold star.starS
  split
  · rename_i h
    simp only [Bool.and_eq_true, decide_eq_true_eq] at h
    simp only [List.length_cons]; omega
  · simp
/-- a hashed proof's numbers -/
structure HsOk (g : Gp) : Prop where
  salt : g.salt.size ≤ 255
  lo : 0 ≤ g.rounds
  hi : g.rounds ≤ 50
theorem hash_ok {g : Gp} {n : Bs} {l : List Bs} (h : HsOk g) (hn : IsN n l) : (hash.hashS n g.salt.data.toList g.rounds).2 = 0 := by
  unfold hash.hashS
  rw [if_neg (by rw [split_iff.2 hn]; simp), if_neg]
  have := h.salt; have h1 := h.lo; have h2 := h.hi
  have e : g.salt.data.toList.length = g.salt.size := size_len _
  omega
/-- the star of a name's proper tail is a name -/
theorem star_name {q : Bs} {l : List Bs} (h : IsN q l) {k : Nat} (hk : k < l.length) : ∃ ls, IsN (star.starS (tailS q (k : Int))) ls := by
  have ht := tail_isN h k (by omega)
  have hq := tail_more h (i := k) (j := l.length) (by omega) (Nat.le_refl _)
  have h1 := hq.2 hk
  have hr1 := tail_room h (j := k) (by omega)
  have hl : (tailS q (l.length : Int)).length = q.length := by
    rw [tail_room h (Nat.le_refl _), Nat.sub_self, List.drop_zero, h.1, put_length]
  have hlab : room (l.drop (l.length - k)) + 2 ≤ room l := by
    obtain ⟨j, hj⟩ : ∃ j, l.length - k = j + 1 := ⟨l.length - k - 1, by omega⟩
    rw [hj]
    cases l with
    | nil => simp at hk
    | cons x r =>
      simp only [List.drop_succ_cons, room_cons]
      have := room_drop r j
      have hx := (h.2.1 x (List.mem_cons_self ..)).1
      clear hr1 h1 hq ht hl
      omega
  have hroom := isN_room h
  have hle : (tailS q (k : Int)).length ≤ 253 := by rw [hr1]; omega
  rw [star.starS_yes ht hle]
  refine ⟨[42] :: l.drop (l.length - k), ?_, ?_, ?_⟩
  · rw [ht.1]; rfl
  · intro x hx
    rcases List.mem_cons.1 hx with rfl | hx
    · simp
    · exact ht.2.1 x hx
  · simp only [List.length_cons]; omega
/-- a search's steps -/
theorem find_no {L : List Gp} {f : Gp → Bool} {k : Nat} {g : Gp} {R : Option Gp} (hk : L[k]? = some g) (hf : f g = false) (h : (L.drop k).find? f = R) : (L.drop (k + 1)).find? f = R := by
  obtain ⟨hlt, rfl⟩ := List.getElem?_eq_some_iff.1 hk
  rw [List.drop_eq_getElem_cons hlt, List.find?_cons, hf] at h
  exact h
theorem find_yes {L : List Gp} {f : Gp → Bool} {k : Nat} {g : Gp} {R : Option Gp} (hk : L[k]? = some g) (hf : f g = true) (h : (L.drop k).find? f = R) : R = some g := by
  obtain ⟨hlt, rfl⟩ := List.getElem?_eq_some_iff.1 hk
  rw [List.drop_eq_getElem_cons hlt, List.find?_cons, hf] at h
  exact h.symm
/-- nothing is proved by nothing -/
theorem judgeU_nil (ap q : Bs) (t : Int) : ∀ (f : Nat) (k : Int), judgeU ap q [] t f k = 0
  | 0, _ => rfl
  | f + 1, k => by
    simp only [judgeU]
    split
    · rfl
    · simp only [List.find?_nil]; exact judgeU_nil ap q t f (k - 1)
end Go.Proofs.YtanoiiodnddkfaaGreat.judgeP
