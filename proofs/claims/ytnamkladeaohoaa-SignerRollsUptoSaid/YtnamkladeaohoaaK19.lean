/- gazetteerref1.Types: walk. How many bytes a field takes: gazetteerref1.size: walk. How many bytes a name, a row of texts take: gazetteerref1.size: walk. The fields of a type: gazetteerref1.Form: walk. The fields' bytes: gazetteerref1.Parts: walk. gazetteerref1.CheckData: walk. Messages in plain words: records, questions, which are right. wire.right, gazetteerref2.Right: walks (printed by gen_right.py). Messages in memory. Packing in plain words. Unpacking in plain words. Rows of so many cells: read, owned, appended. wire.buffer: walks of u8, u16, u32, raw. -/
import Derived.Test.YtnamkladeaohoaaK17
import Derived.Test.YtnamkladeaohoaaK18
import Derived.Test.YtnamkladeaohoaaK16
import Derived.Test.YtnamkladeaohoaaK2
import Derived.Test.YtnamkladeaohoaaK8
import Derived.BigQuiet
import Derived.Deep.QuietTactic
import Derived.Outline
namespace Go.Proofs.Ytnamkladeaohoaa.typesR
open Go.RowKit Go.Proofs.Ytnamkladeaohoaa.kit Go.Proofs.Ytnamkladeaohoaa.nspec Go.Proofs.Ytnamkladeaohoaa.bits Go.Proofs.Ytnamkladeaohoaa.ints Go.Proofs.Ytnamkladeaohoaa.fld Go.Proofs.Ytnamkladeaohoaa.typesP Go.Proofs.Ytnamkladeaohoaa.takes Go.Proofs.Ytnamkladeaohoaa.typesW Go.Proofs.Ytnamkladeaohoaa.two
set_option linter.unusedVariables false

theorem below_drewN (B : Nat) (w : World) (n : Nat) : Below B w (w.drewN n) := ⟨rfl, rfl, rfl, Nat.le_refl _, fun _ _ => rfl⟩
theorem ownsRow_below {w w' : World} {base : Nat} {e : TypeId} {size n : Nat} {v : Value} {xs : List Value} (h : w.ownsRow base e size v n xs) (hB : Below w.heap.size w w') : w'.ownsRow base e size v n xs := by
  refine ⟨h.1, ?_⟩
  rcases h.2 with h1 | ⟨g, cap, cur, h1, h2, h3, h4⟩
  · exact .inl h1
  · exact .inr ⟨g, cap, cur, h1, h2, (hB.block g (Array.getElem?_eq_some_iff.1 h3).1).trans h3, h4⟩

end Go.Proofs.Ytnamkladeaohoaa.typesR
namespace Go.Proofs.Ytnamkladeaohoaa.rsize
open Go.RowKit Go.Proofs.Ytnamkladeaohoaa.kit Go.Proofs.Ytnamkladeaohoaa.nspec Go.Proofs.Ytnamkladeaohoaa.rsplit Go.Proofs.Ytnamkladeaohoaa.fld Go.Proofs.Ytnamkladeaohoaa.takes Go.Proofs.Ytnamkladeaohoaa.hostP Go.Proofs.Ytnamkladeaohoaa.hostT Go.Proofs.Ytnamkladeaohoaa.textsT Go.Proofs.Ytnamkladeaohoaa.typesW Go.Proofs.Ytnamkladeaohoaa.typesR
set_option linter.unusedVariables false

def letterOf : Fld → Nat
  | .num k => 48 + k | .ip4 => 97 | .ip6 => 54 | .host => 110 | .text => 116 | .texts => 84 | .tail => 114 | .hexes => 104 | .b64 => 98 | .kind => 107 | .kinds => 75 | .salt => 115 | .hash => 72
theorem kind_list : ∀ (d : Bs), 2 ≤ d.length → takeS .kind d = if (d.take 2 == [0, 0]) = true then -1 else 2
  | [], h => by simp at h
  | [x], h => by simp at h
  | x :: y :: r, h => by
    show (if (r.length + 1 + 1) < 2 ∨ (x = 0 ∧ y = 0) then (-1 : Int) else 2) = if ([x, y] == [0, 0]) = true then -1 else 2
    by_cases hxy : x = 0 ∧ y = 0
    · rw [if_pos (.inr hxy), if_pos (by rw [hxy.1, hxy.2]; rfl)]
    · have hn : ¬ ((r.length + 1 + 1) < 2 ∨ (x = 0 ∧ y = 0)) := by
        rintro (h | h)
        · omega
        · exact hxy h
      have hm : ¬ (([x, y] == [0, 0]) = true) := by simpa using hxy
      rw [if_neg hn, if_neg hm]
def SaysSz (f : Fld) (s : ByteArray) (w : World) (e : Ending) (w' : World) : Prop := e = .returned (.int .i64 (takeS f s.data.toList)) ∧ Below w.heap.size w w'

end Go.Proofs.Ytnamkladeaohoaa.rsize
namespace Go.Proofs.Ytnamkladeaohoaa.rsizeB
open Go.RowKit Go.Proofs.Ytnamkladeaohoaa.kit Go.Proofs.Ytnamkladeaohoaa.nspec Go.Proofs.Ytnamkladeaohoaa.rsplit Go.Proofs.Ytnamkladeaohoaa.fld Go.Proofs.Ytnamkladeaohoaa.takes Go.Proofs.Ytnamkladeaohoaa.hostP Go.Proofs.Ytnamkladeaohoaa.hostT Go.Proofs.Ytnamkladeaohoaa.textsT Go.Proofs.Ytnamkladeaohoaa.rsize
set_option linter.unusedVariables false

end Go.Proofs.Ytnamkladeaohoaa.rsizeB
namespace Go.Proofs.Ytnamkladeaohoaa.rform
open Go.RowKit Go.Proofs.Ytnamkladeaohoaa.kit Go.Proofs.Ytnamkladeaohoaa.nspec Go.Proofs.Ytnamkladeaohoaa.fld Go.Proofs.Ytnamkladeaohoaa.rsize Go.Proofs.Ytnamkladeaohoaa.dcheck
set_option linter.unusedVariables false

def lettersB (fs : List Fld) : Bs := fs.map (fun f => UInt8.ofNat (letterOf f))
def formB (t : Int) : Bs := match formS t with | some fs => lettersB fs | none => if holdsB t = true then [45] else []
def FormIs (l : Bs) (w : World) (e : Ending) (w' : World) : Prop := e = .returned (.string ⟨l.toArray⟩) ∧ w = w'

end Go.Proofs.Ytnamkladeaohoaa.rform
namespace Go.Proofs.Ytnamkladeaohoaa.parts
open Go.RowKit Go.Proofs.Ytnamkladeaohoaa.kit Go.Proofs.Ytnamkladeaohoaa.nspec Go.Proofs.Ytnamkladeaohoaa.rsplit Go.Proofs.Ytnamkladeaohoaa.fld Go.Proofs.Ytnamkladeaohoaa.hostT Go.Proofs.Ytnamkladeaohoaa.textsT Go.Proofs.Ytnamkladeaohoaa.splitD Go.Proofs.Ytnamkladeaohoaa.rsize Go.Proofs.Ytnamkladeaohoaa.rsizeB Go.Proofs.Ytnamkladeaohoaa.rform
set_option linter.unusedVariables false

def Fair4 (fs : List Fld) : Prop := fs.length ≤ 20 ∧ ∀ k, Fld.num k ∈ fs → k = 1 ∨ k = 2 ∨ k = 4
theorem letter_lt (f : Fld) (h : ∀ k, f = .num k → k = 1 ∨ k = 2 ∨ k = 4) : letterOf f < 256 := by
  cases f with
  | num k => have := h k rfl; simp only [letterOf]; omega
  | _ => decide

end Go.Proofs.Ytnamkladeaohoaa.parts
namespace Go.Proofs.Ytnamkladeaohoaa.checkData
open Go.RowKit Go.Proofs.Ytnamkladeaohoaa.kit Go.Proofs.Ytnamkladeaohoaa.nspec Go.Proofs.Ytnamkladeaohoaa.fld Go.Proofs.Ytnamkladeaohoaa.takes Go.Proofs.Ytnamkladeaohoaa.splitD Go.Proofs.Ytnamkladeaohoaa.rsize Go.Proofs.Ytnamkladeaohoaa.rform Go.Proofs.Ytnamkladeaohoaa.parts
set_option linter.unusedVariables false

theorem fair4_of {fs gs : List Fld} (h : some gs = some fs) (hl : gs.length ≤ 20) (hk : gs.all (fun f => match f with | .num k => decide (k = 1 ∨ k = 2 ∨ k = 4) | _ => true) = true) : Fair4 fs := by
  have e := Option.some.inj h
  subst e
  refine ⟨hl, fun k hm => ?_⟩
  have := List.all_eq_true.1 hk _ hm
  simpa using this
theorem form_fair4 {t : Int} {fs : List Fld} (h : formS t = some fs) : Fair4 fs := by
  by_cases h1 : t = 1
  · subst h1; exact fair4_of h (by decide) (by decide)
  by_cases h2 : t = 2
  · subst h2; exact fair4_of h (by decide) (by decide)
  by_cases h5 : t = 5
  · subst h5; exact fair4_of h (by decide) (by decide)
  by_cases h12 : t = 12
  · subst h12; exact fair4_of h (by decide) (by decide)
  by_cases h39 : t = 39
  · subst h39; exact fair4_of h (by decide) (by decide)
  by_cases h6 : t = 6
  · subst h6; exact fair4_of h (by decide) (by decide)
  by_cases h13 : t = 13
  · subst h13; exact fair4_of h (by decide) (by decide)
  by_cases h15 : t = 15
  · subst h15; exact fair4_of h (by decide) (by decide)
  by_cases h16 : t = 16
  · subst h16; exact fair4_of h (by decide) (by decide)
  by_cases h28 : t = 28
  · subst h28; exact fair4_of h (by decide) (by decide)
  by_cases h33 : t = 33
  · subst h33; exact fair4_of h (by decide) (by decide)
  by_cases h35 : t = 35
  · subst h35; exact fair4_of h (by decide) (by decide)
  by_cases h43 : t = 43
  · subst h43; exact fair4_of h (by decide) (by decide)
  by_cases h46 : t = 46
  · subst h46; exact fair4_of h (by decide) (by decide)
  by_cases h47 : t = 47
  · subst h47; exact fair4_of h (by decide) (by decide)
  by_cases h48 : t = 48
  · subst h48; exact fair4_of h (by decide) (by decide)
  by_cases h50 : t = 50
  · subst h50; exact fair4_of h (by decide) (by decide)
  by_cases h51 : t = 51
  · subst h51; exact fair4_of h (by decide) (by decide)
  by_cases h257 : t = 257
  · subst h257; exact fair4_of h (by decide) (by decide)
  simp [formS, h1, h2, h5, h12, h39, h6, h13, h15, h16, h28, h33, h35, h43, h46, h47, h48, h50, h51, h257] at h
theorem form_holds {t : Int} {fs : List Fld} (h : formS t = some fs) : holdsB t = true := by
  by_cases h1 : t = 1
  · subst h1; decide
  by_cases h2 : t = 2
  · subst h2; decide
  by_cases h5 : t = 5
  · subst h5; decide
  by_cases h12 : t = 12
  · subst h12; decide
  by_cases h39 : t = 39
  · subst h39; decide
  by_cases h6 : t = 6
  · subst h6; decide
  by_cases h13 : t = 13
  · subst h13; decide
  by_cases h15 : t = 15
  · subst h15; decide
  by_cases h16 : t = 16
  · subst h16; decide
  by_cases h28 : t = 28
  · subst h28; decide
  by_cases h33 : t = 33
  · subst h33; decide
  by_cases h35 : t = 35
  · subst h35; decide
  by_cases h43 : t = 43
  · subst h43; decide
  by_cases h46 : t = 46
  · subst h46; decide
  by_cases h47 : t = 47
  · subst h47; decide
  by_cases h48 : t = 48
  · subst h48; decide
  by_cases h50 : t = 50
  · subst h50; decide
  by_cases h51 : t = 51
  · subst h51; decide
  by_cases h257 : t = 257
  · subst h257; decide
  simp [formS, h1, h2, h5, h12, h39, h6, h13, h15, h16, h28, h33, h35, h43, h46, h47, h48, h50, h51, h257] at h
theorem form_cons {t : Int} {fs : List Fld} (h : formS t = some fs) : lettersB fs ≠ [] ∧ lettersB fs ≠ [45] := by
  by_cases h1 : t = 1
  · subst h1; have e := Option.some.inj h; subst e; exact ⟨by decide, by decide⟩
  by_cases h2 : t = 2
  · subst h2; have e := Option.some.inj h; subst e; exact ⟨by decide, by decide⟩
  by_cases h5 : t = 5
  · subst h5; have e := Option.some.inj h; subst e; exact ⟨by decide, by decide⟩
  by_cases h12 : t = 12
  · subst h12; have e := Option.some.inj h; subst e; exact ⟨by decide, by decide⟩
  by_cases h39 : t = 39
  · subst h39; have e := Option.some.inj h; subst e; exact ⟨by decide, by decide⟩
  by_cases h6 : t = 6
  · subst h6; have e := Option.some.inj h; subst e; exact ⟨by decide, by decide⟩
  by_cases h13 : t = 13
  · subst h13; have e := Option.some.inj h; subst e; exact ⟨by decide, by decide⟩
  by_cases h15 : t = 15
  · subst h15; have e := Option.some.inj h; subst e; exact ⟨by decide, by decide⟩
  by_cases h16 : t = 16
  · subst h16; have e := Option.some.inj h; subst e; exact ⟨by decide, by decide⟩
  by_cases h28 : t = 28
  · subst h28; have e := Option.some.inj h; subst e; exact ⟨by decide, by decide⟩
  by_cases h33 : t = 33
  · subst h33; have e := Option.some.inj h; subst e; exact ⟨by decide, by decide⟩
  by_cases h35 : t = 35
  · subst h35; have e := Option.some.inj h; subst e; exact ⟨by decide, by decide⟩
  by_cases h43 : t = 43
  · subst h43; have e := Option.some.inj h; subst e; exact ⟨by decide, by decide⟩
  by_cases h46 : t = 46
  · subst h46; have e := Option.some.inj h; subst e; exact ⟨by decide, by decide⟩
  by_cases h47 : t = 47
  · subst h47; have e := Option.some.inj h; subst e; exact ⟨by decide, by decide⟩
  by_cases h48 : t = 48
  · subst h48; have e := Option.some.inj h; subst e; exact ⟨by decide, by decide⟩
  by_cases h50 : t = 50
  · subst h50; have e := Option.some.inj h; subst e; exact ⟨by decide, by decide⟩
  by_cases h51 : t = 51
  · subst h51; have e := Option.some.inj h; subst e; exact ⟨by decide, by decide⟩
  by_cases h257 : t = 257
  · subst h257; have e := Option.some.inj h; subst e; exact ⟨by decide, by decide⟩
  simp [formS, h1, h2, h5, h12, h39, h6, h13, h15, h16, h28, h33, h35, h43, h46, h47, h48, h50, h51, h257] at h

theorem notEmpty {F : ByteArray} (h : F.data.toList ≠ []) : F.toList.isEmpty = false := by
  rw [Lib.toList_data]
  cases hl : F.data.toList with
  | nil => exact absurd hl h
  | cons => rfl
theorem not45 {F : ByteArray} (h : F.data.toList ≠ [45]) : (F.toList == [45]) = false := by rw [Lib.toList_data]; simpa using h

end Go.Proofs.Ytnamkladeaohoaa.checkData
namespace Go.Proofs.Ytnamkladeaohoaa.wireP
open Go.RowKit Go.Proofs.Ytnamkladeaohoaa.kit Go.Proofs.Ytnamkladeaohoaa.takes Go.Proofs.Ytnamkladeaohoaa.nspec Go.Proofs.Ytnamkladeaohoaa.rsplit Go.Proofs.Ytnamkladeaohoaa.check Go.Proofs.Ytnamkladeaohoaa.fld
set_option linter.unusedVariables false

/-- a record -/
structure Rc where
  o : ByteArray
  t : Int
  c : Int
  l : Int
  d : ByteArray
def Rc.cells (x : Rc) : List Value := [.string x.o, .int .i64 x.t, .int .i64 x.c, .int .i64 x.l, .string x.d]
/-- a question -/
structure Qn where
  n : ByteArray
  t : Int
  c : Int
def Qn.cells (x : Qn) : List Value := [.string x.n, .int .i64 x.t, .int .i64 x.c]
def inB (v top : Int) : Bool := decide (0 ≤ v) && decide (v ≤ top)
def emptyB (x : Rc) : Bool := decide (x.d.size = 0) && (decide (x.c = 254) || decide (x.c = 255))
def rightB (x : Rc) : Bool :=
  isB x.o && (inB x.t 65535 && (inB x.c 65535 && (inB x.l 4294967295 && (if x.t = 41 then decide (x.d.size ≤ 65535) else (emptyB x || decide (checkS x.t x.d.data.toList = 0))))))
def rightQ (x : Qn) : Bool := isB x.n && (inB x.t 65535 && inB x.c 65535)
theorem inB_yes {v top : Int} (h0 : 0 ≤ v) (h1 : v ≤ top) : inB v top = true := by simp [inB, h0, h1]
theorem inB_low {v top : Int} (h0 : v < 0) : inB v top = false := by simp [inB]; intro h; omega
theorem inB_high {v top : Int} (h0 : top < v) : inB v top = false := by simp [inB]; intro h; omega

end Go.Proofs.Ytnamkladeaohoaa.wireP
namespace Go.Proofs.Ytnamkladeaohoaa.wireR
open Go.RowKit Go.Proofs.Ytnamkladeaohoaa.kit Go.Proofs.Ytnamkladeaohoaa.takes Go.Proofs.Ytnamkladeaohoaa.nspec Go.Proofs.Ytnamkladeaohoaa.rsplit Go.Proofs.Ytnamkladeaohoaa.check Go.Proofs.Ytnamkladeaohoaa.checkAll Go.Proofs.Ytnamkladeaohoaa.dcheck Go.Proofs.Ytnamkladeaohoaa.checkData Go.Proofs.Ytnamkladeaohoaa.fld Go.Proofs.Ytnamkladeaohoaa.wireP
set_option linter.unusedVariables false

/-- the record's box behind a call -/
theorem box_cells {w w1 : World} {x : Rc} {t : TypeId} (hB : Below (w.alloc (.cells #[.string x.o, .int .i64 x.t, .int .i64 x.c, .int .i64 x.l, .string x.d] t)).heap.size (w.alloc (.cells #[.string x.o, .int .i64 x.t, .int .i64 x.c, .int .i64 x.l, .string x.d] t)) w1) :
    w1.cell? ⟨w.heap.size, 0, none⟩ = some (.string x.o) ∧ w1.cell? ⟨w.heap.size, 1, none⟩ = some (.int .i64 x.t) ∧ w1.cell? ⟨w.heap.size, 2, none⟩ = some (.int .i64 x.c) ∧ w1.cell? ⟨w.heap.size, 3, none⟩ = some (.int .i64 x.l) ∧ w1.cell? ⟨w.heap.size, 4, none⟩ = some (.string x.d) := by
  have hl : w.heap.size < (w.alloc (.cells #[.string x.o, .int .i64 x.t, .int .i64 x.c, .int .i64 x.l, .string x.d] t)).heap.size := by simp
  have hb : (w.alloc (.cells #[.string x.o, .int .i64 x.t, .int .i64 x.c, .int .i64 x.l, .string x.d] t)).heap[w.heap.size]? = some (.cells #[.string x.o, .int .i64 x.t, .int .i64 x.c, .int .i64 x.l, .string x.d] t (0, 0)) := heap_alloc_new _ _
  refine ⟨(hB.cell (p := ⟨w.heap.size, 0, none⟩) hl).trans ?_, (hB.cell (p := ⟨w.heap.size, 1, none⟩) hl).trans ?_, (hB.cell (p := ⟨w.heap.size, 2, none⟩) hl).trans ?_, (hB.cell (p := ⟨w.heap.size, 3, none⟩) hl).trans ?_, (hB.cell (p := ⟨w.heap.size, 4, none⟩) hl).trans ?_⟩ <;> (simp only [World.cell?, hb]; rfl)

end Go.Proofs.Ytnamkladeaohoaa.wireR
namespace Go.Proofs.Ytnamkladeaohoaa.wireM
open Go.RowKit Go.Proofs.Ytnamkladeaohoaa.kit Go.Proofs.Ytnamkladeaohoaa.timed Go.Proofs.Ytnamkladeaohoaa.nspec Go.Proofs.Ytnamkladeaohoaa.rsplit Go.Proofs.Ytnamkladeaohoaa.check Go.Proofs.Ytnamkladeaohoaa.fld Go.Proofs.Ytnamkladeaohoaa.wireP
set_option linter.unusedVariables false

/-- a message -/
structure Mg where
  id : Int
  rs : Bool
  op : Int
  aa : Bool
  tc : Bool
  rd : Bool
  ra : Bool
  ad : Bool
  cd : Bool
  rc : Int
  qs : List Qn
  an : List Rc
  au : List Rc
  ar : List Rc
/-- where a message's lists lie -/
structure Pl where
  qa : Option Addr
  qc : Nat
  na : Option Addr
  nc : Nat
  ua : Option Addr
  uc : Nat
  ra : Option Addr
  rc : Nat
/-- the lists can be read there -/
structure RdM (w : World) (p : Pl) (m : Mg) : Prop where
  q : RdC w p.qa 3 (m.qs.map Qn.cells)
  n : RdC w p.na 5 (m.an.map Rc.cells)
  u : RdC w p.ua 5 (m.au.map Rc.cells)
  r : RdC w p.ra 5 (m.ar.map Rc.cells)
theorem RdM.below {w w' : World} {p : Pl} {m : Mg} {B : Nat} (h : RdM w p m) (hB : Below B w w') (hz : B = w.heap.size) : RdM w' p m :=
  ⟨h.q.below hB hz, h.n.below hB hz, h.u.below hB hz, h.r.below hB hz⟩
/-- where a list is none, it is empty -/
structure NilM (p : Pl) (m : Mg) : Prop where
  n : p.na = none → m.an.length = 0 ∧ p.nc = 0
  u : p.ua = none → m.au.length = 0 ∧ p.uc = 0
  r : p.ra = none → m.ar.length = 0 ∧ p.rc = 0
/-- sizes that the walks can bear -/
structure OkR (x : Rc) : Prop where
  o : x.o.size ≤ 1099511627776
  d : x.d.size ≤ 1099511627776
structure OkM (m : Mg) : Prop where
  q : ∀ x ∈ m.qs, x.n.size ≤ 1099511627776
  n : ∀ x ∈ m.an, OkR x
  u : ∀ x ∈ m.au, OkR x
  r : ∀ x ∈ m.ar, OkR x
  ql : m.qs.length ≤ 1099511627776
  nl : m.an.length ≤ 1099511627776
  ul : m.au.length ≤ 1099511627776
  rl : m.ar.length ≤ 1099511627776
/-- sizes as they come: what the program itself can bear -/
structure OkW (m : Mg) : Prop where
  n : ∀ x ∈ m.an, x.d.size ≤ maxLen
  u : ∀ x ∈ m.au, x.d.size ≤ maxLen
  r : ∀ x ∈ m.ar, x.d.size ≤ maxLen
  ql : m.qs.length ≤ maxLen
  nl : m.an.length ≤ maxLen
  ul : m.au.length ≤ maxLen
  rl : m.ar.length ≤ maxLen
theorem OkM.w {m : Mg} (h : OkM m) : OkW m :=
  ⟨fun x hx => Nat.le_trans (h.n x hx).d (by unfold maxLen; omega), fun x hx => Nat.le_trans (h.u x hx).d (by unfold maxLen; omega), fun x hx => Nat.le_trans (h.r x hx).d (by unfold maxLen; omega), Nat.le_trans h.ql (by unfold maxLen; omega), Nat.le_trans h.nl (by unfold maxLen; omega), Nat.le_trans h.ul (by unfold maxLen; omega), Nat.le_trans h.rl (by unfold maxLen; omega)⟩
def checkB (m : Mg) : Bool :=
  inB m.id 65535 && (inB m.op 15 && (inB m.rc 15 && (decide (m.qs.length ≤ 65535 ∧ m.an.length ≤ 65535 ∧ m.au.length ≤ 65535 ∧ m.ar.length ≤ 65535) && (m.qs.all rightQ && (m.an.all rightB && (m.au.all rightB && m.ar.all rightB))))))

def AtR (w : World) (g o : Nat) (x : Rc) : Prop :=
  w.cell? ⟨g, o, none⟩ = some (.string x.o) ∧ w.cell? ⟨g, o + 1, none⟩ = some (.int .i64 x.t) ∧ w.cell? ⟨g, o + 2, none⟩ = some (.int .i64 x.c) ∧ w.cell? ⟨g, o + 3, none⟩ = some (.int .i64 x.l) ∧ w.cell? ⟨g, o + 4, none⟩ = some (.string x.d)
theorem at_r {w : World} {a : Option Addr} {L : List Rc} (h : RdC w a 5 (L.map Rc.cells)) {j : Nat} {x : Rc} (hj : L[j]? = some x) : ∃ g o, a = some ⟨g, o, none⟩ ∧ g < w.heap.size ∧ AtR w g (o + j * 5) x := by
  obtain ⟨_, g, o, h1, h2, h3⟩ := h j x.cells (by rw [List.getElem?_map, hj]; rfl)
  exact ⟨g, o, h1, h2, h3 0 _ rfl, h3 1 _ rfl, h3 2 _ rfl, h3 3 _ rfl, h3 4 _ rfl⟩
theorem AtR.below {w w' : World} {g o B : Nat} {x : Rc} (h : AtR w g o x) (hB : Below B w w') (hg : g < B) : AtR w' g o x := by
  obtain ⟨h0, h1, h2, h3, h4⟩ := h
  exact ⟨(hB.cell (p := ⟨g, _, none⟩) hg).trans h0, (hB.cell (p := ⟨g, _, none⟩) hg).trans h1, (hB.cell (p := ⟨g, _, none⟩) hg).trans h2, (hB.cell (p := ⟨g, _, none⟩) hg).trans h3, (hB.cell (p := ⟨g, _, none⟩) hg).trans h4⟩
def AtQ (w : World) (g o : Nat) (x : Qn) : Prop :=
  w.cell? ⟨g, o, none⟩ = some (.string x.n) ∧ w.cell? ⟨g, o + 1, none⟩ = some (.int .i64 x.t) ∧ w.cell? ⟨g, o + 2, none⟩ = some (.int .i64 x.c)
theorem at_q {w : World} {a : Option Addr} {L : List Qn} (h : RdC w a 3 (L.map Qn.cells)) {j : Nat} {x : Qn} (hj : L[j]? = some x) : ∃ g o, a = some ⟨g, o, none⟩ ∧ g < w.heap.size ∧ AtQ w g (o + j * 3) x := by
  obtain ⟨_, g, o, h1, h2, h3⟩ := h j x.cells (by rw [List.getElem?_map, hj]; rfl)
  exact ⟨g, o, h1, h2, h3 0 _ rfl, h3 1 _ rfl, h3 2 _ rfl⟩
theorem AtQ.below {w w' : World} {g o B : Nat} {x : Qn} (h : AtQ w g o x) (hB : Below B w w') (hg : g < B) : AtQ w' g o x := by
  obtain ⟨h0, h1, h2⟩ := h
  exact ⟨(hB.cell (p := ⟨g, _, none⟩) hg).trans h0, (hB.cell (p := ⟨g, _, none⟩) hg).trans h1, (hB.cell (p := ⟨g, _, none⟩) hg).trans h2⟩

/-- a message's fourteen cells -/
structure BoxM (w : World) (B : Nat) (p : Pl) (m : Mg) : Prop where
  lt : B < w.heap.size
  c0 : w.cell? ⟨B, 0, none⟩ = some (.int .i64 m.id)
  c1 : w.cell? ⟨B, 1, none⟩ = some (.bool m.rs)
  c2 : w.cell? ⟨B, 2, none⟩ = some (.int .i64 m.op)
  c3 : w.cell? ⟨B, 3, none⟩ = some (.bool m.aa)
  c4 : w.cell? ⟨B, 4, none⟩ = some (.bool m.tc)
  c5 : w.cell? ⟨B, 5, none⟩ = some (.bool m.rd)
  c6 : w.cell? ⟨B, 6, none⟩ = some (.bool m.ra)
  c7 : w.cell? ⟨B, 7, none⟩ = some (.bool m.ad)
  c8 : w.cell? ⟨B, 8, none⟩ = some (.bool m.cd)
  c9 : w.cell? ⟨B, 9, none⟩ = some (.int .i64 m.rc)
  c10 : w.cell? ⟨B, 10, none⟩ = some (.slice p.qa m.qs.length p.qc)
  c11 : w.cell? ⟨B, 11, none⟩ = some (.slice p.na m.an.length p.nc)
  c12 : w.cell? ⟨B, 12, none⟩ = some (.slice p.ua m.au.length p.uc)
  c13 : w.cell? ⟨B, 13, none⟩ = some (.slice p.ra m.ar.length p.rc)
theorem BoxM.below {w w' : World} {B N : Nat} {p : Pl} {m : Mg} (h : BoxM w B p m) (hB : Below N w w') (hl : B < N) : BoxM w' B p m :=
  ⟨Nat.lt_of_lt_of_le h.lt hB.size, (hB.cell (p := ⟨B, 0, none⟩) hl).trans h.c0, (hB.cell (p := ⟨B, 1, none⟩) hl).trans h.c1, (hB.cell (p := ⟨B, 2, none⟩) hl).trans h.c2, (hB.cell (p := ⟨B, 3, none⟩) hl).trans h.c3, (hB.cell (p := ⟨B, 4, none⟩) hl).trans h.c4, (hB.cell (p := ⟨B, 5, none⟩) hl).trans h.c5, (hB.cell (p := ⟨B, 6, none⟩) hl).trans h.c6, (hB.cell (p := ⟨B, 7, none⟩) hl).trans h.c7, (hB.cell (p := ⟨B, 8, none⟩) hl).trans h.c8, (hB.cell (p := ⟨B, 9, none⟩) hl).trans h.c9, (hB.cell (p := ⟨B, 10, none⟩) hl).trans h.c10, (hB.cell (p := ⟨B, 11, none⟩) hl).trans h.c11, (hB.cell (p := ⟨B, 12, none⟩) hl).trans h.c12, (hB.cell (p := ⟨B, 13, none⟩) hl).trans h.c13⟩
def cellsM (p : Pl) (m : Mg) : Array Value := #[.int .i64 m.id, .bool m.rs, .int .i64 m.op, .bool m.aa, .bool m.tc, .bool m.rd, .bool m.ra, .bool m.ad, .bool m.cd, .int .i64 m.rc, .slice p.qa m.qs.length p.qc, .slice p.na m.an.length p.nc, .slice p.ua m.au.length p.uc, .slice p.ra m.ar.length p.rc]
theorem BoxM.fresh (w : World) (t : TypeId) (b : Nat) (hb : b = w.heap.size) (p : Pl) (m : Mg) : BoxM (w.alloc (.cells #[.int .i64 m.id, .bool m.rs, .int .i64 m.op, .bool m.aa, .bool m.tc, .bool m.rd, .bool m.ra, .bool m.ad, .bool m.cd, .int .i64 m.rc, .slice p.qa m.qs.length p.qc, .slice p.na m.an.length p.nc, .slice p.ua m.au.length p.uc, .slice p.ra m.ar.length p.rc] t)) b p m := by
  subst hb
  have hb : (w.alloc (.cells #[.int .i64 m.id, .bool m.rs, .int .i64 m.op, .bool m.aa, .bool m.tc, .bool m.rd, .bool m.ra, .bool m.ad, .bool m.cd, .int .i64 m.rc, .slice p.qa m.qs.length p.qc, .slice p.na m.an.length p.nc, .slice p.ua m.au.length p.uc, .slice p.ra m.ar.length p.rc] t)).heap[w.heap.size]? = some (.cells #[.int .i64 m.id, .bool m.rs, .int .i64 m.op, .bool m.aa, .bool m.tc, .bool m.rd, .bool m.ra, .bool m.ad, .bool m.cd, .int .i64 m.rc, .slice p.qa m.qs.length p.qc, .slice p.na m.an.length p.nc, .slice p.ua m.au.length p.uc, .slice p.ra m.ar.length p.rc] t (0, 0)) := heap_alloc_new _ _
  constructor
  · simp
  all_goals (simp only [World.cell?, hb]; rfl)
theorem all_no {α : Type} {f : α → Bool} {L : List α} {k : Nat} {x : α} (hx : L[k]? = some x) (h : f x = false) : L.all f = false := by
  rw [List.all_eq_false]
  exact ⟨x, List.mem_of_getElem? hx, by rw [h]; simp⟩
theorem all_step {α : Type} {f : α → Bool} {L : List α} {k : Nat} {x : α} (hx : L[k]? = some x) (h : f x = true) (ha : (L.take k).all f = true) : (L.take (k + 1)).all f = true := by
  obtain ⟨h1, h2⟩ := List.getElem?_eq_some_iff.1 hx
  rw [List.take_succ_eq_append_getElem h1, List.all_append, ha, h2]; simp [h]
theorem all_end {α : Type} {f : α → Bool} {L : List α} {k : Nat} (hk : L.length ≤ k) (ha : (L.take k).all f = true) : L.all f = true := by
  rwa [List.take_of_length_le hk] at ha
end Go.Proofs.Ytnamkladeaohoaa.wireM
namespace Go.Proofs.Ytnamkladeaohoaa.packP
open Go.RowKit Go.Proofs.Ytnamkladeaohoaa.kit Go.Proofs.Ytnamkladeaohoaa.nspec Go.Proofs.Ytnamkladeaohoaa.rsplit Go.Proofs.Ytnamkladeaohoaa.check Go.Proofs.Ytnamkladeaohoaa.fld Go.Proofs.Ytnamkladeaohoaa.wireP Go.Proofs.Ytnamkladeaohoaa.wireM
set_option linter.unusedVariables false

/-- where rests of names stand -/
abbrev Noted := List (Bs × Nat)
def findN : Noted → Bs → Option Nat
  | [], _ => none
  | (r, k) :: N, n => if r = n then some k else findN N n
theorem findN_snoc : ∀ (N : Noted) (r n : Bs) (k : Nat), findN (N ++ [(r, k)]) n = match findN N n with | some j => some j | none => if r = n then some k else none
  | [], r, n, k => by simp only [List.nil_append, findN]
  | (r', k') :: N, r, n, k => by
    simp only [List.cons_append, findN]
    by_cases h : r' = n
    · simp only [if_pos h]
    · simp only [if_neg h]; exact findN_snoc N r n k
theorem findN_mem : ∀ {N : Noted} {n : Bs} {k : Nat}, findN N n = some k → (n, k) ∈ N
  | [], n, k, h => by simp [findN] at h
  | (r, j) :: N, n, k, h => by
    simp only [findN] at h
    by_cases e : r = n
    · rw [if_pos e] at h; cases h; subst e; exact List.mem_cons_self
    · rw [if_neg e] at h; exact List.mem_cons_of_mem _ (findN_mem h)

def byte (v : Int) : UInt8 := UInt8.ofNat (v % 256).toNat
def be2 (v : Int) : Bs := [byte (v / 256), byte v]
def be4 (v : Int) : Bs := be2 (v / 65536) ++ be2 v
/-- the paper: what is written, and what is noted -/
structure Pp where
  out : Bs
  N : Noted
def nameF : Nat → Bs → Pp → Pp
  | 0, _, p => p
  | _ + 1, [], p => p
  | f + 1, c :: r, p =>
    if c = 0 then ⟨p.out ++ [0], p.N⟩
    else match findN p.N (c :: r) with
      | some k => ⟨p.out ++ be2 (49152 + k), p.N⟩
      | none => nameF f ((c :: r).drop (1 + c.toNat)) ⟨p.out ++ (c :: r).take (1 + c.toNat), if p.out.length ≤ 16383 then p.N ++ [(c :: r, p.out.length)] else p.N⟩
def nameP (n : Bs) (p : Pp) : Pp := nameF (n.length + 1) n p
theorem nameF_fuel : ∀ (f g : Nat) (n : Bs) (p : Pp), n.length < f → n.length < g → nameF f n p = nameF g n p
  | 0, _, n, p, h, _ => by omega
  | _, 0, n, p, _, h => by omega
  | f + 1, g + 1, [], p, _, _ => rfl
  | f + 1, g + 1, c :: r, p, h1, h2 => by
    simp only [nameF]
    by_cases hc : c = 0
    · rw [if_pos hc, if_pos hc]
    · rw [if_neg hc, if_neg hc]
      cases findN p.N (c :: r) with
      | some k => rfl
      | none =>
        simp only
        apply nameF_fuel
        · rw [List.length_drop]; simp only [List.length_cons] at *; omega
        · rw [List.length_drop]; simp only [List.length_cons] at *; omega
theorem nameP_end {p : Pp} {r : Bs} : nameP (0 :: r) p = ⟨p.out ++ [0], p.N⟩ := by simp [nameP, nameF]
theorem nameP_hit {c : UInt8} {r : Bs} {p : Pp} {k : Nat} (hc : c ≠ 0) (h : findN p.N (c :: r) = some k) : nameP (c :: r) p = ⟨p.out ++ be2 (49152 + k), p.N⟩ := by
  simp only [nameP, nameF, if_neg hc, h]
theorem nameP_go {c : UInt8} {r : Bs} {p : Pp} (hc : c ≠ 0) (h : findN p.N (c :: r) = none) :
    nameP (c :: r) p = nameP ((c :: r).drop (1 + c.toNat)) ⟨p.out ++ (c :: r).take (1 + c.toNat), if p.out.length ≤ 16383 then p.N ++ [(c :: r, p.out.length)] else p.N⟩ := by
  unfold nameP
  rw [List.length_cons]
  simp only [nameF, if_neg hc, h]
  apply nameF_fuel
  · rw [List.length_drop]; simp only [List.length_cons]; omega
  · omega
/-- a noted place can be pointed at -/
def Near (N : Noted) : Prop := ∀ r k, (r, k) ∈ N → k ≤ 16383
theorem Near.nil : Near [] := by intro r k h; simp at h
theorem Near.snoc {N : Noted} (h : Near N) {r : Bs} {k : Nat} (hk : k ≤ 16383) : Near (N ++ [(r, k)]) := by
  intro r' k' hm
  rcases List.mem_append.1 hm with h1 | h1
  · exact h r' k' h1
  · simp at h1; omega
theorem Near.step {p : Pp} (h : Near p.N) (n : Bs) : Near (if p.out.length ≤ 16383 then p.N ++ [(n, p.out.length)] else p.N) := by
  split
  · exact h.snoc (by assumption)
  · exact h
theorem nameF_near : ∀ (f : Nat) (n : Bs) (p : Pp), Near p.N → Near (nameF f n p).N
  | 0, n, p, h => h
  | f + 1, [], p, h => h
  | f + 1, c :: r, p, h => by
    simp only [nameF]
    by_cases hc : c = 0
    · rw [if_pos hc]; exact h
    · rw [if_neg hc]
      cases findN p.N (c :: r) with
      | some k => exact h
      | none => exact nameF_near f _ _ (h.step _)
theorem nameF_len : ∀ (f : Nat) (n : Bs) (p : Pp), (nameF f n p).out.length ≤ p.out.length + n.length + 2 ∧ p.out.length ≤ (nameF f n p).out.length
  | 0, n, p => by simp [nameF]; omega
  | f + 1, [], p => by simp [nameF]
  | f + 1, c :: r, p => by
    simp only [nameF]
    by_cases hc : c = 0
    · rw [if_pos hc]; simp only [List.length_append, List.length_cons, List.length_nil]; omega
    · rw [if_neg hc]
      cases findN p.N (c :: r) with
      | some k => simp only [be2, List.length_append, List.length_cons, List.length_nil]; omega
      | none =>
        have h := nameF_len f ((c :: r).drop (1 + c.toNat)) ⟨p.out ++ (c :: r).take (1 + c.toNat), if p.out.length ≤ 16383 then p.N ++ [(c :: r, p.out.length)] else p.N⟩
        simp only [List.length_append, List.length_take, List.length_drop, List.length_cons] at h ⊢
        omega

/-- the parts of data whose names may be short -/
def shortL (t : Int) : List (Option Nat) := if t = 2 ∨ t = 5 ∨ t = 12 then [none] else if t = 15 then [some 2, none] else if t = 6 then [none, none, some 20] else []
/-- how many bytes the name has that stands first -/
def nameSz : Bs → Nat
  | [] => 1
  | c :: r => if c = 0 then 1 else 1 + c.toNat + nameSz (r.drop c.toNat)
termination_by d => d.length
decreasing_by simp only [List.length_drop, List.length_cons]; omega
def dataP : List (Option Nat) → Bs → Pp → Pp
  | [], d, p => ⟨p.out ++ d, p.N⟩
  | none :: fs, d, p => dataP fs (d.drop (nameSz d)) (nameP (d.take (nameSz d)) p)
  | some k :: fs, d, p => dataP fs (d.drop k) ⟨p.out ++ d.take k, p.N⟩
def patch (out : Bs) (k : Nat) (n : Int) : Bs := (out.set k (byte (n / 256))).set (k + 1) (byte n)
def recP (x : Rc) (p : Pp) : Pp :=
  let q := nameP x.o.data.toList p
  let q1 : Pp := ⟨q.out ++ (be2 x.t ++ be2 x.c ++ be4 x.l), q.N⟩
  let q2 := dataP (if x.d.size = 0 then [] else shortL x.t) x.d.data.toList ⟨q1.out ++ [0, 0], q1.N⟩
  ⟨patch q2.out q1.out.length ((q2.out.length : Int) - q1.out.length - 2), q2.N⟩
def quesP (x : Qn) (p : Pp) : Pp :=
  let q := nameP x.n.data.toList p
  ⟨q.out ++ (be2 x.t ++ be2 x.c), q.N⟩
def bit (b : Bool) (v : Int) : Int := if b then v else 0
def signsV (m : Mg) : Int := bit m.rs 32768 + m.op * 2048 + bit m.aa 1024 + bit m.tc 512 + bit m.rd 256 + bit m.ra 128 + bit m.ad 32 + bit m.cd 16 + m.rc
def headP (m : Mg) : Bs := be2 m.id ++ be2 (signsV m) ++ be2 m.qs.length ++ be2 m.an.length ++ be2 m.au.length ++ be2 m.ar.length
/-- the records, none where a paper is full -/
def recsP : List Rc → Pp → Option Pp
  | [], p => if 65535 < p.out.length then none else some p
  | x :: L, p => if 65535 < p.out.length then none else recsP L (recP x p)
def packP (m : Mg) : Option Bs := (recsP (m.an ++ m.au ++ m.ar) (m.qs.foldl (fun p x => quesP x p) ⟨headP m, []⟩)).map Pp.out
/-- the bytes of a message, and its fault -/
def packS (m : Mg) : Bs × Int := if checkB m = false then ([], 8) else match packP m with | none => ([], 12) | some b => (b, 0)
end Go.Proofs.Ytnamkladeaohoaa.packP
namespace Go.Proofs.Ytnamkladeaohoaa.unpP
open Go.RowKit Go.Proofs.Ytnamkladeaohoaa.kit Go.Proofs.Ytnamkladeaohoaa.nspec Go.Proofs.Ytnamkladeaohoaa.rsplit Go.Proofs.Ytnamkladeaohoaa.check Go.Proofs.Ytnamkladeaohoaa.fld Go.Proofs.Ytnamkladeaohoaa.wireP Go.Proofs.Ytnamkladeaohoaa.wireM Go.Proofs.Ytnamkladeaohoaa.packP
set_option linter.unusedVariables false

def atB (b : Bs) (k : Nat) : Nat := (b.getD k 0).toNat
theorem atB_lt (b : Bs) (k : Nat) : atB b k < 256 := (b.getD k 0).toNat_lt
def cutB (b : Bs) (i j : Nat) : Bs := (b.drop i).take (j - i)
/-- a fault, or what was read and where it goes on -/
inductive Got (α : Type) where
  | bad (e : Int)
  | ok (x : α) (k : Nat)
/-- a name that may be short, from a place on -/
def nameU : Nat → Bs → Nat → Nat → Nat → Int → Nat → Got Bs
  | 0, _, _, _, _, _, _ => .bad 0
  | f + 1, b, at', start, lim, over, had =>
    if lim ≤ at' then .bad over
    else if atB b at' = 0 then .ok [0] (at' + 1)
    else if atB b at' < 64 then
      if lim < at' + 1 + atB b at' then .bad over
      else if 255 < had + 1 + atB b at' + 1 then .bad 4
      else match nameU f b (at' + 1 + atB b at') start lim over (had + 1 + atB b at') with
        | .bad e => .bad e
        | .ok r k => .ok (cutB b at' (at' + 1 + atB b at') ++ r) k
    else if atB b at' < 192 then .bad 9
    else if lim < at' + 2 then .bad over
    else if start ≤ (atB b at' - 192) * 256 + atB b (at' + 1) then .bad 9
    else match nameU f b ((atB b at' - 192) * 256 + atB b (at' + 1)) ((atB b at' - 192) * 256 + atB b (at' + 1)) b.length 10 had with
      | .bad e => .bad e
      | .ok r _ => .ok r (at' + 2)
/-- how much is left to read: labels, and places further ahead -/
def leftU (start had : Nat) : Nat := (256 - had) + start + 1
theorem nameU_fuel : ∀ (f g : Nat) (b : Bs) (k start lim : Nat) (over : Int) (had : Nat), had ≤ 255 → leftU start had < f → leftU start had < g → nameU f b k start lim over had = nameU g b k start lim over had
  | 0, _, _, _, _, _, _, _, _, h, _ => by omega
  | _, 0, _, _, _, _, _, _, _, _, h => by omega
  | f + 1, g + 1, b, k, start, lim, over, had, h0, h1, h2 => by
    simp only [nameU]
    unfold leftU at h1 h2
    by_cases c1 : lim ≤ k
    · rw [if_pos c1, if_pos c1]
    rw [if_neg c1, if_neg c1]
    by_cases c2 : atB b k = 0
    · rw [if_pos c2, if_pos c2]
    rw [if_neg c2, if_neg c2]
    by_cases c3 : atB b k < 64
    · rw [if_pos c3, if_pos c3]
      by_cases c4 : lim < k + 1 + atB b k
      · rw [if_pos c4, if_pos c4]
      rw [if_neg c4, if_neg c4]
      by_cases c5 : 255 < had + 1 + atB b k + 1
      · rw [if_pos c5, if_pos c5]
      rw [if_neg c5, if_neg c5]
      rw [nameU_fuel f g b _ start lim over _ (by omega) (by unfold leftU; omega) (by unfold leftU; omega)]
    rw [if_neg c3, if_neg c3]
    by_cases c6 : atB b k < 192
    · rw [if_pos c6, if_pos c6]
    rw [if_neg c6, if_neg c6]
    by_cases c7 : lim < k + 2
    · rw [if_pos c7, if_pos c7]
    rw [if_neg c7, if_neg c7]
    by_cases c8 : start ≤ (atB b k - 192) * 256 + atB b (k + 1)
    · rw [if_pos c8, if_pos c8]
    rw [if_neg c8, if_neg c8]
    rw [nameU_fuel f g b _ _ b.length 10 had h0 (by unfold leftU; omega) (by unfold leftU; omega)]
def nameR (b : Bs) (k start lim : Nat) (over : Int) (had : Nat) : Got Bs := nameU (leftU start had + 1) b k start lim over had
/-- one step -/
theorem nameR_step (b : Bs) (k start lim : Nat) (over : Int) (had : Nat) (h0 : had ≤ 255) : nameR b k start lim over had =
    if lim ≤ k then .bad over
    else if atB b k = 0 then .ok [0] (k + 1)
    else if atB b k < 64 then
      if lim < k + 1 + atB b k then .bad over
      else if 255 < had + 1 + atB b k + 1 then .bad 4
      else match nameR b (k + 1 + atB b k) start lim over (had + 1 + atB b k) with
        | .bad e => .bad e
        | .ok r j => .ok (cutB b k (k + 1 + atB b k) ++ r) j
    else if atB b k < 192 then .bad 9
    else if lim < k + 2 then .bad over
    else if start ≤ (atB b k - 192) * 256 + atB b (k + 1) then .bad 9
    else match nameR b ((atB b k - 192) * 256 + atB b (k + 1)) ((atB b k - 192) * 256 + atB b (k + 1)) b.length 10 had with
      | .bad e => .bad e
      | .ok r _ => .ok r (k + 2) := by
  unfold nameR
  conv => lhs; simp only [nameU]
  by_cases c1 : lim ≤ k
  · rw [if_pos c1, if_pos c1]
  rw [if_neg c1, if_neg c1]
  by_cases c2 : atB b k = 0
  · rw [if_pos c2, if_pos c2]
  rw [if_neg c2, if_neg c2]
  by_cases c3 : atB b k < 64
  · rw [if_pos c3, if_pos c3]
    by_cases c4 : lim < k + 1 + atB b k
    · rw [if_pos c4, if_pos c4]
    rw [if_neg c4, if_neg c4]
    by_cases c5 : 255 < had + 1 + atB b k + 1
    · rw [if_pos c5, if_pos c5]
    rw [if_neg c5, if_neg c5]
    rw [nameU_fuel (leftU start had) (leftU start (had + 1 + atB b k) + 1) b _ start lim over _ (by omega) (by unfold leftU; omega) (by omega)]
  rw [if_neg c3, if_neg c3]
  by_cases c6 : atB b k < 192
  · rw [if_pos c6, if_pos c6]
  rw [if_neg c6, if_neg c6]
  by_cases c7 : lim < k + 2
  · rw [if_pos c7, if_pos c7]
  rw [if_neg c7, if_neg c7]
  by_cases c8 : start ≤ (atB b k - 192) * 256 + atB b (k + 1)
  · rw [if_pos c8, if_pos c8]
  rw [if_neg c8, if_neg c8]
  rw [nameU_fuel (leftU start had) (leftU ((atB b k - 192) * 256 + atB b (k + 1)) had + 1) b _ _ b.length 10 had h0 (by unfold leftU; omega) (by omega)]
theorem cut_len (b : Bs) (i j : Nat) (h : i ≤ j) (hj : j ≤ b.length) : (cutB b i j).length = j - i := by
  unfold cutB; rw [List.length_take, List.length_drop]; omega
theorem cut_head (b : Bs) (k n : Nat) (hk : k < b.length) : cutB b k (k + 1 + n) = b.getD k 0 :: cutB b (k + 1) (k + 1 + n) := by
  unfold cutB
  rw [List.drop_eq_getElem_cons hk, show k + 1 + n - k = n + 1 by omega, List.take_succ_cons, show k + 1 + n - (k + 1) = n by omega]
  rw [List.getD_eq_getElem?_getD, List.getElem?_eq_getElem hk]; rfl
/-- what is read is a name -/
theorem nameU_is : ∀ (f : Nat) (b : Bs) (k start lim : Nat) (over : Int) (had : Nat) (s : Bs) (j : Nat), had + 1 ≤ 255 → lim ≤ b.length → nameU f b k start lim over had = .ok s j → ∃ ls, s = put ls ∧ okL ls ∧ had + s.length ≤ 255
  | 0, b, k, start, lim, over, had, s, j, _, _, h => by simp [nameU] at h
  | f + 1, b, k, start, lim, over, had, s, j, h0, hl, h => by
    simp only [nameU] at h
    by_cases c1 : lim ≤ k
    · rw [if_pos c1] at h; cases h
    rw [if_neg c1] at h
    by_cases c2 : atB b k = 0
    · rw [if_pos c2] at h; cases h
      exact ⟨[], rfl, by simp [okL], by simpa using h0⟩
    rw [if_neg c2] at h
    by_cases c3 : atB b k < 64
    · rw [if_pos c3] at h
      by_cases c4 : lim < k + 1 + atB b k
      · rw [if_pos c4] at h; cases h
      rw [if_neg c4] at h
      by_cases c5 : 255 < had + 1 + atB b k + 1
      · rw [if_pos c5] at h; cases h
      rw [if_neg c5] at h
      cases hr : nameU f b (k + 1 + atB b k) start lim over (had + 1 + atB b k) with
      | bad e => rw [hr] at h; cases h
      | ok r j' =>
        rw [hr] at h; cases h
        obtain ⟨ls, h1, h2, h3⟩ := nameU_is f b _ start lim over _ r j (by omega) hl hr
        have hlen : (cutB b (k + 1) (k + 1 + atB b k)).length = atB b k := by rw [cut_len b _ _ (by omega) (by omega)]; omega
        refine ⟨cutB b (k + 1) (k + 1 + atB b k) :: ls, ?_, okL_cons.2 ⟨by rw [hlen]; omega, h2⟩, ?_⟩
        · rw [cut_head b k _ (by omega), h1]
          simp only [put, hlen, List.cons_append]
          congr 1
          show b.getD k 0 = UInt8.ofNat (atB b k)
          unfold atB; simp
        · rw [List.length_append, cut_len b _ _ (by omega) (by omega)]; omega
    rw [if_neg c3] at h
    by_cases c6 : atB b k < 192
    · rw [if_pos c6] at h; cases h
    rw [if_neg c6] at h
    by_cases c7 : lim < k + 2
    · rw [if_pos c7] at h; cases h
    rw [if_neg c7] at h
    by_cases c8 : start ≤ (atB b k - 192) * 256 + atB b (k + 1)
    · rw [if_pos c8] at h; cases h
    rw [if_neg c8] at h
    cases hr : nameU f b ((atB b k - 192) * 256 + atB b (k + 1)) ((atB b k - 192) * 256 + atB b (k + 1)) b.length 10 had with
    | bad e => rw [hr] at h; cases h
    | ok r j' =>
      rw [hr] at h; cases h
      exact nameU_is f b _ _ b.length 10 had s j' h0 (Nat.le_refl _) hr
/-- where it goes on -/
theorem nameU_next : ∀ (f : Nat) (b : Bs) (k start lim : Nat) (over : Int) (had : Nat) (s : Bs) (j : Nat), nameU f b k start lim over had = .ok s j → k < j ∧ j ≤ lim
  | 0, b, k, start, lim, over, had, s, j, h => by simp [nameU] at h
  | f + 1, b, k, start, lim, over, had, s, j, h => by
    simp only [nameU] at h
    by_cases c1 : lim ≤ k
    · rw [if_pos c1] at h; cases h
    rw [if_neg c1] at h
    by_cases c2 : atB b k = 0
    · rw [if_pos c2] at h; cases h; omega
    rw [if_neg c2] at h
    by_cases c3 : atB b k < 64
    · rw [if_pos c3] at h
      by_cases c4 : lim < k + 1 + atB b k
      · rw [if_pos c4] at h; cases h
      rw [if_neg c4] at h
      by_cases c5 : 255 < had + 1 + atB b k + 1
      · rw [if_pos c5] at h; cases h
      rw [if_neg c5] at h
      cases hr : nameU f b (k + 1 + atB b k) start lim over (had + 1 + atB b k) with
      | bad e => rw [hr] at h; cases h
      | ok r j' =>
        rw [hr] at h; cases h
        have := nameU_next f b _ start lim over _ r j hr
        omega
    rw [if_neg c3] at h
    by_cases c6 : atB b k < 192
    · rw [if_pos c6] at h; cases h
    rw [if_neg c6] at h
    by_cases c7 : lim < k + 2
    · rw [if_pos c7] at h; cases h
    rw [if_neg c7] at h
    by_cases c8 : start ≤ (atB b k - 192) * 256 + atB b (k + 1)
    · rw [if_pos c8] at h; cases h
    rw [if_neg c8] at h
    cases hr : nameU f b ((atB b k - 192) * 256 + atB b (k + 1)) ((atB b k - 192) * 256 + atB b (k + 1)) b.length 10 had with
    | bad e => rw [hr] at h; cases h
    | ok r j' => rw [hr] at h; cases h; omega
/-- a name from a place on -/
def nameAt (b : Bs) (k lim : Nat) (over : Int) : Got Bs := nameR b k k lim over 0
def num2 (b : Bs) (k : Nat) : Nat := atB b k * 256 + atB b (k + 1)
def num4 (b : Bs) (k : Nat) : Nat := num2 b k * 65536 + num2 b (k + 2)
/-- data field by field: names made whole -/
def dataU : List (Option Nat) → Bs → Nat → Nat → Bs → Got Bs
  | [], b, k, lim, acc => if k = lim then .ok acc lim else .bad 7
  | none :: fs, b, k, lim, acc => match nameAt b k lim 7 with
    | .bad e => .bad e
    | .ok s j => dataU fs b j lim (acc ++ s)
  | some n :: fs, b, k, lim, acc => if lim < k + n then .bad 7 else dataU fs b (k + n) lim (acc ++ cutB b k (k + n))
def mkB (l : Bs) : ByteArray := ⟨l.toArray⟩
/-- a record from a place on -/
def recU (b : Bs) (k : Nat) : Got Rc :=
  match nameAt b k b.length 10 with
  | .bad e => .bad e
  | .ok o j =>
    if b.length < j + 10 then .bad 10
    else if b.length < j + 10 + num2 b (j + 8) then .bad 10
    else match (if num2 b (j + 8) = 0 ∨ shortL (num2 b j) = [] then Got.ok (cutB b (j + 10) (j + 10 + num2 b (j + 8))) 0 else dataU (shortL (num2 b j)) b (j + 10) (j + 10 + num2 b (j + 8)) []) with
      | .bad e => .bad e
      | .ok d _ =>
        if rightB ⟨mkB o, num2 b j, num2 b (j + 2), num4 b (j + 4), mkB d⟩ = true then .ok ⟨mkB o, num2 b j, num2 b (j + 2), num4 b (j + 4), mkB d⟩ (j + 10 + num2 b (j + 8)) else .bad 7
/-- a question from a place on -/
def quesU (b : Bs) (k : Nat) : Got Qn :=
  match nameAt b k b.length 10 with
  | .bad e => .bad e
  | .ok o j => if b.length < j + 4 then .bad 10 else .ok ⟨mkB o, num2 b j, num2 b (j + 2)⟩ (j + 4)
/-- so many things from a place on: the fault, and where it stands -/
inductive Many (α : Type) where
  | bad (e : Int) (k : Nat)
  | ok (l : List α) (k : Nat)
def manyU {α : Type} (f : Nat → Got α) : Nat → Nat → Many α
  | 0, k => .ok [] k
  | n + 1, k => match f k with
    | .bad e => .bad e k
    | .ok x j => match manyU f n j with
      | .bad e i => .bad e i
      | .ok l i => .ok (x :: l) i
def noM : Mg := ⟨0, false, 0, false, false, false, false, false, false, 0, [], [], [], []⟩
def signB (v k : Nat) : Bool := decide (v / 2 ^ k % 2 = 1)
/-- a message out of bytes, where its fault stands, and the fault -/
def unpackS (b : Bs) : Mg × Nat × Int :=
  if 65535 < b.length then (noM, 0, 12)
  else if b.length < 12 then (noM, b.length, 10)
  else if atB b 3 / 64 % 2 = 1 then (noM, 2, 8)
  else match manyU (quesU b) (num2 b 4) 12 with
    | .bad e k => (noM, k, e)
    | .ok qs k0 => match manyU (recU b) (num2 b 6) k0 with
      | .bad e k => (noM, k, e)
      | .ok an k1 => match manyU (recU b) (num2 b 8) k1 with
        | .bad e k => (noM, k, e)
        | .ok au k2 => match manyU (recU b) (num2 b 10) k2 with
          | .bad e k => (noM, k, e)
          | .ok ar k3 =>
            if k3 < b.length then (noM, k3, 11)
            else (⟨num2 b 0, signB (num2 b 2) 15, num2 b 2 / 2048 % 16, signB (num2 b 2) 10, signB (num2 b 2) 9, signB (num2 b 2) 8, signB (num2 b 2) 7, signB (num2 b 2) 5, signB (num2 b 2) 4, num2 b 2 % 16, qs, an, au, ar⟩, 0, 0)
end Go.Proofs.Ytnamkladeaohoaa.unpP
namespace Go.Proofs.Ytnamkladeaohoaa.rows
open Go.RowKit Go.Proofs.Ytnamkladeaohoaa.kit Go.Proofs.Ytnamkladeaohoaa.timed Go.Proofs.Ytnamkladeaohoaa.nspec Go.Proofs.Ytnamkladeaohoaa.wireP Go.Proofs.Ytnamkladeaohoaa.wireM
set_option linter.unusedVariables false

theorem addr_at (g o k : Nat) : (⟨g, o, none⟩ : Addr).add k = ⟨g, o + k, none⟩ := by unfold Addr.add; split <;> simp_all
theorem flat_len {α : Type} (f : α → List Value) (n : Nat) (hf : ∀ x, (f x).length = n) : ∀ L : List α, (L.flatMap f).length = L.length * n
  | [] => by simp
  | x :: L => by rw [List.flatMap_cons, List.length_append, flat_len f n hf L, hf, List.length_cons, Nat.succ_mul]; omega
theorem flat_at {α : Type} (f : α → List Value) (n : Nat) (hf : ∀ x, (f x).length = n) : ∀ (L : List α) (j : Nat) (x : α) (i : Nat) (u : Value), L[j]? = some x → (f x)[i]? = some u → (L.flatMap f)[j * n + i]? = some u
  | [], j, x, i, u, h, _ => by simp at h
  | y :: L, 0, x, i, u, h, hu => by
    simp at h; subst h
    rw [List.flatMap_cons, Nat.zero_mul, Nat.zero_add, List.getElem?_append_left (List.getElem?_eq_some_iff.1 hu).1]; exact hu
  | y :: L, j + 1, x, i, u, h, hu => by
    rw [List.flatMap_cons, List.getElem?_append_right (by rw [hf, Nat.succ_mul]; omega), hf, show (j + 1) * n + i - n = j * n + i by rw [Nat.succ_mul]; omega]
    exact flat_at f n hf L j x i u (by simpa using h) hu
/-- a row of one's own reads as its rows -/
theorem rdc_own {α : Type} (f : α → List Value) (m : Nat) (hf : ∀ x, (f x).length = m) {w : World} {base : Nat} {e : TypeId} {v : Value} {L : List α} {n : Nat} (hn : n = L.length) (h : w.ownsRow base e m v n (L.flatMap f)) :
    ∃ a c, v = .slice a n c ∧ n ≤ c ∧ c ≤ maxLen ∧ (a = none → n = 0 ∧ c = 0) ∧ RdC w a m (L.map f) := by
  subst hn
  rcases h.2 with ⟨rfl, h0⟩ | ⟨g, cap, cur, rfl, hb, hg, h1, h2, _, htake⟩
  · have : L = [] := List.eq_nil_of_length_eq_zero h0
    subst this
    exact ⟨none, 0, rfl, Nat.le_refl _, Nat.zero_le _, fun _ => ⟨rfl, rfl⟩, RdC.nil _ _ _⟩
  · refine ⟨_, cap, rfl, h1, h2, (fun h => by cases h), ?_⟩
    intro j x hx
    rw [List.getElem?_map] at hx
    obtain ⟨y, hy, rfl⟩ := Option.map_eq_some_iff.1 hx
    refine ⟨hf y, g, 0, rfl, (Array.getElem?_eq_some_iff.1 hg).1, fun i u hu => ?_⟩
    have := h.cells (g := g) rfl (j * m + i) u (flat_at f m hf L j y i u hy hu)
    rw [addr_at] at this
    rw [Nat.add_assoc]
    exact this
/-- rows that can be read, as the cells that an append takes -/
theorem cells_rd {α : Type} (f : α → List Value) (m : Nat) (hm : 0 < m) (hf : ∀ x, (f x).length = m) {w : World} {a : Option Addr} {L : List α} (h : RdC w a m (L.map f)) (c : Nat) (hc : a = none → L.length = 0 ∧ c = 0) : (a = none ∧ L.length = 0 ∧ c = 0) ∨ ∃ ad, a = some ad ∧ ∀ (j : Nat) (u : Value), (L.flatMap f)[j]? = some u → w.cell? (ad.add j) = some u := by
  cases a with
  | none => exact .inl ⟨rfl, hc rfl⟩
  | some ad =>
    right
    refine ⟨ad, rfl, fun j u hj => ?_⟩
    have hl : j < L.length * m := by rw [← flat_len f m hf]; exact (List.getElem?_eq_some_iff.1 hj).1
    have hdiv : j / m < L.length := (Nat.div_lt_iff_lt_mul hm).2 hl
    have hmod : j % m < m := Nat.mod_lt _ hm
    have hjm : j / m * m + j % m = j := by rw [Nat.mul_comm]; exact Nat.div_add_mod j m
    obtain ⟨x, hx⟩ : ∃ x, L[j / m]? = some x := ⟨_, List.getElem?_eq_getElem hdiv⟩
    obtain ⟨_, g, o, h1, _, h3⟩ := h (j / m) (f x) (by rw [List.getElem?_map, hx]; rfl)
    cases h1
    obtain ⟨u', hu'⟩ : ∃ u', (f x)[j % m]? = some u' := ⟨_, List.getElem?_eq_getElem (by rw [hf]; exact hmod)⟩
    have h4 := flat_at f m hf L (j / m) x (j % m) u' hx hu'
    rw [hjm] at h4
    rw [h4] at hj; cases hj
    have h5 := h3 _ _ hu'
    rw [Nat.add_assoc, hjm] at h5
    rw [addr_at]; exact h5
theorem one_cells {α : Type} {f : α → List Value} {L : List α} (h : ∀ x u, u ∈ f x → u.oneCell' = true) : ∀ u ∈ L.flatMap f, u.oneCell' = true := by
  intro u hu
  obtain ⟨x, _, hx⟩ := List.mem_flatMap.1 hu
  exact h x u hx
theorem rec_one (x : Rc) (u : Value) (h : u ∈ x.cells) : u.oneCell' = true := by
  simp only [Rc.cells, List.mem_cons, List.not_mem_nil, or_false] at h
  rcases h with rfl | rfl | rfl | rfl | rfl <;> rfl
theorem qn_one (x : Qn) (u : Value) (h : u ∈ x.cells) : u.oneCell' = true := by
  simp only [Qn.cells, List.mem_cons, List.not_mem_nil, or_false] at h
  rcases h with rfl | rfl | rfl <;> rfl
theorem row_neG {w : World} {b0 : Nat} {e : TypeId} {size : Nat} {v : Value} {n : Nat} {xs : List Value} (h : w.ownsRow b0 e size v n xs) {k : Nat} {o : Obj} (hk : w.heap[k]? = some o) (hn : ∀ cur f, o ≠ .cells cur e f) : some k ≠ v.ownBlock := by
  intro e
  rcases h.2 with ⟨rfl, _⟩ | ⟨g, cap, cur, rfl, hb, hg, _⟩
  · cases e
  · simp only [Value.ownBlock, Option.some.injEq] at e
    subst e
    rw [hg] at hk; cases hk
    exact hn _ _ rfl
theorem row_lowG {w : World} {b0 : Nat} {e : TypeId} {size : Nat} {v : Value} {n : Nat} {xs : List Value} (h : w.ownsRow b0 e size v n xs) {k : Nat} (hk : k < b0) : some k ≠ v.ownBlock := by
  intro e
  rcases h.2 with ⟨rfl, _⟩ | ⟨g, cap, cur, rfl, hb, hg, _⟩
  · cases e
  · simp only [Value.ownBlock, Option.some.injEq] at e; omega
theorem own_keptG {w w1 : World} {b0 : Nat} {e : TypeId} {size : Nat} {v : Value} {n : Nat} {xs : List Value} (h : w.ownsRow b0 e size v n xs) (hk : ∀ (k : Nat) (cur : Array Value), w.heap[k]? = some (Obj.cells cur e (0, 0)) → w1.heap[k]? = some (Obj.cells cur e (0, 0))) : w1.ownsRow b0 e size v n xs := by
  refine ⟨h.1, ?_⟩
  rcases h.2 with h1 | ⟨g, cap, cur, h1, h2, h3, h4⟩
  · exact .inl h1
  · exact .inr ⟨g, cap, cur, h1, h2, hk _ _ h3, h4⟩
theorem own_at {w : World} {base : Nat} {e : TypeId} {v : Value} {n size : Nat} {xs : List Value} (h : w.ownsRow base e size v n xs) (hn : 1 ≤ n) : ∃ g cap, v = .slice (some ⟨g, 0, none⟩) n cap ∧ base ≤ g ∧ g < w.heap.size ∧ (∀ j, j < n * size → ∃ u, w.cell? ⟨g, j, none⟩ = some u) ∧ (∀ j, w.frozen? ⟨g, j, none⟩ = false) ∧ ∃ cur, w.heap[g]? = some (.cells cur e (0, 0)) := by
  rcases h.2 with ⟨_, h0⟩ | ⟨g, cap, cur, rfl, hb, hg, h1, h2, _, _⟩
  · omega
  · refine ⟨g, cap, rfl, hb, (Array.getElem?_eq_some_iff.1 hg).1, fun j hj => ?_, fun j => by simp [World.frozen?, hg], cur, hg⟩
    have hl : j < xs.length := by rw [h.1]; exact hj
    refine ⟨xs[j], ?_⟩
    have := h.cells (g := g) rfl j xs[j] (List.getElem?_eq_getElem hl)
    rw [addr_at, Nat.zero_add] at this; exact this
end Go.Proofs.Ytnamkladeaohoaa.rows
namespace Go.Proofs.Ytnamkladeaohoaa.buf
open Go.RowKit Go.Proofs.Ytnamkladeaohoaa.kit Go.Proofs.Ytnamkladeaohoaa.nspec Go.Proofs.Ytnamkladeaohoaa.bits Go.Proofs.Ytnamkladeaohoaa.bld Go.Proofs.Ytnamkladeaohoaa.coded Go.Proofs.Ytnamkladeaohoaa.fld Go.Proofs.Ytnamkladeaohoaa.packP
set_option linter.unusedVariables false

/-- no row of bytes -/
def NotU8 (o : Obj) : Prop := ∀ cur f, o ≠ .cells cur 5 f
/-- what a write on the paper may touch: the blocks that T tells, rows of bytes from b0 on, new blocks -/
structure Eff (b0 : Nat) (T : Nat → Prop) (w w' : World) : Prop where
  os : w'.os = w.os
  tape : w'.tape = w.tape
  output : w'.output = w.output
  size : w.heap.size ≤ w'.heap.size
  low : ∀ k, k < b0 → w'.heap[k]? = w.heap[k]?
  kept : ∀ k o, w.heap[k]? = some o → NotU8 o → ¬ T k → w'.heap[k]? = some o
theorem Eff.refl (b0 : Nat) (T : Nat → Prop) (w : World) : Eff b0 T w w := ⟨rfl, rfl, rfl, Nat.le_refl _, fun _ _ => rfl, fun _ _ h _ _ => h⟩
theorem Eff.trans {b0 : Nat} {T : Nat → Prop} {w w1 w2 : World} (h : Eff b0 T w w1) (g : Eff b0 T w1 w2) : Eff b0 T w w2 :=
  ⟨g.os.trans h.os, g.tape.trans h.tape, g.output.trans h.output, Nat.le_trans h.size g.size, fun k hk => (g.low k hk).trans (h.low k hk), fun k o hk hn hT => g.kept k o (h.kept k o hk hn hT) hn hT⟩
theorem Eff.wider {b0 : Nat} {T T' : Nat → Prop} {w w1 : World} (h : Eff b0 T w w1) (hT : ∀ k, T k → T' k) : Eff b0 T' w w1 :=
  ⟨h.os, h.tape, h.output, h.size, h.low, fun k o hk hn hk' => h.kept k o hk hn (fun e => hk' (hT k e))⟩
theorem Eff.of_below {b0 : Nat} {T : Nat → Prop} {w w1 : World} (h : Below w.heap.size w w1) (hb : b0 ≤ w.heap.size) : Eff b0 T w w1 :=
  ⟨h.os, h.tape, h.output, h.size, fun k hk => h.block k (by omega), fun k o hk hn _ => (h.block k (Array.getElem?_eq_some_iff.1 hk).1).trans hk⟩
theorem Eff.to_below {b0 : Nat} {T : Nat → Prop} {w w1 : World} (h : Eff b0 T w w1) : Below b0 w w1 :=
  ⟨h.os, h.tape, h.output, h.size, h.low⟩
theorem row_u8 {w : World} {b0 : Nat} {v : Value} {n : Nat} {xs : List Value} (h : w.ownsRow b0 5 1 v n xs) {k : Nat} {o : Obj} (hk : w.heap[k]? = some o) (hn : NotU8 o) : some k ≠ v.ownBlock := by
  intro e
  rcases h.2 with ⟨rfl, _⟩ | ⟨g, cap, cur, rfl, hb, hg, _⟩
  · cases e
  · simp only [Value.ownBlock, Option.some.injEq] at e
    subst e
    rw [hg] at hk; cases hk
    exact hn _ _ rfl
theorem row_low {w : World} {b0 : Nat} {v : Value} {n : Nat} {xs : List Value} (h : w.ownsRow b0 5 1 v n xs) {k : Nat} (hk : k < b0) : some k ≠ v.ownBlock := by
  intro e
  rcases h.2 with ⟨rfl, _⟩ | ⟨g, cap, cur, rfl, hb, hg, _⟩
  · cases e
  · simp only [Value.ownBlock, Option.some.injEq] at e; omega
theorem own_slice1 {w : World} {base : Nat} {e : TypeId} {v : Value} {n : Nat} {xs : List Value} (h : w.ownsRow base e 1 v n xs) : ∃ a c, v = .slice a n c := by
  rcases h.2 with ⟨rfl, rfl⟩ | ⟨g, cap, cur, rfl, _⟩
  · exact ⟨_, _, rfl⟩
  · exact ⟨_, _, rfl⟩
theorem byte_wrap (v : Int) : IntKind.u8.wrap v = ((byte v).toNat : Int) := by
  rw [IntKind.wrap_u8]; unfold byte
  rw [UInt8.toNat_ofNat_of_lt' (by have := Int.emod_lt_of_pos v (show (0 : Int) < 256 by decide); have := Int.emod_nonneg v (show (256 : Int) ≠ 0 by decide); show (v % 256).toNat < 256; omega)]
  have := Int.emod_nonneg v (show (256 : Int) ≠ 0 by decide)
  omega
def u8V (c : UInt8) : Value := .int .u8 (c.toNat : Int)
theorem cells_snoc (out : Bs) (l : Bs) : Lib.byteCells out ++ l.map u8V = Lib.byteCells (out ++ l) := by
  simp [Lib.byteCells, u8V]

theorem cell_two_new (w : World) (e : TypeId) (x y : Value) : ∀ (j : Nat) (u : Value), [x, y][j]? = some u → (w.alloc (.cells #[x, y] e)).cell? ((⟨w.heap.size, 0, none⟩ : Addr).add j) = some u := by
  intro j u h
  have hb : (w.alloc (.cells #[x, y] e)).heap[w.heap.size]? = some (.cells #[x, y] e (0, 0)) := heap_alloc_new _ _
  rw [addr_add]
  simp only [World.cell?, hb]
  simpa using h
theorem cells_str (out : Bs) (s : ByteArray) : Lib.byteCells out ++ Lib.strCells s = Lib.byteCells (out ++ s.data.toList) := by
  simp [Lib.byteCells, Lib.strCells]

end Go.Proofs.Ytnamkladeaohoaa.buf
