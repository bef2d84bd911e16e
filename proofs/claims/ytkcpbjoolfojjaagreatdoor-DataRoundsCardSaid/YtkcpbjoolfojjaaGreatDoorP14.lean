/- PLAIN: what each field's words tell; data.Read in plain words. Lists of timed keys, and of keys of a plan, in memory; both are held against their like. Words in memory, and how many have been taken; a fault that is thrown. data.words: any, plain, bad: walks. data.words.rest, data.nibble, unhex, big: walks. name.escaped and its closure: walks. -/
import Derived.Test.YtkcpbjoolfojjaaGreatDoorP6
import Derived.Test.YtkcpbjoolfojjaaGreatDoorP11
import Derived.Test.YtkcpbjoolfojjaaGreatDoorP13
import Derived.Test.YtkcpbjoolfojjaaGreatDoorP1
import Derived.Test.YtkcpbjoolfojjaaGreatDoorP7
import Derived.Lib.Split
import Derived.BigQuiet
import Derived.Deep.QuietTactic
import Derived.Laws.BitsLemmas
namespace Go.Proofs.YtkcpbjoolfojjaaGreatDoor.rdQ
open Go.RowKit Go.Proofs.YtkcpbjoolfojjaaGreatDoor.kit Go.Proofs.YtkcpbjoolfojjaaGreatDoor.nspec Go.Proofs.YtkcpbjoolfojjaaGreatDoor.fld Go.Proofs.YtkcpbjoolfojjaaGreatDoor.rdP
set_option linter.unusedVariables false

/-- a word's parts, between one byte and the next such -/
def splitW (c : UInt8) (s : ByteArray) : List ByteArray := Lib.splitB ⟨#[c]⟩ 0 (Lib.countB s ⟨#[c]⟩) s
def numR (n : Nat) (s : Bs) : Option Bs := if cnt.countS s 10 (2 ^ (8 * n) - 1 : Nat) < 0 then none else some (big.bigS (cnt.countS s 10 (2 ^ (8 * n) - 1 : Nat)).toNat n)
/-- a number below 256, written as it is told -/
def octS (p : Bs) : Option UInt8 := if cnt.countS p 3 255 < 0 then none else if Lib.decDigits (cnt.countS p 3 255).toNat ≠ p then none else some (UInt8.ofNat (cnt.countS p 3 255).toNat)
def octL : List ByteArray → Option Bs
  | [] => some []
  | p :: r => match octS p.data.toList with
    | none => none
    | some c => (octL r).map (c :: ·)
def ip4R (s : ByteArray) : Option Bs := if (splitW 46 s).length = 4 then octL (splitW 46 s) else none
def groupsL : List ByteArray → Option Bs
  | [] => some []
  | g :: r => match groupS g.data.toList with
    | none => none
    | some d => (groupsL r).map (d ++ ·)
def groupsR (s : ByteArray) : Option Bs := if s.size = 0 then some [] else groupsL (splitW 58 s)
def mk (l : Bs) : ByteArray := ⟨l.toArray⟩
def ip6R (s : ByteArray) : Option Bs :=
  match groupsR (mk (Lib.cut s.data.toList [58, 58]).1), groupsR (mk (Lib.cut s.data.toList [58, 58]).2.1) with
  | some a, some b => if (Lib.cut s.data.toList [58, 58]).2.2 then (if 14 < a.length + b.length then none else some (a ++ List.replicate (16 - (a.length + b.length)) 0 ++ b)) else (if a.length + b.length = 16 then some (a ++ b) else none)
  | _, _ => none
/-- a text with its length ahead -/
def lenR (o : Option Bs) : Option Bs := match o with
  | some d => if 255 < d.length then none else some (UInt8.ofNat d.length :: d)
  | none => none
/-- the same, of at least one byte -/
def someR (o : Option Bs) : Option Bs := match o with
  | some d => if d = [] then none else some d
  | none => none
def kindR (s : Bs) : Option Bs := if typeofP.typeOfD s = 0 then none else some (big.bigS (typeofP.typeOfD s).toNat 2)
def saltR (s : Bs) : Option Bs := if s = [45] then some [0] else lenR (someR (rdP.unhexS s))
def hashR (s : Bs) : Option Bs := lenR (someR (back.from32S s))
abbrev Got (α : Type) := Except (Int × Int) α
/-- one word's bytes: they are right, or not -/
def oneW (W : List Wo) (k : Nat) (f : ByteArray → Option Bs) : Got (Bs × Nat) := match W[k]? with
  | none => .error (W.length, 2)
  | some w => if w.q then .error (k, 2) else match f w.s with
    | some d => .ok (d, k + 1)
    | none => .error (k, 2)
/-- the same of a word with quotes, too -/
def looseW (W : List Wo) (k : Nat) (f : Option Bs → Option Bs) : Got (Bs × Nat) := match W[k]? with
  | none => .error (W.length, 2)
  | some w => match f (looseS w.s.data.toList) with
    | some d => .ok (d, k + 1)
    | none => .error (k, 2)
def hostW (org : Bs) (W : List Wo) (k : Nat) : Got (Bs × Nat) := match W[k]? with
  | none => .error (W.length, 2)
  | some w => if w.q then .error (k, 2) else if (readS.readS w.s.data.toList org).2.2 = 0 then .ok ((readS.readS w.s.data.toList org).1, k + 1) else .error (k, (readS.readS w.s.data.toList org).2.2)
/-- all further words -/
def restR (W : List Wo) (k : Nat) (f : Bs → Option Bs) : Got (Bs × Nat) := match restW (W.drop k) k with
  | .error j => .error (j, 2)
  | .ok s => match someR (f s) with
    | some d => .ok (d, W.length)
    | none => .error (k, 2)
/-- texts: so many more words -/
def textsL : List Wo → Nat → Got Bs
  | [], _ => .ok []
  | w :: r, k => match lenR (looseS w.s.data.toList) with
    | none => .error (k, 2)
    | some d => match textsL r (k + 1) with
      | .error e => .error e
      | .ok x => .ok (d ++ x)
def textsR (W : List Wo) (k : Nat) : Got (Bs × Nat) := if W.length ≤ k then .error (W.length, 2) else match textsL (W.drop k) k with
  | .error e => .error e
  | .ok d => .ok (d, W.length)
def kindsL : List Wo → Nat → Got (List Int)
  | [], _ => .ok []
  | w :: r, k => if w.q ∨ typeofP.typeOfD w.s.data.toList = 0 then .error (k, 2) else match kindsL r (k + 1) with
    | .error e => .error e
    | .ok x => .ok (typeofP.typeOfD w.s.data.toList :: x)
def kindsR (W : List Wo) (k : Nat) : Got (Bs × Nat) := match kindsL (W.drop k) k with
  | .error e => .error e
  | .ok l => .ok (setP.setL (setP.sortL l), W.length)
/-- what a field's words tell -/
def fieldR (org : Bs) (W : List Wo) (k : Nat) : Fld → Got (Bs × Nat)
  | .num n => oneW W k (fun s => numR n s.data.toList)
  | .ip4 => oneW W k ip4R
  | .ip6 => oneW W k ip6R
  | .host => hostW org W k
  | .text => looseW W k lenR
  | .texts => textsR W k
  | .tail => looseW W k id
  | .hexes => restR W k unhexS
  | .b64 => restR W k unb64S
  | .kind => oneW W k (fun s => kindR s.data.toList)
  | .kinds => kindsR W k
  | .salt => oneW W k (fun s => saltR s.data.toList)
  | .hash => oneW W k (fun s => hashR s.data.toList)
def fieldsR (org : Bs) (W : List Wo) : List Fld → Nat → Got (Bs × Nat)
  | [], k => .ok ([], k)
  | f :: r, k => match fieldR org W k f with
    | .error e => .error e
    | .ok (d, j) => match fieldsR org W r j with
      | .error e => .error e
      | .ok (x, i) => .ok (d ++ x, i)
/-- the words behind the sign for any bytes -/
def genericR (W : List Wo) : Got Bs := match W[1]? with
  | none => .error (W.length, 2)
  | some w => if w.q then .error (1, 2) else if cnt.countS w.s.data.toList 5 65535 < 0 then .error (1, 2) else match restW (W.drop 2) 2 with
    | .error j => .error (j, 2)
    | .ok s => match unhexS s with
      | some d => if (d.length : Int) = cnt.countS w.s.data.toList 5 65535 then .ok d else .error (2, 2)
      | none => .error (2, 2)
def isSign (W : List Wo) : Bool := match W with
  | [] => false
  | w :: _ => !w.q && decide (w.s.data.toList = [92, 35])
def fin (r : Got Bs) : Bs × Int × Int := match r with
  | .error e => ([], e.1, e.2)
  | .ok d => (d, 0, 0)
/-- what the fields tell, behind which nothing may stand -/
def wholeR (t : Int) (org : Bs) (W : List Wo) : Got Bs := match formS t with
  | none => .error (0, 2)
  | some fs => match fieldsR org W fs 0 with
    | .error e => .error e
    | .ok (d, k) => if k < W.length then .error (k, 2) else if 65535 < d.length then .error (0, 12) else .ok d
/-- data.Read -/
def readD (t : Int) (W : List Wo) (org : Bs) : Bs × Int × Int :=
  if holdsB t = false then ([], 0, 6) else if (nspec.split org).isSome = false then ([], 0, 1) else
  if isSign W then (match genericR W with
    | .error e => ([], e.1, e.2)
    | .ok d => if checkS t d = 0 then (d, 0, 0) else ([], 0, 7))
  else fin (wholeR t org W)
end Go.Proofs.YtkcpbjoolfojjaaGreatDoor.rdQ
namespace Go.Proofs.YtkcpbjoolfojjaaGreatDoor.timed
open Go.RowKit Go.Proofs.YtkcpbjoolfojjaaGreatDoor.kit
set_option linter.unusedVariables false

/-- a key with its times -/
structure Tm where
  f : Int
  m : Int
  e : Int
  s : Int
  p : Int
  a : Int
  r : Int
  v : Int
deriving DecidableEq
def Tm.cells (x : Tm) : List Value := [.int .i64 x.f, .int .i64 x.m, .int .i64 x.e, .int .i64 x.s, .int .i64 x.p, .int .i64 x.a, .int .i64 x.r, .int .i64 x.v]
/-- a key of a plan -/
structure Pk where
  f : Int
  m : Int
  e : Int
  s : Int
  on : Bool
deriving DecidableEq
def Pk.cells (x : Pk) : List Value := [.int .i64 x.f, .int .i64 x.m, .int .i64 x.e, .int .i64 x.s, .bool x.on]

/-- rows of so many cells can be read from address a on -/
def RdC (w : World) (a : Option Addr) (n : Nat) (ls : List (List Value)) : Prop :=
  ∀ (j : Nat) (x : List Value), ls[j]? = some x → x.length = n ∧ ∃ g o, a = some ⟨g, o, none⟩ ∧ g < w.heap.size ∧ ∀ i u, x[i]? = some u → w.cell? ⟨g, o + j * n + i, none⟩ = some u
theorem RdC.below {w w' : World} {a : Option Addr} {n B : Nat} {ls : List (List Value)} (h : RdC w a n ls) (hB : Below B w w') (hz : B = w.heap.size) : RdC w' a n ls := by
  intro j x hx
  obtain ⟨h0, g, o, h1, h3, h4⟩ := h j x hx
  exact ⟨h0, g, o, h1, Nat.lt_of_lt_of_le h3 hB.size, fun i u hu => (hB.cell (p := ⟨g, o + j * n + i, none⟩) (by rw [hz]; exact h3)).trans (h4 i u hu)⟩
theorem RdC.nil (w : World) (a : Option Addr) (n : Nat) : RdC w a n [] := by intro j x h; simp at h

def AtT (w : World) (g o : Nat) (x : Tm) : Prop :=
  w.cell? ⟨g, o, none⟩ = some (.int .i64 x.f) ∧ w.cell? ⟨g, o + 1, none⟩ = some (.int .i64 x.m) ∧ w.cell? ⟨g, o + 2, none⟩ = some (.int .i64 x.e) ∧ w.cell? ⟨g, o + 3, none⟩ = some (.int .i64 x.s) ∧
  w.cell? ⟨g, o + 4, none⟩ = some (.int .i64 x.p) ∧ w.cell? ⟨g, o + 5, none⟩ = some (.int .i64 x.a) ∧ w.cell? ⟨g, o + 6, none⟩ = some (.int .i64 x.r) ∧ w.cell? ⟨g, o + 7, none⟩ = some (.int .i64 x.v)
theorem AtT.below {w w' : World} {g o B : Nat} {x : Tm} (h : AtT w g o x) (hB : Below B w w') (hg : g < B) : AtT w' g o x := by
  obtain ⟨h0, h1, h2, h3, h4, h5, h6, h7⟩ := h
  exact ⟨(hB.cell (p := ⟨g, _, none⟩) hg).trans h0, (hB.cell (p := ⟨g, _, none⟩) hg).trans h1, (hB.cell (p := ⟨g, _, none⟩) hg).trans h2, (hB.cell (p := ⟨g, _, none⟩) hg).trans h3, (hB.cell (p := ⟨g, _, none⟩) hg).trans h4, (hB.cell (p := ⟨g, _, none⟩) hg).trans h5, (hB.cell (p := ⟨g, _, none⟩) hg).trans h6, (hB.cell (p := ⟨g, _, none⟩) hg).trans h7⟩
def AtK (w : World) (g o : Nat) (x : Pk) : Prop :=
  w.cell? ⟨g, o, none⟩ = some (.int .i64 x.f) ∧ w.cell? ⟨g, o + 1, none⟩ = some (.int .i64 x.m) ∧ w.cell? ⟨g, o + 2, none⟩ = some (.int .i64 x.e) ∧ w.cell? ⟨g, o + 3, none⟩ = some (.int .i64 x.s) ∧ w.cell? ⟨g, o + 4, none⟩ = some (.bool x.on)
theorem AtK.below {w w' : World} {g o B : Nat} {x : Pk} (h : AtK w g o x) (hB : Below B w w') (hg : g < B) : AtK w' g o x := by
  obtain ⟨h0, h1, h2, h3, h4⟩ := h
  exact ⟨(hB.cell (p := ⟨g, _, none⟩) hg).trans h0, (hB.cell (p := ⟨g, _, none⟩) hg).trans h1, (hB.cell (p := ⟨g, _, none⟩) hg).trans h2, (hB.cell (p := ⟨g, _, none⟩) hg).trans h3, (hB.cell (p := ⟨g, _, none⟩) hg).trans h4⟩

end Go.Proofs.YtkcpbjoolfojjaaGreatDoor.timed
namespace Go.Proofs.YtkcpbjoolfojjaaGreatDoor.wd
open Go.RowKit Go.Proofs.YtkcpbjoolfojjaaGreatDoor.kit Go.Proofs.YtkcpbjoolfojjaaGreatDoor.nspec Go.Proofs.YtkcpbjoolfojjaaGreatDoor.fld Go.Proofs.YtkcpbjoolfojjaaGreatDoor.rdP Go.Proofs.YtkcpbjoolfojjaaGreatDoor.rdQ Go.Proofs.YtkcpbjoolfojjaaGreatDoor.timed
set_option linter.unusedVariables false

/-- what is kept: all but one block -/
structure EffW (C : Nat) (w w' : World) : Prop where
  os : w'.os = w.os
  tape : w'.tape = w.tape
  output : w'.output = w.output
  size : w.heap.size ≤ w'.heap.size
  kept : ∀ k, k < w.heap.size → k ≠ C → w'.heap[k]? = w.heap[k]?
theorem EffW.refl (C : Nat) (w : World) : EffW C w w := ⟨rfl, rfl, rfl, Nat.le_refl _, fun _ _ _ => rfl⟩
theorem EffW.trans {C : Nat} {w w1 w2 : World} (h : EffW C w w1) (g : EffW C w1 w2) : EffW C w w2 :=
  ⟨g.os.trans h.os, g.tape.trans h.tape, g.output.trans h.output, Nat.le_trans h.size g.size, fun k hk hn => (g.kept k (Nat.lt_of_lt_of_le hk h.size) hn).trans (h.kept k hk hn)⟩
theorem EffW.of_below {C : Nat} {w w1 : World} (h : Below w.heap.size w w1) : EffW C w w1 := ⟨h.os, h.tape, h.output, h.size, fun k hk _ => h.block k hk⟩
theorem EffW.drewN (C : Nat) (w : World) (n : Nat) : EffW C w (w.drewN n) := ⟨rfl, rfl, rfl, Nat.le_refl _, fun _ _ _ => rfl⟩
theorem EffW.to_below {C B : Nat} {w w1 : World} (h : EffW C w w1) (hB : B ≤ C) (hs : B ≤ w.heap.size) : Below B w w1 := ⟨h.os, h.tape, h.output, h.size, fun k hk => h.kept k (by omega) (by omega)⟩
theorem EffW.setNew {C N i : Nat} {w w1 : World} {v : Value} (h : EffW C w w1) (hN : w.heap.size ≤ N) : EffW C w (w1.setCell ⟨N, i, none⟩ v) :=
  ⟨h.os, h.tape, h.output, by rw [World.size_setCell]; exact h.size, fun k hk hn => (Below.heap_setCell w1 ⟨N, i, none⟩ v k (by show k ≠ N; omega)).trans (h.kept k hk hn)⟩
theorem EffW.drew {C : Nat} {w w1 : World} (h : EffW C w w1) : EffW C w w1.drew := ⟨h.os, h.tape, h.output, h.size, h.kept⟩
/-- all that lies below B but the one block -/
structure EffB (C B : Nat) (w w' : World) : Prop where
  os : w'.os = w.os
  tape : w'.tape = w.tape
  output : w'.output = w.output
  size : w.heap.size ≤ w'.heap.size
  kept : ∀ k, k < B → k ≠ C → w'.heap[k]? = w.heap[k]?
theorem EffB.refl (C B : Nat) (w : World) : EffB C B w w := ⟨rfl, rfl, rfl, Nat.le_refl _, fun _ _ _ => rfl⟩
theorem EffB.eff {C : Nat} {w w1 : World} (h : EffB C w.heap.size w w1) : EffW C w w1 := ⟨h.os, h.tape, h.output, h.size, h.kept⟩
theorem EffB.word {C B : Nat} {w w1 w2 : World} (h : EffB C B w w1) (g : EffW C w1 w2) (hB : B ≤ w1.heap.size) : EffB C B w w2 :=
  ⟨g.os.trans h.os, g.tape.trans h.tape, g.output.trans h.output, Nat.le_trans h.size g.size, fun k hk hn => (g.kept k (Nat.lt_of_lt_of_le hk hB) hn).trans (h.kept k hk hn)⟩
theorem EffB.below {C B : Nat} {w w1 w2 : World} (h : EffB C B w w1) (g : Below B w1 w2) : EffB C B w w2 :=
  ⟨g.os.trans h.os, g.tape.trans h.tape, g.output.trans h.output, Nat.le_trans h.size g.size, fun k hk hn => (g.block k hk).trans (h.kept k hk hn)⟩
/-- words that can be read, and do not lie in block C -/
def RdW (w : World) (C : Nat) (a : Option Addr) (L : List Wo) : Prop :=
  ∀ (j : Nat) (x : Wo), L[j]? = some x → ∃ g o, a = some ⟨g, o, none⟩ ∧ g < w.heap.size ∧ g ≠ C ∧ w.cell? ⟨g, o + j * 2, none⟩ = some (.string x.s) ∧ w.cell? ⟨g, o + j * 2 + 1, none⟩ = some (.bool x.q)
/-- the words, of which so many have been taken -/
structure AtW (w : World) (C : Nat) (a : Option Addr) (L : List Wo) (cap : Nat) (O : ByteArray) (k : Nat) : Prop where
  blk : w.heap[C]? = some (.cells #[.slice a L.length cap, .int .i64 (k : Int), .string O] 44 (0, 0))
  rd : RdW w C a L
  few : L.length ≤ 1048576
  sm : ∀ x ∈ L, x.s.size ≤ 1048576
  org : O.size ≤ 1048576
  le : L.length ≤ cap
  cm : cap ≤ maxLen
  kl : k ≤ L.length
section
variable {w w1 : World} {C : Nat} {a : Option Addr} {L : List Wo} {cap : Nat} {O : ByteArray} {k : Nat}
theorem AtW.lt (h : AtW w C a L cap O k) : C < w.heap.size := (Array.getElem?_eq_some_iff.1 h.blk).1
theorem AtW.c0 (h : AtW w C a L cap O k) : w.cell? ⟨C, 0, none⟩ = some (.slice a L.length cap) := by simp only [World.cell?, h.blk]; rfl
theorem AtW.c1 (h : AtW w C a L cap O k) : w.cell? ⟨C, 1, none⟩ = some (.int .i64 (k : Int)) := by simp only [World.cell?, h.blk]; rfl
theorem AtW.c2 (h : AtW w C a L cap O k) : w.cell? ⟨C, 2, none⟩ = some (.string O) := by simp only [World.cell?, h.blk]; rfl
theorem AtW.z (h : AtW w C a L cap O k) (j : Nat) : w.frozen? ⟨C, j, none⟩ = false := by simp only [World.frozen?, h.blk]; simp
theorem rdW_eff (h : RdW w C a L) (he : EffW C w w1) : RdW w1 C a L := by
  intro j x hx
  obtain ⟨g, o, h1, h2, h3, h4, h5⟩ := h j x hx
  have hb := he.kept g h2 h3
  exact ⟨g, o, h1, Nat.lt_of_lt_of_le h2 he.size, h3, (World.cell?_of_block hb).trans h4, (World.cell?_of_block hb).trans h5⟩
theorem AtW.below (h : AtW w C a L cap O k) (hB : Below w.heap.size w w1) : AtW w1 C a L cap O k :=
  ⟨(hB.block C h.lt).trans h.blk, rdW_eff h.rd (EffW.of_below hB), h.few, h.sm, h.org, h.le, h.cm, h.kl⟩
theorem AtW.drewN (h : AtW w C a L cap O k) (n : Nat) : AtW (w.drewN n) C a L cap O k := ⟨h.blk, h.rd, h.few, h.sm, h.org, h.le, h.cm, h.kl⟩
/-- so many more taken -/
theorem AtW.move (h : AtW w C a L cap O k) (j : Nat) (hj : j ≤ L.length) : AtW (w.setCell ⟨C, 1, none⟩ (.int .i64 (j : Int))) C a L cap O j ∧ EffW C w (w.setCell ⟨C, 1, none⟩ (.int .i64 (j : Int))) := by
  have he : EffW C w (w.setCell ⟨C, 1, none⟩ (.int .i64 (j : Int))) := ⟨rfl, rfl, rfl, by simp, fun i hi hn => Below.heap_setCell _ ⟨C, 1, none⟩ _ i hn⟩
  refine ⟨⟨?_, rdW_eff h.rd he, h.few, h.sm, h.org, h.le, h.cm, hj⟩, he⟩
  rw [heap_setCell_same w C 1 _ _ (.int .i64 (j : Int)) h.blk]; rfl
theorem AtW.later (h : AtW w C a L cap O k) (he : EffW C w w1) {j : Nat} (hb : w1.heap[C]? = some (.cells #[.slice a L.length cap, .int .i64 (j : Int), .string O] 44 (0, 0))) (hj : j ≤ L.length) : AtW w1 C a L cap O j :=
  ⟨hb, rdW_eff h.rd he, h.few, h.sm, h.org, h.le, h.cm, hj⟩
theorem AtW.one (h : AtW w C a L cap O k) {j : Nat} {x : Wo} (hx : L[j]? = some x) : x.s.size ≤ 1048576 ∧ j < L.length := ⟨h.sm x (List.mem_of_getElem? hx), (List.getElem?_eq_some_iff.1 hx).1⟩
end
def faultV (at_ c : Int) : Value := .iface 40 (.agg #[.int .i64 at_, .int .i64 c])
/-- a fault that is thrown -/
def faultE (at_ c : Int) : Ending := .panicked [{ v := faultV at_ c, recovered := false }]
/-- what a reader leaves -/
def Post (C : Nat) (a : Option Addr) (L : List Wo) (cap : Nat) (O : ByteArray) (w : World) (r : Got (Bs × Nat)) (e : Ending) (w' : World) : Prop :=
  EffW C w w' ∧ match r with
  | .error x => e = faultE x.1 x.2
  | .ok y => e = .returned (.string ⟨y.1.toArray⟩) ∧ AtW w' C a L cap O y.2
/-- the same of a word -/
def PostW (C : Nat) (a : Option Addr) (L : List Wo) (cap : Nat) (O : ByteArray) (w : World) (k : Nat) (e : Ending) (w' : World) : Prop :=
  EffW C w w' ∧ match L[k]? with
  | none => e = faultE (L.length : Int) 2
  | some x => e = .returned (.agg #[.string x.s, .bool x.q]) ∧ AtW w' C a L cap O (k + 1)
/-- and of a word without quotes -/
def PostP (C : Nat) (a : Option Addr) (L : List Wo) (cap : Nat) (O : ByteArray) (w : World) (k : Nat) (e : Ending) (w' : World) : Prop :=
  EffW C w w' ∧ match L[k]? with
  | none => e = faultE (L.length : Int) 2
  | some x => if x.q then e = faultE (k : Int) 2 else e = .returned (.string x.s) ∧ AtW w' C a L cap O (k + 1)
end Go.Proofs.YtkcpbjoolfojjaaGreatDoor.wd
namespace Go.Proofs.YtkcpbjoolfojjaaGreatDoor.wdA
open Go.RowKit Go.Proofs.YtkcpbjoolfojjaaGreatDoor.kit Go.Proofs.YtkcpbjoolfojjaaGreatDoor.nspec Go.Proofs.YtkcpbjoolfojjaaGreatDoor.fld Go.Proofs.YtkcpbjoolfojjaaGreatDoor.rdP Go.Proofs.YtkcpbjoolfojjaaGreatDoor.rdQ Go.Proofs.YtkcpbjoolfojjaaGreatDoor.wd
set_option linter.unusedVariables false

theorem EffW.alloc (C : Nat) (w : World) (o : Obj) : EffW C w (w.alloc o) := EffW.of_below ((Below.refl w.heap.size w).alloc (Nat.le_refl _) o)
/-- the block that a word is handed back in -/
abbrev wordO (s : ByteArray) (q : Bool) : Obj := .cells #[.string s, .bool q] 24
set_option maxRecDepth 100000 in
set_option maxHeartbeats 2000000 in
theorem any_no (C : Nat) (a : Option Addr) (L : List Wo) (cap : Nat) (O : ByteArray) (k : Nat) (w : World) (h : AtW w C a L cap O k) (hk : L[k]? = none) :
    Calls Tryz.prog 67 #[.pointer (some ⟨C, 0, none⟩)] w (PostW C a L cap O w k) := by
  unfold PostW
  rw [hk]
  have hkl := h.kl
  have hke : L.length = k := by have := List.getElem?_eq_none_iff.1 hk; omega
  have hf := h.few
  have hB := (Below.refl w.heap.size w).alloc (Nat.le_refl _) (wordO ByteArray.empty false)
  have h1 := h.below hB
  have HE := Lib.hid (EffW.alloc C w (wordO ByteArray.empty false))
  obtain ⟨w1, hw1⟩ : ∃ w1, w.alloc (wordO ByteArray.empty false) = w1 := ⟨_, rfl⟩
  rw [hw1] at h1 HE
  have HW1 := Lib.hid hw1
  have k0 := h1.c0; have k1 := h1.c1
  rw [hke] at k0 hf ⊢
  clear hk h hke hkl h1 hw1 hB
  go_enter Tryz.func67, Tryz.ntmps67
  go_upto_region 1 with fail
  change Code.wp _ _ _ _ (w.alloc (wordO ByteArray.empty false))
  rw [HW1.out]
  go_wp2_with fail
  go_quiet (fail)
  go_wp2_with fail
  exact ⟨rfl, HE.out.trans (EffW.drewN _ _ _), rfl⟩
set_option maxRecDepth 100000 in
set_option maxHeartbeats 2000000 in
theorem any_yes (C : Nat) (a : Option Addr) (L : List Wo) (cap : Nat) (O : ByteArray) (k : Nat) (w : World) (h : AtW w C a L cap O k) (x : Wo) (hk : L[k]? = some x) :
    Calls Tryz.prog 67 #[.pointer (some ⟨C, 0, none⟩)] w (PostW C a L cap O w k) := by
  unfold PostW
  rw [hk]
  have hB := (Below.refl w.heap.size w).alloc (Nat.le_refl _) (wordO ByteArray.empty false)
  have h1 := h.below hB
  have hnew := heap_alloc_new w (wordO ByteArray.empty false)
  have hCn : C ≠ w.heap.size := by have := h.lt; omega
  have HE := Lib.hid (EffW.alloc C w (wordO ByteArray.empty false))
  obtain ⟨w1, hw1⟩ : ∃ w1, w.alloc (wordO ByteArray.empty false) = w1 := ⟨_, rfl⟩
  rw [hw1] at h1 HE hnew
  have HW1 := Lib.hid hw1
  obtain ⟨N, hN⟩ : ∃ N, w.heap.size = N := ⟨_, rfl⟩
  rw [hN] at hnew hCn
  have HN := Lib.hid hN
  have H := Lib.hid h1
  have H0 := Lib.hid h
  obtain ⟨g, o, rfl, hg, hgC, hs, hq⟩ := h1.rd k x hk
  have k0 := h1.c0; have k1 := h1.c1; have hlt := h1.lt; have hf := h1.few; have z1 := h1.z 1
  have n0 : w1.frozen? ⟨N, 0, none⟩ = false := by simp only [World.frozen?, hnew]; simp
  have n1 : w1.frozen? ⟨N, 1, none⟩ = false := by simp only [World.frozen?, hnew]; simp
  have v0 : w1.cell? ⟨N, 0, none⟩ = some (.string ByteArray.empty) := by simp only [World.cell?, hnew]; rfl
  have v1 : w1.cell? ⟨N, 1, none⟩ = some (.bool false) := by simp only [World.cell?, hnew]; rfl
  obtain ⟨_, hkl⟩ := h1.one hk
  obtain ⟨n, hn⟩ : ∃ n, L.length = n := ⟨_, rfl⟩
  rw [hn] at k0 hf hkl
  have HLN := Lib.hid hn
  have HK := Lib.hid hk
  have hki : (k : Int) < (n : Int) := by omega
  have HNEW := Lib.hid hnew
  have HCN := Lib.hid hCn
  clear hk h hn h1 hB hw1 hN hnew hs hq
  go_enter Tryz.func67, Tryz.ntmps67
  go_upto_region 1 with fail
  change Code.wp _ _ _ _ (w.alloc (wordO ByteArray.empty false))
  rw [HW1.out, HN.out]
  go_wp2_with fail
  go_quiet (fail)
  go_upto_region 4 with fail
  have hm := (H.out.drewN nq).move (k + 1) (by have := (H.out.one HK.out).2; omega)
  rw [show ((k + 1 : Nat) : Int) = (k : Int) + 1 from rfl] at hm
  have hnew2 : ((w1.drewN nq).setCell ⟨C, 1, none⟩ (.int .i64 ((k : Int) + 1))).heap[N]? = some (wordO ByteArray.empty false) := (hm.2.kept N (by have := (Array.getElem?_eq_some_iff.1 HNEW.out).1; exact this) (fun e => HCN.out e.symm)).trans HNEW.out
  have he2 := HE.out.trans ((EffW.drewN C w1 nq).trans hm.2)
  obtain ⟨w2, hw2⟩ : ∃ w2, (w1.drewN nq).setCell ⟨C, 1, none⟩ (.int .i64 ((k : Int) + 1)) = w2 := ⟨_, rfl⟩
  rw [hw2] at hm hnew2 he2 ⊢
  obtain ⟨g', o', e', hg2, hgC2, hs, hq⟩ := hm.1.rd k x HK.out
  cases e'
  have k0 := hm.1.c0; have k1 := hm.1.c1; have hlt := hm.1.lt; have z1 := hm.1.z 1
  have n0 : w2.frozen? ⟨N, 0, none⟩ = false := by simp only [World.frozen?, hnew2]; simp
  have n1 : w2.frozen? ⟨N, 1, none⟩ = false := by simp only [World.frozen?, hnew2]; simp
  have v0 : w2.cell? ⟨N, 0, none⟩ = some (.string ByteArray.empty) := by simp only [World.cell?, hnew2]; rfl
  have v1 : w2.cell? ⟨N, 1, none⟩ = some (.bool false) := by simp only [World.cell?, hnew2]; rfl
  have HNEW2 := Lib.hid hnew2
  have HM := Lib.hid hm.1
  have HE2 := Lib.hid he2
  rw [HLN.out] at k0
  clear hm hnew2 he2 hw2 hlt
  go_region
  go_wp2_with fail
  have e1 := heap_setCell_same w2 N 0 _ _ (.string x.s) HNEW2.out
  have e2 := heap_setCell_same _ N 1 _ _ (.bool x.q) e1
  have hC := (Below.heap_setCell (w2.setCell ⟨N, 0, none⟩ (.string x.s)) ⟨N, 1, none⟩ (.bool x.q) C HCN.out).trans ((Below.heap_setCell w2 ⟨N, 0, none⟩ (.string x.s) C HCN.out).trans HM.out.blk)
  have he := ((HE2.out.setNew (N := N) (i := 0) (v := .string x.s) (Nat.le_of_eq HN.out)).setNew (N := N) (i := 1) (v := .bool x.q) (Nat.le_of_eq HN.out)).drew
  have c0 : ((w2.setCell ⟨N, 0, none⟩ (.string x.s)).setCell ⟨N, 1, none⟩ (.bool x.q)).drew.cell? ⟨N, 0, none⟩ = some (.string x.s) := by
    show ((w2.setCell ⟨N, 0, none⟩ (.string x.s)).setCell ⟨N, 1, none⟩ (.bool x.q)).cell? ⟨N, 0, none⟩ = _
    simp only [World.cell?, e2]; rfl
  have c1 : ((w2.setCell ⟨N, 0, none⟩ (.string x.s)).setCell ⟨N, 1, none⟩ (.bool x.q)).drew.cell? ⟨N, 1, none⟩ = some (.bool x.q) := by
    show ((w2.setCell ⟨N, 0, none⟩ (.string x.s)).setCell ⟨N, 1, none⟩ (.bool x.q)).cell? ⟨N, 1, none⟩ = _
    simp only [World.cell?, e2]; rfl
  have hA := H0.out.later he hC (H0.out.one HK.out).2
  obtain ⟨W, hW⟩ : ∃ W, ((w2.setCell ⟨N, 0, none⟩ (.string x.s)).setCell ⟨N, 1, none⟩ (.bool x.q)).drew = W := ⟨_, rfl⟩
  rw [hW] at he c0 c1 hA ⊢
  refine ⟨rfl, _, ?_, he, rfl, hA⟩
  simp [results, Tryz.results67, asAddr, go_sem, c0, c1]
theorem any_any (C : Nat) (a : Option Addr) (L : List Wo) (cap : Nat) (O : ByteArray) (k : Nat) (w : World) (h : AtW w C a L cap O k) :
    Calls Tryz.prog 67 #[.pointer (some ⟨C, 0, none⟩)] w (PostW C a L cap O w k) := by
  cases hk : L[k]? with
  | none => exact any_no C a L cap O k w h hk
  | some x => exact any_yes C a L cap O k w h x hk
set_option maxRecDepth 100000 in
set_option maxHeartbeats 2000000 in
/-- the word taken last is not right -/
theorem bad_any (C : Nat) (a : Option Addr) (L : List Wo) (cap : Nat) (O : ByteArray) (k : Nat) (c : Int) (w : World) (h : AtW w C a L cap O (k + 1)) :
    Calls Tryz.prog 39 #[.pointer (some ⟨C, 0, none⟩), .int .i64 c] w fun e w' => e = faultE (k : Int) c ∧ w' = w := by
  have k1 := h.c1
  have hf := h.few; have hkl := h.kl
  rw [show ((k + 1 : Nat) : Int) = (k : Int) + 1 from rfl] at k1
  have hk : (k : Int) ≤ 1048576 := by omega
  clear h
  go_enter Tryz.func39, Tryz.ntmps39
  go_wp2_with fail
  exact ⟨rfl, rfl, rfl⟩
set_option maxRecDepth 100000 in
set_option maxHeartbeats 2000000 in
theorem plain_any (C : Nat) (a : Option Addr) (L : List Wo) (cap : Nat) (O : ByteArray) (k : Nat) (w : World) (h : AtW w C a L cap O k) :
    Calls Tryz.prog 38 #[.pointer (some ⟨C, 0, none⟩)] w (PostP C a L cap O w k) := by
  have CA := Lib.hid (any_any C a L cap O k w h)
  unfold PostW at CA
  unfold PostP
  cases hk : L[k]? with
  | none =>
    rw [hk] at CA
    clear hk h
    go_enter Tryz.func38, Tryz.ntmps38
    go_wp2_with fail
    refine CA.out.mono ?_
    rintro e w1 ⟨he, rfl⟩
    unfold faultE
    go_wp2_with fail
    exact ⟨rfl, he, rfl⟩
  | some x =>
    rw [hk] at CA
    have CB := Lib.hid (fun w => bad_any C a L cap O k 2 w)
    obtain ⟨s, q⟩ := x
    clear hk h
    cases q with
    | true =>
      go_enter Tryz.func38, Tryz.ntmps38
      go_wp2_with fail
      refine CA.out.mono ?_
      rintro e w1 ⟨he, rfl, hA⟩
      have hB := (Below.refl w1.heap.size w1).alloc (Nat.le_refl _) (wordO s true)
      have CB := Lib.hid (CB.out _ (hA.below hB))
      have HE := Lib.hid (he.trans (EffW.of_below hB))
      clear he hA hB
      go_wp2_with fail
      refine CB.out.mono ?_
      rintro e w2 ⟨rfl, rfl⟩
      unfold faultE
      go_wp2_with fail
      exact ⟨rfl, HE.out, rfl⟩
    | false =>
      go_enter Tryz.func38, Tryz.ntmps38
      go_wp2_with fail
      refine CA.out.mono ?_
      rintro e w1 ⟨he, rfl, hA⟩
      have hB := (Below.refl w1.heap.size w1).alloc (Nat.le_refl _) (wordO s false)
      have HA := Lib.hid (hA.below hB)
      have HE := Lib.hid (he.trans (EffW.of_below hB))
      clear he hA hB
      go_wp2_with fail
      go_ret
      exact ⟨HE.out, rfl, HA.out⟩
end Go.Proofs.YtkcpbjoolfojjaaGreatDoor.wdA
namespace Go.Proofs.YtkcpbjoolfojjaaGreatDoor.wdB
open Go.RowKit Go.Proofs.YtkcpbjoolfojjaaGreatDoor.kit Go.Proofs.YtkcpbjoolfojjaaGreatDoor.nspec Go.Proofs.YtkcpbjoolfojjaaGreatDoor.fld Go.Proofs.YtkcpbjoolfojjaaGreatDoor.bits Go.Proofs.YtkcpbjoolfojjaaGreatDoor.bld Go.Proofs.YtkcpbjoolfojjaaGreatDoor.coded Go.Proofs.YtkcpbjoolfojjaaGreatDoor.reader Go.Proofs.YtkcpbjoolfojjaaGreatDoor.big Go.Proofs.YtkcpbjoolfojjaaGreatDoor.rdP Go.Proofs.YtkcpbjoolfojjaaGreatDoor.rdQ Go.Proofs.YtkcpbjoolfojjaaGreatDoor.wd Go.Proofs.YtkcpbjoolfojjaaGreatDoor.wdA
set_option linter.unusedVariables false

theorem own_eff {C B : Nat} {w w' : World} {e size n : Nat} {v : Value} {xs : List Value} (h : w.ownsRow B e size v n xs) (hb : EffW C w w') (hC : C < B) : w'.ownsRow B e size v n xs := by
  refine ⟨h.1, h.2.imp id ?_⟩
  rintro ⟨g, cap, cur, h1, h2, h3, h4⟩
  exact ⟨g, cap, cur, h1, h2, (hb.kept g (Array.getElem?_eq_some_iff.1 h3).1 (by omega)).trans h3, h4⟩
theorem bld_eff {C B b : Nat} {l : Bs} {w w' : World} (h : Bld B b l w) (hE : EffW C w w') (hC : C < B) : Bld B b l w' := by
  have key : ∀ p, Lib.BuilderAt 52 5 B b p (Lib.byteCells l) w → Lib.BuilderAt 52 5 B b p (Lib.byteCells l) w' := by
    intro p h
    have hlt := h.lt
    obtain ⟨h1, v, h2, h3, h4⟩ := h
    exact ⟨h1, v, (hE.kept b hlt (by omega)).trans h2, own_eff h3 hE hC, h4⟩
  rcases h with h | h
  · exact .inl (key _ h)
  · exact .inr (key _ h)
theorem bld_drewN {B b : Nat} {l : Bs} {w : World} (h : Bld B b l w) (n : Nat) : Bld B b l (w.drewN n) := bld_below h ⟨rfl, rfl, rfl, Nat.le_refl _, fun _ _ => rfl⟩
/-- what was written above does not touch the words -/
theorem on_below {w0 w1 w2 : World} {C : Nat} {a : Option Addr} {L : List Wo} {cap k0 k : Nat} {O : ByteArray} (h0 : AtW w0 C a L cap O k0) (hA : AtW w1 C a L cap O k) (he : EffW C w0 w1) (hb : Below w0.heap.size w1 w2) : AtW w2 C a L cap O k ∧ EffW C w0 w2 := by
  have he2 : EffW C w0 w2 := ⟨hb.os.trans he.os, hb.tape.trans he.tape, hb.output.trans he.output, Nat.le_trans he.size hb.size, fun j hj hn => (hb.block j hj).trans (he.kept j hj hn)⟩
  exact ⟨h0.later he2 ((hb.block C h0.lt).trans hA.blk) hA.kl, he2⟩
/-- the words put together are not too long -/
theorem rest_len : ∀ (W : List Wo) (k : Nat) (d : Bs), restW W k = .ok d → (∀ x ∈ W, x.s.size ≤ 1048576) → d.length ≤ 1048576 * W.length
  | [], k, d, h, _ => by simp [restW] at h; subst h; simp
  | w :: r, k, d, h, hs => by
    rw [restW] at h
    split at h
    · cases h
    · cases hr : restW r (k + 1) with
      | error e => rw [hr] at h; cases h
      | ok x =>
        rw [hr] at h
        simp only [Except.ok.injEq] at h
        subst h
        have h1 := rest_len r (k + 1) x hr (fun y hy => hs y (by simp [hy]))
        have h2 := hs w (by simp)
        rw [List.length_append, size_len, List.length_cons]
        omega
/-- what rest leaves -/
def PostR (C : Nat) (a : Option Addr) (L : List Wo) (cap : Nat) (O : ByteArray) (w : World) (k : Nat) (e : Ending) (w' : World) : Prop :=
  EffW C w w' ∧ match restW (L.drop k) k with
  | .error j => e = faultE j 2
  | .ok d => e = .returned (.tuple #[.string ⟨d.toArray⟩, .int .i64 (k : Int)]) ∧ AtW w' C a L cap O L.length
set_option maxRecDepth 100000 in
set_option maxHeartbeats 4000000 in
theorem rest_any (C : Nat) (a : Option Addr) (L : List Wo) (cap : Nat) (O : ByteArray) (k : Nat) (w : World) (h : AtW w C a L cap O k) :
    Calls Tryz.prog 40 #[.pointer (some ⟨C, 0, none⟩)] w (PostR C a L cap O w k) := by
  unfold PostR
  obtain ⟨R, HR⟩ : ∃ R, Hid (addR [] (restW (L.drop k) k) = R) := ⟨_, Lib.hid rfl⟩
  have HR0 : Hid (restW (L.drop k) k = R) := Lib.hid (by rw [← HR.out, addR_nil])
  have HLEN : Hid (∀ d, R = .ok d → d.length ≤ 1099511627776) := Lib.hid (fun d hd => by
    have h1 := rest_len _ _ d (HR0.out.trans hd) (fun x hx => h.sm x (List.mem_of_mem_drop hx))
    have h2 := h.few
    rw [List.length_drop] at h1
    have h3 : 1048576 * (L.length - k) ≤ 1048576 * 1048576 := Nat.mul_le_mul_left _ (by omega)
    omega)
  rw [HR0.out]
  have H0 := Lib.hid h
  have hlt := h.lt
  have hfb := Lib.fresh_isBuilder 52 5 w
  have hBa := (Below.refl w.heap.size w).alloc (Nat.le_refl _) (.cells #[.pointer none, .slice none 0 0] 52)
  have hA1 := h.below hBa
  have HE1 := Lib.hid (EffW.of_below (C := C) hBa)
  obtain ⟨w1, hw1⟩ : ∃ w1, w.alloc (.cells #[.pointer none, .slice none 0 0] 52) = w1 := ⟨_, rfl⟩
  rw [hw1] at hfb hA1 HE1
  have HFB := Lib.hid hfb; have HA1 := Lib.hid hA1; have HW1 := Lib.hid hw1
  have k1 := hA1.c1
  have HN := Lib.hid h.few
  have hkl := h.kl
  obtain ⟨n, hn⟩ : ∃ n, L.length = n := ⟨_, rfl⟩
  rw [hn] at hkl
  have HLN := Lib.hid hn
  have hkf : k ≤ 1048576 := by have := h.few; omega
  clear h hfb hA1 hw1 hBa hn
  go_enter Tryz.func40, Tryz.ntmps40
  go_upto_region 2 with fail
  rw [HW1.out]
  go_wp2_with fail
  clear k1
  go_loopg [] (n + 1 - k) (fun gas wr => ∃ (j : Nat) (A : Bs), k ≤ j ∧ j ≤ n ∧ j + gas = n + 1 ∧ A.length ≤ 1048576 * (j - k) ∧ Hid (addR A (restW (L.drop j) j) = R) ∧ Hid (Bld w.heap.size w.heap.size A wr) ∧ Hid (AtW wr C a L cap O j) ∧ Hid (EffW C w wr))
  case atStart => exact ⟨k, [], Nat.le_refl _, by omega, by omega, by simp, HR, HFB, HA1, HE1⟩
  case round =>
    clear HFB HA1 HE1
    obtain ⟨j, A, hkj, hj, hjg, hAl, HW, HB, HA, HE⟩ := hrel
    have HG := Lib.hid hjg; clear hjg
    have k0 := HA.out.c0; have k1 := HA.out.c1
    rw [HLN.out] at k0
    have hltC := HA.out.lt
    by_cases hjn : j < n
    · obtain ⟨x, hx⟩ : ∃ x, L[j]? = some x := ⟨_, List.getElem?_eq_getElem (by rw [HLN.out]; exact hjn)⟩
      have CP := Lib.hid (fun n => plain_any C a L cap O j (wr.drewN n) (HA.out.drewN n))
      unfold PostP at CP
      rw [hx] at CP
      obtain ⟨s, q⟩ := x
      have hjl : (j : Int) < (n : Int) := by omega
      have hss := (HA.out.one hx).1
      cases q with
      | true =>
        have hR := rest_bad HW.out hx rfl
        clear hx
        subst hR
        go_wp2_with fail
        go_quiet (fail)
        go_wp2_with fail
        refine (CP.out _).mono ?_
        rintro e w2 ⟨he, rfl⟩
        unfold faultE
        go_wp2_with fail
        exact ⟨rfl, HE.out.trans ((EffW.drewN _ _ _).trans he), rfl⟩
      | false =>
        have HF := Lib.hid (rest_go HW.out hx rfl)
        have hm : (A ++ s.data.toList).length ≤ 1048576 * (j + 1 - k) := by
          rw [List.length_append, size_len]
          have : s.size ≤ 1048576 := hss
          have e : j + 1 - k = (j - k) + 1 := by omega
          rw [e, Nat.mul_add]; omega
        have hmm : A.length + s.size ≤ 140737488355328 := by
          have : s.size ≤ 1048576 := hss
          have h3 : 1048576 * (j - k) ≤ 1048576 * 1048576 := Nat.mul_le_mul_left _ (by have := HN.out; have := HLN.out; omega)
          omega
        clear hx hss
        go_wp2_with fail
        go_quiet (fail)
        go_wp2_with fail
        refine (CP.out _).mono ?_
        rintro e w2 ⟨he, rfl, hA2⟩
        have HE2 := Lib.hid (HE.out.trans ((EffW.drewN C wr nq).trans he))
        have HB2 := Lib.hid (bld_eff (bld_drewN HB.out nq) he H0.out.lt)
        have HA2 := Lib.hid hA2
        have HWS := Lib.hid (ws w.heap.size w.heap.size A s w2 HB2.out hmm HE2.out.size)
        clear he hA2
        go_wp2_with fail
        refine HWS.out.mono ?_
        rintro e w3 ⟨rfl, hb3, hB3⟩
        obtain ⟨hA3, he3⟩ := on_below H0.out HA2.out HE2.out hB3
        have HB3 := Lib.hid hb3; have HA3 := Lib.hid hA3; have HE3 := Lib.hid he3
        clear hb3 hB3 hA3 he3
        go_wp2_with fail
        have hjg := HG.out
        go_roundg (gk - 1)
        case rel => exact ⟨j + 1, _, by omega, by omega, by omega, hm, HF, HB3, HA3, HE3⟩
        case measure => omega
    · have hje : j = n := by omega
      subst hje
      have hR := rest_end HW.out (Nat.le_of_eq HLN.out)
      have hAl2 := HLEN.out A hR
      subst hR
      have CS := Lib.hid (fun n => Tryz.Builder_String_any _ _ A (wr.drewN n) (bld_drewN HB.out n) (show w.heap.size ≤ (wr.drewN n).heap.size from HE.out.size))
      go_wp2_with fail
      go_quiet (fail)
      go_wp2_with fail
      refine (CS.out _).mono ?_
      rintro e w2 ⟨rfl, hE2⟩
      go_wp2_with fail
      obtain ⟨hA3, he3⟩ := on_below H0.out (HA.out.drewN nq) (HE.out.trans (EffW.drewN C wr nq)) hE2
      go_ret2
      exact ⟨he3, rfl, by rw [HLN.out]; exact hA3⟩
/-- a digit of sixteen, or -1 -/
def nibI (c : UInt8) : Int := match val16 c with
  | some x => (x : Int)
  | none => -1
theorem nib_cases (c : UInt8) : (∃ x : Nat, val16 c = some x ∧ x < 16 ∧ nibI c = (x : Int) ∧ ((48 ≤ c.toNat ∧ c.toNat ≤ 57 ∧ x + 48 = c.toNat) ∨ (97 ≤ c.toNat ∧ c.toNat ≤ 102 ∧ x + 87 = c.toNat) ∨ (65 ≤ c.toNat ∧ c.toNat ≤ 70 ∧ x + 55 = c.toNat))) ∨ (val16 c = none ∧ nibI c = -1 ∧ (c.toNat < 48 ∨ (57 < c.toNat ∧ c.toNat < 65) ∨ (70 < c.toNat ∧ c.toNat < 97) ∨ 102 < c.toNat)) := by
  unfold nibI val16
  by_cases h1 : 48 ≤ c.toNat ∧ c.toNat ≤ 57
  · rw [if_pos h1]
    exact .inl ⟨_, rfl, by omega, rfl, by omega⟩
  · rw [if_neg h1]
    by_cases h2 : 97 ≤ c.toNat ∧ c.toNat ≤ 102
    · rw [if_pos h2]
      exact .inl ⟨_, rfl, by omega, rfl, by omega⟩
    · rw [if_neg h2]
      by_cases h3 : 65 ≤ c.toNat ∧ c.toNat ≤ 70
      · rw [if_pos h3]
        exact .inl ⟨_, rfl, by omega, rfl, by omega⟩
      · rw [if_neg h3]
        exact .inr ⟨rfl, rfl, by omega⟩
set_option maxRecDepth 100000 in
set_option maxHeartbeats 2000000 in
theorem nibble_any (c : UInt8) (w : World) : Calls Tryz.prog 68 #[.int .u8 (c.toNat : Int)] w fun e w' => e = .returned (.int .i64 (nibI c)) ∧ w' = w := by
  have hc := byte_lt c
  rcases nib_cases c with ⟨x, _, hx, hn, hcc⟩ | ⟨_, hn, hcc⟩
  · have HN := Lib.hid hn
    obtain ⟨z, hz⟩ : ∃ z : Int, (c.toNat : Int) = z := ⟨_, rfl⟩
    have hz' : 48 ≤ z ∧ z ≤ 57 ∧ (x : Int) = z - 48 ∨ 97 ≤ z ∧ z ≤ 102 ∧ (x : Int) = z - 97 + 10 ∨ 65 ≤ z ∧ z ≤ 70 ∧ (x : Int) = z - 65 + 10 := by omega
    rw [hz] at hc ⊢
    clear hn hcc hz
    rcases hz' with ⟨h1, h2, h3⟩ | ⟨h1, h2, h3⟩ | ⟨h1, h2, h3⟩
    all_goals
      rw [HN.out]
      have H3 := Lib.hid h3
      clear h3
      go_enter Tryz.func68, Tryz.ntmps68
      go_wp2_with fail
      go_ret
      exact ⟨by rw [H3.out]; rfl, rfl⟩
  · rw [hn]
    obtain ⟨z, hz⟩ : ∃ z : Int, (c.toNat : Int) = z := ⟨_, rfl⟩
    have hz' : z < 48 ∨ (57 < z ∧ z < 65) ∨ (70 < z ∧ z < 97) ∨ 102 < z := by omega
    rw [hz] at hc ⊢
    clear hn hcc hz
    rcases hz' with h1 | ⟨h1, h2⟩ | ⟨h1, h2⟩ | h1
    all_goals
      go_enter Tryz.func68, Tryz.ntmps68
      go_wp2_with fail
      go_ret
      exact ⟨rfl, rfl⟩
set_option maxRecDepth 100000 in
set_option maxHeartbeats 2000000 in
theorem big_any (v n : Nat) (w : World) (hv : v ≤ 4611686018427387904) (hn : n ≤ 8) :
    Calls Tryz.prog 135 #[.int .i64 (v : Int), .int .i64 (n : Int)] w fun e w' => e = .returned (.string ⟨(bigS v n).toArray⟩) ∧ Below w.heap.size w w' := by
  obtain ⟨i0, hi, hz0, hz1, hz2⟩ := info_parts infoByte
  go_enter Tryz.func135, Tryz.ntmps135
  go_wp2_with (refine wpList_make_full _ rfl (.tmp 7) (.tmp 7) 50 rfl w.heap.size 5 i0 (.int .u8 0) 1 Tryz.underlying50 hi hz0 hz1 .i64 .i64 (n : Int) (n : Int) n rfl rfl rfl rfl ?b2 ?b3 (Nat.le_refl _) ?_)
  case b2 => rw [hz2]; omega
  case b3 => unfold maxLen; omega
  intro w1 hown hgrow
  have hown1 : w1.ownsRow w.heap.size 5 1 (.slice (some ⟨w.heap.size, 0, none⟩) n n) n (Lib.byteCells (bigTo v n 0)) := by
    rw [bigTo_zero]
    have h1 := hown
    rw [toList_madeCells_one] at h1
    have h2 : Lib.byteCells (List.replicate n 0) = List.replicate n (.int .u8 0) := by simp [Lib.byteCells]
    rw [h2]; exact h1
  have hB1 : Below w.heap.size w w1 := (Below.refl _ w).grown hgrow (Nat.le_refl _) (fun k hk => by cases hk)
  clear hown hgrow
  go_wp2
  go_loopg [6, 11] (n + 1) (fun gas _ kv wr => ∃ (k : Nat), kv = .int .i64 k ∧ k ≤ n ∧ k + gas = n + 1 ∧ wr.ownsRow w.heap.size 5 1 (.slice (some ⟨w.heap.size, 0, none⟩) n n) n (Lib.byteCells (bigTo v n k)) ∧ Below w.heap.size w wr)
  case atStart => exact ⟨0, rfl, by omega, by omega, hown1, hB1⟩
  case round =>
    clear hown1 hB1
    obtain ⟨k, rfl, hk, hkg, hO, hB⟩ := hrel
    have HK := Lib.hid hkg; clear hkg
    by_cases hlt : k < n
    · obtain ⟨e, he⟩ : ∃ e, 8 * (n - 1 - k) = e := ⟨_, rfl⟩
      have he8 : (e : Int) ≤ 56 := by omega
      have hsub : Value.int .i64 (8 * ((n : Int) - 1 - (k : Int))) = Value.int .i64 (e : Int) := by congr 1; omega
      have HS := Lib.hid (bigTo_set v n k hlt)
      rw [he] at HS
      obtain ⟨c, hc⟩ : ∃ c : UInt8, UInt8.ofNat (v / 2 ^ e % 256) = c := ⟨_, rfl⟩
      rw [hc] at HS
      have hcv : Value.int .u8 ((v : Int) / 2 ^ e % 256) = Value.int .u8 (c.toNat : Int) := by
        rw [← hc, UInt8.toNat_ofNat']; congr 1; simp
      obtain ⟨x, hx⟩ : ∃ x, (bigTo v n k)[k]? = some x := ⟨_, List.getElem?_eq_getElem (by rw [bigTo_len v n k (by omega)]; exact hlt)⟩
      have hcell : w.heap.size < wr.heap.size + 1 := by have := hB.size; omega
      have c0 : wr.cell? ⟨w.heap.size, k, none⟩ = some (.int .u8 (x.toNat : Int)) := by
        rw [hO.cellAt k (by omega)]; simp [Lib.byteCells, hx]
      have f0 : wr.frozen? ⟨w.heap.size, k, none⟩ = false := hO.frozenAt k
      have hst := (hO.stored k (.int .u8 (c.toNat : Int))).1
      rw [byteCells_set, HS.out] at hst
      have HST := Lib.hid hst
      have hBs := hB.setCell (p := ⟨w.heap.size, k, none⟩) (Nat.le_refl _) (.int .u8 (c.toNat : Int))
      have HBS := Lib.hid hBs
      clear hst hBs he hc hx
      go_wp2
      have hkg := HK.out
      go_roundg (gk - 1)
      case rel => exact ⟨k + 1, by go_num, by omega, by omega, by first | exact HST.out | (rw [hcv]; exact HST.out), by first | exact HBS.out | (rw [hcv]; exact HBS.out)⟩
      case measure => omega
    · have hkn : k = n := by omega
      subst hkn
      rw [bigTo_end] at hO
      have hst := own_string (P := Tryz.prog) (l := bigS v k) (v := .slice (some ⟨w.heap.size, 0, none⟩) k k) (by rw [bigS_len]; exact hO) 50 9 5 Tryz.underlying50 Tryz.underlying5 Tryz.underlying9
      go_wp2
      go_ret
      exact ⟨rfl, hB⟩

end Go.Proofs.YtkcpbjoolfojjaaGreatDoor.wdB
namespace Go.Proofs.YtkcpbjoolfojjaaGreatDoor.escaped
open Go.RowKit Go.Proofs.YtkcpbjoolfojjaaGreatDoor.kit Go.Proofs.YtkcpbjoolfojjaaGreatDoor.nspec Go.Proofs.YtkcpbjoolfojjaaGreatDoor.readS
set_option linter.unusedVariables false

theorem below_drewN (B : Nat) (w : World) (n : Nat) : Below B w (w.drewN n) := ⟨rfl, rfl, rfl, Nat.le_refl _, fun _ _ => rfl⟩
def digAt (l : Bs) (j : Nat) : Bool := match l[j]? with | none => false | some c => digB c
theorem digAt_out {s : ByteArray} {j : Nat} (h : s.size ≤ j) : digAt s.data.toList j = false := by
  unfold digAt; rw [List.getElem?_eq_none (by rw [size_len]; exact h)]
theorem digAt_in {s : ByteArray} {j : Nat} (h : j < s.size) : digAt s.data.toList j = digB s[j] := by
  unfold digAt
  have : s.data.toList[j]? = some s[j] := List.getElem?_eq_getElem (by rw [size_len]; exact h)
  rw [this]

set_option maxRecDepth 100000 in
set_option maxHeartbeats 400000 in
theorem dig_any (s : ByteArray) (j : Nat) (g : Nat) (w : World) (hs : s.size ≤ 1099511627776) (hj : j ≤ 1099511627800) (hc : w.cell? ⟨g, 0, none⟩ = some (.string s)) :
    Calls Tryz.prog 150 #[.int .i64 (j : Int), .pointer (some ⟨g, 0, none⟩)] w fun e w' => e = .returned (.bool (digAt s.data.toList j)) ∧ w' = w := by
  by_cases hlt : j < s.size
  · rw [digAt_in hlt]
    have hc256 := byte_lt s[j]
    have hlti : (j : Int) < (s.size : Int) := by omega
    by_cases h1 : (48 : Int) ≤ (s[j].toNat : Int)
    · by_cases h2 : (s[j].toNat : Int) ≤ 57
      · have HD := Lib.hid (digB_yes (c := s[j]) ⟨by omega, by omega⟩)
        go_enter Tryz.func150, Tryz.ntmps150
        go_wp2
        go_ret
        exact ⟨by rw [HD.out]; rfl, rfl⟩
      · have HD := Lib.hid (digB_no (c := s[j]) (.inr (by omega)))
        have h2 : (57 : Int) < (s[j].toNat : Int) := by omega
        go_enter Tryz.func150, Tryz.ntmps150
        go_wp2
        go_ret
        exact ⟨by rw [HD.out]; rfl, rfl⟩
    · have HD := Lib.hid (digB_no (c := s[j]) (.inl (by omega)))
      have h2 : (s[j].toNat : Int) < 48 := by omega
      go_enter Tryz.func150, Tryz.ntmps150
      go_wp2
      go_ret
      exact ⟨by rw [HD.out]; rfl, rfl⟩
  · have HD := Lib.hid (digAt_out (s := s) (j := j) (by omega))
    have hge : (s.size : Int) ≤ (j : Int) := by omega
    go_enter Tryz.func150, Tryz.ntmps150
    go_wp2
    go_ret
    exact ⟨by rw [HD.out]; rfl, rfl⟩

theorem dig_at (s : ByteArray) (j : Int) (n : Nat) (g : Nat) (w : World) (hj : j = (n : Int)) (hs : s.size ≤ 1099511627776) (hn : n ≤ 1099511627800) (hc : w.cell? ⟨g, 0, none⟩ = some (.string s)) :
    Calls Tryz.prog 150 #[.int .i64 j, .pointer (some ⟨g, 0, none⟩)] w fun e w' => e = .returned (.bool (digAt s.data.toList n)) ∧ w' = w := by
  subst hj; exact dig_any s n g w hs hn hc

def retE : Option (UInt8 × Nat) → Ending
  | none => .returned (.tuple #[.int .u8 0, .int .i64 0])
  | some (b, n) => .returned (.tuple #[.int .u8 (b.toNat : Int), .int .i64 (n : Int)])
theorem esc_none {l : Bs} (h : l = []) : escS l = none := by subst h; rfl
theorem esc_plain {l r : Bs} {d : UInt8} (h : l = d :: r) (hd : digB d = false) : escS l = some (d, 2) := by
  subst h; simp [escS, hd]
theorem esc_bad {l r : Bs} {d : UInt8} (h : l = d :: r) (hd : digB d = true) (h2 : digAt r 0 = false ∨ digAt r 1 = false) : escS l = none := by
  subst h
  match r, h2 with
  | [], _ => simp [escS, hd]
  | [a], _ => simp [escS, hd]
  | a :: b :: t, h2 =>
    have h3 : (digB a && digB b) = false := by
      rw [Bool.and_eq_false_iff]
      simpa [digAt] using h2
    simp [escS, hd, h3]
theorem esc_num {l t : Bs} {d a b : UInt8} (h : l = d :: a :: b :: t) (hd : digB d = true) (ha : digB a = true) (hb : digB b = true) :
    escS l = if 255 < (d.toNat - 48) * 100 + (a.toNat - 48) * 10 + (b.toNat - 48) then none else some (UInt8.ofNat ((d.toNat - 48) * 100 + (a.toNat - 48) * 10 + (b.toNat - 48)), 4) := by
  subst h; simp [escS, hd, ha, hb]
theorem digB_cases (c : UInt8) : (digB c = true ∧ 48 ≤ c.toNat ∧ c.toNat ≤ 57) ∨ digB c = false := by
  cases h : digB c
  · exact .inr rfl
  · left
    unfold digB at h
    rw [Bool.and_eq_true, decide_eq_true_eq, decide_eq_true_eq] at h
    exact ⟨rfl, h.1, h.2⟩
theorem digAt_drop (l : Bs) (k j : Nat) : digAt (l.drop k) j = digAt l (k + j) := by unfold digAt; rw [List.getElem?_drop]

set_option maxRecDepth 100000 in
set_option maxHeartbeats 2000000 in
theorem escaped_any (s : ByteArray) (k : Nat) (w : World) (hs : s.size ≤ 1099511627776) (hk : k < s.size) :
    Calls Tryz.prog 147 #[.string s, .int .i64 (k : Int)] w fun e w' => e = retE (escS (s.data.toList.drop (k + 1))) ∧ Below w.heap.size w w' := by
  obtain ⟨R, HR⟩ : ∃ R, Hid (escS (s.data.toList.drop (k + 1)) = R) := ⟨_, Lib.hid rfl⟩
  rw [HR.out]
  have hBa := (Below.refl w.heap.size w).alloc (Nat.le_refl _) (.cells #[.string s] 9)
  have hbc := (Boxed.new w 9 (.string s)).cell
  by_cases h1 : k + 1 < s.size
  · have h1i : (k : Int) + 1 < (s.size : Int) := by omega
    obtain ⟨d, hd⟩ : ∃ d, s[k + 1] = d := ⟨_, rfl⟩
    have HDR : Hid (s.data.toList.drop (k + 1) = d :: s.data.toList.drop (k + 1 + 1)) := Lib.hid (by rw [drop_cons s (k + 1) h1, hd])
    have hx1 : digAt s.data.toList (k + 1) = digB d := by rw [digAt_in h1, hd]
    have C1 := Lib.hid (dig_at s ((k : Int) + 1) (k + 1) w.heap.size _ (by omega) hs (by omega) hbc)
    have C2 := Lib.hid (dig_at s ((k : Int) + 2) (k + 2) w.heap.size _ (by omega) hs (by omega) hbc)
    have C3 := Lib.hid (dig_at s ((k : Int) + 3) (k + 3) w.heap.size _ (by omega) hs (by omega) hbc)
    rw [hx1] at C1
    clear hx1
    rcases digB_cases d with ⟨hd1, hd2, hd3⟩ | hd1
    · rw [hd1] at C1
      cases h2 : digAt s.data.toList (k + 2)
      · have HN : Hid (R = none) := Lib.hid (by rw [← HR.out]; exact esc_bad HDR.out hd1 (.inl (by rw [digAt_drop]; exact h2)))
        rw [h2] at C2
        clear hd hd1 h2 hbc
        go_enter Tryz.func147, Tryz.ntmps147
        go_wp2_with fail
        refine C1.out.mono ?_
        rintro e w1 ⟨rfl, rfl⟩
        go_wp2_with fail
        refine C2.out.mono ?_
        rintro e w1 ⟨rfl, rfl⟩
        go_wp2
        go_ret2
        exact ⟨by rw [HN.out]; rfl, hBa⟩
      · cases h3 : digAt s.data.toList (k + 3)
        · have HN : Hid (R = none) := Lib.hid (by rw [← HR.out]; exact esc_bad HDR.out hd1 (.inr (by rw [digAt_drop]; exact h3)))
          rw [h2] at C2
          rw [h3] at C3
          clear hd hd1 h2 h3 hbc
          go_enter Tryz.func147, Tryz.ntmps147
          go_wp2_with fail
          refine C1.out.mono ?_
          rintro e w1 ⟨rfl, rfl⟩
          go_wp2_with fail
          refine C2.out.mono ?_
          rintro e w1 ⟨rfl, rfl⟩
          go_wp2_with fail
          refine C3.out.mono ?_
          rintro e w1 ⟨rfl, rfl⟩
          go_wp2
          go_ret2
          exact ⟨by rw [HN.out]; rfl, hBa⟩
        · have hl3 : k + 3 < s.size := by
            rcases Nat.lt_or_ge (k + 3) s.size with h | h
            · exact h
            · rw [digAt_out h] at h3; cases h3
          obtain ⟨a, ha⟩ : ∃ a, s[k + 2] = a := ⟨_, rfl⟩
          obtain ⟨b, hb⟩ : ∃ b, s[k + 3] = b := ⟨_, rfl⟩
          have da : digB a = true := by rw [← ha, ← digAt_in (by omega)]; exact h2
          have db : digB b = true := by rw [← hb, ← digAt_in (by omega)]; exact h3
          have HDR3 : Hid (s.data.toList.drop (k + 1) = d :: a :: b :: s.data.toList.drop (k + 4)) := Lib.hid (by
            rw [drop_cons s (k + 1) h1, drop_cons s (k + 2) (by omega), drop_cons s (k + 3) hl3, hd, ha, hb])
          have HE := Lib.hid (esc_num HDR3.out hd1 da db)
          obtain ⟨_, ha2, ha3⟩ := (digB_cases a).resolve_right (by rw [da]; simp)
          obtain ⟨_, hb2, hb3⟩ := (digB_cases b).resolve_right (by rw [db]; simp)
          rw [h2] at C2
          rw [h3] at C3
          have hl3i : (k : Int) + 3 < (s.size : Int) := by omega
          have hd2i : (48 : Int) ≤ (d.toNat : Int) := by omega
          have hd3i : (d.toNat : Int) ≤ 57 := by omega
          have ha2i : (48 : Int) ≤ (a.toNat : Int) := by omega
          have ha3i : (a.toNat : Int) ≤ 57 := by omega
          have hb2i : (48 : Int) ≤ (b.toNat : Int) := by omega
          have hb3i : (b.toNat : Int) ≤ 57 := by omega
          clear hd1 h2 h3 da db
          go_enter Tryz.func147, Tryz.ntmps147
          go_wp2_with fail
          refine C1.out.mono ?_
          rintro e w1 ⟨rfl, rfl⟩
          go_wp2_with fail
          refine C2.out.mono ?_
          rintro e w1 ⟨rfl, rfl⟩
          go_wp2_with fail
          refine C3.out.mono ?_
          rintro e w1 ⟨rfl, rfl⟩
          have HE2 : Hid (R = if 255 < (d.toNat - 48) * 100 + (a.toNat - 48) * 10 + (b.toNat - 48) then none else some (UInt8.ofNat ((d.toNat - 48) * 100 + (a.toNat - 48) * 10 + (b.toNat - 48)), 4)) := Lib.hid (by rw [← HR.out]; exact HE.out)
          obtain ⟨k1, hk1⟩ : ∃ k1 : Nat, k1 = k + 1 := ⟨_, rfl⟩
          obtain ⟨k2, hk2⟩ : ∃ k2 : Nat, k2 = k + 2 := ⟨_, rfl⟩
          obtain ⟨k3, hk3⟩ : ∃ k3 : Nat, k3 = k + 3 := ⟨_, rfl⟩
          obtain ⟨D, hD⟩ : ∃ D : Nat, d.toNat - 48 = D := ⟨_, rfl⟩
          obtain ⟨A, hA⟩ : ∃ A : Nat, a.toNat - 48 = A := ⟨_, rfl⟩
          obtain ⟨B, hB⟩ : ∃ B : Nat, b.toNat - 48 = B := ⟨_, rfl⟩
          obtain ⟨D1, hD1⟩ : ∃ D1 : Nat, D * 100 = D1 := ⟨_, rfl⟩
          obtain ⟨A1, hA1⟩ : ∃ A1 : Nat, A * 10 = A1 := ⟨_, rfl⟩
          obtain ⟨S1, hS1⟩ : ∃ S1 : Nat, D1 + A1 = S1 := ⟨_, rfl⟩
          obtain ⟨S, hS⟩ : ∃ S : Nat, S1 + B = S := ⟨_, rfl⟩
          rw [hD, hA, hB, hD1, hA1, hS1, hS] at HE2
          have hl1 : k1 < s.size := by omega
          have hl2 : k2 < s.size := by omega
          have hl3' : k3 < s.size := by omega
          have hD9 : (D : Int) ≤ 9 := by omega
          have hA9 : (A : Int) ≤ 9 := by omega
          have hB9 : (B : Int) ≤ 9 := by omega
          have hD19 : (D1 : Int) ≤ 900 := by omega
          have hA19 : (A1 : Int) ≤ 90 := by omega
          have hS19 : (S1 : Int) ≤ 990 := by omega
          have hS9 : (S : Int) ≤ 999 := by omega
          have e1 : Value.int .i64 (IntKind.i64.wrap ((k : Int) + 1)) = Value.int .i64 (k1 : Int) := by rw [IntWalk.i64_in _ (by omega)]; congr 1; omega
          have e2 : Value.int .i64 (IntKind.i64.wrap ((k : Int) + 2)) = Value.int .i64 (k2 : Int) := by rw [IntWalk.i64_in _ (by omega)]; congr 1; omega
          have e3 : Value.int .i64 (IntKind.i64.wrap ((k : Int) + 3)) = Value.int .i64 (k3 : Int) := by rw [IntWalk.i64_in _ (by omega)]; congr 1; omega
          have e4 : Value.int .u8 (IntKind.u8.wrap ((d.toNat : Int) - 48)) = Value.int .u8 (D : Int) := by rw [IntKind.wrap_u8]; congr 1; omega
          have e5 : Value.int .u8 (IntKind.u8.wrap ((a.toNat : Int) - 48)) = Value.int .u8 (A : Int) := by rw [IntKind.wrap_u8]; congr 1; omega
          have e6 : Value.int .u8 (IntKind.u8.wrap ((b.toNat : Int) - 48)) = Value.int .u8 (B : Int) := by rw [IntKind.wrap_u8]; congr 1; omega
          have e7 : Value.int .i64 (IntKind.i64.wrap (D : Int)) = Value.int .i64 (D : Int) := by rw [IntWalk.i64_in _ (by omega)]
          have e8 : Value.int .i64 (IntKind.i64.wrap (A : Int)) = Value.int .i64 (A : Int) := by rw [IntWalk.i64_in _ (by omega)]
          have e9 : Value.int .i64 (IntKind.i64.wrap (B : Int)) = Value.int .i64 (B : Int) := by rw [IntWalk.i64_in _ (by omega)]
          have e10 : Value.int .i64 (IntKind.i64.wrap ((D : Int) * 100)) = Value.int .i64 (D1 : Int) := by rw [IntWalk.i64_in _ (by omega)]; congr 1; omega
          have e11 : Value.int .i64 (IntKind.i64.wrap ((A : Int) * 10)) = Value.int .i64 (A1 : Int) := by rw [IntWalk.i64_in _ (by omega)]; congr 1; omega
          have e12 : Value.int .i64 (IntKind.i64.wrap ((D1 : Int) + (A1 : Int))) = Value.int .i64 (S1 : Int) := by rw [IntWalk.i64_in _ (by omega)]; congr 1; omega
          have e13 : Value.int .i64 (IntKind.i64.wrap ((S1 : Int) + (B : Int))) = Value.int .i64 (S : Int) := by rw [IntWalk.i64_in _ (by omega)]; congr 1; omega
          have hd' : s[k1] = d := by subst hk1; exact hd
          have ha' : s[k2] = a := by subst hk2; exact ha
          have hb' : s[k3] = b := by subst hk3; exact hb
          clear hk1 hk2 hk3 hD hA hB hD1 hA1 hS1 hS hd ha hb
          go_wp2
          go_quiet (fail)
          clear e1 e2 e3 e4 e5 e6 e7 e8 e9 e10 e11 e12 e13
          by_cases h255 : 255 < S
          · have h255i : (255 : Int) < (S : Int) := by omega
            go_wp2
            go_ret2
            exact ⟨by rw [HE2.out, if_pos h255]; rfl, hBa.trans (below_drewN _ _ _)⟩
          · have h255i : (S : Int) ≤ 255 := by omega
            go_wp2
            go_ret2
            exact ⟨by rw [HE2.out, if_neg h255]; simp [retE]; omega, hBa.trans (below_drewN _ _ _)⟩
    · have HN : Hid (R = some (d, 2)) := Lib.hid (by rw [← HR.out]; exact esc_plain HDR.out hd1)
      rw [hd1] at C1
      clear hd1
      go_enter Tryz.func147, Tryz.ntmps147
      go_wp2_with fail
      refine C1.out.mono ?_
      rintro e w1 ⟨rfl, rfl⟩
      go_wp2
      go_ret2
      exact ⟨by rw [HN.out]; rfl, hBa⟩
  · have hge : (s.size : Int) ≤ (k : Int) + 1 := by omega
    have HN : Hid (R = none) := Lib.hid (by rw [← HR.out]; exact esc_none (drop_end s (k + 1) (by omega)))
    clear hbc
    go_enter Tryz.func147, Tryz.ntmps147
    go_wp2
    go_ret2
    exact ⟨by rw [HN.out]; rfl, hBa⟩
end Go.Proofs.YtkcpbjoolfojjaaGreatDoor.escaped
