/- data.Names: walk. A file of records: plain. data.hex, data.quoted: walks. gazetteerref1.Hex, Base64, Quote, rows6: walks. gazetteerref1.rows6: walk. -/
import Derived.Test.YtjejmgdpjfdhjaaGreatDoorP13
import Derived.Test.YtjejmgdpjfdhjaaGreatDoorP15
import Derived.Test.YtjejmgdpjfdhjaaGreatDoorP17
import Derived.Test.YtjejmgdpjfdhjaaGreatDoorP9
import Derived.Test.YtjejmgdpjfdhjaaGreatDoorP10
import Derived.Test.YtjejmgdpjfdhjaaGreatDoorP2
import Derived.Test.YtjejmgdpjfdhjaaGreatDoorP16
import Derived.Test.YtjejmgdpjfdhjaaGreatDoorP8
import Derived.Outline
import Derived.Laws.BitsLemmas
namespace Go.Proofs.YtjejmgdpjfdhjaaGreatDoor.dnames
open Go.RowKit Go.Proofs.YtjejmgdpjfdhjaaGreatDoor.kit Go.Proofs.YtjejmgdpjfdhjaaGreatDoor.nspec Go.Proofs.YtjejmgdpjfdhjaaGreatDoor.rsplit Go.Proofs.YtjejmgdpjfdhjaaGreatDoor.fld Go.Proofs.YtjejmgdpjfdhjaaGreatDoor.formW Go.Proofs.YtjejmgdpjfdhjaaGreatDoor.takes Go.Proofs.YtjejmgdpjfdhjaaGreatDoor.hostT Go.Proofs.YtjejmgdpjfdhjaaGreatDoor.splitD Go.Proofs.YtjejmgdpjfdhjaaGreatDoor.dcheck Go.Proofs.YtjejmgdpjfdhjaaGreatDoor.nread
set_option linter.unusedVariables false

def namesS (t : Int) (d : Bs) : List Bs := if checkS t d = 0 then (match formS t, partsS t d with | some fs, some p => namesL fs p | _, _ => []) else []
theorem own_mono {w : World} {base b' : Nat} {e : TypeId} {v : Value} {n size : Nat} {xs : List Value} (h : w.ownsRow base e size v n xs) (hb : b' ≤ base) : w.ownsRow b' e size v n xs := by
  refine ⟨h.1, ?_⟩
  rcases h.2 with h1 | ⟨g, cap, cur, h1, h2, h3⟩
  · exact .inl h1
  · exact .inr ⟨g, cap, cur, h1, Nat.le_trans hb h2, h3⟩
/-- what stands, where it is right: the fields and their bytes -/
theorem parts_ok {t : Int} {d : Bs} {fs : List Fld} (hc : checkS t d = 0) (hf : formS t = some fs) : ∃ p, partsS t d = some p ∧ splitS fs d = some (p, []) ∧ d.length ≤ 65535 := by
  unfold checkS at hc
  split at hc
  · simp at hc
  · split at hc
    · simp at hc
    · rename_i h1 h2
      cases hp : partsS t d with
      | none => rw [hp] at hc; simp at hc
      | some p =>
        refine ⟨p, rfl, ?_, by omega⟩
        unfold partsS at hp
        rw [hf] at hp
        simp only at hp
        cases hs : splitS fs d with
        | none => rw [hs] at hp; simp at hp
        | some q =>
          obtain ⟨q1, q2⟩ := q
          rw [hs] at hp
          cases q2 with
          | nil => simpa using hp
          | cons x r => simp at hp
theorem parts_len : ∀ (fs : List Fld) (d : Bs) (p : List Bs) (r : Bs), splitS fs d = some (p, r) → p.length = fs.length ∧ ∀ x ∈ p, x.length ≤ d.length
  | [], d, p, r, h => by simp only [splitS, Option.some.injEq, Prod.mk.injEq] at h; rw [← h.1]; simp
  | f :: fs, d, p, r, h => by
    simp only [splitS] at h
    split at h
    · simp at h
    · cases hs : splitS fs (d.drop (takeS f d).toNat) with
      | none => rw [hs] at h; simp at h
      | some q =>
        rw [hs] at h
        simp only [Option.map_some, Option.some.injEq, Prod.mk.injEq] at h
        have ih := parts_len fs _ _ _ hs
        rw [← h.1]
        refine ⟨by simp [ih.1], fun x hx => ?_⟩
        rcases List.mem_cons.1 hx with rfl | hx
        · rw [List.length_take]; omega
        · have := ih.2 x hx; rw [List.length_drop] at this; omega
theorem check_len {t : Int} {d : Bs} (hc : checkS t d = 0) : d.length ≤ 65535 := by
  unfold checkS at hc
  split at hc
  · simp at hc
  · split at hc
    · simp at hc
    · omega
theorem names_go {A R : List Bs} {fs : List Fld} {p : List Bs} {k : Nat} {f : Fld} {x : Bs} (h : A ++ namesL (fs.drop k) (p.drop k) = R) (hf : fs[k]? = some f) (hx : p[k]? = some x) : (A ++ (if isHost f then [x] else [])) ++ namesL (fs.drop (k + 1)) (p.drop (k + 1)) = R := by
  obtain ⟨h1, h2⟩ := List.getElem?_eq_some_iff.1 hf
  obtain ⟨h3, h4⟩ := List.getElem?_eq_some_iff.1 hx
  rw [List.drop_eq_getElem_cons h1, h2, List.drop_eq_getElem_cons h3, h4, namesL] at h
  rw [← h]
  split <;> simp

theorem asked (f : Fld) (w : World) : (Instr.typeAssert (fldV f) 41 67 true).run Tryz.prog w = .ok (.tuple #[.agg #[], .bool (isHost f)]) w := by
  cases f <;> kernel_rfl
set_option maxRecDepth 100000 in
theorem split_nil (s : ByteArray) (w : World) (hs : s.size ≤ 65535) :
    Calls Tryz.prog 15 #[.slice none 0 0, .string s] w fun e w' => ∃ b, e = .returned (.tuple #[.slice none 0 0, .bool b]) ∧ w = w' := by
  go_enter Tryz.func15, Tryz.ntmps15
  go_wp2_with fail
  go_loopg [1, 6, 12] 1 (fun gas dv pv kv wr => dv = .string s ∧ pv = .slice none 0 0 ∧ kv = .int .i64 0 ∧ 1 ≤ gas ∧ w = wr)
  case atStart => exact ⟨rfl, rfl, rfl, by omega, rfl⟩
  case round =>
    obtain ⟨rfl, rfl, rfl, hg, rfl⟩ := hrel
    go_wp2_with fail
    go_ret2
    exact ⟨_, rfl, rfl⟩

end Go.Proofs.YtjejmgdpjfdhjaaGreatDoor.dnames
namespace Go.Proofs.YtjejmgdpjfdhjaaGreatDoor.printP
open Go.Proofs.YtjejmgdpjfdhjaaGreatDoor.nspec Go.Proofs.YtjejmgdpjfdhjaaGreatDoor.fld Go.Proofs.YtjejmgdpjfdhjaaGreatDoor.tname Go.Proofs.YtjejmgdpjfdhjaaGreatDoor.dshow Go.Proofs.YtjejmgdpjfdhjaaGreatDoor.wireP Go.Proofs.YtjejmgdpjfdhjaaGreatDoor.zon2 Go.Proofs.YtjejmgdpjfdhjaaGreatDoor.rel Go.Proofs.YtjejmgdpjfdhjaaGreatDoor.rsplit Go.Proofs.YtjejmgdpjfdhjaaGreatDoor.kit Go.Proofs.YtjejmgdpjfdhjaaGreatDoor.showB Go.Proofs.YtjejmgdpjfdhjaaGreatDoor.dnames
set_option linter.unusedVariables false

def headS (o : Bs) : Bs := [36, 79, 82, 73, 71, 73, 78, 32] ++ showS o ++ [10]
/-- what stands behind the owner -/
def restS (x : Rc) : Bs := [9] ++ Lib.decDigits x.l.toNat ++ [9, 73, 78, 9] ++ tnameS x.t ++ [9] ++ showDS x.t x.d.data.toList ++ [10]
def ownerS (prev o : Bs) (x : Rc) : Bs := if x.o.data.toList = prev then [] else relS x.o.data.toList o
def linesS (o : Bs) : Bs → List Rc → Option Bs
  | _, [] => some []
  | prev, x :: r => if zonB x then (linesS o x.o.data.toList r).map (fun y => ownerS prev o x ++ restS x ++ y) else none
def outP : Option Bs → Bs × Int
  | none => ([], 8)
  | some b => (b, 0)
def printS (o : Bs) (L : List Rc) : Bs × Int :=
  if (split o).isSome = false then ([], 1) else if 2000 < L.length then ([], 20) else outP ((linesS o [] L).map (headS o ++ ·))
theorem add_go {A o prev : Bs} {L : List Rc} {k : Nat} {x : Rc} {R : Option Bs} (h : (linesS o prev (L.drop k)).map (A ++ ·) = R) (hx : L[k]? = some x) (hz : zonB x = true) :
    (linesS o x.o.data.toList (L.drop (k + 1))).map ((A ++ ownerS prev o x ++ restS x) ++ ·) = R := by
  obtain ⟨h1, h2⟩ := List.getElem?_eq_some_iff.1 hx
  rw [List.drop_eq_getElem_cons h1, h2, linesS, if_pos hz] at h
  rw [← h]
  cases linesS o x.o.data.toList (L.drop (k + 1)) <;> simp
theorem add_bad {A o prev : Bs} {L : List Rc} {k : Nat} {x : Rc} {R : Option Bs} (h : (linesS o prev (L.drop k)).map (A ++ ·) = R) (hx : L[k]? = some x) (hz : zonB x = false) : R = none := by
  obtain ⟨h1, h2⟩ := List.getElem?_eq_some_iff.1 hx
  rw [List.drop_eq_getElem_cons h1, h2, linesS, hz] at h
  rw [← h]; rfl
theorem add_end {A o prev : Bs} {L : List Rc} {k : Nat} {R : Option Bs} (h : (linesS o prev (L.drop k)).map (A ++ ·) = R) (hk : L.length ≤ k) : R = some A := by
  rw [List.drop_eq_nil_iff.2 hk, linesS] at h
  rw [← h]; simp
theorem print_in {o : Bs} {L : List Rc} {R : Option Bs} (ho : (split o).isSome = true) (hl : ¬ 2000 < L.length) (hR : (linesS o [] L).map (headS o ++ ·) = R) : printS o L = outP R := by
  unfold printS
  rw [ho, if_neg (by simp), if_neg hl, hR]
theorem words_tot : ∀ (fs : List Fld) (p : List Bs), (∀ (k : Nat) (f : Fld) (x : Bs), fs[k]? = some f → p[k]? = some x → totW (showF f x) ≤ 6554700) → totW (wordsL fs p) ≤ 6554700 * fs.length
  | [], p, _ => by simp [wordsL, totW]
  | f :: fs, [], _ => by simp [wordsL, totW]
  | f :: fs, x :: p, h => by
    have h1 := h 0 f x rfl rfl
    have h2 := words_tot fs p (fun k f x hf hx => h (k + 1) f x hf hx)
    rw [wordsL, totW_append, List.length_cons]; omega
theorem showDS_len (t : Int) (d : Bs) : (showDS t d).length ≤ 131094000 := by
  unfold showDS
  split
  · rename_i hc
    have hl := check_len hc
    cases hf : formS t with
    | none =>
      have h1 := dec_len 4 d.length (by omega)
      have h2 := hex_len d
      simp only
      split
      · simp only [List.length_append, List.length_cons, List.length_nil]; omega
      · simp only [List.length_append, List.length_cons, List.length_nil]; omega
    | some fs =>
      obtain ⟨p, hp1, hp2, hp3⟩ := parts_ok hc hf
      obtain ⟨hpl, hpx⟩ := parts_len _ _ _ _ hp2
      have hok := ok_parts _ _ _ _ hp2
      have hfa := checkData.form_fair4 hf
      rw [hp1]
      simp only
      have h1 := words_tot fs p (fun k f x hf hx => by
        have h2 := show_tot (hok k f x hf hx) (fun j e => by rcases hfa.2 j (by rw [← e]; exact List.mem_of_getElem? hf) with h | h | h <;> omega)
        have h3 := hpx x (List.mem_of_getElem? hx)
        omega)
      have h2 := join_len (wordsL fs p)
      have h3 := hfa.1
      omega
  · simp
theorem owner_len (prev o : Bs) (x : Rc) : (ownerS prev o x).length ≤ 1100 := by
  unfold ownerS; split
  · simp
  · exact rel_len _ _
end Go.Proofs.YtjejmgdpjfdhjaaGreatDoor.printP
namespace Go.Proofs.YtjejmgdpjfdhjaaGreatDoor.dshowA
open Go.RowKit Go.Proofs.YtjejmgdpjfdhjaaGreatDoor.kit Go.Proofs.YtjejmgdpjfdhjaaGreatDoor.nspec Go.Proofs.YtjejmgdpjfdhjaaGreatDoor.bits Go.Proofs.YtjejmgdpjfdhjaaGreatDoor.bld Go.Proofs.YtjejmgdpjfdhjaaGreatDoor.dshow Go.Proofs.YtjejmgdpjfdhjaaGreatDoor.showA Go.Proofs.YtjejmgdpjfdhjaaGreatDoor.rsplit
set_option linter.unusedVariables false

theorem wbi (B b : Nat) (l : List UInt8) (c : UInt8) (z : Int) (hz : z = (c.toNat : Int)) (w : World) (h : Bld B b l w) (hlen : l.length + 1 ≤ 140737488355328) (hBw : B ≤ w.heap.size) :
    Calls Tryz.prog 38 #[.pointer (some ⟨b, 0, none⟩), .int .u8 z] w fun e w' => e = .returned .nilIface ∧ Bld B b (l ++ [c]) w' ∧ Below B w w' := by
  subst hz; exact wb B b l c w h hlen hBw
theorem wraps8 (n : Int) (h₀ : 0 ≤ n) (h₁ : n < 2 ^ 8) : IntKind.u8.wrap n = n := by rw [IntKind.wrap_u8]; omega
theorem and15 {x : Int} (h₀ : 0 ≤ x) (h₁ : x < 256) : bits .and .u8 x 15 = x % 16 := bits_mask .u8 8 (by decide) wraps8 4 (by decide) x h₀ h₁
theorem idx16 (v : Nat) (h : v < 16) : Value.int .u8 (((⟨#[48, 49, 50, 51, 52, 53, 54, 55, 56, 57, 97, 98, 99, 100, 101, 102]⟩ : ByteArray)[v]'h).toNat : Int) = Value.int .u8 ((set16.getD v 0).toNat : Int) := by
  rw [← getD_at]; rfl
theorem hex_go {A R : Bs} {s : ByteArray} {k : Nat} (h : A ++ hexS (s.data.toList.drop k) = R) (hk : k < s.size) : ((A ++ [set16.getD (s[k].toNat / 16) 0]) ++ [set16.getD (s[k].toNat % 16) 0]) ++ hexS (s.data.toList.drop (k + 1)) = R := by
  rw [drop_cons s k hk, hex_step] at h
  rw [← h]; simp
theorem hex_end {A R : Bs} {s : ByteArray} {k : Nat} (h : A ++ hexS (s.data.toList.drop k) = R) (hk : s.size ≤ k) : A = R := by
  rw [drop_end s k hk, hex_nil] at h; simpa using h

set_option maxRecDepth 100000 in
set_option maxHeartbeats 2400000 in
theorem hex_any (s : ByteArray) (w : World) (hs : s.size ≤ 1099511627776) :
    Calls Tryz.prog 14 #[.string s] w fun e w' => e = .returned (.string ⟨(hexS s.data.toList).toArray⟩) ∧ Below w.heap.size w w' := by
  obtain ⟨R, HR⟩ : ∃ R, Hid ([] ++ hexS (s.data.toList.drop 0) = R) := ⟨_, Lib.hid rfl⟩
  have HR0 : Hid (hexS s.data.toList = R) := Lib.hid (by rw [← HR.out]; rfl)
  have hRl : R.length ≤ 2199023255552 := by
    have h1 := hex_len s.data.toList
    rw [HR0.out, size_len] at h1; omega
  rw [HR0.out]
  have hfb := Lib.hid (Lib.fresh_isBuilder 53 5 w)
  have hBa := Lib.hid ((Below.refl w.heap.size w).alloc (Nat.le_refl _) (.cells #[.pointer none, .slice none 0 0] 53))
  go_enter Tryz.func14, Tryz.ntmps14
  go_wp2
  go_loopg [7] (s.size + 1) (fun gas kv wr => ∃ (k : Nat) (A : Bs), kv = .int .i64 k ∧ k ≤ s.size ∧ k + gas = s.size + 1 ∧ Hid (A ++ hexS (s.data.toList.drop k) = R) ∧ Hid (Bld w.heap.size w.heap.size A wr) ∧ Hid (Below w.heap.size w wr))
  case atStart => exact ⟨0, [], rfl, by omega, by omega, HR, hfb, hBa⟩
  case round =>
    obtain ⟨k, A, rfl, hk, hkg, HW, HA, HB⟩ := hrel
    have HK := Lib.hid hkg; clear hkg
    have hsz := HB.out.size
    by_cases hlt : k < s.size
    · have HST := Lib.hid (hex_go HW.out hlt)
      obtain ⟨c, hc⟩ : ∃ c, s[k] = c := ⟨_, rfl⟩
      rw [hc] at HST
      have hc256 := byte_lt c
      obtain ⟨v1, hv1⟩ : ∃ v : Nat, c.toNat / 16 = v := ⟨_, rfl⟩
      obtain ⟨v2, hv2⟩ : ∃ v : Nat, c.toNat % 16 = v := ⟨_, rfl⟩
      rw [hv1, hv2] at HST
      have hv1l : v1 < 16 := by have := c.toNat_lt; omega
      have hv2l : v2 < 16 := by omega
      have hAl : A.length + 2 ≤ R.length := by rw [← HST.out]; simp
      have HWB := Lib.hid (wb w.heap.size w.heap.size A (set16.getD v1 0) wr HA.out (by omega) hsz)
      have hx1 := idx16 v1 hv1l
      have hx2 := idx16 v2 hv2l
      have hsh := congrArg (Value.int .u8) (show (c.toNat : Int) / 16 = (v1 : Int) by omega)
      have hand := congrArg (Value.int .u8) (show bits .and .u8 (c.toNat : Int) 15 = (v2 : Int) by rw [and15 (by omega) hc256]; omega)
      clear hv1 hv2
      go_wp2_with fail
      refine HWB.out.mono ?_
      rintro e w1 ⟨rfl, hb1, hE1⟩
      have HB1 := Lib.hid (HB.out.trans hE1)
      have HWC := Lib.hid (wb w.heap.size w.heap.size (A ++ [set16.getD v1 0]) (set16.getD v2 0) w1 hb1 (by simp; omega) (by have := HB1.out.size; omega))
      clear hE1 hb1
      go_wp2_with fail
      refine HWC.out.mono ?_
      rintro e w2 ⟨rfl, hb2, hE2⟩
      clear hand hsh hx1 hx2
      have hkg := HK.out
      go_wp2_with fail
      go_roundg (gk - 1)
      case rel => exact ⟨k + 1, _, by go_num, by omega, by omega, HST, Lib.hid hb2, Lib.hid (HB1.out.trans hE2)⟩
      case measure => omega
    · have HN := Lib.hid (hex_end HW.out (by omega))
      rw [HN.out] at HA
      go_wp2_with fail
      refine (Tryz.Builder_String_any _ _ R _ HA.out (by omega)).mono ?_
      rintro e v2 ⟨rfl, hE2⟩
      go_wp2
      go_ret
      exact ⟨rfl, HB.out.trans hE2⟩

theorem quote_go {A R T : Bs} {s : ByteArray} {k : Nat} {c : UInt8} (h : A ++ ((s.data.toList.drop k).flatMap quoteB ++ T) = R) (hk : k < s.size) (hc : s[k] = c) : (A ++ quoteB c) ++ ((s.data.toList.drop (k + 1)).flatMap quoteB ++ T) = R := by
  rw [drop_cons s k hk, hc] at h
  rw [← h]; simp
theorem quote_end {A R T : Bs} {s : ByteArray} {k : Nat} (h : A ++ ((s.data.toList.drop k).flatMap quoteB ++ T) = R) (hk : s.size ≤ k) : A ++ T = R := by
  rw [drop_end s k hk] at h; simpa using h
theorem quote_cases (c : UInt8) : (((c.toNat : Int) = 34 ∨ (c.toNat : Int) = 92) ∧ quoteB c = [92, c]) ∨ ((c.toNat : Int) ≠ 34 ∧ (c.toNat : Int) ≠ 92 ∧ ((c.toNat : Int) < 32 ∨ 126 < (c.toNat : Int)) ∧ quoteB c = 92 :: escL c) ∨ ((c.toNat : Int) ≠ 34 ∧ (c.toNat : Int) ≠ 92 ∧ 32 ≤ (c.toNat : Int) ∧ (c.toNat : Int) ≤ 126 ∧ quoteB c = [c]) := by
  have e34 : c = 34 ↔ (c.toNat : Int) = 34 := ⟨fun h => by rw [h]; rfl, fun h => UInt8.toNat.inj (by show c.toNat = 34; omega)⟩
  have e92 : c = 92 ↔ (c.toNat : Int) = 92 := ⟨fun h => by rw [h]; rfl, fun h => UInt8.toNat.inj (by show c.toNat = 92; omega)⟩
  unfold quoteB
  by_cases h : c = 34 ∨ c = 92
  · refine .inl ⟨?_, by rw [if_pos h]⟩
    rcases h with h | h
    · exact .inl (e34.1 h)
    · exact .inr (e92.1 h)
  · have h1 : (c.toNat : Int) ≠ 34 := fun x => h (.inl (e34.2 x))
    have h2 : (c.toNat : Int) ≠ 92 := fun x => h (.inr (e92.2 x))
    rw [if_neg h]
    by_cases h3 : c.toNat < 32 ∨ 126 < c.toNat
    · exact .inr (.inl ⟨h1, h2, by omega, by rw [if_pos h3]⟩)
    · exact .inr (.inr ⟨h1, h2, by omega, by omega, by rw [if_neg h3]⟩)

set_option maxRecDepth 100000 in
set_option maxHeartbeats 4000000 in
theorem quoted_any (s : ByteArray) (w : World) (hs : s.size ≤ 1099511627776) :
    Calls Tryz.prog 111 #[.string s] w fun e w' => e = .returned (.string ⟨(quoteS s.data.toList).toArray⟩) ∧ Below w.heap.size w w' := by
  obtain ⟨R, HR⟩ : ∃ R, Hid ([34] ++ ((s.data.toList.drop 0).flatMap quoteB ++ [34]) = R) := ⟨_, Lib.hid rfl⟩
  have HR0 : Hid (quoteS s.data.toList = R) := Lib.hid (by rw [← HR.out]; rfl)
  have hRl : R.length ≤ 8796093022208 := by
    have h1 := quoteS_len s.data.toList
    rw [HR0.out, size_len] at h1; omega
  rw [HR0.out]
  have hfb := Lib.fresh_isBuilder 53 5 w
  have hBa := Lib.hid ((Below.refl w.heap.size w).alloc (Nat.le_refl _) (.cells #[.pointer none, .slice none 0 0] 53))
  have HW0 := Lib.hid (wbi w.heap.size w.heap.size [] 34 34 rfl _ hfb (by simp) hBa.out.size)
  clear hfb
  go_enter Tryz.func111, Tryz.ntmps111
  go_wp2_with fail
  refine HW0.out.mono ?_
  rintro e w0 ⟨rfl, hb0, hE0⟩
  have HB0 := Lib.hid (hBa.out.trans hE0)
  have HA0 : Hid (Bld w.heap.size w.heap.size [34] w0) := Lib.hid hb0
  clear hE0 hb0
  go_wp2_with fail
  go_loopg [9] (s.size + 1) (fun gas kv wr => ∃ (k : Nat) (A : Bs), kv = .int .i64 k ∧ k ≤ s.size ∧ k + gas = s.size + 1 ∧ Hid (A ++ ((s.data.toList.drop k).flatMap quoteB ++ [34]) = R) ∧ Hid (Bld w.heap.size w.heap.size A wr) ∧ Hid (Below w.heap.size w wr))
  case atStart => exact ⟨0, [34], rfl, by omega, by omega, HR, HA0, HB0⟩
  case round =>
    clear HA0 HB0
    obtain ⟨k, A, rfl, hk, hkg, HW, HA, HB⟩ := hrel
    have HK := Lib.hid hkg; clear hkg
    have hsz := HB.out.size
    by_cases hlt : k < s.size
    · obtain ⟨c, hc⟩ : ∃ c, s[k] = c := ⟨_, rfl⟩
      have HST := Lib.hid (quote_go HW.out hlt hc)
      have hAR : A.length + (quoteB c).length + 1 ≤ R.length := by rw [← HST.out]; simp; omega
      have hc256 := byte_lt c
      have hc0 : 0 ≤ (c.toNat : Int) := by omega
      rcases quote_cases c with ⟨hq, he⟩ | ⟨hq1, hq2, hq3, he⟩ | ⟨hq1, hq2, hq3, hq4, he⟩
      · rw [he] at HST hAR; clear he
        have hAl : A.length + 3 ≤ R.length := hAR
        clear hAR
        by_cases hq1 : (c.toNat : Int) = 34
        · have b1 : ((c.toNat : Int) == 34) = true := by rw [beq_iff_eq]; exact hq1
          clear hq hq1
          have HW0 := Lib.hid (wbi w.heap.size w.heap.size (A) (92) (92) rfl wr HA.out (by omega) (by have := HB.out.size; omega))
          go_wp2_with fail
          refine HW0.out.mono ?_
          rintro e u0 ⟨rfl, hb0, hE0⟩
          have HB0 := Lib.hid (HB.out.trans hE0)
          clear hE0
          have HW1 := Lib.hid (wbi w.heap.size w.heap.size (A ++ [92]) (c) ((c.toNat : Int)) rfl u0 hb0 (by simp; omega) (by have := HB0.out.size; omega))
          clear hb0
          go_wp2_with fail
          refine HW1.out.mono ?_
          rintro e u1 ⟨rfl, hb1, hE1⟩
          have HB1 := Lib.hid (HB0.out.trans hE1)
          clear hE1
          have hkg := HK.out
          go_wp2_with fail
          go_roundg (gk - 1)
          case rel => exact ⟨k + 1, A ++ [92] ++ [c], by go_num, by omega, by omega, Lib.hid (by have h := HST.out; simpa [escL] using h), Lib.hid hb1, HB1⟩
          case measure => omega
        · have b1 : ((c.toNat : Int) == 34) = false := by rw [beq_eq_false_iff_ne]; exact hq1
          have b2 : ((c.toNat : Int) == 92) = true := by rw [beq_iff_eq]; omega
          clear hq hq1
          have HW0 := Lib.hid (wbi w.heap.size w.heap.size (A) (92) (92) rfl wr HA.out (by omega) (by have := HB.out.size; omega))
          go_wp2_with fail
          refine HW0.out.mono ?_
          rintro e u0 ⟨rfl, hb0, hE0⟩
          have HB0 := Lib.hid (HB.out.trans hE0)
          clear hE0
          have HW1 := Lib.hid (wbi w.heap.size w.heap.size (A ++ [92]) (c) ((c.toNat : Int)) rfl u0 hb0 (by simp; omega) (by have := HB0.out.size; omega))
          clear hb0
          go_wp2_with fail
          refine HW1.out.mono ?_
          rintro e u1 ⟨rfl, hb1, hE1⟩
          have HB1 := Lib.hid (HB0.out.trans hE1)
          clear hE1
          have hkg := HK.out
          go_wp2_with fail
          go_roundg (gk - 1)
          case rel => exact ⟨k + 1, A ++ [92] ++ [c], by go_num, by omega, by omega, Lib.hid (by have h := HST.out; simpa [escL] using h), Lib.hid hb1, HB1⟩
          case measure => omega
      · rw [he] at HST hAR; clear he
        have hAl : A.length + 5 ≤ R.length := hAR
        clear hAR
        have b1 : ((c.toNat : Int) == 34) = false := by rw [beq_eq_false_iff_ne]; exact hq1
        have b2 : ((c.toNat : Int) == 92) = false := by rw [beq_eq_false_iff_ne]; exact hq2
        clear hq1 hq2
        by_cases hq4 : (c.toNat : Int) < 32
        · clear hq3
          have HW0 := Lib.hid (wbi w.heap.size w.heap.size (A) (92) (92) rfl wr HA.out (by omega) (by have := HB.out.size; omega))
          go_wp2_with fail
          refine HW0.out.mono ?_
          rintro e u0 ⟨rfl, hb0, hE0⟩
          have HB0 := Lib.hid (HB.out.trans hE0)
          clear hE0
          have HW1 := Lib.hid (wbi w.heap.size w.heap.size (A ++ [92]) (48 + c / 100) (48 + (c.toNat : Int) / 100) (dig c).1.symm u0 hb0 (by simp; omega) (by have := HB0.out.size; omega))
          clear hb0
          go_wp2_with fail
          refine HW1.out.mono ?_
          rintro e u1 ⟨rfl, hb1, hE1⟩
          have HB1 := Lib.hid (HB0.out.trans hE1)
          clear hE1
          have HW2 := Lib.hid (wbi w.heap.size w.heap.size (A ++ [92] ++ [48 + c / 100]) (48 + c / 10 % 10) (48 + (c.toNat : Int) / 10 % 10) (dig c).2.1.symm u1 hb1 (by simp; omega) (by have := HB1.out.size; omega))
          clear hb1
          go_wp2_with fail
          refine HW2.out.mono ?_
          rintro e u2 ⟨rfl, hb2, hE2⟩
          have HB2 := Lib.hid (HB1.out.trans hE2)
          clear hE2
          have HW3 := Lib.hid (wbi w.heap.size w.heap.size (A ++ [92] ++ [48 + c / 100] ++ [48 + c / 10 % 10]) (48 + c % 10) (48 + (c.toNat : Int) % 10) (dig c).2.2.symm u2 hb2 (by simp; omega) (by have := HB2.out.size; omega))
          clear hb2
          go_wp2_with fail
          refine HW3.out.mono ?_
          rintro e u3 ⟨rfl, hb3, hE3⟩
          have HB3 := Lib.hid (HB2.out.trans hE3)
          clear hE3
          have hkg := HK.out
          go_wp2_with fail
          go_roundg (gk - 1)
          case rel => exact ⟨k + 1, A ++ [92] ++ [48 + c / 100] ++ [48 + c / 10 % 10] ++ [48 + c % 10], by go_num, by omega, by omega, Lib.hid (by have h := HST.out; simpa [escL] using h), Lib.hid hb3, HB3⟩
          case measure => omega
        · have hq5 : 126 < (c.toNat : Int) := by omega
          clear hq3
          have HW0 := Lib.hid (wbi w.heap.size w.heap.size (A) (92) (92) rfl wr HA.out (by omega) (by have := HB.out.size; omega))
          go_wp2_with fail
          refine HW0.out.mono ?_
          rintro e u0 ⟨rfl, hb0, hE0⟩
          have HB0 := Lib.hid (HB.out.trans hE0)
          clear hE0
          have HW1 := Lib.hid (wbi w.heap.size w.heap.size (A ++ [92]) (48 + c / 100) (48 + (c.toNat : Int) / 100) (dig c).1.symm u0 hb0 (by simp; omega) (by have := HB0.out.size; omega))
          clear hb0
          go_wp2_with fail
          refine HW1.out.mono ?_
          rintro e u1 ⟨rfl, hb1, hE1⟩
          have HB1 := Lib.hid (HB0.out.trans hE1)
          clear hE1
          have HW2 := Lib.hid (wbi w.heap.size w.heap.size (A ++ [92] ++ [48 + c / 100]) (48 + c / 10 % 10) (48 + (c.toNat : Int) / 10 % 10) (dig c).2.1.symm u1 hb1 (by simp; omega) (by have := HB1.out.size; omega))
          clear hb1
          go_wp2_with fail
          refine HW2.out.mono ?_
          rintro e u2 ⟨rfl, hb2, hE2⟩
          have HB2 := Lib.hid (HB1.out.trans hE2)
          clear hE2
          have HW3 := Lib.hid (wbi w.heap.size w.heap.size (A ++ [92] ++ [48 + c / 100] ++ [48 + c / 10 % 10]) (48 + c % 10) (48 + (c.toNat : Int) % 10) (dig c).2.2.symm u2 hb2 (by simp; omega) (by have := HB2.out.size; omega))
          clear hb2
          go_wp2_with fail
          refine HW3.out.mono ?_
          rintro e u3 ⟨rfl, hb3, hE3⟩
          have HB3 := Lib.hid (HB2.out.trans hE3)
          clear hE3
          have hkg := HK.out
          go_wp2_with fail
          go_roundg (gk - 1)
          case rel => exact ⟨k + 1, A ++ [92] ++ [48 + c / 100] ++ [48 + c / 10 % 10] ++ [48 + c % 10], by go_num, by omega, by omega, Lib.hid (by have h := HST.out; simpa [escL] using h), Lib.hid hb3, HB3⟩
          case measure => omega
      · rw [he] at HST hAR; clear he
        have hAl : A.length + 2 ≤ R.length := hAR
        clear hAR
        have b1 : ((c.toNat : Int) == 34) = false := by rw [beq_eq_false_iff_ne]; exact hq1
        have b2 : ((c.toNat : Int) == 92) = false := by rw [beq_eq_false_iff_ne]; exact hq2
        clear hq1 hq2
        have HW0 := Lib.hid (wbi w.heap.size w.heap.size (A) (c) ((c.toNat : Int)) rfl wr HA.out (by omega) (by have := HB.out.size; omega))
        go_wp2_with fail
        refine HW0.out.mono ?_
        rintro e u0 ⟨rfl, hb0, hE0⟩
        have HB0 := Lib.hid (HB.out.trans hE0)
        clear hE0
        have hkg := HK.out
        go_wp2_with fail
        go_roundg (gk - 1)
        case rel => exact ⟨k + 1, A ++ [c], by go_num, by omega, by omega, Lib.hid (by have h := HST.out; simpa [escL] using h), Lib.hid hb0, HB0⟩
        case measure => omega
    · have HN := Lib.hid (quote_end HW.out (by omega))
      have hAl : A.length + 1 ≤ R.length := by rw [← HN.out]; simp
      have HSTEP := Lib.hid (wbi w.heap.size w.heap.size A 34 34 rfl wr HA.out (by omega) hsz)
      go_wp2_with fail
      refine HSTEP.out.mono ?_
      rintro e w1 ⟨rfl, hb1, hE1⟩
      rw [HN.out] at hb1
      have HB1 := Lib.hid (HB.out.trans hE1)
      clear hE1
      go_wp2_with fail
      refine (Tryz.Builder_String_any _ _ R _ hb1 (by have := HB1.out.size; omega)).mono ?_
      rintro e v2 ⟨rfl, hE2⟩
      go_wp2
      go_ret
      exact ⟨rfl, HB1.out.trans hE2⟩
end Go.Proofs.YtjejmgdpjfdhjaaGreatDoor.dshowA
namespace Go.Proofs.YtjejmgdpjfdhjaaGreatDoor.rshowA
open Go.RowKit Go.Proofs.YtjejmgdpjfdhjaaGreatDoor.kit Go.Proofs.YtjejmgdpjfdhjaaGreatDoor.nspec Go.Proofs.YtjejmgdpjfdhjaaGreatDoor.bits Go.Proofs.YtjejmgdpjfdhjaaGreatDoor.dshow Go.Proofs.YtjejmgdpjfdhjaaGreatDoor.showA Go.Proofs.YtjejmgdpjfdhjaaGreatDoor.showB Go.Proofs.YtjejmgdpjfdhjaaGreatDoor.ints Go.Proofs.YtjejmgdpjfdhjaaGreatDoor.coded Go.Proofs.YtjejmgdpjfdhjaaGreatDoor.dshowA
set_option linter.unusedVariables false

set_option maxRecDepth 100000 in
theorem rhex_any (s : ByteArray) (w : World) (hs : s.size ≤ 1099511627776) :
    Calls Tryz.prog 20 #[.string s] w fun e w' => e = .returned (.string ⟨(hexS s.data.toList).toArray⟩) ∧ Below w.heap.size w w' := by
  have hl : (bitsL s.data.toList).length ≤ 8796093022208 := by rw [bitsL_len, size_len]; omega
  go_enter Tryz.func20, Tryz.ntmps20
  go_wp2_with fail
  refine (bits_any s _ hs).mono ?_
  rintro e w1 ⟨a, c, rfl, hc, hcm, hrd, hB⟩
  go_wp2_with fail
  refine (coded_any a c _ 4 ⟨set16.toArray⟩ _ hrd hc hcm hl (bitsL_01 _) (by omega) (by omega) (by decide)).mono ?_
  rintro e w2 ⟨rfl, hB2⟩
  go_wp2
  go_ret
  exact ⟨rfl, hB.trans (hB2.mono hB.size)⟩

theorem pad_end {s : Bs} (h : s.length % 4 = 0) : padS s = s := by
  unfold padS; rw [h]; simp
theorem pad_go {s : Bs} (h : 0 < s.length % 4) : padS (s ++ [61]) = padS s := by
  unfold padS
  rw [List.length_append, List.length_singleton, List.append_assoc]
  congr 1
  obtain ⟨k, hk⟩ : ∃ k, (4 - s.length % 4) % 4 = k + 1 := ⟨(4 - s.length % 4) % 4 - 1, by omega⟩
  rw [hk, List.replicate_succ]
  have : (4 - (s.length + 1) % 4) % 4 = k := by omega
  rw [this]; rfl
set_option maxRecDepth 100000 in
set_option maxHeartbeats 1000000 in
theorem rb64_any (s : ByteArray) (w : World) (hs : s.size ≤ 1099511627776) :
    Calls Tryz.prog 46 #[.string s] w fun e w' => e = .returned (.string ⟨(b64S s.data.toList).toArray⟩) ∧ Below w.heap.size w w' := by
  have hl : (bitsL s.data.toList).length ≤ 8796093022208 := by rw [bitsL_len, size_len]; omega
  obtain ⟨R, HR⟩ : ∃ R, Hid (b64S s.data.toList = R) := ⟨_, Lib.hid rfl⟩
  rw [HR.out]
  obtain ⟨E, hE⟩ : ∃ E : ByteArray, (⟨(enc 6 set64 (bitsL s.data.toList)).toArray⟩ : ByteArray) = E := ⟨_, rfl⟩
  have hEd : E.data.toList = enc 6 set64 (bitsL s.data.toList) := by rw [← hE]
  have HE : Hid (padS E.data.toList = R) := Lib.hid (by rw [hEd, ← HR.out]; rfl)
  have hEl : E.size ≤ 8796093022208 := by
    have h1 := enc_len 6 set64 (by omega) (bitsL s.data.toList)
    rw [← hEd, size_len] at h1; omega
  have CC := Lib.hid (fun a c w (hrd : RdN w a (bitsL s.data.toList)) hc hcm => coded_any a c _ 6 ⟨set64.toArray⟩ w hrd hc hcm hl (bitsL_01 _) (by omega) (by omega) (by decide))
  rw [show (⟨set64.toArray⟩ : ByteArray).data.toList = set64 from rfl, hE] at CC
  clear hE hEd
  go_enter Tryz.func46, Tryz.ntmps46
  go_wp2_with fail
  refine (bits_any s _ hs).mono ?_
  rintro e w1 ⟨a, c, rfl, hc, hcm, hrd, hB⟩
  go_wp2_with fail
  refine (CC.out a c _ hrd hc hcm).mono ?_
  rintro e w2 ⟨rfl, hB2⟩
  have HB := Lib.hid (hB.trans (hB2.mono hB.size))
  clear hB hB2 hrd
  go_wp2_with fail
  go_loopg [3] 5 (fun gas sv wr => ∃ (S : ByteArray), sv = .string S ∧ S.size + gas = E.size + 5 ∧ 1 ≤ gas ∧ Hid ((4 - S.size % 4) % 4 < gas) ∧ Hid (padS S.data.toList = R) ∧ wr = w2)
  case atStart => exact ⟨E, rfl, by omega, by omega, Lib.hid (by omega), HE, rfl⟩
  case round =>
    obtain ⟨S, rfl, hS, hg1, HG, HP, rfl⟩ := hrel
    by_cases h4 : S.size % 4 = 0
    · have HN : Hid (S.data.toList = R) := Lib.hid (by rw [← HP.out, pad_end (by rw [size_len]; exact h4)])
      have h4i : (S.size : Int) % 4 = 0 := by omega
      go_wp2_with fail
      go_ret
      exact ⟨ret_str (ba_ext HN.out), HB.out⟩
    · have HN : Hid (padS (S ++ ⟨#[61]⟩ : ByteArray).data.toList = R) := Lib.hid (by rw [← HP.out, ByteArray.data_append, Array.toList_append]; exact pad_go (by rw [size_len]; omega))
      have h4i : 0 < (S.size : Int) % 4 := by omega
      have hsum : (S ++ (⟨#[61]⟩ : ByteArray)).size = S.size + 1 := by rw [ByteArray.size_append]; rfl
      have HSUM := Lib.hid hsum
      have HG2 : Hid ((4 - (S ++ (⟨#[61]⟩ : ByteArray)).size % 4) % 4 < gk - 1) := Lib.hid (by rw [hsum]; have := HG.out; omega)
      have hg2 : 1 ≤ gk - 1 := by have := HG.out; omega
      clear hsum
      go_wp2_with fail
      go_roundg (gk - 1)
      case rel => exact ⟨S ++ ⟨#[61]⟩, rfl, by rw [HSUM.out]; omega, hg2, HG2, HN, rfl⟩
      case measure => omega

theorem rq_go {C : ByteArray} {R T : Bs} {X : ByteArray} {j : Nat} {c : UInt8} (h : C.data.toList ++ ((X.data.toList.drop j).flatMap quoteB ++ T) = R) (hc : X.data.toList[j]? = some c) : (C.data.toList ++ quoteB c) ++ ((X.data.toList.drop (j + 1)).flatMap quoteB ++ T) = R := by
  obtain ⟨h3, h4⟩ := List.getElem?_eq_some_iff.1 hc
  rw [List.drop_eq_getElem_cons h3, h4] at h
  rw [← h]; simp
set_option maxRecDepth 100000 in
set_option maxHeartbeats 4000000 in
theorem rquote_any (X : ByteArray) (w : World) (hs : X.size ≤ 1099511627776) :
    Calls Tryz.prog 45 #[.string X] w fun e w' => e = .returned (.string ⟨(quoteS X.data.toList).toArray⟩) ∧ Below w.heap.size w w' := by
  obtain ⟨R, HR⟩ : ∃ R, Hid ((⟨#[34]⟩ : ByteArray).data.toList ++ ((X.data.toList.drop 0).flatMap quoteB ++ [34]) = R) := ⟨_, Lib.hid rfl⟩
  have HR0 : Hid (quoteS X.data.toList = R) := Lib.hid (by rw [← HR.out]; rfl)
  have hRl : R.length ≤ 8796093022208 := by
    have h1 := quoteS_len X.data.toList
    rw [HR0.out, size_len] at h1; omega
  rw [HR0.out]
  go_enter Tryz.func45, Tryz.ntmps45
  go_wp2_with fail
  go_loopg [3, 4] (X.size + 1) (fun gas sv jv wq => ∃ (j : Nat) (C : ByteArray), sv = .string C ∧ C.size ≤ 8796093022208 ∧ jv = .int .i64 j ∧ j ≤ X.size ∧ j + gas = X.size + 1 ∧ Hid (C.data.toList ++ ((X.data.toList.drop j).flatMap quoteB ++ [34]) = R) ∧ Hid (Below w.heap.size w wq))
  case atStart => exact ⟨0, _, rfl, by decide, rfl, by omega, by omega, HR, Lib.hid (Below.refl _ _)⟩
  case round =>
    obtain ⟨j, C, rfl, hC, rfl, hj, hjg, HV, HB⟩ := hrel
    have HJ := Lib.hid hjg; clear hjg
    by_cases hjt : j < X.size
    · obtain ⟨c, hc⟩ : ∃ c, X[j] = c := ⟨_, rfl⟩
      have hcj : X.data.toList[j]? = some c := by rw [← hc]; exact List.getElem?_eq_getElem (by rw [size_len]; exact hjt)
      have HN := Lib.hid (rq_go HV.out hcj)
      have hnl : C.size + (quoteB c).length + 1 ≤ R.length := by rw [← HN.out, ← size_len]; simp; omega
      have hX1 := one_ext X j c hcj
      have hc256 := byte_lt c
      have hc0 : 0 ≤ (c.toNat : Int) := by omega
      clear hcj
      rcases quote_cases c with ⟨hq, he⟩ | ⟨hq1, hq2, hq3, he⟩ | ⟨hq1, hq2, hq3, hq4, he⟩
      · rw [he] at HN hnl; clear he
        have hAl : C.size + 3 ≤ R.length := hnl
        clear hnl
        by_cases hq1 : (c.toNat : Int) = 34
        · have b1 : ((c.toNat : Int) == 34) = true := by rw [beq_iff_eq]; exact hq1
          clear hq hq1
          go_wp2_with fail
          have hjg := HJ.out
          go_roundg (gk - 1)
          case rel => exact ⟨j + 1, _, rfl, by rw [sz2]; omega, by go_num, by omega, by omega, by rw [dt2]; exact HN, HB⟩
          case measure => omega
        · have b1 : ((c.toNat : Int) == 34) = false := by rw [beq_eq_false_iff_ne]; exact hq1
          have b2 : ((c.toNat : Int) == 92) = true := by rw [beq_iff_eq]; omega
          clear hq hq1
          go_wp2_with fail
          have hjg := HJ.out
          go_roundg (gk - 1)
          case rel => exact ⟨j + 1, _, rfl, by rw [sz2]; omega, by go_num, by omega, by omega, by rw [dt2]; exact HN, HB⟩
          case measure => omega
      · rw [he] at HN hnl; clear he
        have hAl : C.size + 5 ≤ R.length := hnl
        clear hnl
        have b1 : ((c.toNat : Int) == 34) = false := by rw [beq_eq_false_iff_ne]; exact hq1
        have b2 : ((c.toNat : Int) == 92) = false := by rw [beq_eq_false_iff_ne]; exact hq2
        have ht4 : (⟨(92 :: escL c).toArray⟩ : ByteArray).size = 4 := rfl
        clear hq1 hq2
        by_cases hq4 : (c.toNat : Int) < 32
        · clear hq3
          go_wp2_with fail
          refine (escape_any c _).mono ?_
          rintro e w3 ⟨rfl, hB3⟩
          have HB3 := Lib.hid (HB.out.trans (hB3.mono HB.out.size))
          clear hB3
          go_wp2_with fail
          have hjg := HJ.out
          go_roundg (gk - 1)
          case rel => exact ⟨j + 1, _, rfl, by rw [ByteArray.size_append, ht4]; omega, by go_num, by omega, by omega, by rw [dtE]; exact HN, HB3⟩
          case measure => omega
        · have hq5 : 126 < (c.toNat : Int) := by omega
          clear hq3
          go_wp2_with fail
          refine (escape_any c _).mono ?_
          rintro e w3 ⟨rfl, hB3⟩
          have HB3 := Lib.hid (HB.out.trans (hB3.mono HB.out.size))
          clear hB3
          go_wp2_with fail
          have hjg := HJ.out
          go_roundg (gk - 1)
          case rel => exact ⟨j + 1, _, rfl, by rw [ByteArray.size_append, ht4]; omega, by go_num, by omega, by omega, by rw [dtE]; exact HN, HB3⟩
          case measure => omega
      · rw [he] at HN hnl; clear he
        have hAl : C.size + 2 ≤ R.length := hnl
        clear hnl
        have b1 : ((c.toNat : Int) == 34) = false := by rw [beq_eq_false_iff_ne]; exact hq1
        have b2 : ((c.toNat : Int) == 92) = false := by rw [beq_eq_false_iff_ne]; exact hq2
        clear hq1 hq2
        go_wp2_with fail
        have hjg := HJ.out
        go_roundg (gk - 1)
        case rel => exact ⟨j + 1, _, rfl, by rw [sz1]; omega, by go_num, by omega, by omega, by rw [dt1]; exact HN, HB⟩
        case measure => omega
    · have HN : Hid ((C ++ ⟨#[34]⟩ : ByteArray).data.toList = R) := Lib.hid (by
        have h := HV.out
        rw [drop_end X j (by omega)] at h
        rw [dt1]; simpa using h)
      have hcs : C.size + 1 ≤ 8796093022208 := by
        have h := hRl
        rw [← HN.out, size_len, ByteArray.size_append] at h
        exact h
      go_wp2_with fail
      go_ret
      exact ⟨ret_str (ba_ext HN.out), HB.out⟩
end Go.Proofs.YtjejmgdpjfdhjaaGreatDoor.rshowA
namespace Go.Proofs.YtjejmgdpjfdhjaaGreatDoor.rrows6
open Go.RowKit Go.Proofs.YtjejmgdpjfdhjaaGreatDoor.kit Go.Proofs.YtjejmgdpjfdhjaaGreatDoor.nspec Go.Proofs.YtjejmgdpjfdhjaaGreatDoor.bits Go.Proofs.YtjejmgdpjfdhjaaGreatDoor.dshow Go.Proofs.YtjejmgdpjfdhjaaGreatDoor.rshowA Go.Proofs.YtjejmgdpjfdhjaaGreatDoor.textsT
set_option linter.unusedVariables false

def pairsG : Bs → List Bs
  | a :: b :: r => hexN (a.toNat * 256 + b.toNat) :: pairsG r
  | _ => []
def rowsS (d : Bs) : Bs := colon (pairsG d)
def colonK (j : Nat) (gs : List Bs) : Bs := if j = 0 then colon gs else gs.flatMap (fun y => 58 :: y)
theorem colonK_nil (j : Nat) : colonK j [] = [] := by unfold colonK; split <;> simp [colon]
theorem colonK_cons (j : Nat) (g : Bs) (gs : List Bs) : colonK j (g :: gs) = (if 0 < j then [58] else []) ++ g ++ colonK (j + 1) gs := by
  unfold colonK
  by_cases h : j = 0
  · subst h; simp [colon]
  · rw [if_neg h, if_pos (by omega), if_neg (by omega)]; simp
theorem strip_go {d : UInt8} {r : Bs} : stripS (48 :: d :: r) = stripS (d :: r) := by
  unfold stripS
  simp only [List.length_cons]
  rw [stripF, if_pos rfl]
theorem strip_end {l : Bs} (h : l.length ≤ 1 ∨ l.getD 0 0 ≠ 48) : stripS l = l := by
  unfold stripS
  match l, h with
  | [], _ => rfl
  | [c], _ => rfl
  | c :: d :: r, h =>
    have hc : c ≠ 48 := by
      rcases h with h | h
      · simp at h
      · simpa using h
    simp only [List.length_cons]
    rw [stripF, if_neg hc]
theorem strip_step {D : ByteArray} {G : Bs} (h : stripS D.data.toList = G) (h1 : 1 < D.size) (h0 : D[0] = 48) : stripS (D.extract 1 D.size).data.toList = G := by
  rw [ext_end]
  have e1 := drop_cons D 0 (by omega)
  have e2 := drop_cons D 1 h1
  rw [List.drop_zero, h0] at e1
  rw [e1, show (0 : Nat) + 1 = 1 from rfl, e2, strip_go, ← e2] at h
  exact h
theorem pair_hex (X : ByteArray) (k : Nat) (h : k + 2 ≤ X.size) : pairsG (X.data.toList.drop k) = stripS (hexS (X.extract k (k + 2)).data.toList) :: pairsG (X.data.toList.drop (k + 2)) := by
  have e1 := drop_cons X k (by omega)
  have e2 := drop_cons X (k + 1) (by omega)
  have e3 : (X.extract k (k + 2)).data.toList = [X[k], X[k + 1]] := by
    rw [Lib.extract_data, e1, e2, show k + 2 - k = 2 by omega]; rfl
  rw [e3, strip_hex, e1, e2, pairsG]
theorem hexS_pair (X : ByteArray) (k : Nat) (h : k + 2 ≤ X.size) : (hexS (X.extract k (k + 2)).data.toList).length = 4 := by
  rw [hex_len, size_len, ByteArray.size_extract]; omega

set_option maxRecDepth 100000 in
set_option maxHeartbeats 2400000 in
theorem rrows6_any (X : ByteArray) (n : Nat) (w : World) (hs : X.size = 2 * n) (hn : n ≤ 8) :
    Calls Tryz.prog 62 #[.string X] w fun e w' => e = .returned (.string ⟨(rowsS X.data.toList).toArray⟩) ∧ Below w.heap.size w w' := by
  obtain ⟨R, HR⟩ : ∃ R, Hid ((⟨#[]⟩ : ByteArray).data.toList ++ colonK 0 (pairsG (X.data.toList.drop 0)) = R) := ⟨_, Lib.hid rfl⟩
  have HR0 : Hid (rowsS X.data.toList = R) := Lib.hid (by rw [← HR.out]; rfl)
  rw [HR0.out]
  have HSZ := Lib.hid hs
  have hxi : (X.size : Int) = 2 * (n : Int) := by omega
  clear hs
  go_enter Tryz.func62, Tryz.ntmps62
  go_wp2_with fail
  go_loopg [3, 4, 5] (n + 1) (fun gas sv kv _ wr => ∃ (j k : Nat) (S : ByteArray), sv = .string S ∧ kv = .int .i64 k ∧ S.size ≤ 5 * j ∧ Hid (k = 2 * j) ∧ j ≤ n ∧ j + gas = n + 1 ∧ Hid (S.data.toList ++ colonK j (pairsG (X.data.toList.drop k)) = R) ∧ Hid (Below w.heap.size w wr))
  case atStart => exact ⟨0, 0, ⟨#[]⟩, rfl, rfl, by decide, Lib.hid rfl, by omega, by omega, HR, Lib.hid (Below.refl _ _)⟩
  case round =>
    obtain ⟨j, k, S, rfl, rfl, hS, HKJ, hj, hjg, HW, HB⟩ := hrel
    obtain ⟨gk', hgk'⟩ : ∃ g, g = gk := ⟨_, rfl⟩
    rw [← hgk'] at hjg
    have HJ := Lib.hid hjg; clear hjg
    have hsz := HB.out.size
    by_cases hjn : j < n
    · have hk2 : k + 2 ≤ X.size := by have := HKJ.out; have := HSZ.out; omega
      have hk2i : (k : Int) + 2 ≤ (X.size : Int) := by omega
      obtain ⟨x, HX⟩ : ∃ x, Hid (X.extract k (k + 2) = x) := ⟨_, Lib.hid rfl⟩
      have hx := congrArg Value.string HX.out
      obtain ⟨G, HG⟩ : ∃ G, Hid (stripS (hexS x.data.toList) = G) := ⟨_, Lib.hid rfl⟩
      have HST := Lib.hid (by have h := HW.out; rw [pair_hex X k hk2, HX.out, HG.out, colonK_cons] at h; exact h)
      obtain ⟨D, hD⟩ : ∃ D : ByteArray, (⟨(hexS x.data.toList).toArray⟩ : ByteArray) = D := ⟨_, rfl⟩
      have hDd : D.data.toList = hexS x.data.toList := by rw [← hD]
      have hD4 : D.size = 4 := by rw [← size_len, hDd, ← HX.out]; exact hexS_pair X k hk2
      have hxs : x.size = 2 := by rw [← HX.out, ByteArray.size_extract]; omega
      have CH := Lib.hid (fun w => rhex_any x w (by omega))
      rw [hD] at CH
      have HG2 : Hid (stripS D.data.toList = G) := Lib.hid (by rw [hDd]; exact HG.out)
      have hlt : decide ((k : Int) < (X.size : Int)) = true := by simp; omega
      clear hD hDd
      go_wp2_with fail
      refine (CH.out _).mono ?_
      rintro e w1 ⟨rfl, hB1⟩
      have HB1 := Lib.hid (HB.out.trans (hB1.mono hsz))
      clear hB1
      go_wp2_with fail
      go_loopg [5] 5 (fun gas hv wq => ∃ (T : ByteArray), hv = .string T ∧ 1 ≤ T.size ∧ T.size ≤ 4 ∧ T.size < gas + 1 ∧ Hid (stripS T.data.toList = G) ∧ wq = w1)
      case atStart => exact ⟨D, rfl, by omega, by omega, by omega, HG2, rfl⟩
      case round =>
        obtain ⟨T, rfl, hT1, hT4, hTg, HT, rfl⟩ := hrel
        by_cases h1 : 1 < T.size
        · obtain ⟨c, hc⟩ : ∃ c, T[0] = c := ⟨_, rfl⟩
          by_cases h48 : c = 48
          · have HT2 := Lib.hid (strip_step HT.out h1 (hc.trans h48))
            have hb : ((c.toNat : Int) == 48) = true := by rw [h48]; rfl
            obtain ⟨U, hU⟩ : ∃ U, T.extract 1 T.size = U := ⟨_, rfl⟩
            have hUs : U.size = T.size - 1 := by rw [← hU, ByteArray.size_extract]; omega
            rw [hU] at HT2
            have HUS := Lib.hid hUs
            have h1i : (1 : Int) < (T.size : Int) := by omega
            clear h48 hUs
            go_wp2_with fail
            have hus := HUS.out
            go_roundg (gk - 1)
            case rel => exact ⟨U, by first | rfl | rw [hU], by omega, by omega, by omega, HT2, rfl⟩
            case measure => omega
          · have HTG : Hid (T.data.toList = G) := Lib.hid (by rw [← HT.out, strip_end (.inr (by rw [getD_at T 0 (by omega), hc]; exact h48))])
            have hb : ((c.toNat : Int) == 48) = false := by
              rw [beq_eq_false_iff_ne]; intro h; exact h48 (UInt8.toNat.inj (by show c.toNat = 48; omega))
            have h1i : (1 : Int) < (T.size : Int) := by omega
            clear h48
            by_cases hj0 : 0 < j
            · have hk0 : 0 < (k : Int) := by have := HKJ.out; omega
              rw [if_pos hj0] at HST
              have HN : Hid ((S ++ ⟨#[58]⟩ ++ T : ByteArray).data.toList ++ colonK (j + 1) (pairsG (X.data.toList.drop (k + 2))) = R) := Lib.hid (by
                rw [← HST.out, ← HTG.out]; simp)
              have HSS : Hid ((S ++ ⟨#[58]⟩ ++ T : ByteArray).size ≤ 5 * (j + 1)) := Lib.hid (by
                rw [ByteArray.size_append, ByteArray.size_append, show (⟨#[58]⟩ : ByteArray).size = 1 from rfl]; omega)
              have hs1 : (S ++ (⟨#[58]⟩ : ByteArray)).size = S.size + 1 := by rw [ByteArray.size_append]; rfl
              go_wp2_with fail
              have hjg := HJ.out
              go_roundg (gk' - 1)
              case rel => exact ⟨j + 1, k + 2, _, rfl, by go_num, HSS.out, Lib.hid (by have := HKJ.out; omega), by omega, by omega, HN, HB1⟩
              case measure => omega
            · have hk0 : ¬ 0 < (k : Int) := by have := HKJ.out; omega
              rw [if_neg hj0] at HST
              have HN : Hid ((S ++ T : ByteArray).data.toList ++ colonK (j + 1) (pairsG (X.data.toList.drop (k + 2))) = R) := Lib.hid (by
                rw [← HST.out, ← HTG.out]; simp)
              have HSS : Hid ((S ++ T : ByteArray).size ≤ 5 * (j + 1)) := Lib.hid (by rw [ByteArray.size_append]; omega)
              go_wp2_with fail
              have hjg := HJ.out
              go_roundg (gk' - 1)
              case rel => exact ⟨j + 1, k + 2, _, rfl, by go_num, HSS.out, Lib.hid (by have := HKJ.out; omega), by omega, by omega, HN, HB1⟩
              case measure => omega
        · have HTG : Hid (T.data.toList = G) := Lib.hid (by rw [← HT.out, strip_end (.inl (by rw [size_len]; omega))])
          by_cases hj0 : 0 < j
          · have hk0 : 0 < (k : Int) := by have := HKJ.out; omega
            rw [if_pos hj0] at HST
            have HN : Hid ((S ++ ⟨#[58]⟩ ++ T : ByteArray).data.toList ++ colonK (j + 1) (pairsG (X.data.toList.drop (k + 2))) = R) := Lib.hid (by
              rw [← HST.out, ← HTG.out]; simp)
            have HSS : Hid ((S ++ ⟨#[58]⟩ ++ T : ByteArray).size ≤ 5 * (j + 1)) := Lib.hid (by
              rw [ByteArray.size_append, ByteArray.size_append, show (⟨#[58]⟩ : ByteArray).size = 1 from rfl]; omega)
            have hs1 : (S ++ (⟨#[58]⟩ : ByteArray)).size = S.size + 1 := by rw [ByteArray.size_append]; rfl
            go_wp2_with fail
            have hjg := HJ.out
            go_roundg (gk' - 1)
            case rel => exact ⟨j + 1, k + 2, _, rfl, by go_num, HSS.out, Lib.hid (by have := HKJ.out; omega), by omega, by omega, HN, HB1⟩
            case measure => omega
          · have hk0 : ¬ 0 < (k : Int) := by have := HKJ.out; omega
            rw [if_neg hj0] at HST
            have HN : Hid ((S ++ T : ByteArray).data.toList ++ colonK (j + 1) (pairsG (X.data.toList.drop (k + 2))) = R) := Lib.hid (by
              rw [← HST.out, ← HTG.out]; simp)
            have HSS : Hid ((S ++ T : ByteArray).size ≤ 5 * (j + 1)) := Lib.hid (by rw [ByteArray.size_append]; omega)
            go_wp2_with fail
            have hjg := HJ.out
            go_roundg (gk' - 1)
            case rel => exact ⟨j + 1, k + 2, _, rfl, by go_num, HSS.out, Lib.hid (by have := HKJ.out; omega), by omega, by omega, HN, HB1⟩
            case measure => omega
    · have HE : Hid (S.data.toList = R) := Lib.hid (by
        have h := HW.out
        rw [drop_end X k (by have := HKJ.out; have := HSZ.out; omega)] at h
        have e : pairsG [] = [] := rfl
        rw [e, colonK_nil, List.append_nil] at h; exact h)
      have hge : (X.size : Int) ≤ (k : Int) := by have := HKJ.out; omega
      go_wp2_with fail
      go_ret
      exact ⟨ret_str (ba_ext HE.out), HB.out⟩
end Go.Proofs.YtjejmgdpjfdhjaaGreatDoor.rrows6
