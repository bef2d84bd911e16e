/- (*wire.packer).name: walk. wire.buffer.u32, wire.short, wire.nameSize: walks. wire.cursor: need, number: walks. (*wire.cursor).name: walk. Right data split as the short names want: plain. -/
import Derived.Test.YtnamkladeaohoaaK19
import Derived.Maps.OwnSet
import Derived.Maps.OwnOps
import Derived.Maps.Views
import Derived.StringKeys
import Derived.StillTailTactics
import Derived.Deep.DeepCutAuto
import Derived.Deep.QuietTactic
import Derived.BigQuiet
namespace Go.Proofs.Ytnamkladeaohoaa.pname
open Go.RowKit Go.Maps Go.Proofs.Ytnamkladeaohoaa.kit Go.Proofs.Ytnamkladeaohoaa.nspec Go.Proofs.Ytnamkladeaohoaa.bits Go.Proofs.Ytnamkladeaohoaa.bld Go.Proofs.Ytnamkladeaohoaa.coded Go.Proofs.Ytnamkladeaohoaa.fld Go.Proofs.Ytnamkladeaohoaa.packP Go.Proofs.Ytnamkladeaohoaa.buf
set_option linter.unusedVariables false

theorem keyLaw : Keyed Try.prog 9 := string_keyed Try.underlying9
theorem zeroInt (w : World) : (zeroValue 3).run Try.prog w = .ok (.int .i64 0) w := by kernel_rfl
/-- the map tells what is noted -/
def Tied (D : DataW Unit) (N : Noted) : Prop := ∀ k : Bs, Maps.has D (.string k) = (findN N k).isSome ∧ ∀ j, findN N k = some j → D.atKey (.string k) (.lit (.int .i64 0)) = .lit (.int .i64 (j : Int))
theorem Tied.nil : Tied (.map []) [] := by
  intro k
  exact ⟨rfl, by intro j h; cases h⟩
theorem Tied.snoc {D : DataW Unit} {N : Noted} (h : Tied D N) (hD : IsMap D) {r : Bs} {j : Nat} (hr : findN N r = none) : Tied (D.put (.string r) (.lit (.int .i64 (j : Int)))) (N ++ [(r, j)]) := by
  intro k
  obtain ⟨h1, h2⟩ := h k
  rw [findN_snoc]
  by_cases e : r = k
  · subst e
    rw [hr]
    simp only [if_true]
    refine ⟨by rw [has_put_same hD (show WideAt.IsKeyLit (.string r) from trivial)]; rfl, ?_⟩
    intro i hi
    cases hi
    rw [atKey_put_same hD (show WideAt.IsKeyLit (.string r) from trivial)]
  · have hne : (Lit.string k) ≠ Lit.string r := by intro h; injection h with h; exact e h.symm
    refine ⟨?_, ?_⟩
    · rw [has_put_other hne, h1]
      cases findN N k with
      | some i => rfl
      | none => simp [e]
    · intro i hi
      rw [atKey_put_other hne]
      cases hf : findN N k with
      | some i' => rw [hf] at hi; simp at hi; subst hi; exact h2 _ hf
      | none => rw [hf] at hi; simp [e] at hi

def Two (B M : Nat) (k : Nat) : Prop := k = B ∨ k = M
theorem mapObj {w : World} {P : Program} {k : TypeId} {R : Value → Option (DataW Unit × List MemPlace)} {b n : Nat} {D : DataW Unit} (h : w.ownsMap P k R b n D) : ∃ es st, w.heap[b]? = some (.map es st) := by
  obtain ⟨es, clock, h1, _⟩ := h; exact ⟨es, clock, h1⟩
theorem notU8_map (es : Array MapEntry) (st : Nat) : NotU8 (.map es st) := by intro cur f e; cases e
theorem or14 {y : Int} (h₀ : 0 ≤ y) (h₁ : y < 16384) : bits .or .i64 49152 y = 49152 + y :=
  bits_join .i64 31 (by decide) to32.wraps31 14 49152 y (by decide) (by decide) (by decide) h₀ h₁ (by omega)
theorem drop_put (x : Bs) (r : List Bs) (h : x.length ≤ 63) : (put (x :: r)).drop (1 + (UInt8.ofNat x.length).toNat) = put r := by
  rw [UInt8.toNat_ofNat_of_lt' (by show x.length < 256; omega)]
  simp only [put]
  rw [Nat.add_comm, List.drop_succ_cons, List.drop_left]
theorem Eff.of_drew (b0 : Nat) (T : Nat → Prop) (w : World) : Eff b0 T w w.drew := ⟨rfl, rfl, rfl, Nat.le_refl _, fun _ _ => rfl, fun _ _ h _ _ => h⟩
end Go.Proofs.Ytnamkladeaohoaa.pname
namespace Go.Proofs.Ytnamkladeaohoaa.psmall
open Go.RowKit Go.Proofs.Ytnamkladeaohoaa.kit Go.Proofs.Ytnamkladeaohoaa.nspec Go.Proofs.Ytnamkladeaohoaa.bits Go.Proofs.Ytnamkladeaohoaa.bld Go.Proofs.Ytnamkladeaohoaa.coded Go.Proofs.Ytnamkladeaohoaa.fld Go.Proofs.Ytnamkladeaohoaa.packP Go.Proofs.Ytnamkladeaohoaa.buf Go.Proofs.Ytnamkladeaohoaa.pname
set_option linter.unusedVariables false

theorem be2_low {v : Int} (h0 : 0 ≤ v) : be2 (v % 65536) = be2 v := by
  simp only [be2, byte]
  have e1 : v % 65536 / 256 % 256 = v / 256 % 256 := by omega
  have e2 : v % 65536 % 256 = v % 256 := by omega
  rw [e1, e2]
theorem wraps40 (n : Int) (h₀ : 0 ≤ n) (h₁ : n < 2 ^ 40) : IntKind.i64.wrap n = n := by rw [IntKind.wrap_i64]; omega
theorem and16 {x : Int} (h₀ : 0 ≤ x) (h₁ : x < 1099511627776) : bits .and .i64 x 65535 = x % 65536 := bits_mask .i64 40 (by decide) wraps40 16 (by decide) x h₀ h₁
def shortB (t : Int) : ByteArray := if t = 2 ∨ t = 5 ∨ t = 12 then ⟨#[110]⟩ else if t = 15 then ⟨#[49, 110]⟩ else if t = 6 then ⟨#[110, 110, 53, 53]⟩ else ⟨#[]⟩
theorem nameSz_put : ∀ (ls : List Bs) (t : Bs), okL ls → nameSz (put ls ++ t) = (put ls).length
  | [], t, _ => by simp [put, nameSz]
  | x :: r, t, h => by
    have hx := (okL_cons.1 h).1
    have hc : (UInt8.ofNat x.length).toNat = x.length := UInt8.toNat_ofNat_of_lt' (by show x.length < 256; omega)
    have h0 : UInt8.ofNat x.length ≠ 0 := by intro e; rw [e] at hc; simp at hc; omega
    simp only [put, List.cons_append, nameSz, if_neg h0, hc, List.append_assoc]
    rw [List.drop_left, nameSz_put r t (okL_cons.1 h).2]
    simp only [List.length_cons, List.length_append]; omega
end Go.Proofs.Ytnamkladeaohoaa.psmall
namespace Go.Proofs.Ytnamkladeaohoaa.cur
open Go.RowKit Go.Proofs.Ytnamkladeaohoaa.kit Go.Proofs.Ytnamkladeaohoaa.nspec Go.Proofs.Ytnamkladeaohoaa.rsplit Go.Proofs.Ytnamkladeaohoaa.check Go.Proofs.Ytnamkladeaohoaa.fld Go.Proofs.Ytnamkladeaohoaa.wireP Go.Proofs.Ytnamkladeaohoaa.wireM Go.Proofs.Ytnamkladeaohoaa.packP Go.Proofs.Ytnamkladeaohoaa.unpP Go.Proofs.Ytnamkladeaohoaa.rows
set_option linter.unusedVariables false

/-- bytes that can be read -/
def RdB (w : World) (a : Option Addr) (b : Bs) : Prop := ∀ (j : Nat) (c : UInt8), b[j]? = some c → ∃ g o, a = some ⟨g, o, none⟩ ∧ g < w.heap.size ∧ w.cell? ⟨g, o + j, none⟩ = some (.int .u8 (c.toNat : Int))
/-- what a cursor's walk may touch: its own block, new blocks -/
structure EffC (C : Nat) (w w' : World) : Prop where
  os : w'.os = w.os
  tape : w'.tape = w.tape
  output : w'.output = w.output
  size : w.heap.size ≤ w'.heap.size
  kept : ∀ k, k < w.heap.size → k ≠ C → w'.heap[k]? = w.heap[k]?
theorem EffC.refl (C : Nat) (w : World) : EffC C w w := ⟨rfl, rfl, rfl, Nat.le_refl _, fun _ _ _ => rfl⟩
theorem EffC.trans {C : Nat} {w w1 w2 : World} (h : EffC C w w1) (g : EffC C w1 w2) : EffC C w w2 :=
  ⟨g.os.trans h.os, g.tape.trans h.tape, g.output.trans h.output, Nat.le_trans h.size g.size, fun k hk hn => (g.kept k (Nat.lt_of_lt_of_le hk h.size) hn).trans (h.kept k hk hn)⟩
theorem EffC.of_below {C : Nat} {w w1 : World} (h : Below w.heap.size w w1) : EffC C w w1 := ⟨h.os, h.tape, h.output, h.size, fun k hk _ => h.block k hk⟩
theorem EffC.drewN (C : Nat) (w : World) (n : Nat) : EffC C w (w.drewN n) := ⟨rfl, rfl, rfl, Nat.le_refl _, fun _ _ _ => rfl⟩
theorem EffC.to_below {C B : Nat} {w w1 : World} (h : EffC C w w1) (hB : B ≤ C) (hs : B ≤ w.heap.size) : Below B w w1 := ⟨h.os, h.tape, h.output, h.size, fun k hk => h.kept k (by omega) (by omega)⟩
theorem atB_some {b : Bs} {k : Nat} (h : k < b.length) : ∃ c, b[k]? = some c ∧ atB b k = c.toNat := ⟨b[k], List.getElem?_eq_getElem h, by unfold atB; rw [List.getD_eq_getElem?_getD, List.getElem?_eq_getElem h]; rfl⟩
/-- so many bytes as a number, the highest first -/
def numB (b : Bs) (k : Nat) : Nat → Nat
  | 0 => 0
  | n + 1 => numB b k n * 256 + atB b (k + n)
theorem numB_two (b : Bs) (k : Nat) : numB b k 2 = num2 b k := by simp [numB, num2]
theorem numB_four (b : Bs) (k : Nat) : numB b k 4 = num4 b k := by
  simp only [numB, num4, num2, Nat.zero_mul, Nat.zero_add, Nat.add_zero]
  have e : k + 2 + 1 = k + 3 := rfl
  rw [e]; omega
theorem numB_lt (b : Bs) (k : Nat) : ∀ n, n ≤ 4 → numB b k n < 256 ^ n
  | 0, _ => by simp [numB]
  | n + 1, h => by
    have h1 := numB_lt b k n (by omega)
    have h2 := atB_lt b (k + n)
    simp only [numB, Nat.pow_succ]; omega
theorem or_byte {v c : Nat} (hv : v < 4294967296) (hc : c < 256) : bits .or .i64 ((v : Int) * 256) (c : Int) = ((v * 256 + c : Nat) : Int) := by
  have h := bits_join .i64 40 (by decide) psmall.wraps40 8 ((v : Int) * 256) (c : Int) (by omega) (by omega) (by omega) (by omega) (by omega) (by omega)
  rw [h]; omega
end Go.Proofs.Ytnamkladeaohoaa.cur
namespace Go.Proofs.Ytnamkladeaohoaa.cname
open Go.RowKit Go.Proofs.Ytnamkladeaohoaa.kit Go.Proofs.Ytnamkladeaohoaa.nspec Go.Proofs.Ytnamkladeaohoaa.rsplit Go.Proofs.Ytnamkladeaohoaa.check Go.Proofs.Ytnamkladeaohoaa.bits Go.Proofs.Ytnamkladeaohoaa.bld Go.Proofs.Ytnamkladeaohoaa.coded Go.Proofs.Ytnamkladeaohoaa.fld Go.Proofs.Ytnamkladeaohoaa.wireP Go.Proofs.Ytnamkladeaohoaa.wireM Go.Proofs.Ytnamkladeaohoaa.packP Go.Proofs.Ytnamkladeaohoaa.buf Go.Proofs.Ytnamkladeaohoaa.unpP Go.Proofs.Ytnamkladeaohoaa.rows Go.Proofs.Ytnamkladeaohoaa.cur
set_option linter.unusedVariables false

/-- what was read ahead, and where it goes on if that is settled -/
def comb (l : Bs) (af : Option Nat) : Got Bs → Got Bs
  | .bad e => .bad e
  | .ok s j => .ok (l ++ s) (af.getD j)
theorem comb_label (l : Bs) (af : Option Nat) (c : Bs) (g : Got Bs) : comb l af (match g with | .bad e => .bad e | .ok r j => .ok (c ++ r) j) = comb (l ++ c) af g := by
  cases g with
  | bad e => rfl
  | ok r j => simp [comb]
theorem comb_jump (l : Bs) (af : Option Nat) (k : Nat) (g : Got Bs) : comb l af (match g with | .bad e => .bad e | .ok r _ => .ok r k) = comb l (some (af.getD k)) g := by
  cases g with
  | bad e => rfl
  | ok r j => simp [comb]
theorem comb_nil (g : Got Bs) : comb [] none g = g := by cases g <;> simp [comb]
def afV : Option Nat → Int
  | none => -1
  | some j => (j : Int)
theorem cut_cells {w : World} {g o : Nat} {b : Bs} (h : RdB w (some ⟨g, o, none⟩) b) (i n : Nat) : ∀ (j : Nat) (u : Value), (Lib.byteCells (cutB b i (i + n)))[j]? = some u → w.cell? ((⟨g, o + i, none⟩ : Addr).add j) = some u := by
  intro j u hu
  simp only [Lib.byteCells, List.getElem?_map] at hu
  obtain ⟨c, hc, rfl⟩ := Option.map_eq_some_iff.1 hu
  unfold cutB at hc
  have hj : j < i + n - i := by have := (List.getElem?_eq_some_iff.1 hc).1; rw [List.length_take] at this; omega
  rw [List.getElem?_take_of_lt hj, List.getElem?_drop] at hc
  obtain ⟨g', o', h1, _, h3⟩ := h (i + j) c hc
  cases h1
  rw [addr_at, Nat.add_assoc]; exact h3
theorem byte_one (l : List UInt8) (u : Value) (h : u ∈ Lib.byteCells l) : u.oneCell' = true := by
  simp only [Lib.byteCells, List.mem_map] at h
  obtain ⟨c, _, rfl⟩ := h; rfl
theorem and63 {x : Int} (h₀ : 192 ≤ x) (h₁ : x < 256) : bits .and .i64 x 63 = x - 192 := by
  have h : bits .and .i64 x 63 = x % 64 := bits_mask .i64 40 (by decide) psmall.wraps40 6 (by decide) x (by omega) (by omega)
  rw [h]; omega

theorem _root_.Go.Proofs.Ytnamkladeaohoaa.cur.EffC.then_below {C : Nat} {w W w1 : World} (h : EffC C w W) (hB : Below w.heap.size W w1) : EffC C w w1 :=
  ⟨hB.os.trans h.os, hB.tape.trans h.tape, hB.output.trans h.output, Nat.le_trans h.size hB.size, fun k hk hn => (hB.block k hk).trans (h.kept k hk hn)⟩
end Go.Proofs.Ytnamkladeaohoaa.cname
namespace Go.Proofs.Ytnamkladeaohoaa.fits
open Go.Proofs.Ytnamkladeaohoaa.nspec Go.Proofs.Ytnamkladeaohoaa.fld Go.Proofs.Ytnamkladeaohoaa.wireP Go.Proofs.Ytnamkladeaohoaa.packP Go.Proofs.Ytnamkladeaohoaa.psmall
set_option linter.unusedVariables false

/-- data that begin with such parts -/
def Fits : List (Option Nat) → Bs → Prop
  | [], _ => True
  | none :: fs, d => ∃ ls d', okL ls ∧ (put ls).length ≤ 255 ∧ d = put ls ++ d' ∧ Fits fs d'
  | some k :: fs, d => k ≤ d.length ∧ Fits fs (d.drop k)
theorem split_step {x : Fld} {f : List Fld} {d : Bs} {r : List Bs × Bs} (h : splitS (x :: f) d = some r) : 0 ≤ takeS x d ∧ ∃ r', splitS f (d.drop (takeS x d).toNat) = some r' ∧ r.2 = r'.2 := by
  simp only [splitS] at h
  split at h
  · cases h
  · rename_i hn
    refine ⟨by omega, ?_⟩
    cases hs : splitS f (d.drop (takeS x d).toNat) with
    | none => rw [hs] at h; cases h
    | some r' => rw [hs] at h; cases h; exact ⟨r', rfl, rfl⟩
theorem host_split {d : Bs} (h : 0 ≤ takeS .host d) : ∃ ls, okL ls ∧ (put ls).length ≤ 255 ∧ d = put ls ++ d.drop (takeS .host d).toNat := by
  simp only [takeS, hostS] at h ⊢
  cases hf : (List.range 256).find? (fun k => (split (d.take k)).isSome) with
  | none => rw [hf] at h; simp at h
  | some k =>
    have h1 := List.find?_some hf
    obtain ⟨ls, hls⟩ := Option.isSome_iff_exists.1 h1
    have hn := split_iff.1 hls
    refine ⟨ls, hn.2.1, by rw [← hn.1]; exact hn.2.2, ?_⟩
    rw [← hn.1]
    exact (List.take_append_drop k d).symm
theorem num_split {k : Nat} {d : Bs} (h : 0 ≤ takeS (.num k) d) : k ≤ d.length ∧ (takeS (.num k) d).toNat = k := by
  simp only [takeS] at h ⊢
  split at h
  · omega
  · rename_i hn
    rw [if_neg hn]
    exact ⟨by omega, by simp⟩
theorem parts_split {t : Int} {d : Bs} {f : List Fld} (h : checkS t d = 0) (hf : formS t = some f) : ∃ p, splitS f d = some (p, []) := by
  unfold checkS at h
  split at h
  · omega
  split at h
  · omega
  split at h
  · omega
  rename_i hp
  unfold partsS at hp
  rw [hf] at hp
  simp only at hp
  cases hs : splitS f d with
  | none => rw [hs] at hp; exact absurd rfl hp
  | some r =>
    obtain ⟨p, e⟩ := r
    cases e with
    | nil => exact ⟨p, rfl⟩
    | cons c e => rw [hs] at hp; exact absurd rfl hp
def fieldB (c : UInt8) : Option Nat := if c = 110 then none else some (2 * (c.toNat - 48))
def fieldsW (t : Int) : List (Option Nat) := (shortB t).data.toList.map fieldB
theorem one_host {d : Bs} {p : List Bs} (h : splitS [.host] d = some (p, [])) : Fits [none] d := by
  obtain ⟨h0, r', h1, h2⟩ := split_step h
  obtain ⟨ls, g1, g2, g3⟩ := host_split h0
  exact ⟨ls, _, g1, g2, g3, trivial⟩
theorem fits_w {t : Int} {d : Bs} (h : checkS t d = 0) : Fits (fieldsW t) d := by
  by_cases h2 : t = 2 ∨ t = 5 ∨ t = 12
  · have e : fieldsW t = [none] := by simp only [fieldsW, shortB, if_pos h2]; rfl
    rw [e]
    have hf : formS t = some [.host] := by rcases h2 with rfl | rfl | rfl <;> rfl
    obtain ⟨p, hp⟩ := parts_split h hf
    exact one_host hp
  by_cases h15 : t = 15
  · subst h15
    have e : fieldsW 15 = [some 2, none] := rfl
    rw [e]
    obtain ⟨p, hp⟩ := parts_split h (show formS 15 = some [.num 2, .host] from rfl)
    obtain ⟨h0, r', h1, h2'⟩ := split_step hp
    obtain ⟨g1, g2⟩ := num_split h0
    rw [g2] at h1
    obtain ⟨p', e'⟩ := r'
    simp only at h2'
    subst h2'
    exact ⟨g1, one_host h1⟩
  by_cases h6 : t = 6
  · subst h6
    have e : fieldsW 6 = [none, none, some 10, some 10] := rfl
    rw [e]
    obtain ⟨p, hp⟩ := parts_split h (show formS 6 = some [.host, .host, .num 4, .num 4, .num 4, .num 4, .num 4] from rfl)
    obtain ⟨a0, r1, a1, _⟩ := split_step hp
    obtain ⟨ls, g1, g2, g3⟩ := host_split a0
    obtain ⟨b0, r2, b1, _⟩ := split_step a1
    obtain ⟨ms, k1, k2, k3⟩ := host_split b0
    refine ⟨ls, _, g1, g2, g3, ms, _, k1, k2, k3, ?_⟩
    obtain ⟨c0, r3, c1, _⟩ := split_step b1
    obtain ⟨n1, m1⟩ := num_split c0
    rw [m1] at c1
    obtain ⟨d0, r4, d1, _⟩ := split_step c1
    obtain ⟨n2, m2⟩ := num_split d0
    rw [m2] at d1
    obtain ⟨e0, r5, e1, _⟩ := split_step d1
    obtain ⟨n3, m3⟩ := num_split e0
    rw [m3] at e1
    obtain ⟨f0, r6, f1, _⟩ := split_step e1
    obtain ⟨n4, m4⟩ := num_split f0
    rw [m4] at f1
    obtain ⟨i0, r7, i1, _⟩ := split_step f1
    obtain ⟨n5, m5⟩ := num_split i0
    simp only [List.length_drop] at n1 n2 n3 n4 n5
    refine ⟨by simp only [List.length_drop]; omega, by simp only [List.length_drop]; omega, trivial⟩
  · have e : fieldsW t = [] := by
      simp only [fieldsW, shortB, if_neg h2, if_neg h15, if_neg h6]; rfl
    rw [e]; trivial
/-- two tens are twenty -/
theorem data_w {t : Int} (d : Bs) (p : Pp) : dataP (fieldsW t) d p = dataP (shortL t) d p := by
  by_cases h2 : t = 2 ∨ t = 5 ∨ t = 12
  · have e : fieldsW t = [none] := by simp only [fieldsW, shortB, if_pos h2]; rfl
    rw [e]; simp only [shortL, if_pos h2]
  by_cases h15 : t = 15
  · subst h15; rfl
  by_cases h6 : t = 6
  · subst h6
    have e : fieldsW 6 = [none, none, some 10, some 10] := rfl
    have e2 : shortL 6 = [none, none, some 20] := rfl
    rw [e, e2]
    simp only [dataP]
    have h : ∀ (x : Bs) (o : Bs), (o ++ x.take 10) ++ (x.drop 10).take 10 = o ++ x.take 20 := by
      intro x o
      rw [List.append_assoc, ← List.take_add]
    have hd : ∀ x : Bs, (x.drop 10).drop 10 = x.drop 20 := fun x => by rw [List.drop_drop]
    rw [h, hd]
  · have e : fieldsW t = [] := by
      simp only [fieldsW, shortB, if_neg h2, if_neg h15, if_neg h6]; rfl
    have e2 : shortL t = [] := by simp only [shortL, if_neg h2, if_neg h15, if_neg h6]
    rw [e, e2]
end Go.Proofs.Ytnamkladeaohoaa.fits
