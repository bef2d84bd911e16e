/- The iterator name.labels: its contract. name.Check: its walk. Names in plain Lean: rows of labels and their bytes. Bits: plain lists of noughts and ones; base 2^n. The fields of data: plain. Small letters: gazetteerref1.Low, and Number. Base 2^n back: plain. -/
import Derived.Test.YtkcpbjoolfojjaaGreatDoorP1
import Derived.RangeFuncNested
import Derived.RangeFuncBound
import Derived.RangeFuncCalls
import Derived.RangeFuncLeaves
import Derived.RangeFuncBox
import Derived.Shelf.Abstract
import Derived.Shelf.RegionOpen
import Derived.OwnWalkIn
import Derived.TacticsInMore
import Derived.LoopNIn
import Derived.LoopIn
import Derived.Sort.LoopGhostIn
namespace Go.Proofs.YtkcpbjoolfojjaaGreatDoor.labels
open Go.RowKit Go.Shelf Go.Proofs.YtkcpbjoolfojjaaGreatDoor.kit
attribute [local go_sem] Oper.semAt_some

/-- what the iterator hands over: places and labels -/
def pairsF : Nat → Nat → List UInt8 → List (Nat × ByteArray)
  | 0, _, _ => []
  | _ + 1, _, [] => []
  | f + 1, at', c :: r => if 63 < c.toNat ∨ r.length < c.toNat then [] else (at', ⟨(r.take c.toNat).toArray⟩) :: (if c.toNat = 0 then [] else pairsF f (at' + 1 + c.toNat) (r.drop c.toNat))
def pairs (s : ByteArray) : List (Nat × ByteArray) := pairsF s.size 0 s.data.toList

abbrev Lab (N : Nat) := { x : Nat × ByteArray // x.1 ≤ N ∧ x.2.size ≤ 63 }
def raw {N : Nat} (l : List (Lab N)) : List (Nat × ByteArray) := l.map (·.val)
theorem raw_snoc {N : Nat} (l : List (Lab N)) (x : Lab N) : raw (l ++ [x]) = raw l ++ [x.val] := by simp [raw]

theorem pf_end {f k : Nat} {l : List UInt8} {p R : List (Nat × ByteArray)} (h : p ++ pairsF f k l = R) (hl : l = []) : p = R := by
  subst hl; cases f <;> simpa [pairsF] using h
theorem pf_bad {f k : Nat} {l r : List UInt8} {c : UInt8} {p R : List (Nat × ByteArray)} (h : p ++ pairsF f k l = R) (hf : 0 < f) (hl : l = c :: r) (hc : 63 < c.toNat ∨ r.length < c.toNat) : p = R := by
  obtain ⟨g, rfl⟩ : ∃ g, f = g + 1 := ⟨f - 1, by omega⟩
  subst hl; simp only [pairsF] at h; rw [if_pos hc] at h; simpa using h
theorem pf_zero {f k : Nat} {l r : List UInt8} {c : UInt8} {x : ByteArray} {p R : List (Nat × ByteArray)} (h : p ++ pairsF f k l = R) (hf : 0 < f) (hl : l = c :: r) (hc : ¬ (63 < c.toNat ∨ r.length < c.toNat)) (h0 : c.toNat = 0) (hx : x.data.toList = r.take c.toNat) : p ++ [(k, x)] = R := by
  obtain ⟨g, rfl⟩ : ∃ g, f = g + 1 := ⟨f - 1, by omega⟩
  subst hl; simp only [pairsF] at h; rw [if_neg hc, if_pos h0] at h
  have : x = ⟨(r.take c.toNat).toArray⟩ := ba_ext hx
  rw [this]; exact h
theorem pf_next {f k : Nat} {l r : List UInt8} {c : UInt8} {x : ByteArray} {p R : List (Nat × ByteArray)} (h : p ++ pairsF f k l = R) (hf : 0 < f) (hl : l = c :: r) (hc : ¬ (63 < c.toNat ∨ r.length < c.toNat)) (h0 : c.toNat ≠ 0) (hx : x.data.toList = r.take c.toNat) : (p ++ [(k, x)]) ++ pairsF (f - 1) (k + 1 + c.toNat) (r.drop c.toNat) = R := by
  obtain ⟨g, rfl⟩ : ∃ g, f = g + 1 := ⟨f - 1, by omega⟩
  subst hl; simp only [pairsF] at h; rw [if_neg hc, if_neg h0] at h
  have : x = ⟨(r.take c.toNat).toArray⟩ := ba_ext hx
  rw [this]; simpa using h
theorem pf_part {f k : Nat} {l r : List UInt8} {c : UInt8} {x : ByteArray} {p R : List (Nat × ByteArray)} (h : p ++ pairsF f k l = R) (hf : 0 < f) (hl : l = c :: r) (hc : ¬ (63 < c.toNat ∨ r.length < c.toNat)) (hx : x.data.toList = r.take c.toNat) : p ++ [(k, x)] <+: R := by
  by_cases h0 : c.toNat = 0
  · rw [pf_zero h hf hl hc h0 hx]; exact List.prefix_rfl
  · rw [← pf_next h hf hl hc h0 hx]; exact List.prefix_append _ _
/-- the fuel is always enough -/
theorem pf_fuel : ∀ (f g k : Nat) (l : List UInt8), l.length ≤ f → l.length ≤ g → pairsF f k l = pairsF g k l
  | 0, g, k, l, h1, h2 => by
    have : l = [] := List.eq_nil_of_length_eq_zero (by omega)
    subst this; cases g <;> rfl
  | f + 1, 0, k, l, h1, h2 => by
    have : l = [] := List.eq_nil_of_length_eq_zero (by omega)
    subst this; rfl
  | f + 1, g + 1, k, [], h1, h2 => rfl
  | f + 1, g + 1, k, c :: r, h1, h2 => by
    simp only [pairsF, List.length_cons] at h1 h2 ⊢
    rw [pf_fuel f g _ (r.drop c.toNat) (by simp; omega) (by simp; omega)]

theorem below_putObj {B D : Nat} {a W : World} (h : Below B a W) (hD : B ≤ D) (o : Obj) : Below B a (W.putObj D o) :=
  h.trans ⟨rfl, rfl, rfl, by simp, fun k hk => World.putObj_heap_other (by omega)⟩
theorem boxed_putObj {W : World} {B D : Nat} {t : TypeId} {v : Value} (h : Boxed W B t v) (hD : B ≠ D) (o : Obj) : Boxed (W.putObj D o) B t v :=
  h.kept (grownBy_putObj' W D o) (fun e => hD (by cases e; rfl))
/-- a round leaves the iterator's own box as it is -/
def KeepBox (Bs : Nat) (W W' : World) : Prop := W'.cell? ⟨Bs, 0, none⟩ = W.cell? ⟨Bs, 0, none⟩
theorem keepBox_t (Bs : Nat) {A B C : World} (h : KeepBox Bs A B) (k : KeepBox Bs B C) : KeepBox Bs A C := Eq.trans k h
theorem keepBox_b {Bs : Nat} (W : World) (l : Nat) (o' : Obj) (h : Bs ≠ l) : KeepBox Bs W (W.putObj l o') :=
  World.cell?_of_block (World.putObj_heap_other (w := W) (r := l) (k := Bs) h)

set_option maxRecDepth 100000 in
set_option maxHeartbeats 2000000 in
theorem labels1_in (F : Fence) (n : Nat) (hf : F.fn 60) (hro : F.round = none) (hn : 1 ≤ n) (l Bs : Nat) (s : ByteArray) (hs : s.size ≤ 1099511627776) (J Jx : List (Lab s.size) → World → Prop)
    (hY : ∀ pre x W, J pre W → pre.length < s.size → YieldAt F (n - 1) Tryz.prog l #[.int .i64 (x.val.1 : Int), .string x.val.2] W fun e W' =>
      (e = .returned (.bool true) ∧ J (pre ++ [x]) W' ∧ KeepBox Bs W W') ∨ (e = .returned (.bool false) ∧ Jx (pre ++ [x]) W'))
    (W : World) (hBs : W.cell? ⟨Bs, 0, none⟩ = some (.string s)) (h0 : J [] W) :
    CallsIn F n Tryz.prog 60 #[.func (.yield l) #[] #[], .pointer (some ⟨Bs, 0, none⟩)] W fun e W' => (∃ v, e = .returned v) ∧
      ((∃ ys, raw ys = pairs s ∧ J ys W') ∨ (∃ pre, raw pre <+: pairs s ∧ Jx pre W')) := by
  refine callsIn_of_wp Tryz.func60 rfl hf ?_ hro
  simp only [Tryz.ntmps60, List.size_toArray, List.length_cons, List.length_nil, Nat.reduceAdd, Nat.reduceSub, Array.replicate_succ, Array.replicate_zero, List.push_toArray, List.append_toArray, List.nil_append, List.cons_append]
  gi_wp2
  gi_loopg [3] (s.size + 1) (fun gas i wr => ∃ (k : Nat) (pre : List (Lab s.size)), k ≤ s.size ∧ i = .int .i64 k ∧ J pre wr ∧ KeepBox Bs W wr ∧ pre.length ≤ k ∧ s.size - k < gas ∧ Hid (raw pre ++ pairsF (s.size - k) k (s.data.toList.drop k) = pairs s))
  case atStart => exact ⟨0, [], by omega, rfl, h0, rfl, by simp, by omega, Lib.hid rfl⟩
  case round =>
    obtain ⟨k, pre, hk, rfl, hJ, hB, hpk, hgas, HP⟩ := hrel
    have hcell := hB.trans hBs
    have HB := Lib.hid hB; clear hB
    by_cases hlt : k < s.size
    · have HD := Lib.hid (drop_cons s k hlt)
      have h255 : (s[k].toNat : Int) ≤ 255 := by have := s[k].toNat_lt; omega
      have HL : Hid ((s.data.toList.drop (k + 1)).length = s.size - (k + 1)) := Lib.hid (by simp)
      by_cases h63 : 63 < (s[k].toNat : Int)
      · have HE := Lib.hid (pf_bad HP.out (by omega) HD.out (.inl (by omega)))
        gi_wp2
        refine ⟨fun _ h => (by cases h), ?_⟩
        gi_wp2
        refine bodyPost_ret (results_none rfl _ _ _) rfl ?_
        exact ⟨⟨_, rfl⟩, .inl ⟨_, HE.out, hJ⟩⟩
      · have h63' : (s[k].toNat : Int) ≤ 63 := by omega
        by_cases hfit : (s.size : Int) < (k : Int) + 1 + (s[k].toNat : Int)
        · have HE := Lib.hid (pf_bad HP.out (by omega) HD.out (.inr (by have := HL.out; omega)))
          gi_wp2
          refine ⟨fun _ h => (by cases h), ?_⟩
          gi_wp2
          refine bodyPost_ret (results_none rfl _ _ _) rfl ?_
          exact ⟨⟨_, rfl⟩, .inl ⟨_, HE.out, hJ⟩⟩
        · have hfit' : (k : Int) + 1 + (s[k].toNat : Int) ≤ (s.size : Int) := by omega
          have HNB : Hid (¬ (63 < s[k].toNat ∨ (s.data.toList.drop (k + 1)).length < s[k].toNat)) := Lib.hid (by have := HL.out; omega)
          have hsz : (s.extract (k + 1) (k + 1 + s[k].toNat)).size ≤ 63 := by rw [ByteArray.size_extract]; omega
          have HX : Hid ((s.extract (k + 1) (k + 1 + s[k].toNat)).data.toList = (s.data.toList.drop (k + 1)).take s[k].toNat) := Lib.hid (by
            rw [Lib.extract_data]; congr 1; omega)
          obtain ⟨fn, tmps, assign, body, hy, hR⟩ := hY pre ⟨(k, s.extract (k + 1) (k + 1 + s[k].toNat)), by omega, hsz⟩ wr hJ (by omega)
          dsimp only at hy
          have HPA := Lib.hid (pf_part HP.out (by omega) HD.out HNB.out HX.out)
          clear hfit h63
          gi_wp2
          refine hR.mono ?_
          clear hR hy
          rintro e W3 (⟨rfl, hJ3, hk3⟩ | ⟨rfl, hJx3⟩)
          · have hcell3 := hk3.trans hcell
            have HB3 := Lib.hid (keepBox_t Bs HB.out hk3)
            clear hk3
            by_cases hz : s[k].toNat = 0
            · have HE := Lib.hid (pf_zero HP.out (by omega) HD.out HNB.out hz HX.out)
              have hz' : ((s[k].toNat : Int) == 0) = true := by simp [hz]
              clear hz
              gi_wp2
              refine bodyPost_ret (results_none rfl _ _ _) rfl ?_
              exact ⟨⟨_, rfl⟩, .inl ⟨_, (raw_snoc _ _).trans HE.out, hJ3⟩⟩
            · have HE := Lib.hid (pf_next HP.out (by omega) HD.out HNB.out hz HX.out)
              have hz' : ((s[k].toNat : Int) == 0) = false := by simp; omega
              have hz2 : 1 ≤ (s[k].toNat : Int) := by omega
              clear hz
              gi_wp2
              gi_roundg (gk - 1 - s[k].toNat)
              case rel =>
                refine ⟨k + 1 + s[k].toNat, pre ++ [⟨(k, s.extract (k + 1) (k + 1 + s[k].toNat)), by omega, hsz⟩], by omega, ?_, hJ3, HB3.out, by simp; omega, by omega, Lib.hid ?_⟩
                · congr 1; omega
                · rw [raw_snoc, ← HE.out]
                  congr 1
                  rw [List.drop_drop]
                  exact pf_fuel _ _ _ _ (by simp <;> omega) (by simp <;> omega)
              case measure => omega
          · gi_wp2
            refine bodyPost_ret (results_none rfl _ _ _) rfl ?_
            exact ⟨⟨_, rfl⟩, .inr ⟨_, by rw [raw_snoc]; exact HPA.out, hJx3⟩⟩
    · have HE := Lib.hid (pf_end HP.out (drop_end s k (by omega)))
      gi_wp2
      go_end0
      exact ⟨⟨_, rfl⟩, .inl ⟨_, HE.out, hJ⟩⟩

set_option maxHeartbeats 1000000 in
theorem labels_in (F : Fence) (n : Nat) (hf : F.fn 32) (hro : F.round = none) (s : ByteArray) (w : World) :
    CallsIn F n Tryz.prog 32 #[.string s] w fun e w' => e = .returned (.func (.func 60) #[] #[.pointer (some ⟨w.heap.size, 0, none⟩)]) ∧ w' = w.alloc (.cells #[.string s] 9) := by
  refine callsIn_of_wp Tryz.func32 rfl hf ?_ hro
  simp only [Tryz.ntmps32, List.size_toArray, List.length_cons, List.length_nil, Nat.reduceAdd, Nat.reduceSub, Array.replicate_succ, Array.replicate_zero, List.push_toArray, List.append_toArray, List.nil_append, List.cons_append]
  gi_wp2
  go_ret
  exact ⟨rfl, rfl⟩

theorem labels_stops (F : Fence) (n : Nat) (hf : F.fn 60) (hro : F.round = none) (hn : 1 ≤ n) (Bs : Nat) (s : ByteArray) (hs : s.size ≤ 1099511627776) (w : World) (hBs : Bs < w.heap.size)
    (hc : w.cell? ⟨Bs, 0, none⟩ = some (.string s)) :
    SeqStopsK F n Tryz.prog 60 #[.pointer (some ⟨Bs, 0, none⟩)] (fun x : Lab s.size => #[.int .i64 (x.val.1 : Int), .string x.val.2]) (KeepBox Bs) (fun ys => raw ys = pairs s) (fun pre => raw pre <+: pairs s) s.size w := fun l J Jx W hW _ _ hY h0 => by
  have hc' := (hW.cell (p := ⟨Bs, 0, none⟩) hBs).trans hc
  exact labels1_in F n hf hro hn l Bs s hs J Jx hY W hc' h0
end Go.Proofs.YtkcpbjoolfojjaaGreatDoor.labels
namespace Go.Proofs.YtkcpbjoolfojjaaGreatDoor.check
open Go.RowKit Go.Shelf Go.Proofs.YtkcpbjoolfojjaaGreatDoor.kit Go.Proofs.YtkcpbjoolfojjaaGreatDoor.labels
attribute [local go_sem] Oper.semAt_some

/-- the pair that ends a name of so many bytes -/
def ends (N : Nat) (p : Nat × ByteArray) : Bool := p.2.toList.isEmpty && decide ((p.1 : Int) = (N : Int) - 1)
def chkE (s : ByteArray) : Int := if 255 < s.size then 1 else if (pairs s).any (ends s.size) then 0 else 1

theorem any_yes {N M : Nat} {pre : List (Lab N)} {x : Lab N} (h1 : x.val.2.toList = []) (h2 : ((x.val.1 : Int) == (M : Int) - 1) = true) : (raw (pre ++ [x])).any (ends M) = true := by
  rw [raw_snoc, List.any_append]; simp only [List.any_cons, List.any_nil, ends, Bool.or_false, h1, List.isEmpty_nil, Bool.true_and]
  rw [decide_eq_true (eq_of_beq h2)]; simp
theorem any_no {N M : Nat} {pre : List (Lab N)} {x : Lab N} (h : (raw pre).any (ends M) = false) (h2 : ((x.val.1 : Int) == (M : Int) - 1) = false) : (raw (pre ++ [x])).any (ends M) = false := by
  rw [raw_snoc, List.any_append, h]; simp only [List.any_cons, List.any_nil, ends, Bool.or_false]
  rw [decide_eq_false (ne_of_beq_false h2)]; simp
theorem any_no' {N M : Nat} {pre : List (Lab N)} {x : Lab N} (h : (raw pre).any (ends M) = false) (h2 : x.val.2.toList.isEmpty = false) : (raw (pre ++ [x])).any (ends M) = false := by
  rw [raw_snoc, List.any_append, h]; simp only [List.any_cons, List.any_nil, ends, Bool.or_false, h2, Bool.false_and]
theorem ret_chk_end {s : ByteArray} {ys : List (Lab s.size)} (h : (s.size : Int) ≤ 255) (hS : raw ys = pairs s) (hA : (raw ys).any (ends s.size) = false) : Ending.returned (.int .i64 1) = .returned (.int .i64 (chkE s)) := by
  simp only [chkE]; rw [if_neg (by omega), ← hS, hA]; rfl
theorem ret_chk_ok {s : ByteArray} {ys : List (Lab s.size)} (h : (s.size : Int) ≤ 255) (hS : raw ys <+: pairs s) (hA : (raw ys).any (ends s.size) = true) : Ending.returned (.int .i64 0) = .returned (.int .i64 (chkE s)) := by
  obtain ⟨t, ht⟩ := hS
  simp only [chkE]; rw [if_neg (by omega), ← ht, List.any_append, hA]; rfl
theorem ret_chk_long (s : ByteArray) (h : 255 < (s.size : Int)) : Ending.returned (.int .i64 1) = .returned (.int .i64 (chkE s)) := by
  simp only [chkE]; rw [if_pos (by omega)]
theorem check_long (s : ByteArray) (w : World) (h : 255 < (s.size : Int)) :
    Calls Tryz.prog 9 #[.string s] w fun e w' => e = .returned (.int .i64 (chkE s)) ∧ Below w.heap.size w w' := by
  go_enter Tryz.func9, Tryz.ntmps9
  go_wp2
  refine bodyPost_ret (v := .int .i64 1) (by simp [results, Tryz.results9, go_sem]) rfl ⟨ret_chk_long s h, ((Below.refl _ _).alloc (Nat.le_refl _) _).alloc (by simp) _⟩

set_option maxRecDepth 100000 in
set_option maxHeartbeats 2000000 in
theorem check_in (s : ByteArray) (w : World) (hs : s.size ≤ 1099511627776) (hlong' : (s.size : Int) ≤ 255) :
    CallsIn Fence.wide 3 Tryz.prog 9 #[.string s] w fun e w' => e = .returned (.int .i64 (chkE s)) ∧ Below w.heap.size w w' := by
  refine callsIn_of_wp_marks Tryz.func9 rfl trivial ?_ rfl
  simp only [Tryz.ntmps9, List.size_toArray, List.length_cons, List.length_nil, Nat.reduceAdd, Nat.reduceSub, Array.replicate_succ, Array.replicate_zero, List.push_toArray, List.append_toArray, List.nil_append, List.cons_append]
  gi_wp2_with (refine ⟨trivial, ?_⟩; gi_at_call 32; refine (labels_in Fence.wide _ trivial rfl _ _).mono ?_; rintro e w' ⟨rfl, rfl⟩)
  obtain ⟨w2, hw2⟩ : ∃ w2, ((w.alloc (.cells #[.string s] 9)).alloc (.cells #[.int .i64 0] 25)).alloc (.cells #[.string s] 9) = w2 := ⟨_, rfl⟩
  rw [hw2]
  have hz : w2.heap.size = w.heap.size + 3 := by rw [← hw2]; simp
  have hB : Below w.heap.size w w2 := by rw [← hw2]; exact (((Below.refl _ w).alloc (Nat.le_refl _) _).alloc (by simp) _).alloc (by simp; omega) _
  have h1 : Boxed w2 w.heap.size 9 (.string s) := by rw [← hw2]; exact ((Boxed.new w _ _).alloc _).alloc _
  have h2 : Boxed w2 (w.heap.size + 1) 25 (.int .i64 0) := by
    rw [← hw2]; have := (Boxed.new (w.alloc (.cells #[.string s] 9)) 25 (.int .i64 0)).alloc (.cells #[.string s] 9); simpa using this
  have h3 : w2.cell? ⟨w.heap.size + 2, 0, none⟩ = some (.string s) := by
    rw [← hw2]; have := (Boxed.new ((w.alloc (.cells #[.string s] 9)).alloc (.cells #[.int .i64 0] 25)) 9 (.string s)).cell; simpa using this
  clear hw2
  refine wpIn_rangeFunc_ownG rfl (by omega) (gf := 60) (lb := #[.pointer (some ⟨w.heap.size + 2, 0, none⟩)]) rfl trivial (enters_of Tryz.func60 (by kernel_rfl) rfl)
    (labels_stops Fence.wide _ trivial rfl (by omega) (w.heap.size + 2) s hs w2 (by omega) h3) (keepBox_t _) (fun W l o o' hl _ _ _ => keepBox_b W l o' (by omega)) (Below.refl _ _) (fun _ => rfl)
    (fun pre W => Boxed W w.heap.size 9 (.string s) ∧ Boxed W (w.heap.size + 1) 25 (.int .i64 0) ∧ Below w.heap.size w W ∧ Hid ((raw pre).any (ends s.size) = false))
    (fun c pre W => c = .ret ∧ Boxed W (w.heap.size + 1) 25 (.int .i64 0) ∧ Below w.heap.size w W ∧ Hid ((raw pre).any (ends s.size) = true))
    (((boxed_own _ _ (fun _ => .string s)).from _).and (((boxed_own _ _ (fun _ => .int .i64 0)).from _).and ((ownFrom_below (Nat.le_refl _) (by omega)).and (ownFrom_pure _ _))))
    (fun c => (ownFrom_pure _ _).and (((boxed_own _ _ (fun _ => .int .i64 0)).from _).and ((ownFrom_below (Nat.le_refl _) (by omega)).and (ownFrom_pure _ _))))
    ⟨h1, h2, hB, Lib.hid (by simp [raw])⟩
    (fun x => { tmps := #[.string s, .pointer (some ⟨w.heap.size, 0, none⟩), .pointer (some ⟨w.heap.size + 1, 0, none⟩), .int .i64 (x.val.1 : Int), .string x.val.2, .string s, .int .i64 (s.size : Int), .bool (decide (255 < (s.size : Int))), .string s, .func (.func 60) #[] #[.pointer (some ⟨w.heap.size + 2, 0, none⟩)], .int .i64 (x.val.1 : Int), .string x.val.2, undef, undef, undef, undef, undef, undef, undef, undef, undef], defers := [] }) ?assign ?body ?done ?stop
  case assign =>
    intro l x W K hK
    gi_wp2
    exact hK
  case body =>
    rintro l pre x W ⟨hb1, hb2, hBl, HA⟩ _
    have hc1 := hb1.cell
    have hc2 := hb2.cell
    have hf2 := hb2.frozen
    by_cases he : x.val.2.toList = []
    · by_cases hn : ((x.val.1 : Int) == (s.size : Int) - 1) = true
      · have HY := Lib.hid (any_yes (pre := pre) he hn)
        gi_wp2
        exact ⟨(KeepsOthers.setCell _ _ _).from _, rfl, hb2.set _, hBl.setCell (by simp) _, HY⟩
      · have hn' : ((x.val.1 : Int) == (s.size : Int) - 1) = false := by simpa using hn
        have HY := Lib.hid (any_no HA.out hn')
        clear hn
        gi_wp2
        exact ⟨KeepsFrom.refl _ _, rfl, hb1, hb2, hBl, HY⟩
    · have he' : x.val.2.toList.isEmpty = false := by simpa using he
      have HY := Lib.hid (any_no' HA.out he')
      clear he
      gi_wp2
      exact ⟨KeepsFrom.refl _ _, rfl, hb1, hb2, hBl, HY⟩
  case done =>
    rintro D ys W hD hS ⟨hb1, hb2, hBl, HA⟩ hK
    have HS := Lib.hid hS; clear hS
    have hc2 := hb2.cell
    have hf2 := hb2.frozen
    gi_wp2
    refine ⟨by simp, .inl ⟨_, _, rfl, run_takeDeferred ((KeepsOthers.setCell W _ _).same D _ hK rfl), ?_⟩⟩
    have hcf := (boxed_putObj (hb2.set (.int .i64 1)) (show w.heap.size + 1 ≠ D by omega) (.deferred none)).cell
    exact ⟨.int .i64 1, by simp [results, Tryz.results9, go_sem, hcf], ret_chk_end hlong' HS.out HA.out, below_putObj (hBl.setCell (by simp) _) (by omega) _⟩
  case stop =>
    rintro D c pre W hD hS ⟨rfl, hb2, hBl, HA⟩ hK
    have HS := Lib.hid hS; clear hS
    have hc2 := hb2.cell
    gi_wp2
    refine ⟨by simp, .inl ⟨_, _, rfl, run_takeDeferred hK, ?_⟩⟩
    have hcf := (boxed_putObj hb2 (show w.heap.size + 1 ≠ D by omega) (.deferred none)).cell
    exact ⟨.int .i64 0, by simp [results, Tryz.results9, go_sem, hcf], ret_chk_ok hlong' HS.out HA.out, below_putObj hBl (by omega) _⟩
theorem check_any (s : ByteArray) (w : World) (hs : s.size ≤ 1099511627776) :
    Calls Tryz.prog 9 #[.string s] w fun e w' => e = .returned (.int .i64 (chkE s)) ∧ Below w.heap.size w w' := by
  by_cases h : 255 < (s.size : Int)
  · exact check_long s w h
  · exact callsIn_wide.1 (check_in s w hs (by omega))
end Go.Proofs.YtkcpbjoolfojjaaGreatDoor.check
namespace Go.Proofs.YtkcpbjoolfojjaaGreatDoor.nspec
open Go.Proofs.YtkcpbjoolfojjaaGreatDoor.kit Go.Proofs.YtkcpbjoolfojjaaGreatDoor.labels Go.Proofs.YtkcpbjoolfojjaaGreatDoor.check

abbrev Bs := List UInt8
def strV (l : Bs) : Value := .string ⟨l.toArray⟩

def parseF : Nat → Bs → Option (List Bs)
  | 0, _ => none
  | _ + 1, [] => none
  | f + 1, c :: r => if c.toNat = 0 then (if r = [] then some [] else none) else if 63 < c.toNat ∨ r.length < c.toNat then none else (parseF f (r.drop c.toNat)).map (r.take c.toNat :: ·)
def split (l : Bs) : Option (List Bs) := if l.length ≤ 255 then parseF l.length l else none

def put : List Bs → Bs
  | [] => [0]
  | x :: r => UInt8.ofNat x.length :: (x ++ put r)
def okL (ls : List Bs) : Prop := ∀ x ∈ ls, 1 ≤ x.length ∧ x.length ≤ 63

theorem okL_cons {x : Bs} {r : List Bs} : okL (x :: r) ↔ (1 ≤ x.length ∧ x.length ≤ 63) ∧ okL r := by
  simp [okL]
theorem put_pos (ls : List Bs) : 0 < (put ls).length := by cases ls <;> simp [put]
theorem nat_of {n : Nat} (h : n ≤ 255) : (UInt8.ofNat n).toNat = n := by
  rw [UInt8.toNat_ofNat']; omega

theorem parse_put : ∀ (f : Nat) (ls : List Bs), okL ls → (put ls).length ≤ f → parseF f (put ls) = some ls
  | 0, ls, _, hf => by have := put_pos ls; omega
  | f + 1, [], _, _ => by simp [put, parseF]
  | f + 1, x :: r, h, hf => by
    obtain ⟨⟨h1, h2⟩, h3⟩ := okL_cons.1 h
    have hn : (UInt8.ofNat x.length).toNat = x.length := nat_of (by omega)
    simp only [put, parseF, hn, List.length_cons, List.length_append] at hf ⊢
    rw [if_neg (by omega), if_neg (by omega)]
    rw [List.drop_left, List.take_left, parse_put f r h3 (by omega)]; rfl
theorem parse_some : ∀ (f : Nat) (l : Bs) (ls : List Bs), parseF f l = some ls → l = put ls ∧ okL ls
  | 0, l, ls, h => by simp [parseF] at h
  | f + 1, [], ls, h => by simp [parseF] at h
  | f + 1, c :: r, ls, h => by
    simp only [parseF] at h
    by_cases h0 : c.toNat = 0
    · rw [if_pos h0] at h
      by_cases hr : r = []
      · rw [if_pos hr] at h
        have : ls = [] := by simpa using h.symm
        subst this; subst hr
        refine ⟨?_, by simp [okL]⟩
        have : c = 0 := UInt8.toNat_inj.1 h0
        simp [put, this]
      · rw [if_neg hr] at h; simp at h
    · rw [if_neg h0] at h
      by_cases hc : 63 < c.toNat ∨ r.length < c.toNat
      · rw [if_pos hc] at h; simp at h
      · rw [if_neg hc] at h
        cases hp : parseF f (r.drop c.toNat) with
        | none => rw [hp] at h; simp at h
        | some ls' =>
          rw [hp] at h
          have : ls = r.take c.toNat :: ls' := by simpa using h.symm
          subst this
          obtain ⟨e, ho⟩ := parse_some f _ _ hp
          have hl : (r.take c.toNat).length = c.toNat := by rw [List.length_take]; omega
          refine ⟨?_, okL_cons.2 ⟨by omega, ho⟩⟩
          simp only [put, hl, ← e, List.take_append_drop]
          congr 1
          simp
theorem parse_fuel : ∀ (f g : Nat) (l : Bs), l.length ≤ f → l.length ≤ g → parseF f l = parseF g l
  | 0, 0, l, _, _ => rfl
  | 0, g + 1, l, h, _ => by
    have : l = [] := List.eq_nil_of_length_eq_zero (by omega)
    subst this; rfl
  | f + 1, 0, l, _, h => by
    have : l = [] := List.eq_nil_of_length_eq_zero (by omega)
    subst this; rfl
  | f + 1, g + 1, [], _, _ => rfl
  | f + 1, g + 1, c :: r, h1, h2 => by
    simp only [parseF, List.length_cons] at h1 h2 ⊢
    by_cases h0 : c.toNat = 0
    · simp [h0]
    · rw [if_neg h0, if_neg h0, parse_fuel f g (r.drop c.toNat) (by simp; omega) (by simp; omega)]

/-- a name and its labels -/
def IsN (l : Bs) (ls : List Bs) : Prop := l = put ls ∧ okL ls ∧ l.length ≤ 255
theorem split_iff {l : Bs} {ls : List Bs} : split l = some ls ↔ IsN l ls := by
  unfold split IsN
  constructor
  · intro h
    by_cases hl : l.length ≤ 255
    · rw [if_pos hl] at h
      obtain ⟨a, b⟩ := parse_some _ _ _ h
      exact ⟨a, b, hl⟩
    · rw [if_neg hl] at h; simp at h
  · rintro ⟨e, ho, hl⟩
    rw [if_pos hl, e]
    exact parse_put _ ls ho (Nat.le_refl _)
theorem put_append (a b : List Bs) : put (a ++ b) = a.flatMap (fun x => UInt8.ofNat x.length :: x) ++ put b := by
  induction a with
  | nil => rfl
  | cons x r ih => simp [put, ih]
theorem put_flat (a : List Bs) : put a = a.flatMap (fun x => UInt8.ofNat x.length :: x) ++ [0] := by
  have := put_append a []
  simpa [put] using this
/-- the number of bytes ahead of the last one -/
def room (ls : List Bs) : Nat := (ls.map (fun x => x.length + 1)).sum
theorem put_length (ls : List Bs) : (put ls).length = room ls + 1 := by
  induction ls with
  | nil => rfl
  | cons x r ih => simp [put, room] at ih ⊢; omega
theorem room_append (a b : List Bs) : room (a ++ b) = room a + room b := by simp [room]

/-- the pairs of a name -/
def pairsL : Nat → List Bs → List (Nat × ByteArray)
  | k, [] => [(k, ⟨[].toArray⟩)]
  | k, x :: r => (k, ⟨x.toArray⟩) :: pairsL (k + 1 + x.length) r
theorem pairs_put : ∀ (f k : Nat) (ls : List Bs), okL ls → (put ls).length ≤ f → pairsF f k (put ls) = pairsL k ls
  | 0, k, ls, _, hf => by have := put_pos ls; omega
  | f + 1, k, [], _, _ => by simp [put, pairsF, pairsL]
  | f + 1, k, x :: r, h, hf => by
    obtain ⟨⟨h1, h2⟩, h3⟩ := okL_cons.1 h
    have hn : (UInt8.ofNat x.length).toNat = x.length := nat_of (by omega)
    simp only [put, pairsF, pairsL, hn, List.length_cons, List.length_append] at hf ⊢
    rw [if_neg (by omega), if_neg (by omega), List.drop_left, List.take_left, pairs_put f _ r h3 (by omega)]
theorem pairs_isN {s : ByteArray} {ls : List Bs} (h : IsN s.data.toList ls) : pairs s = pairsL 0 ls := by
  obtain ⟨e, ho, _⟩ := h
  unfold pairs
  rw [e]
  exact pairs_put _ 0 ls ho (by rw [← e]; simp)
theorem ends_iff : ∀ (f k : Nat) (l : Bs), l.length ≤ f → (pairsF f k l).any (ends (k + l.length)) = (parseF f l).isSome
  | 0, k, l, h => by simp [pairsF, parseF]
  | f + 1, k, [], h => by simp [pairsF, parseF]
  | f + 1, k, c :: r, h => by
    simp only [pairsF, parseF, List.length_cons] at h ⊢
    by_cases h0 : c.toNat = 0
    · rw [if_neg (by omega), if_pos h0, if_pos h0]
      simp only [h0, List.take_zero, List.any_cons, List.any_nil, Bool.or_false, ends]
      by_cases hr : r = []
      · subst hr
        rw [if_pos rfl, Lib.toList_data]; simp <;> omega
      · rw [if_neg hr]
        have : 0 < r.length := List.length_pos_iff.2 hr
        rw [decide_eq_false (by omega)]; simp
    · by_cases hc : 63 < c.toNat ∨ r.length < c.toNat
      · rw [if_pos hc, if_neg h0, if_pos hc]; rfl
      · rw [if_neg hc, if_neg h0, if_neg hc]
        have ih := ends_iff f (k + 1 + c.toNat) (r.drop c.toNat) (by simp; omega)
        have e : k + 1 + c.toNat + (r.drop c.toNat).length = k + (r.length + 1) := by rw [List.length_drop]; omega
        rw [e] at ih
        simp only [List.any_cons, ih]
        have hne : ends (k + (r.length + 1)) (k, ⟨(r.take c.toNat).toArray⟩) = false := by
          simp only [ends, Lib.toList_data]
          have : (r.take c.toNat) ≠ [] := by
            intro e2
            have := congrArg List.length e2
            rw [List.length_take, List.length_nil] at this; omega
          have e3 : (r.take c.toNat).isEmpty = false := by simpa using this
          simp only [e3, Bool.false_and]
        rw [hne]
        simp only [if_neg h0]
        cases parseF f (r.drop c.toNat) <;> rfl
theorem chk_eq (s : ByteArray) : chkE s = if (split s.data.toList).isSome then 0 else 1 := by
  have hsz := size_len s
  unfold chkE split
  rw [hsz]
  by_cases h : 255 < s.size
  · have h' : ¬ s.size ≤ 255 := by omega
    simp [h, h']
  · have h' : s.size ≤ 255 := by omega
    have := ends_iff s.size 0 s.data.toList (by omega)
    rw [show 0 + s.data.toList.length = s.size from by omega] at this
    simp only [if_neg h, if_pos h', ← this]; rfl
theorem chk_yes {s : ByteArray} {ls : List Bs} (h : IsN s.data.toList ls) : chkE s = 0 := by
  rw [chk_eq, split_iff.2 h]; rfl
theorem chk_no {s : ByteArray} (h : split s.data.toList = none) : chkE s = 1 := by
  rw [chk_eq, h]; rfl
theorem isN_room {l : Bs} {ls : List Bs} (h : IsN l ls) : room ls ≤ 254 := by
  have := h.2.2; rw [h.1, put_length] at this; omega
end Go.Proofs.YtkcpbjoolfojjaaGreatDoor.nspec
namespace Go.Proofs.YtkcpbjoolfojjaaGreatDoor.bits

/-- the n bits of v, the highest first -/
def tob (v : Nat) : Nat → List Nat
  | 0 => []
  | n + 1 => (v / 2 ^ n % 2) :: tob v n
/-- the number of bits, the highest first -/
def ofb (l : List Nat) : Nat := l.foldl (fun a b => 2 * a + b) 0
def bitsL (d : List UInt8) : List Nat := d.flatMap (fun c => tob c.toNat 8)
theorem tob_length (v n : Nat) : (tob v n).length = n := by
  induction n with
  | zero => rfl
  | succ n ih => simp [tob, ih]
theorem foldl_add (l : List Nat) (a : Nat) : l.foldl (fun a b => 2 * a + b) a = a * 2 ^ l.length + l.foldl (fun a b => 2 * a + b) 0 := by
  induction l generalizing a with
  | nil => simp
  | cons b r ih =>
    simp only [List.foldl_cons, List.length_cons]
    rw [ih, ih (2 * 0 + b), Nat.pow_succ]
    have : (2 * a + b) * 2 ^ r.length = a * (2 ^ r.length * 2) + (2 * 0 + b) * 2 ^ r.length := by
      rw [Nat.add_mul, Nat.mul_comm 2 a, Nat.mul_assoc, Nat.mul_comm 2 (2 ^ r.length)]; simp
    omega
theorem ofb_cons (b : Nat) (r : List Nat) : ofb (b :: r) = b * 2 ^ r.length + ofb r := by
  unfold ofb; rw [List.foldl_cons, foldl_add]; simp
theorem ofb_tob (v n : Nat) : ofb (tob v n) = v % 2 ^ n := by
  induction n with
  | zero => simp [tob, ofb, Nat.mod_one]
  | succ n ih =>
    rw [tob, ofb_cons, tob_length, ih, Nat.pow_succ]
    have := Nat.mod_mul (x := v) (a := 2 ^ n) (b := 2)
    rw [this, Nat.mul_comm]; omega
theorem tob_mod (v n m : Nat) (h : n ≤ m) : tob (v % 2 ^ m) n = tob v n := by
  induction n with
  | zero => rfl
  | succ n ih =>
    rw [tob, tob, ih (by omega)]
    congr 1
    obtain ⟨d, rfl⟩ : ∃ d, m = n + 1 + d := ⟨m - (n + 1), by omega⟩
    rw [show n + 1 + d = n + (1 + d) by omega, Nat.pow_add, Nat.mod_mul_right_div_self, Nat.pow_add, Nat.pow_one, Nat.mod_mul_right_mod]
theorem tob_append (v w n m : Nat) (hw : w < 2 ^ m) : tob (v * 2 ^ m + w) (n + m) = tob v n ++ tob w m := by
  induction n with
  | zero =>
    rw [Nat.zero_add, tob, List.nil_append]
    rw [← tob_mod (v * 2 ^ m + w) m m (Nat.le_refl _), Nat.mul_comm, Nat.mul_add_mod, Nat.mod_eq_of_lt hw]
  | succ n ih =>
    rw [show n + 1 + m = (n + m) + 1 by omega, tob, ih, tob, List.cons_append]
    congr 1
    rw [Nat.add_comm n m, Nat.pow_add, ← Nat.div_div_eq_div_mul, Nat.mul_comm v, Nat.mul_add_div (Nat.two_pow_pos m), Nat.div_eq_of_lt hw, Nat.add_zero]

/-- n bits a letter, the last filled up with noughts -/
def encF (n : Nat) (al : List UInt8) : Nat → List Nat → List UInt8
  | 0, _ => []
  | f + 1, l => if l = [] then [] else al.getD (ofb ((l ++ List.replicate n 0).take n)) 0 :: encF n al f (l.drop n)
def enc (n : Nat) (al : List UInt8) (l : List Nat) : List UInt8 := encF n al l.length l
theorem encF_fuel (n : Nat) (al : List UInt8) (hn : 1 ≤ n) : ∀ (f g : Nat) (l : List Nat), l.length ≤ f → l.length ≤ g → encF n al f l = encF n al g l
  | 0, 0, _, _, _ => rfl
  | 0, g + 1, l, h, _ => by
    have : l = [] := List.eq_nil_of_length_eq_zero (by omega)
    subst this; simp [encF]
  | f + 1, 0, l, _, h => by
    have : l = [] := List.eq_nil_of_length_eq_zero (by omega)
    subst this; simp [encF]
  | f + 1, g + 1, l, h1, h2 => by
    simp only [encF]
    by_cases hl : l = []
    · simp [hl]
    · have hp : 0 < l.length := List.length_pos_iff.2 hl
      rw [if_neg hl, if_neg hl, encF_fuel n al hn f g (l.drop n) (by rw [List.length_drop]; omega) (by rw [List.length_drop]; omega)]
theorem enc_nil (n : Nat) (al : List UInt8) : enc n al [] = [] := rfl
theorem enc_step {n : Nat} (al : List UInt8) {l : List Nat} (hn : 1 ≤ n) (hl : l ≠ []) : enc n al l = al.getD (ofb ((l ++ List.replicate n 0).take n)) 0 :: enc n al (l.drop n) := by
  have hp : 0 < l.length := List.length_pos_iff.2 hl
  unfold enc
  obtain ⟨f, hf⟩ : ∃ f, l.length = f + 1 := ⟨l.length - 1, by omega⟩
  rw [hf, encF, if_neg hl, encF_fuel n al hn f (l.drop n).length (l.drop n) (by rw [List.length_drop]; omega) (Nat.le_refl _)]
theorem enc_full {n : Nat} (al : List UInt8) (l t : List Nat) (hn : 1 ≤ n) (hl : l.length = n) : enc n al (l ++ t) = al.getD (ofb l) 0 :: enc n al t := by
  have hne : l ++ t ≠ [] := by
    intro h
    have := congrArg List.length h
    rw [List.length_append, List.length_nil] at this; omega
  rw [enc_step al hn hne, List.append_assoc, List.take_left' hl, List.drop_left' hl]
theorem ofb_zero (k : Nat) : ofb (List.replicate k 0) = 0 := by
  induction k with
  | zero => rfl
  | succ k ih => rw [List.replicate_succ, ofb_cons, ih]; simp
theorem ofb_append (x y : List Nat) : ofb (x ++ y) = ofb x * 2 ^ y.length + ofb y := by
  unfold ofb; rw [List.foldl_append, foldl_add]
theorem enc_last {n : Nat} (al : List UInt8) (l : List Nat) (hl : 0 < l.length) (hn : l.length ≤ n) : enc n al l = [al.getD (ofb l * 2 ^ (n - l.length)) 0] := by
  have hne : l ≠ [] := List.length_pos_iff.1 hl
  rw [enc_step (n := n) al (by omega) hne, List.take_append, List.take_of_length_le hn, List.take_replicate, List.drop_eq_nil_iff.2 hn, enc_nil, ofb_append, ofb_zero, List.length_replicate]
  rw [show min (n - l.length) n = n - l.length by omega, Nat.add_zero]
theorem bits_cons (c : UInt8) (r : List UInt8) : bitsL (c :: r) = tob c.toNat 8 ++ bitsL r := rfl
theorem encF_len (n : Nat) (al : List UInt8) (hn : 1 ≤ n) : ∀ (f : Nat) (l : List Nat), (encF n al f l).length ≤ l.length
  | 0, l => by simp [encF]
  | f + 1, l => by
    simp only [encF]
    by_cases hl : l = []
    · simp [hl]
    · have hp : 0 < l.length := List.length_pos_iff.2 hl
      have := encF_len n al hn f (l.drop n)
      rw [List.length_drop] at this
      rw [if_neg hl, List.length_cons]; omega
theorem enc_len (n : Nat) (al : List UInt8) (hn : 1 ≤ n) (l : List Nat) : (enc n al l).length ≤ l.length := encF_len n al hn _ _
theorem bitsL_len (d : List UInt8) : (bitsL d).length = 8 * d.length := by
  induction d with
  | nil => rfl
  | cons c r ih => rw [bits_cons, List.length_append, tob_length, ih, List.length_cons]; omega
theorem to_step {n : Nat} {al : List UInt8} {A : List UInt8} {h b : Nat} {c : UInt8} {r l : List UInt8} {R : List UInt8} (h1 : A ++ enc n al (tob h b ++ bitsL l) = R) (hl : l = c :: r) (hb : b + 8 ≤ 12) {H : Nat} (hH : (h * 256 + c.toNat) % 4096 = H) :
    A ++ enc n al (tob H (b + 8) ++ bitsL r) = R := by
  subst hl
  have hc := c.toNat_lt
  have e1 : tob H (b + 8) = tob h b ++ tob c.toNat 8 := by
    rw [← hH, show (4096 : Nat) = 2 ^ 12 from rfl, tob_mod _ _ _ hb, show (256 : Nat) = 2 ^ 8 from rfl, tob_append _ _ _ _ (by omega)]
  rw [e1, List.append_assoc, ← bits_cons]
  exact h1
theorem to_letter {n : Nat} {al : List UInt8} {A : List UInt8} {H q : Nat} {l : List Nat} {R : List UInt8} (h1 : A ++ enc n al (tob H (q + n) ++ l) = R) (hn : 1 ≤ n) :
    (A ++ [al.getD (H / 2 ^ q % 2 ^ n) 0]) ++ enc n al (tob H q ++ l) = R := by
  have e : tob H (q + n) = tob (H / 2 ^ q) n ++ tob H q := by
    have h2 := tob_append (H / 2 ^ q) (H % 2 ^ q) n q (Nat.mod_lt _ (Nat.two_pow_pos q))
    rw [Nat.div_add_mod', tob_mod H q q (Nat.le_refl _), Nat.add_comm n q] at h2
    exact h2
  rw [e, List.append_assoc, enc_full al _ _ hn (tob_length _ _), ofb_tob] at h1
  rw [← h1]; simp
theorem to_last {n : Nat} {al : List UInt8} {A : List UInt8} {H b : Nat} {R : List UInt8} (h1 : A ++ enc n al (tob H b ++ bitsL []) = R) (hb : 0 < b) (hn : b ≤ n) :
    A ++ [al.getD (H * 2 ^ (n - b) % 2 ^ n) 0] = R := by
  have e : tob H b ++ bitsL [] = tob H b := by simp [bitsL]
  rw [e, enc_last al _ (by rw [tob_length]; exact hb) (by rw [tob_length]; exact hn), tob_length, ofb_tob] at h1
  rw [← h1]
  obtain ⟨d, rfl⟩ : ∃ d, n = b + d := ⟨n - b, by omega⟩
  rw [Nat.add_sub_cancel_left, Nat.pow_add, Nat.mul_mod_mul_right]
theorem to_end {n : Nat} {al : List UInt8} {A : List UInt8} {H : Nat} {R : List UInt8} (h1 : A ++ enc n al (tob H 0 ++ bitsL []) = R) : A = R := by
  rw [← h1]; simp [tob, bitsL, enc_nil]
end Go.Proofs.YtkcpbjoolfojjaaGreatDoor.bits
namespace Go.Proofs.YtkcpbjoolfojjaaGreatDoor.fld
open Go.Proofs.YtkcpbjoolfojjaaGreatDoor.nspec Go.Proofs.YtkcpbjoolfojjaaGreatDoor.bits

inductive Fld where
  | num (k : Nat) | ip4 | ip6 | host | text | texts | tail | hexes | b64 | kind | kinds | salt | hash

def hostS (d : Bs) : Int := match (List.range 256).find? (fun k => (split (d.take k)).isSome) with | some k => (k : Int) | none => -1
def textS : Bs → Int
  | [] => -1
  | c :: r => if r.length < c.toNat then -1 else 1 + (c.toNat : Int)
def textsF : Nat → Nat → Bs → Int
  | 0, _, _ => -1
  | _ + 1, at0, [] => if at0 = 0 then -1 else (at0 : Int)
  | f + 1, at0, c :: r => if r.length < c.toNat then -1 else textsF f (at0 + (1 + c.toNat)) (r.drop c.toNat)
def textsS (d : Bs) : Int := textsF (d.length + 1) 0 d
theorem texts_fuel : ∀ (f g at0 : Nat) (d : Bs), d.length < f → d.length < g → textsF f at0 d = textsF g at0 d
  | 0, _, _, _, h, _ => by omega
  | _ + 1, 0, _, _, _, h => by omega
  | f + 1, g + 1, at0, [], _, _ => rfl
  | f + 1, g + 1, at0, c :: r, h1, h2 => by
    simp only [List.length_cons] at h1 h2
    simp only [textsF]
    by_cases h : r.length < c.toNat
    · rw [if_pos h, if_pos h]
    · rw [if_neg h, if_neg h]; exact texts_fuel f g _ _ (by rw [List.length_drop]; omega) (by rw [List.length_drop]; omega)

/-- the types of one block's bits -/
def pickL (b : Nat) : Nat → List Nat → List Nat
  | _, [] => []
  | k, x :: l => if x = 1 then (b * 256 + k) :: pickL b (k + 1) l else pickL b (k + 1) l
def blockL (b : Nat) (m : Bs) : List Nat := pickL b 0 (bitsL m)
/-- a set's types: what comes behind the blocks up to 'last' -/
def typesF : Nat → Int → List Nat → Bs → Option (List Nat)
  | 0, _, _, _ => none
  | _ + 1, _, out, [] => some out
  | f + 1, last, out, b :: r => match r with
    | [] => none
    | n :: m => if (b.toNat : Int) ≤ last ∨ n.toNat < 1 ∨ 32 < n.toNat ∨ m.length < n.toNat ∨ m.getD (n.toNat - 1) 0 = 0 then none
      else typesF f (b.toNat : Int) (out ++ blockL b.toNat (m.take n.toNat)) (m.drop n.toNat)
def typesS (d : Bs) : Option (List Nat) := match typesF (d.length + 1) (-1) [] d with
  | none => none
  | some l => if 0 ∈ l then none else some l
theorem types_fuel : ∀ (f g : Nat) (last : Int) (out : List Nat) (d : Bs), d.length < f → d.length < g → typesF f last out d = typesF g last out d
  | 0, _, _, _, _, h, _ => by omega
  | _ + 1, 0, _, _, _, _, h => by omega
  | f + 1, g + 1, last, out, [], _, _ => rfl
  | f + 1, g + 1, last, out, [b], _, _ => rfl
  | f + 1, g + 1, last, out, b :: n :: m, h1, h2 => by
    simp only [List.length_cons] at h1 h2
    simp only [typesF]
    split
    · rfl
    · exact types_fuel f g _ _ _ (by rw [List.length_drop]; omega) (by rw [List.length_drop]; omega)

def someS (d : Bs) : Int := if d = [] then -1 else (d.length : Int)
def takeS : Fld → Bs → Int
  | .num k, d => if d.length < k then -1 else (k : Int)
  | .ip4, d => if d.length < 4 then -1 else 4
  | .ip6, d => if d.length < 16 then -1 else 16
  | .host, d => hostS d
  | .text, d => textS d
  | .texts, d => textsS d
  | .tail, d => (d.length : Int)
  | .hexes, d => someS d
  | .b64, d => someS d
  | .kind, d => if d.length < 2 ∨ (d.getD 0 0 = 0 ∧ d.getD 1 0 = 0) then -1 else 2
  | .kinds, d => if typesS d = none then -1 else (d.length : Int)
  | .salt, d => textS d
  | .hash, d => if d = [] ∨ d.getD 0 0 = 0 then -1 else textS d
theorem textS_le (d : Bs) : textS d ≤ d.length ∧ -1 ≤ textS d := by
  cases d with
  | nil => simp [textS]
  | cons c r =>
    simp only [textS, List.length_cons]; split
    · omega
    · omega
theorem textsF_le : ∀ (f at0 : Nat) (d : Bs), textsF f at0 d ≤ at0 + d.length ∧ -1 ≤ textsF f at0 d
  | 0, at0, d => by simp only [textsF]; omega
  | f + 1, at0, [] => by simp only [textsF, List.length_nil]; split <;> omega
  | f + 1, at0, c :: r => by
    simp only [textsF]
    split
    · simp only [List.length_cons]; omega
    · have := textsF_le f (at0 + (1 + c.toNat)) (r.drop c.toNat)
      rw [List.length_drop] at this
      simp only [List.length_cons]; omega
theorem hostS_le (d : Bs) : hostS d ≤ d.length ∧ -1 ≤ hostS d := by
  unfold hostS
  cases h : (List.range 256).find? (fun k => (split (d.take k)).isSome) with
  | none => simp
  | some k =>
    refine ⟨?_, by simp only; omega⟩
    rcases Nat.lt_or_ge d.length k with hk | hk
    · have h1 := List.find?_some h
      have hm := List.mem_of_find?_eq_some h
      rw [List.mem_range] at hm
      have e : d.take k = d.take d.length := by rw [List.take_of_length_le (by omega), List.take_of_length_le (Nat.le_refl _)]
      rw [e] at h1
      have h2 := (List.find?_range_eq_some.1 h).2.2 d.length hk
      simp only [Bool.not_eq_true', h1] at h2
      exact absurd h2 (by simp)
    · simp only; omega
theorem takeS_le (f : Fld) (d : Bs) : takeS f d ≤ d.length ∧ -1 ≤ takeS f d := by
  cases f <;> simp only [takeS, someS]
  case host => exact hostS_le d
  case text => exact textS_le d
  case salt => exact textS_le d
  case texts => exact (by have := textsF_le (d.length + 1) 0 d; unfold textsS; omega)
  case hash =>
    split
    · omega
    · exact textS_le d
  all_goals first | omega | (split <;> omega)

def formS (t : Int) : Option (List Fld) :=
  if t = 1 then some [.ip4] else if t = 2 then some [.host] else if t = 5 then some [.host] else if t = 12 then some [.host] else if t = 39 then some [.host]
  else if t = 6 then some [.host, .host, .num 4, .num 4, .num 4, .num 4, .num 4] else if t = 13 then some [.text, .text] else if t = 15 then some [.num 2, .host]
  else if t = 16 then some [.texts] else if t = 28 then some [.ip6] else if t = 33 then some [.num 2, .num 2, .num 2, .host]
  else if t = 35 then some [.num 2, .num 2, .text, .text, .text, .host] else if t = 43 then some [.num 2, .num 1, .num 1, .hexes]
  else if t = 46 then some [.kind, .num 1, .num 1, .num 4, .num 4, .num 4, .num 2, .host, .b64] else if t = 47 then some [.host, .kinds]
  else if t = 48 then some [.num 2, .num 1, .num 1, .b64] else if t = 50 then some [.num 1, .num 1, .num 2, .salt, .hash, .kinds]
  else if t = 51 then some [.num 1, .num 1, .num 2, .salt] else if t = 257 then some [.num 1, .text, .tail] else none
def holdsB (t : Int) : Bool := decide (1 ≤ t) && decide (t ≤ 65535) && (t != 41) && (decide (t < 128) || decide (255 < t))
/-- the parts of the fields, and what stands behind them; none: a field's bytes are not right -/
def splitS : List Fld → Bs → Option (List Bs × Bs)
  | [], d => some ([], d)
  | x :: f, d => if takeS x d < 0 then none else (splitS f (d.drop (takeS x d).toNat)).map (fun p => (d.take (takeS x d).toNat :: p.1, p.2))
/-- what Check says: of the fields, and the parts where all is right -/
def partsS (t : Int) (d : Bs) : Option (List Bs) := match formS t with
  | none => some []
  | some f => match splitS f d with
    | some (p, []) => some p
    | _ => none
def checkS (t : Int) (d : Bs) : Int := if holdsB t = false then 6 else if 65535 < d.length then 7 else if partsS t d = none then 7 else 0
def isHost : Fld → Bool
  | .host => true
  | _ => false
end Go.Proofs.YtkcpbjoolfojjaaGreatDoor.fld
namespace Go.Proofs.YtkcpbjoolfojjaaGreatDoor.low
open Go.RowKit Go.Proofs.YtkcpbjoolfojjaaGreatDoor.kit

def lowB (c : UInt8) : UInt8 := if 65 ≤ c.toNat ∧ c.toNat ≤ 90 then c + 32 else c
def lowL (l : List UInt8) : List UInt8 := l.map lowB
theorem lowB_id (c : UInt8) (h : ¬ (65 ≤ c.toNat ∧ c.toNat ≤ 90)) : lowB c = c := by simp only [lowB, if_neg h]

/-- Number -/
def numLoop (top : Int) : List UInt8 → Int → Int
  | [], v => if top < v then -1 else v
  | c :: r, v => if c.toNat < 48 then -1 else if 57 < c.toNat then -1 else numLoop top r (v * 10 + (c.toNat : Int) - 48)
theorem num_end {top n v : Int} (h : numLoop top [] n = v) (hc : n ≤ top) : n = v := by
  rw [← h]; simp only [numLoop]; rw [if_neg (by omega)]

end Go.Proofs.YtkcpbjoolfojjaaGreatDoor.low
namespace Go.Proofs.YtkcpbjoolfojjaaGreatDoor.back
open Go.Proofs.YtkcpbjoolfojjaaGreatDoor.kit Go.Proofs.YtkcpbjoolfojjaaGreatDoor.bits Go.Proofs.YtkcpbjoolfojjaaGreatDoor.low

def zeros (l : List Nat) : Bool := l.all (· == 0)
def wholeF (most : Nat) : Nat → List Nat → Option (List UInt8)
  | 0, l => if zeros l && decide (l.length < most) then some [] else none
  | f + 1, l => if 8 ≤ l.length then (wholeF most f (l.drop 8)).map (UInt8.ofNat (ofb (l.take 8)) :: ·) else if zeros l && decide (l.length < most) then some [] else none
/-- bits as bytes; what is left over is nought and shorter than most -/
def whole (most : Nat) (l : List Nat) : Option (List UInt8) := wholeF most l.length l
theorem wholeF_fuel (most : Nat) : ∀ (f g : Nat) (l : List Nat), l.length ≤ f → l.length ≤ g → wholeF most f l = wholeF most g l
  | 0, 0, _, _, _ => rfl
  | 0, g + 1, l, h, _ => by
    have : l = [] := List.eq_nil_of_length_eq_zero (by omega)
    subst this; simp [wholeF]
  | f + 1, 0, l, _, h => by
    have : l = [] := List.eq_nil_of_length_eq_zero (by omega)
    subst this; simp [wholeF]
  | f + 1, g + 1, l, h1, h2 => by
    simp only [wholeF]
    by_cases hl : 8 ≤ l.length
    · rw [if_pos hl, if_pos hl, wholeF_fuel most f g (l.drop 8) (by rw [List.length_drop]; omega) (by rw [List.length_drop]; omega)]
    · rw [if_neg hl, if_neg hl]
theorem whole_step {most : Nat} {l : List Nat} (h : 8 ≤ l.length) : whole most l = (whole most (l.drop 8)).map (UInt8.ofNat (ofb (l.take 8)) :: ·) := by
  unfold whole
  obtain ⟨f, hf⟩ : ∃ f, l.length = f + 1 := ⟨l.length - 1, by omega⟩
  rw [hf, wholeF, if_pos h, wholeF_fuel most f (l.drop 8).length (l.drop 8) (by rw [List.length_drop]; omega) (Nat.le_refl _)]
theorem whole_end {most : Nat} {l : List Nat} (h : l.length < 8) : whole most l = if zeros l && decide (l.length < most) then some [] else none := by
  unfold whole
  cases hf : l.length with
  | zero => rw [wholeF, hf]
  | succ f => rw [wholeF, if_neg (by omega), hf]
theorem whole_byte {most : Nat} (v : Nat) (l : List Nat) : whole most (tob v 8 ++ l) = (whole most l).map (UInt8.ofNat v :: ·) := by
  rw [whole_step (by rw [List.length_append, tob_length]; omega), List.drop_left' (tob_length _ _), List.take_left' (tob_length _ _), ofb_tob]
  have : UInt8.ofNat (v % 2 ^ 8) = UInt8.ofNat v := by
    apply UInt8.toNat_inj.1
    simp [UInt8.toNat_ofNat']
  rw [this]
theorem whole_len (most : Nat) : ∀ (f : Nat) (l : List Nat) (r : List UInt8), wholeF most f l = some r → r.length ≤ l.length
  | 0, l, r, h => by
    simp only [wholeF] at h
    split at h
    · have : r = [] := by simpa using h.symm
      subst this; simp
    · simp at h
  | f + 1, l, r, h => by
    simp only [wholeF] at h
    by_cases hl : 8 ≤ l.length
    · rw [if_pos hl] at h
      cases hw : wholeF most f (l.drop 8) with
      | none => rw [hw] at h; simp at h
      | some t =>
        rw [hw] at h
        have e : r = UInt8.ofNat (ofb (l.take 8)) :: t := by simpa using h.symm
        subst e
        have := whole_len most f _ _ hw
        rw [List.length_drop] at this
        rw [List.length_cons]; omega
    · rw [if_neg hl] at h
      split at h
      · have : r = [] := by simpa using h.symm
        subst this; simp
      · simp at h
theorem ofb_zeros : ∀ (l : List Nat), zeros l = decide (ofb l = 0)
  | [] => by simp [zeros, ofb]
  | b :: r => by
    have ih := ofb_zeros r
    have e : zeros (b :: r) = ((b == 0) && zeros r) := by simp [zeros]
    rw [e, ih, ofb_cons, Bool.eq_iff_iff]
    have hp := Nat.two_pow_pos r.length
    simp only [Bool.and_eq_true, beq_iff_eq, decide_eq_true_eq]
    constructor
    · rintro ⟨h1, h2⟩; rw [h1, h2]; simp
    · intro h
      have h1 : b * 2 ^ r.length = 0 := by omega
      have h2 : ofb r = 0 := by omega
      rcases Nat.mul_eq_zero.1 h1 with h3 | h3
      · exact ⟨h3, h2⟩
      · omega
theorem zeros_tob (h b : Nat) : zeros (tob h b) = decide (h % 2 ^ b = 0) := by rw [ofb_zeros, ofb_tob]

/-- letters as bits -/
def spreadS (n : Nat) (val : UInt8 → Option Nat) : List UInt8 → Option (List Nat)
  | [] => some []
  | c :: r => match val c with
    | none => none
    | some v => (spreadS n val r).map (tob v n ++ ·)
theorem spread_cons_some {n : Nat} {val : UInt8 → Option Nat} {c : UInt8} {r : List UInt8} {v : Nat} (h : val c = some v) : spreadS n val (c :: r) = (spreadS n val r).map (tob v n ++ ·) := by
  simp only [spreadS, h]
theorem spread_cons_none {n : Nat} {val : UInt8 → Option Nat} {c : UInt8} {r : List UInt8} (h : val c = none) : spreadS n val (c :: r) = none := by
  simp only [spreadS, h]
theorem spread_len (n : Nat) (val : UInt8 → Option Nat) : ∀ (l : List UInt8) (r : List Nat), spreadS n val l = some r → r.length = n * l.length
  | [], r, h => by
    have : r = [] := by simpa [spreadS] using h.symm
    subst this; rfl
  | c :: t, r, h => by
    cases hv : val c with
    | none => rw [spread_cons_none hv] at h; simp at h
    | some v =>
      rw [spread_cons_some hv] at h
      cases hs : spreadS n val t with
      | none => rw [hs] at h; simp at h
      | some u =>
        rw [hs] at h
        have e : r = tob v n ++ u := by simpa using h.symm
        subst e
        rw [List.length_append, tob_length, spread_len n val t u hs, List.length_cons, Nat.mul_add]; omega
/-- what is still to come behind A and the bits P -/
def backS (most n : Nat) (val : UInt8 → Option Nat) (A : List UInt8) (P : List Nat) (l : List UInt8) : Option (List UInt8) := (spreadS n val l).bind fun b => (whole most (P ++ b)).map (A ++ ·)
theorem back_none {most n : Nat} {val : UInt8 → Option Nat} {A : List UInt8} {P : List Nat} {l r : List UInt8} {c : UInt8} {R : Option (List UInt8)} (h : backS most n val A P l = R) (hl : l = c :: r) (hv : val c = none) : R = none := by
  subst hl; rw [← h, backS, spread_cons_none hv]; rfl
theorem back_some {most n h0 b : Nat} {val : UInt8 → Option Nat} {A : List UInt8} {l r : List UInt8} {c : UInt8} {v H : Nat} {R : Option (List UInt8)} (h : backS most n val A (tob h0 b) l = R) (hl : l = c :: r) (hv : val c = some v) (hvn : v < 2 ^ n) (hb : b + n ≤ 12) (hH : (h0 * 2 ^ n + v) % 4096 = H) :
    backS most n val A (tob H (b + n)) r = R := by
  subst hl
  have e1 : tob H (b + n) = tob h0 b ++ tob v n := by
    rw [← hH, show (4096 : Nat) = 2 ^ 12 from rfl, tob_mod _ _ _ hb, tob_append _ _ _ _ hvn]
  rw [← h, e1]
  simp only [backS, spread_cons_some hv]
  cases spreadS n val r with
  | none => rfl
  | some u => simp
theorem back_byte {most n : Nat} {val : UInt8 → Option Nat} {A : List UInt8} {H q : Nat} {l : List UInt8} {R : Option (List UInt8)} (h : backS most n val A (tob H (q + 8)) l = R) :
    backS most n val (A ++ [UInt8.ofNat (H / 2 ^ q)]) (tob H q) l = R := by
  have e : tob H (q + 8) = tob (H / 2 ^ q) 8 ++ tob H q := by
    have h2 := tob_append (H / 2 ^ q) (H % 2 ^ q) 8 q (Nat.mod_lt _ (Nat.two_pow_pos q))
    rw [Nat.div_add_mod', tob_mod H q q (Nat.le_refl _), Nat.add_comm 8 q] at h2
    exact h2
  rw [← h]
  simp only [backS]
  cases spreadS n val l with
  | none => rfl
  | some u =>
    simp only [Option.bind_some, e, List.append_assoc, whole_byte]
    cases whole most (tob H q ++ u) with
    | none => rfl
    | some t => simp
theorem back_end {most n : Nat} {val : UInt8 → Option Nat} {A : List UInt8} {h0 b : Nat} {R : Option (List UInt8)} (h : backS most n val A (tob h0 b) [] = R) (hb : b < 8) : R = if h0 % 2 ^ b = 0 ∧ b < most then some A else none := by
  rw [← h]
  simp only [backS, spreadS, Option.bind_some, List.append_nil]
  rw [whole_end (by rw [tob_length]; exact hb), zeros_tob, tob_length]
  by_cases h1 : h0 % 2 ^ b = 0 <;> by_cases h2 : b < most <;> simp [h1, h2]

def val32 (c : UInt8) : Option Nat := if 48 ≤ c.toNat ∧ c.toNat ≤ 57 then some (c.toNat - 48) else if 97 ≤ c.toNat ∧ c.toNat ≤ 118 then some (c.toNat - 87) else if 65 ≤ c.toNat ∧ c.toNat ≤ 86 then some (c.toNat - 55) else none
def from32S (s : List UInt8) : Option (List UInt8) := backS 5 5 val32 [] [] s
/-- the bytes and whether they are any -/
def two (o : Option (List UInt8)) : Ending := match o with
  | none => .returned (.tuple #[.string ⟨#[]⟩, .bool false])
  | some d => .returned (.tuple #[.string ⟨d.toArray⟩, .bool true])
end Go.Proofs.YtkcpbjoolfojjaaGreatDoor.back
