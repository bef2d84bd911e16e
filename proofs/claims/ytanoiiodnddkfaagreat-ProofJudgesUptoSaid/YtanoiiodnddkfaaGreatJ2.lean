/- The iterator name.labels: its contract. name.Check: its walk. Names in plain Lean: rows of labels and their bytes. -/
import Derived.Test.YtanoiiodnddkfaaGreatJ1
import Derived.RangeFuncNested
import Derived.RangeFuncBound
import Derived.RangeFuncCalls
import Derived.RangeFuncLeaves
import Derived.RangeFuncBox
import Derived.Shelf.Abstract
import Derived.Shelf.RegionOpen
import Derived.OwnWalkIn
import Derived.TacticsInMore
import Derived.LoopNIn
import Derived.LoopIn
import Derived.Sort.LoopGhostIn
namespace Go.Proofs.YtanoiiodnddkfaaGreat.labels
open Go.RowKit Go.Shelf Go.Proofs.YtanoiiodnddkfaaGreat.kit
attribute [local go_sem] Oper.semAt_some

/-- what the iterator hands over: places and labels -/
def pairsF : Nat → Nat → List UInt8 → List (Nat × ByteArray)
  | 0, _, _ => []
  | _ + 1, _, [] => []
  | f + 1, at', c :: r => if 63 < c.toNat ∨ r.length < c.toNat then [] else (at', ⟨(r.take c.toNat).toArray⟩) :: (if c.toNat = 0 then [] else pairsF f (at' + 1 + c.toNat) (r.drop c.toNat))
def pairs (s : ByteArray) : List (Nat × ByteArray) := pairsF s.size 0 s.data.toList

abbrev Lab (N : Nat) := { x : Nat × ByteArray // x.1 ≤ N ∧ x.2.size ≤ 63 }
def raw {N : Nat} (l : List (Lab N)) : List (Nat × ByteArray) := l.map (·.val)
theorem raw_snoc {N : Nat} (l : List (Lab N)) (x : Lab N) : raw (l ++ [x]) = raw l ++ [x.val] := by simp [raw]

theorem pf_end {f k : Nat} {l : List UInt8} {p R : List (Nat × ByteArray)} (h : p ++ pairsF f k l = R) (hl : l = []) : p = R := by
  subst hl; cases f <;> simpa [pairsF] using h
theorem pf_bad {f k : Nat} {l r : List UInt8} {c : UInt8} {p R : List (Nat × ByteArray)} (h : p ++ pairsF f k l = R) (hf : 0 < f) (hl : l = c :: r) (hc : 63 < c.toNat ∨ r.length < c.toNat) : p = R := by
  obtain ⟨g, rfl⟩ : ∃ g, f = g + 1 := ⟨f - 1, by omega⟩
  subst hl; simp only [pairsF] at h; rw [if_pos hc] at h; simpa using h
theorem pf_zero {f k : Nat} {l r : List UInt8} {c : UInt8} {x : ByteArray} {p R : List (Nat × ByteArray)} (h : p ++ pairsF f k l = R) (hf : 0 < f) (hl : l = c :: r) (hc : ¬ (63 < c.toNat ∨ r.length < c.toNat)) (h0 : c.toNat = 0) (hx : x.data.toList = r.take c.toNat) : p ++ [(k, x)] = R := by
  obtain ⟨g, rfl⟩ : ∃ g, f = g + 1 := ⟨f - 1, by omega⟩
  subst hl; simp only [pairsF] at h; rw [if_neg hc, if_pos h0] at h
  have : x = ⟨(r.take c.toNat).toArray⟩ := ba_ext hx
  rw [this]; exact h
theorem pf_next {f k : Nat} {l r : List UInt8} {c : UInt8} {x : ByteArray} {p R : List (Nat × ByteArray)} (h : p ++ pairsF f k l = R) (hf : 0 < f) (hl : l = c :: r) (hc : ¬ (63 < c.toNat ∨ r.length < c.toNat)) (h0 : c.toNat ≠ 0) (hx : x.data.toList = r.take c.toNat) : (p ++ [(k, x)]) ++ pairsF (f - 1) (k + 1 + c.toNat) (r.drop c.toNat) = R := by
  obtain ⟨g, rfl⟩ : ∃ g, f = g + 1 := ⟨f - 1, by omega⟩
  subst hl; simp only [pairsF] at h; rw [if_neg hc, if_neg h0] at h
  have : x = ⟨(r.take c.toNat).toArray⟩ := ba_ext hx
  rw [this]; simpa using h
theorem pf_part {f k : Nat} {l r : List UInt8} {c : UInt8} {x : ByteArray} {p R : List (Nat × ByteArray)} (h : p ++ pairsF f k l = R) (hf : 0 < f) (hl : l = c :: r) (hc : ¬ (63 < c.toNat ∨ r.length < c.toNat)) (hx : x.data.toList = r.take c.toNat) : p ++ [(k, x)] <+: R := by
  by_cases h0 : c.toNat = 0
  · rw [pf_zero h hf hl hc h0 hx]; exact List.prefix_rfl
  · rw [← pf_next h hf hl hc h0 hx]; exact List.prefix_append _ _
/-- the fuel is always enough -/
theorem pf_fuel : ∀ (f g k : Nat) (l : List UInt8), l.length ≤ f → l.length ≤ g → pairsF f k l = pairsF g k l
  | 0, g, k, l, h1, h2 => by
    have : l = [] := List.eq_nil_of_length_eq_zero (by omega)
    subst this; cases g <;> rfl
  | f + 1, 0, k, l, h1, h2 => by
    have : l = [] := List.eq_nil_of_length_eq_zero (by omega)
    subst this; rfl
  | f + 1, g + 1, k, [], h1, h2 => rfl
  | f + 1, g + 1, k, c :: r, h1, h2 => by
    simp only [pairsF, List.length_cons] at h1 h2 ⊢
    rw [pf_fuel f g _ (r.drop c.toNat) (by simp; omega) (by simp; omega)]

theorem below_putObj {B D : Nat} {a W : World} (h : Below B a W) (hD : B ≤ D) (o : Obj) : Below B a (W.putObj D o) :=
  h.trans ⟨rfl, rfl, rfl, by simp, fun k hk => World.putObj_heap_other (by omega)⟩
theorem boxed_putObj {W : World} {B D : Nat} {t : TypeId} {v : Value} (h : Boxed W B t v) (hD : B ≠ D) (o : Obj) : Boxed (W.putObj D o) B t v :=
  h.kept (grownBy_putObj' W D o) (fun e => hD (by cases e; rfl))
/-- a round leaves the iterator's own box as it is -/
def KeepBox (Bs : Nat) (W W' : World) : Prop := W'.cell? ⟨Bs, 0, none⟩ = W.cell? ⟨Bs, 0, none⟩
theorem keepBox_t (Bs : Nat) {A B C : World} (h : KeepBox Bs A B) (k : KeepBox Bs B C) : KeepBox Bs A C := Eq.trans k h
theorem keepBox_b {Bs : Nat} (W : World) (l : Nat) (o' : Obj) (h : Bs ≠ l) : KeepBox Bs W (W.putObj l o') :=
  World.cell?_of_block (World.putObj_heap_other (w := W) (r := l) (k := Bs) h)

set_option maxRecDepth 100000 in
set_option maxHeartbeats 2000000 in
theorem labels1_in (F : Fence) (n : Nat) (hf : F.fn 92) (hro : F.round = none) (hn : 1 ≤ n) (l Bs : Nat) (s : ByteArray) (hs : s.size ≤ 1099511627776) (J Jx : List (Lab s.size) → World → Prop)
    (hY : ∀ pre x W, J pre W → pre.length < s.size → YieldAt F (n - 1) Tryz.prog l #[.int .i64 (x.val.1 : Int), .string x.val.2] W fun e W' =>
      (e = .returned (.bool true) ∧ J (pre ++ [x]) W' ∧ KeepBox Bs W W') ∨ (e = .returned (.bool false) ∧ Jx (pre ++ [x]) W'))
    (W : World) (hBs : W.cell? ⟨Bs, 0, none⟩ = some (.string s)) (h0 : J [] W) :
    CallsIn F n Tryz.prog 92 #[.func (.yield l) #[] #[], .pointer (some ⟨Bs, 0, none⟩)] W fun e W' => (∃ v, e = .returned v) ∧
      ((∃ ys, raw ys = pairs s ∧ J ys W') ∨ (∃ pre, raw pre <+: pairs s ∧ Jx pre W')) := by
  refine callsIn_of_wp Tryz.func92 rfl hf ?_ hro
  simp only [Tryz.ntmps92, List.size_toArray, List.length_cons, List.length_nil, Nat.reduceAdd, Nat.reduceSub, Array.replicate_succ, Array.replicate_zero, List.push_toArray, List.append_toArray, List.nil_append, List.cons_append]
  gi_wp2
  gi_loopg [3] (s.size + 1) (fun gas i wr => ∃ (k : Nat) (pre : List (Lab s.size)), k ≤ s.size ∧ i = .int .i64 k ∧ J pre wr ∧ KeepBox Bs W wr ∧ pre.length ≤ k ∧ s.size - k < gas ∧ Hid (raw pre ++ pairsF (s.size - k) k (s.data.toList.drop k) = pairs s))
  case atStart => exact ⟨0, [], by omega, rfl, h0, rfl, by simp, by omega, Lib.hid rfl⟩
  case round =>
    obtain ⟨k, pre, hk, rfl, hJ, hB, hpk, hgas, HP⟩ := hrel
    have hcell := hB.trans hBs
    have HB := Lib.hid hB; clear hB
    by_cases hlt : k < s.size
    · have HD := Lib.hid (drop_cons s k hlt)
      have h255 : (s[k].toNat : Int) ≤ 255 := by have := s[k].toNat_lt; omega
      have HL : Hid ((s.data.toList.drop (k + 1)).length = s.size - (k + 1)) := Lib.hid (by simp)
      by_cases h63 : 63 < (s[k].toNat : Int)
      · have HE := Lib.hid (pf_bad HP.out (by omega) HD.out (.inl (by omega)))
        gi_wp2
        refine ⟨fun _ h => (by cases h), ?_⟩
        gi_wp2
        refine bodyPost_ret (results_none rfl _ _ _) rfl ?_
        exact ⟨⟨_, rfl⟩, .inl ⟨_, HE.out, hJ⟩⟩
      · have h63' : (s[k].toNat : Int) ≤ 63 := by omega
        by_cases hfit : (s.size : Int) < (k : Int) + 1 + (s[k].toNat : Int)
        · have HE := Lib.hid (pf_bad HP.out (by omega) HD.out (.inr (by have := HL.out; omega)))
          gi_wp2
          refine ⟨fun _ h => (by cases h), ?_⟩
          gi_wp2
          refine bodyPost_ret (results_none rfl _ _ _) rfl ?_
          exact ⟨⟨_, rfl⟩, .inl ⟨_, HE.out, hJ⟩⟩
        · have hfit' : (k : Int) + 1 + (s[k].toNat : Int) ≤ (s.size : Int) := by omega
          have HNB : Hid (¬ (63 < s[k].toNat ∨ (s.data.toList.drop (k + 1)).length < s[k].toNat)) := Lib.hid (by have := HL.out; omega)
          have hsz : (s.extract (k + 1) (k + 1 + s[k].toNat)).size ≤ 63 := by rw [ByteArray.size_extract]; omega
          have HX : Hid ((s.extract (k + 1) (k + 1 + s[k].toNat)).data.toList = (s.data.toList.drop (k + 1)).take s[k].toNat) := Lib.hid (by
            rw [Lib.extract_data]; congr 1; omega)
          obtain ⟨fn, tmps, assign, body, hy, hR⟩ := hY pre ⟨(k, s.extract (k + 1) (k + 1 + s[k].toNat)), by omega, hsz⟩ wr hJ (by omega)
          dsimp only at hy
          have HPA := Lib.hid (pf_part HP.out (by omega) HD.out HNB.out HX.out)
          clear hfit h63
          gi_wp2
          refine hR.mono ?_
          clear hR hy
          rintro e W3 (⟨rfl, hJ3, hk3⟩ | ⟨rfl, hJx3⟩)
          · have hcell3 := hk3.trans hcell
            have HB3 := Lib.hid (keepBox_t Bs HB.out hk3)
            clear hk3
            by_cases hz : s[k].toNat = 0
            · have HE := Lib.hid (pf_zero HP.out (by omega) HD.out HNB.out hz HX.out)
              have hz' : ((s[k].toNat : Int) == 0) = true := by simp [hz]
              clear hz
              gi_wp2
              refine bodyPost_ret (results_none rfl _ _ _) rfl ?_
              exact ⟨⟨_, rfl⟩, .inl ⟨_, (raw_snoc _ _).trans HE.out, hJ3⟩⟩
            · have HE := Lib.hid (pf_next HP.out (by omega) HD.out HNB.out hz HX.out)
              have hz' : ((s[k].toNat : Int) == 0) = false := by simp; omega
              have hz2 : 1 ≤ (s[k].toNat : Int) := by omega
              clear hz
              gi_wp2
              gi_roundg (gk - 1 - s[k].toNat)
              case rel =>
                refine ⟨k + 1 + s[k].toNat, pre ++ [⟨(k, s.extract (k + 1) (k + 1 + s[k].toNat)), by omega, hsz⟩], by omega, ?_, hJ3, HB3.out, by simp; omega, by omega, Lib.hid ?_⟩
                · congr 1; omega
                · rw [raw_snoc, ← HE.out]
                  congr 1
                  rw [List.drop_drop]
                  exact pf_fuel _ _ _ _ (by simp <;> omega) (by simp <;> omega)
              case measure => omega
          · gi_wp2
            refine bodyPost_ret (results_none rfl _ _ _) rfl ?_
            exact ⟨⟨_, rfl⟩, .inr ⟨_, by rw [raw_snoc]; exact HPA.out, hJx3⟩⟩
    · have HE := Lib.hid (pf_end HP.out (drop_end s k (by omega)))
      gi_wp2
      go_end0
      exact ⟨⟨_, rfl⟩, .inl ⟨_, HE.out, hJ⟩⟩

set_option maxHeartbeats 1000000 in
theorem labels_in (F : Fence) (n : Nat) (hf : F.fn 64) (hro : F.round = none) (s : ByteArray) (w : World) :
    CallsIn F n Tryz.prog 64 #[.string s] w fun e w' => e = .returned (.func (.func 92) #[] #[.pointer (some ⟨w.heap.size, 0, none⟩)]) ∧ w' = w.alloc (.cells #[.string s] 9) := by
  refine callsIn_of_wp Tryz.func64 rfl hf ?_ hro
  simp only [Tryz.ntmps64, List.size_toArray, List.length_cons, List.length_nil, Nat.reduceAdd, Nat.reduceSub, Array.replicate_succ, Array.replicate_zero, List.push_toArray, List.append_toArray, List.nil_append, List.cons_append]
  gi_wp2
  go_ret
  exact ⟨rfl, rfl⟩

theorem labels_stops (F : Fence) (n : Nat) (hf : F.fn 92) (hro : F.round = none) (hn : 1 ≤ n) (Bs : Nat) (s : ByteArray) (hs : s.size ≤ 1099511627776) (w : World) (hBs : Bs < w.heap.size)
    (hc : w.cell? ⟨Bs, 0, none⟩ = some (.string s)) :
    SeqStopsK F n Tryz.prog 92 #[.pointer (some ⟨Bs, 0, none⟩)] (fun x : Lab s.size => #[.int .i64 (x.val.1 : Int), .string x.val.2]) (KeepBox Bs) (fun ys => raw ys = pairs s) (fun pre => raw pre <+: pairs s) s.size w := fun l J Jx W hW _ _ hY h0 => by
  have hc' := (hW.cell (p := ⟨Bs, 0, none⟩) hBs).trans hc
  exact labels1_in F n hf hro hn l Bs s hs J Jx hY W hc' h0
end Go.Proofs.YtanoiiodnddkfaaGreat.labels
namespace Go.Proofs.YtanoiiodnddkfaaGreat.check
open Go.RowKit Go.Shelf Go.Proofs.YtanoiiodnddkfaaGreat.kit Go.Proofs.YtanoiiodnddkfaaGreat.labels
attribute [local go_sem] Oper.semAt_some

/-- the pair that ends a name of so many bytes -/
def ends (N : Nat) (p : Nat × ByteArray) : Bool := p.2.toList.isEmpty && decide ((p.1 : Int) = (N : Int) - 1)
def chkE (s : ByteArray) : Int := if 255 < s.size then 1 else if (pairs s).any (ends s.size) then 0 else 1

theorem any_yes {N M : Nat} {pre : List (Lab N)} {x : Lab N} (h1 : x.val.2.toList = []) (h2 : ((x.val.1 : Int) == (M : Int) - 1) = true) : (raw (pre ++ [x])).any (ends M) = true := by
  rw [raw_snoc, List.any_append]; simp only [List.any_cons, List.any_nil, ends, Bool.or_false, h1, List.isEmpty_nil, Bool.true_and]
  rw [decide_eq_true (eq_of_beq h2)]; simp
theorem any_no {N M : Nat} {pre : List (Lab N)} {x : Lab N} (h : (raw pre).any (ends M) = false) (h2 : ((x.val.1 : Int) == (M : Int) - 1) = false) : (raw (pre ++ [x])).any (ends M) = false := by
  rw [raw_snoc, List.any_append, h]; simp only [List.any_cons, List.any_nil, ends, Bool.or_false]
  rw [decide_eq_false (ne_of_beq_false h2)]; simp
theorem any_no' {N M : Nat} {pre : List (Lab N)} {x : Lab N} (h : (raw pre).any (ends M) = false) (h2 : x.val.2.toList.isEmpty = false) : (raw (pre ++ [x])).any (ends M) = false := by
  rw [raw_snoc, List.any_append, h]; simp only [List.any_cons, List.any_nil, ends, Bool.or_false, h2, Bool.false_and]
theorem ret_chk_end {s : ByteArray} {ys : List (Lab s.size)} (h : (s.size : Int) ≤ 255) (hS : raw ys = pairs s) (hA : (raw ys).any (ends s.size) = false) : Ending.returned (.int .i64 1) = .returned (.int .i64 (chkE s)) := by
  simp only [chkE]; rw [if_neg (by omega), ← hS, hA]; rfl
theorem ret_chk_ok {s : ByteArray} {ys : List (Lab s.size)} (h : (s.size : Int) ≤ 255) (hS : raw ys <+: pairs s) (hA : (raw ys).any (ends s.size) = true) : Ending.returned (.int .i64 0) = .returned (.int .i64 (chkE s)) := by
  obtain ⟨t, ht⟩ := hS
  simp only [chkE]; rw [if_neg (by omega), ← ht, List.any_append, hA]; rfl
theorem ret_chk_long (s : ByteArray) (h : 255 < (s.size : Int)) : Ending.returned (.int .i64 1) = .returned (.int .i64 (chkE s)) := by
  simp only [chkE]; rw [if_pos (by omega)]
theorem check_long (s : ByteArray) (w : World) (h : 255 < (s.size : Int)) :
    Calls Tryz.prog 63 #[.string s] w fun e w' => e = .returned (.int .i64 (chkE s)) ∧ Below w.heap.size w w' := by
  go_enter Tryz.func63, Tryz.ntmps63
  go_wp2
  refine bodyPost_ret (v := .int .i64 1) (by simp [results, Tryz.results63, go_sem]) rfl ⟨ret_chk_long s h, ((Below.refl _ _).alloc (Nat.le_refl _) _).alloc (by simp) _⟩

set_option maxRecDepth 100000 in
set_option maxHeartbeats 2000000 in
theorem check_in (s : ByteArray) (w : World) (hs : s.size ≤ 1099511627776) (hlong' : (s.size : Int) ≤ 255) :
    CallsIn Fence.wide 3 Tryz.prog 63 #[.string s] w fun e w' => e = .returned (.int .i64 (chkE s)) ∧ Below w.heap.size w w' := by
  refine callsIn_of_wp_marks Tryz.func63 rfl trivial ?_ rfl
  simp only [Tryz.ntmps63, List.size_toArray, List.length_cons, List.length_nil, Nat.reduceAdd, Nat.reduceSub, Array.replicate_succ, Array.replicate_zero, List.push_toArray, List.append_toArray, List.nil_append, List.cons_append]
  gi_wp2_with (refine ⟨trivial, ?_⟩; gi_at_call 64; refine (labels_in Fence.wide _ trivial rfl _ _).mono ?_; rintro e w' ⟨rfl, rfl⟩)
  obtain ⟨w2, hw2⟩ : ∃ w2, ((w.alloc (.cells #[.string s] 9)).alloc (.cells #[.int .i64 0] 78)).alloc (.cells #[.string s] 9) = w2 := ⟨_, rfl⟩
  rw [hw2]
  have hz : w2.heap.size = w.heap.size + 3 := by rw [← hw2]; simp
  have hB : Below w.heap.size w w2 := by rw [← hw2]; exact (((Below.refl _ w).alloc (Nat.le_refl _) _).alloc (by simp) _).alloc (by simp; omega) _
  have h1 : Boxed w2 w.heap.size 9 (.string s) := by rw [← hw2]; exact ((Boxed.new w _ _).alloc _).alloc _
  have h2 : Boxed w2 (w.heap.size + 1) 78 (.int .i64 0) := by
    rw [← hw2]; have := (Boxed.new (w.alloc (.cells #[.string s] 9)) 78 (.int .i64 0)).alloc (.cells #[.string s] 9); simpa using this
  have h3 : w2.cell? ⟨w.heap.size + 2, 0, none⟩ = some (.string s) := by
    rw [← hw2]; have := (Boxed.new ((w.alloc (.cells #[.string s] 9)).alloc (.cells #[.int .i64 0] 78)) 9 (.string s)).cell; simpa using this
  clear hw2
  refine wpIn_rangeFunc_ownG rfl (by omega) (gf := 92) (lb := #[.pointer (some ⟨w.heap.size + 2, 0, none⟩)]) rfl trivial (enters_of Tryz.func92 (by kernel_rfl) rfl)
    (labels_stops Fence.wide _ trivial rfl (by omega) (w.heap.size + 2) s hs w2 (by omega) h3) (keepBox_t _) (fun W l o o' hl _ _ _ => keepBox_b W l o' (by omega)) (Below.refl _ _) (fun _ => rfl)
    (fun pre W => Boxed W w.heap.size 9 (.string s) ∧ Boxed W (w.heap.size + 1) 78 (.int .i64 0) ∧ Below w.heap.size w W ∧ Hid ((raw pre).any (ends s.size) = false))
    (fun c pre W => c = .ret ∧ Boxed W (w.heap.size + 1) 78 (.int .i64 0) ∧ Below w.heap.size w W ∧ Hid ((raw pre).any (ends s.size) = true))
    (((boxed_own _ _ (fun _ => .string s)).from _).and (((boxed_own _ _ (fun _ => .int .i64 0)).from _).and ((ownFrom_below (Nat.le_refl _) (by omega)).and (ownFrom_pure _ _))))
    (fun c => (ownFrom_pure _ _).and (((boxed_own _ _ (fun _ => .int .i64 0)).from _).and ((ownFrom_below (Nat.le_refl _) (by omega)).and (ownFrom_pure _ _))))
    ⟨h1, h2, hB, Lib.hid (by simp [raw])⟩
    (fun x => { tmps := #[.string s, .pointer (some ⟨w.heap.size, 0, none⟩), .pointer (some ⟨w.heap.size + 1, 0, none⟩), .int .i64 (x.val.1 : Int), .string x.val.2, .string s, .int .i64 (s.size : Int), .bool (decide (255 < (s.size : Int))), .string s, .func (.func 92) #[] #[.pointer (some ⟨w.heap.size + 2, 0, none⟩)], .int .i64 (x.val.1 : Int), .string x.val.2, undef, undef, undef, undef, undef, undef, undef, undef, undef], defers := [] }) ?assign ?body ?done ?stop
  case assign =>
    intro l x W K hK
    gi_wp2
    exact hK
  case body =>
    rintro l pre x W ⟨hb1, hb2, hBl, HA⟩ _
    have hc1 := hb1.cell
    have hc2 := hb2.cell
    have hf2 := hb2.frozen
    by_cases he : x.val.2.toList = []
    · by_cases hn : ((x.val.1 : Int) == (s.size : Int) - 1) = true
      · have HY := Lib.hid (any_yes (pre := pre) he hn)
        gi_wp2
        exact ⟨(KeepsOthers.setCell _ _ _).from _, rfl, hb2.set _, hBl.setCell (by simp) _, HY⟩
      · have hn' : ((x.val.1 : Int) == (s.size : Int) - 1) = false := by simpa using hn
        have HY := Lib.hid (any_no HA.out hn')
        clear hn
        gi_wp2
        exact ⟨KeepsFrom.refl _ _, rfl, hb1, hb2, hBl, HY⟩
    · have he' : x.val.2.toList.isEmpty = false := by simpa using he
      have HY := Lib.hid (any_no' HA.out he')
      clear he
      gi_wp2
      exact ⟨KeepsFrom.refl _ _, rfl, hb1, hb2, hBl, HY⟩
  case done =>
    rintro D ys W hD hS ⟨hb1, hb2, hBl, HA⟩ hK
    have HS := Lib.hid hS; clear hS
    have hc2 := hb2.cell
    have hf2 := hb2.frozen
    gi_wp2
    refine ⟨by simp, .inl ⟨_, _, rfl, run_takeDeferred ((KeepsOthers.setCell W _ _).same D _ hK rfl), ?_⟩⟩
    have hcf := (boxed_putObj (hb2.set (.int .i64 1)) (show w.heap.size + 1 ≠ D by omega) (.deferred none)).cell
    exact ⟨.int .i64 1, by simp [results, Tryz.results63, go_sem, hcf], ret_chk_end hlong' HS.out HA.out, below_putObj (hBl.setCell (by simp) _) (by omega) _⟩
  case stop =>
    rintro D c pre W hD hS ⟨rfl, hb2, hBl, HA⟩ hK
    have HS := Lib.hid hS; clear hS
    have hc2 := hb2.cell
    gi_wp2
    refine ⟨by simp, .inl ⟨_, _, rfl, run_takeDeferred hK, ?_⟩⟩
    have hcf := (boxed_putObj hb2 (show w.heap.size + 1 ≠ D by omega) (.deferred none)).cell
    exact ⟨.int .i64 0, by simp [results, Tryz.results63, go_sem, hcf], ret_chk_ok hlong' HS.out HA.out, below_putObj hBl (by omega) _⟩
theorem check_any (s : ByteArray) (w : World) (hs : s.size ≤ 1099511627776) :
    Calls Tryz.prog 63 #[.string s] w fun e w' => e = .returned (.int .i64 (chkE s)) ∧ Below w.heap.size w w' := by
  by_cases h : 255 < (s.size : Int)
  · exact check_long s w h
  · exact callsIn_wide.1 (check_in s w hs (by omega))
end Go.Proofs.YtanoiiodnddkfaaGreat.check
namespace Go.Proofs.YtanoiiodnddkfaaGreat.nspec
open Go.Proofs.YtanoiiodnddkfaaGreat.kit Go.Proofs.YtanoiiodnddkfaaGreat.labels Go.Proofs.YtanoiiodnddkfaaGreat.check

abbrev Bs := List UInt8
def strV (l : Bs) : Value := .string ⟨l.toArray⟩

def parseF : Nat → Bs → Option (List Bs)
  | 0, _ => none
  | _ + 1, [] => none
  | f + 1, c :: r => if c.toNat = 0 then (if r = [] then some [] else none) else if 63 < c.toNat ∨ r.length < c.toNat then none else (parseF f (r.drop c.toNat)).map (r.take c.toNat :: ·)
def split (l : Bs) : Option (List Bs) := if l.length ≤ 255 then parseF l.length l else none

def put : List Bs → Bs
  | [] => [0]
  | x :: r => UInt8.ofNat x.length :: (x ++ put r)
def okL (ls : List Bs) : Prop := ∀ x ∈ ls, 1 ≤ x.length ∧ x.length ≤ 63

theorem okL_cons {x : Bs} {r : List Bs} : okL (x :: r) ↔ (1 ≤ x.length ∧ x.length ≤ 63) ∧ okL r := by
  simp [okL]
theorem okL_append {x y : List Bs} : okL (x ++ y) ↔ okL x ∧ okL y := by
  simp only [okL, List.mem_append]; exact ⟨fun h => ⟨fun z hz => h z (.inl hz), fun z hz => h z (.inr hz)⟩, fun h z hz => hz.elim (h.1 z) (h.2 z)⟩
theorem okL_drop {x : List Bs} (k : Nat) (h : okL x) : okL (x.drop k) := fun z hz => h z (List.mem_of_mem_drop hz)
theorem okL_take {x : List Bs} (k : Nat) (h : okL x) : okL (x.take k) := fun z hz => h z (List.mem_of_mem_take hz)
theorem put_pos (ls : List Bs) : 0 < (put ls).length := by cases ls <;> simp [put]
theorem nat_of {n : Nat} (h : n ≤ 255) : (UInt8.ofNat n).toNat = n := by
  rw [UInt8.toNat_ofNat']; omega

theorem parse_put : ∀ (f : Nat) (ls : List Bs), okL ls → (put ls).length ≤ f → parseF f (put ls) = some ls
  | 0, ls, _, hf => by have := put_pos ls; omega
  | f + 1, [], _, _ => by simp [put, parseF]
  | f + 1, x :: r, h, hf => by
    obtain ⟨⟨h1, h2⟩, h3⟩ := okL_cons.1 h
    have hn : (UInt8.ofNat x.length).toNat = x.length := nat_of (by omega)
    simp only [put, parseF, hn, List.length_cons, List.length_append] at hf ⊢
    rw [if_neg (by omega), if_neg (by omega)]
    rw [List.drop_left, List.take_left, parse_put f r h3 (by omega)]; rfl
theorem parse_some : ∀ (f : Nat) (l : Bs) (ls : List Bs), parseF f l = some ls → l = put ls ∧ okL ls
  | 0, l, ls, h => by simp [parseF] at h
  | f + 1, [], ls, h => by simp [parseF] at h
  | f + 1, c :: r, ls, h => by
    simp only [parseF] at h
    by_cases h0 : c.toNat = 0
    · rw [if_pos h0] at h
      by_cases hr : r = []
      · rw [if_pos hr] at h
        have : ls = [] := by simpa using h.symm
        subst this; subst hr
        refine ⟨?_, by simp [okL]⟩
        have : c = 0 := UInt8.toNat_inj.1 h0
        simp [put, this]
      · rw [if_neg hr] at h; simp at h
    · rw [if_neg h0] at h
      by_cases hc : 63 < c.toNat ∨ r.length < c.toNat
      · rw [if_pos hc] at h; simp at h
      · rw [if_neg hc] at h
        cases hp : parseF f (r.drop c.toNat) with
        | none => rw [hp] at h; simp at h
        | some ls' =>
          rw [hp] at h
          have : ls = r.take c.toNat :: ls' := by simpa using h.symm
          subst this
          obtain ⟨e, ho⟩ := parse_some f _ _ hp
          have hl : (r.take c.toNat).length = c.toNat := by rw [List.length_take]; omega
          refine ⟨?_, okL_cons.2 ⟨by omega, ho⟩⟩
          simp only [put, hl, ← e, List.take_append_drop]
          congr 1
          simp
theorem parse_fuel : ∀ (f g : Nat) (l : Bs), l.length ≤ f → l.length ≤ g → parseF f l = parseF g l
  | 0, 0, l, _, _ => rfl
  | 0, g + 1, l, h, _ => by
    have : l = [] := List.eq_nil_of_length_eq_zero (by omega)
    subst this; rfl
  | f + 1, 0, l, _, h => by
    have : l = [] := List.eq_nil_of_length_eq_zero (by omega)
    subst this; rfl
  | f + 1, g + 1, [], _, _ => rfl
  | f + 1, g + 1, c :: r, h1, h2 => by
    simp only [parseF, List.length_cons] at h1 h2 ⊢
    by_cases h0 : c.toNat = 0
    · simp [h0]
    · rw [if_neg h0, if_neg h0, parse_fuel f g (r.drop c.toNat) (by simp; omega) (by simp; omega)]

/-- a name and its labels -/
def IsN (l : Bs) (ls : List Bs) : Prop := l = put ls ∧ okL ls ∧ l.length ≤ 255
theorem split_iff {l : Bs} {ls : List Bs} : split l = some ls ↔ IsN l ls := by
  unfold split IsN
  constructor
  · intro h
    by_cases hl : l.length ≤ 255
    · rw [if_pos hl] at h
      obtain ⟨a, b⟩ := parse_some _ _ _ h
      exact ⟨a, b, hl⟩
    · rw [if_neg hl] at h; simp at h
  · rintro ⟨e, ho, hl⟩
    rw [if_pos hl, e]
    exact parse_put _ ls ho (Nat.le_refl _)
theorem split_put {ls : List Bs} (h : okL ls) (hl : (put ls).length ≤ 255) : split (put ls) = some ls := split_iff.2 ⟨rfl, h, hl⟩
theorem put_inj {a b : List Bs} (ha : okL a) (hb : okL b) (h : put a = put b) : a = b := by
  have h1 := parse_put (put a).length a ha (Nat.le_refl _)
  have h2 := parse_put (put a).length b hb (by rw [h]; exact Nat.le_refl _)
  rw [h] at h1 h2
  rw [h2] at h1
  simpa using h1.symm
theorem put_append (a b : List Bs) : put (a ++ b) = a.flatMap (fun x => UInt8.ofNat x.length :: x) ++ put b := by
  induction a with
  | nil => rfl
  | cons x r ih => simp [put, ih]
theorem put_flat (a : List Bs) : put a = a.flatMap (fun x => UInt8.ofNat x.length :: x) ++ [0] := by
  have := put_append a []
  simpa [put] using this
/-- the number of bytes ahead of the last one -/
def room (ls : List Bs) : Nat := (ls.map (fun x => x.length + 1)).sum
theorem put_length (ls : List Bs) : (put ls).length = room ls + 1 := by
  induction ls with
  | nil => rfl
  | cons x r ih => simp [put, room] at ih ⊢; omega
theorem room_append (a b : List Bs) : room (a ++ b) = room a + room b := by simp [room]

/-- the pairs of a name -/
def pairsL : Nat → List Bs → List (Nat × ByteArray)
  | k, [] => [(k, ⟨[].toArray⟩)]
  | k, x :: r => (k, ⟨x.toArray⟩) :: pairsL (k + 1 + x.length) r
theorem pairs_put : ∀ (f k : Nat) (ls : List Bs), okL ls → (put ls).length ≤ f → pairsF f k (put ls) = pairsL k ls
  | 0, k, ls, _, hf => by have := put_pos ls; omega
  | f + 1, k, [], _, _ => by simp [put, pairsF, pairsL]
  | f + 1, k, x :: r, h, hf => by
    obtain ⟨⟨h1, h2⟩, h3⟩ := okL_cons.1 h
    have hn : (UInt8.ofNat x.length).toNat = x.length := nat_of (by omega)
    simp only [put, pairsF, pairsL, hn, List.length_cons, List.length_append] at hf ⊢
    rw [if_neg (by omega), if_neg (by omega), List.drop_left, List.take_left, pairs_put f _ r h3 (by omega)]
theorem pairs_isN {s : ByteArray} {ls : List Bs} (h : IsN s.data.toList ls) : pairs s = pairsL 0 ls := by
  obtain ⟨e, ho, _⟩ := h
  unfold pairs
  rw [e]
  exact pairs_put _ 0 ls ho (by rw [← e]; simp)
theorem ends_iff : ∀ (f k : Nat) (l : Bs), l.length ≤ f → (pairsF f k l).any (ends (k + l.length)) = (parseF f l).isSome
  | 0, k, l, h => by simp [pairsF, parseF]
  | f + 1, k, [], h => by simp [pairsF, parseF]
  | f + 1, k, c :: r, h => by
    simp only [pairsF, parseF, List.length_cons] at h ⊢
    by_cases h0 : c.toNat = 0
    · rw [if_neg (by omega), if_pos h0, if_pos h0]
      simp only [h0, List.take_zero, List.any_cons, List.any_nil, Bool.or_false, ends]
      by_cases hr : r = []
      · subst hr
        rw [if_pos rfl, Lib.toList_data]; simp <;> omega
      · rw [if_neg hr]
        have : 0 < r.length := List.length_pos_iff.2 hr
        rw [decide_eq_false (by omega)]; simp
    · by_cases hc : 63 < c.toNat ∨ r.length < c.toNat
      · rw [if_pos hc, if_neg h0, if_pos hc]; rfl
      · rw [if_neg hc, if_neg h0, if_neg hc]
        have ih := ends_iff f (k + 1 + c.toNat) (r.drop c.toNat) (by simp; omega)
        have e : k + 1 + c.toNat + (r.drop c.toNat).length = k + (r.length + 1) := by rw [List.length_drop]; omega
        rw [e] at ih
        simp only [List.any_cons, ih]
        have hne : ends (k + (r.length + 1)) (k, ⟨(r.take c.toNat).toArray⟩) = false := by
          simp only [ends, Lib.toList_data]
          have : (r.take c.toNat) ≠ [] := by
            intro e2
            have := congrArg List.length e2
            rw [List.length_take, List.length_nil] at this; omega
          have e3 : (r.take c.toNat).isEmpty = false := by simpa using this
          simp only [e3, Bool.false_and]
        rw [hne]
        simp only [if_neg h0]
        cases parseF f (r.drop c.toNat) <;> rfl
theorem chk_eq (s : ByteArray) : chkE s = if (split s.data.toList).isSome then 0 else 1 := by
  have hsz := size_len s
  unfold chkE split
  rw [hsz]
  by_cases h : 255 < s.size
  · have h' : ¬ s.size ≤ 255 := by omega
    simp [h, h']
  · have h' : s.size ≤ 255 := by omega
    have := ends_iff s.size 0 s.data.toList (by omega)
    rw [show 0 + s.data.toList.length = s.size from by omega] at this
    simp only [if_neg h, if_pos h', ← this]; rfl
theorem chk_yes {s : ByteArray} {ls : List Bs} (h : IsN s.data.toList ls) : chkE s = 0 := by
  rw [chk_eq, split_iff.2 h]; rfl
theorem chk_no {s : ByteArray} (h : split s.data.toList = none) : chkE s = 1 := by
  rw [chk_eq, h]; rfl
theorem isN_put {ls : List Bs} (h : okL ls) (hl : room ls ≤ 254) : IsN (put ls) ls := ⟨rfl, h, by rw [put_length]; omega⟩
theorem isN_room {l : Bs} {ls : List Bs} (h : IsN l ls) : room ls ≤ 254 := by
  have := h.2.2; rw [h.1, put_length] at this; omega
theorem isN_inj {l : Bs} {a b : List Bs} (h : IsN l a) (k : IsN l b) : a = b := put_inj h.2.1 k.2.1 (h.1.symm.trans k.1)
end Go.Proofs.YtanoiiodnddkfaaGreat.nspec
