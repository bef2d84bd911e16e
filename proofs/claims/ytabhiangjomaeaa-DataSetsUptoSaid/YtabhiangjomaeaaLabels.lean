/- The iterator name.labels: its contract. -/
import Derived.Test.YtabhiangjomaeaaKit
import Derived.RangeFuncNested
import Derived.RangeFuncBound
import Derived.RangeFuncCalls
import Derived.RangeFuncLeaves
import Derived.RangeFuncBox
import Derived.Shelf.Abstract
import Derived.Shelf.RegionOpen
import Derived.OwnWalkIn
import Derived.TacticsInMore
import Derived.LoopNIn
import Derived.LoopIn
import Derived.Sort.LoopGhostIn
namespace Go.Proofs.Ytabhiangjomaeaa.labels
open Go.RowKit Go.Shelf Go.Proofs.Ytabhiangjomaeaa.kit
attribute [local go_sem] Oper.semAt_some

/-- what the iterator hands over: places and labels -/
def pairsF : Nat → Nat → List UInt8 → List (Nat × ByteArray)
  | 0, _, _ => []
  | _ + 1, _, [] => []
  | f + 1, at', c :: r => if 63 < c.toNat ∨ r.length < c.toNat then [] else (at', ⟨(r.take c.toNat).toArray⟩) :: (if c.toNat = 0 then [] else pairsF f (at' + 1 + c.toNat) (r.drop c.toNat))
def pairs (s : ByteArray) : List (Nat × ByteArray) := pairsF s.size 0 s.data.toList

abbrev Lab (N : Nat) := { x : Nat × ByteArray // x.1 ≤ N ∧ x.2.size ≤ 63 }
def raw {N : Nat} (l : List (Lab N)) : List (Nat × ByteArray) := l.map (·.val)
theorem raw_snoc {N : Nat} (l : List (Lab N)) (x : Lab N) : raw (l ++ [x]) = raw l ++ [x.val] := by simp [raw]

theorem pf_end {f k : Nat} {l : List UInt8} {p R : List (Nat × ByteArray)} (h : p ++ pairsF f k l = R) (hl : l = []) : p = R := by
  subst hl; cases f <;> simpa [pairsF] using h
theorem pf_bad {f k : Nat} {l r : List UInt8} {c : UInt8} {p R : List (Nat × ByteArray)} (h : p ++ pairsF f k l = R) (hf : 0 < f) (hl : l = c :: r) (hc : 63 < c.toNat ∨ r.length < c.toNat) : p = R := by
  obtain ⟨g, rfl⟩ : ∃ g, f = g + 1 := ⟨f - 1, by omega⟩
  subst hl; simp only [pairsF] at h; rw [if_pos hc] at h; simpa using h
theorem pf_zero {f k : Nat} {l r : List UInt8} {c : UInt8} {x : ByteArray} {p R : List (Nat × ByteArray)} (h : p ++ pairsF f k l = R) (hf : 0 < f) (hl : l = c :: r) (hc : ¬ (63 < c.toNat ∨ r.length < c.toNat)) (h0 : c.toNat = 0) (hx : x.data.toList = r.take c.toNat) : p ++ [(k, x)] = R := by
  obtain ⟨g, rfl⟩ : ∃ g, f = g + 1 := ⟨f - 1, by omega⟩
  subst hl; simp only [pairsF] at h; rw [if_neg hc, if_pos h0] at h
  have : x = ⟨(r.take c.toNat).toArray⟩ := ba_ext hx
  rw [this]; exact h
theorem pf_next {f k : Nat} {l r : List UInt8} {c : UInt8} {x : ByteArray} {p R : List (Nat × ByteArray)} (h : p ++ pairsF f k l = R) (hf : 0 < f) (hl : l = c :: r) (hc : ¬ (63 < c.toNat ∨ r.length < c.toNat)) (h0 : c.toNat ≠ 0) (hx : x.data.toList = r.take c.toNat) : (p ++ [(k, x)]) ++ pairsF (f - 1) (k + 1 + c.toNat) (r.drop c.toNat) = R := by
  obtain ⟨g, rfl⟩ : ∃ g, f = g + 1 := ⟨f - 1, by omega⟩
  subst hl; simp only [pairsF] at h; rw [if_neg hc, if_neg h0] at h
  have : x = ⟨(r.take c.toNat).toArray⟩ := ba_ext hx
  rw [this]; simpa using h
theorem pf_part {f k : Nat} {l r : List UInt8} {c : UInt8} {x : ByteArray} {p R : List (Nat × ByteArray)} (h : p ++ pairsF f k l = R) (hf : 0 < f) (hl : l = c :: r) (hc : ¬ (63 < c.toNat ∨ r.length < c.toNat)) (hx : x.data.toList = r.take c.toNat) : p ++ [(k, x)] <+: R := by
  by_cases h0 : c.toNat = 0
  · rw [pf_zero h hf hl hc h0 hx]; exact List.prefix_rfl
  · rw [← pf_next h hf hl hc h0 hx]; exact List.prefix_append _ _
/-- the fuel is always enough -/
theorem pf_fuel : ∀ (f g k : Nat) (l : List UInt8), l.length ≤ f → l.length ≤ g → pairsF f k l = pairsF g k l
  | 0, g, k, l, h1, h2 => by
    have : l = [] := List.eq_nil_of_length_eq_zero (by omega)
    subst this; cases g <;> rfl
  | f + 1, 0, k, l, h1, h2 => by
    have : l = [] := List.eq_nil_of_length_eq_zero (by omega)
    subst this; rfl
  | f + 1, g + 1, k, [], h1, h2 => rfl
  | f + 1, g + 1, k, c :: r, h1, h2 => by
    simp only [pairsF, List.length_cons] at h1 h2 ⊢
    rw [pf_fuel f g _ (r.drop c.toNat) (by simp; omega) (by simp; omega)]

theorem below_putObj {B D : Nat} {a W : World} (h : Below B a W) (hD : B ≤ D) (o : Obj) : Below B a (W.putObj D o) :=
  h.trans ⟨rfl, rfl, rfl, by simp, fun k hk => World.putObj_heap_other (by omega)⟩
theorem boxed_putObj {W : World} {B D : Nat} {t : TypeId} {v : Value} (h : Boxed W B t v) (hD : B ≠ D) (o : Obj) : Boxed (W.putObj D o) B t v :=
  h.kept (grownBy_putObj' W D o) (fun e => hD (by cases e; rfl))
/-- a round leaves the iterator's own box as it is -/
def KeepBox (Bs : Nat) (W W' : World) : Prop := W'.cell? ⟨Bs, 0, none⟩ = W.cell? ⟨Bs, 0, none⟩
theorem keepBox_t (Bs : Nat) {A B C : World} (h : KeepBox Bs A B) (k : KeepBox Bs B C) : KeepBox Bs A C := Eq.trans k h
theorem keepBox_b {Bs : Nat} (W : World) (l : Nat) (o' : Obj) (h : Bs ≠ l) : KeepBox Bs W (W.putObj l o') :=
  World.cell?_of_block (World.putObj_heap_other (w := W) (r := l) (k := Bs) h)

set_option maxRecDepth 100000 in
set_option maxHeartbeats 2000000 in
theorem labels1_in (F : Fence) (n : Nat) (hf : F.fn 113) (hro : F.round = none) (hn : 1 ≤ n) (l Bs : Nat) (s : ByteArray) (hs : s.size ≤ 1099511627776) (J Jx : List (Lab s.size) → World → Prop)
    (hY : ∀ pre x W, J pre W → pre.length < s.size → YieldAt F (n - 1) Try.prog l #[.int .i64 (x.val.1 : Int), .string x.val.2] W fun e W' =>
      (e = .returned (.bool true) ∧ J (pre ++ [x]) W' ∧ KeepBox Bs W W') ∨ (e = .returned (.bool false) ∧ Jx (pre ++ [x]) W'))
    (W : World) (hBs : W.cell? ⟨Bs, 0, none⟩ = some (.string s)) (h0 : J [] W) :
    CallsIn F n Try.prog 113 #[.func (.yield l) #[] #[], .pointer (some ⟨Bs, 0, none⟩)] W fun e W' => (∃ v, e = .returned v) ∧
      ((∃ ys, raw ys = pairs s ∧ J ys W') ∨ (∃ pre, raw pre <+: pairs s ∧ Jx pre W')) := by
  refine callsIn_of_wp Try.func113 rfl hf ?_ hro
  simp only [Try.ntmps113, List.size_toArray, List.length_cons, List.length_nil, Nat.reduceAdd, Nat.reduceSub, Array.replicate_succ, Array.replicate_zero, List.push_toArray, List.append_toArray, List.nil_append, List.cons_append]
  gi_wp2
  gi_loopg [3] (s.size + 1) (fun gas i wr => ∃ (k : Nat) (pre : List (Lab s.size)), k ≤ s.size ∧ i = .int .i64 k ∧ J pre wr ∧ KeepBox Bs W wr ∧ pre.length ≤ k ∧ s.size - k < gas ∧ Hid (raw pre ++ pairsF (s.size - k) k (s.data.toList.drop k) = pairs s))
  case atStart => exact ⟨0, [], by omega, rfl, h0, rfl, by simp, by omega, Lib.hid rfl⟩
  case round =>
    obtain ⟨k, pre, hk, rfl, hJ, hB, hpk, hgas, HP⟩ := hrel
    have hcell := hB.trans hBs
    have HB := Lib.hid hB; clear hB
    by_cases hlt : k < s.size
    · have HD := Lib.hid (drop_cons s k hlt)
      have h255 : (s[k].toNat : Int) ≤ 255 := by have := s[k].toNat_lt; omega
      have HL : Hid ((s.data.toList.drop (k + 1)).length = s.size - (k + 1)) := Lib.hid (by simp)
      by_cases h63 : 63 < (s[k].toNat : Int)
      · have HE := Lib.hid (pf_bad HP.out (by omega) HD.out (.inl (by omega)))
        gi_wp2
        refine ⟨fun _ h => (by cases h), ?_⟩
        gi_wp2
        refine bodyPost_ret (results_none rfl _ _ _) rfl ?_
        exact ⟨⟨_, rfl⟩, .inl ⟨_, HE.out, hJ⟩⟩
      · have h63' : (s[k].toNat : Int) ≤ 63 := by omega
        by_cases hfit : (s.size : Int) < (k : Int) + 1 + (s[k].toNat : Int)
        · have HE := Lib.hid (pf_bad HP.out (by omega) HD.out (.inr (by have := HL.out; omega)))
          gi_wp2
          refine ⟨fun _ h => (by cases h), ?_⟩
          gi_wp2
          refine bodyPost_ret (results_none rfl _ _ _) rfl ?_
          exact ⟨⟨_, rfl⟩, .inl ⟨_, HE.out, hJ⟩⟩
        · have hfit' : (k : Int) + 1 + (s[k].toNat : Int) ≤ (s.size : Int) := by omega
          have HNB : Hid (¬ (63 < s[k].toNat ∨ (s.data.toList.drop (k + 1)).length < s[k].toNat)) := Lib.hid (by have := HL.out; omega)
          have hsz : (s.extract (k + 1) (k + 1 + s[k].toNat)).size ≤ 63 := by rw [ByteArray.size_extract]; omega
          have HX : Hid ((s.extract (k + 1) (k + 1 + s[k].toNat)).data.toList = (s.data.toList.drop (k + 1)).take s[k].toNat) := Lib.hid (by
            rw [Lib.extract_data]; congr 1; omega)
          obtain ⟨fn, tmps, assign, body, hy, hR⟩ := hY pre ⟨(k, s.extract (k + 1) (k + 1 + s[k].toNat)), by omega, hsz⟩ wr hJ (by omega)
          dsimp only at hy
          have HPA := Lib.hid (pf_part HP.out (by omega) HD.out HNB.out HX.out)
          clear hfit h63
          gi_wp2
          refine hR.mono ?_
          clear hR hy
          rintro e W3 (⟨rfl, hJ3, hk3⟩ | ⟨rfl, hJx3⟩)
          · have hcell3 := hk3.trans hcell
            have HB3 := Lib.hid (keepBox_t Bs HB.out hk3)
            clear hk3
            by_cases hz : s[k].toNat = 0
            · have HE := Lib.hid (pf_zero HP.out (by omega) HD.out HNB.out hz HX.out)
              have hz' : ((s[k].toNat : Int) == 0) = true := by simp [hz]
              clear hz
              gi_wp2
              refine bodyPost_ret (results_none rfl _ _ _) rfl ?_
              exact ⟨⟨_, rfl⟩, .inl ⟨_, (raw_snoc _ _).trans HE.out, hJ3⟩⟩
            · have HE := Lib.hid (pf_next HP.out (by omega) HD.out HNB.out hz HX.out)
              have hz' : ((s[k].toNat : Int) == 0) = false := by simp; omega
              have hz2 : 1 ≤ (s[k].toNat : Int) := by omega
              clear hz
              gi_wp2
              gi_roundg (gk - 1 - s[k].toNat)
              case rel =>
                refine ⟨k + 1 + s[k].toNat, pre ++ [⟨(k, s.extract (k + 1) (k + 1 + s[k].toNat)), by omega, hsz⟩], by omega, ?_, hJ3, HB3.out, by simp; omega, by omega, Lib.hid ?_⟩
                · congr 1; omega
                · rw [raw_snoc, ← HE.out]
                  congr 1
                  rw [List.drop_drop]
                  exact pf_fuel _ _ _ _ (by simp <;> omega) (by simp <;> omega)
              case measure => omega
          · gi_wp2
            refine bodyPost_ret (results_none rfl _ _ _) rfl ?_
            exact ⟨⟨_, rfl⟩, .inr ⟨_, by rw [raw_snoc]; exact HPA.out, hJx3⟩⟩
    · have HE := Lib.hid (pf_end HP.out (drop_end s k (by omega)))
      gi_wp2
      go_end0
      exact ⟨⟨_, rfl⟩, .inl ⟨_, HE.out, hJ⟩⟩

set_option maxHeartbeats 1000000 in
theorem labels_in (F : Fence) (n : Nat) (hf : F.fn 98) (hro : F.round = none) (s : ByteArray) (w : World) :
    CallsIn F n Try.prog 98 #[.string s] w fun e w' => e = .returned (.func (.func 113) #[] #[.pointer (some ⟨w.heap.size, 0, none⟩)]) ∧ w' = w.alloc (.cells #[.string s] 9) := by
  refine callsIn_of_wp Try.func98 rfl hf ?_ hro
  simp only [Try.ntmps98, List.size_toArray, List.length_cons, List.length_nil, Nat.reduceAdd, Nat.reduceSub, Array.replicate_succ, Array.replicate_zero, List.push_toArray, List.append_toArray, List.nil_append, List.cons_append]
  gi_wp2
  go_ret
  exact ⟨rfl, rfl⟩

theorem labels_stops (F : Fence) (n : Nat) (hf : F.fn 113) (hro : F.round = none) (hn : 1 ≤ n) (Bs : Nat) (s : ByteArray) (hs : s.size ≤ 1099511627776) (w : World) (hBs : Bs < w.heap.size)
    (hc : w.cell? ⟨Bs, 0, none⟩ = some (.string s)) :
    SeqStopsK F n Try.prog 113 #[.pointer (some ⟨Bs, 0, none⟩)] (fun x : Lab s.size => #[.int .i64 (x.val.1 : Int), .string x.val.2]) (KeepBox Bs) (fun ys => raw ys = pairs s) (fun pre => raw pre <+: pairs s) s.size w := fun l J Jx W hW _ _ hY h0 => by
  have hc' := (hW.cell (p := ⟨Bs, 0, none⟩) hBs).trans hc
  exact labels1_in F n hf hro hn l Bs s hs J Jx hY W hc' h0
end Go.Proofs.Ytabhiangjomaeaa.labels
