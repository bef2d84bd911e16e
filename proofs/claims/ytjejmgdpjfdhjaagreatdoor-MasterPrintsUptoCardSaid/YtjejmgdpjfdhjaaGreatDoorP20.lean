/- A region that draws its order: loads taken first though the region's last operations write their cells. gazetteerref1.show6: walk. data.ip4's 'show': walk. data's texts, kinds, b64: 'show': walks. -/
import Derived.Test.YtjejmgdpjfdhjaaGreatDoorK1
import Derived.Test.YtjejmgdpjfdhjaaGreatDoorP18
import Derived.Test.YtjejmgdpjfdhjaaGreatDoorP19
import Derived.Test.YtjejmgdpjfdhjaaGreatDoorP12
import Derived.StillTail
import Derived.Deep.RegionHeld3
namespace Go.Proofs.YtjejmgdpjfdhjaaGreatDoor.heldG
open Go.RowKit
set_option linter.unusedVariables false

section
variable {P : Program} {ops : Array Oper} {Q : Exit → Act → World → Prop} {md : Region.Mode} {S : World → Prop} {T : Nat → Bool}
/-- S is owed behind each operation that is none of T's -/
def wpAnyG (P : Program) (md : Region.Mode) (ops : Array Oper) (Q : Exit → Act → World → Prop) (S : World → Prop) (T : Nat → Bool) : Nat → Array Bool → Act → World → Prop
  | 0, listed, a, w => Region.ready md ops listed = [] ∧ Q .normal a w
  | fuel + 1, listed, a, w =>
    (Region.ready md ops listed = [] → Q .normal a w) ∧
    ∀ i ∈ Region.ready md ops listed, wpOp P ops Q i (fun a' w' => (T i = false → S w') ∧ wpAnyG P md ops Q S T fuel (listed.setIfInBounds i true) a' w') a w
theorem any_of_G : ∀ (fuel : Nat) (listed : Array Bool) (a : Act) (w : World), wpAnyG P md ops Q S T fuel listed a w → wpAny P md ops Q fuel listed a w
  | 0, _, _, _, h => h
  | fuel + 1, _, _, _, h => ⟨h.1, fun i hi => wpOp_mono (fun a' w' h' => any_of_G fuel _ a' w' h'.2) (h.2 i hi)⟩
/-- each of T's waits for i -/
def waitB (md : Region.Mode) (ops : Array Oper) (T : Nat → Bool) (i : Nat) : Bool := (List.range ops.size).all fun t => !T t || Region.waitsFor md ops t i
theorem firstG {i : Nat} {oi : Oper} {v : Value} (hi : ops[i]? = some oi) (hsel : ∀ (j : Nat) (o : Oper) cs b, ops[j]? = some o → o.op ≠ .select cs b)
    (hQ : ∀ c a w, Q (.panic c) (a.put oi.dst v) w → Q (.panic c) a w) (hT : waitB md ops T i = true) (hTi : T i = false) :
    ∀ (fuel : Nat) (listed : Array Bool) (a : Act) (w : World),
      (∀ j oj, ops[j]? = some oj → j ≠ i → listed.getD j true = false → (∀ e ∈ oj.after, Region.binds md e = true → e.on ≠ i) → oi.apart ops oj = true) →
      i ∈ Region.ready md ops listed → YieldsIf P ops S oi v a → S w →
      wpAnyG P md ops Q S T fuel (listed.setIfInBounds i true) (a.put oi.dst v) w → wpAnyG P md ops Q S T (fuel + 1) listed a w := by
  intro fuel
  induction fuel with
  | zero =>
    intro listed a w _ hr hy hS H
    refine ⟨fun h => (by rw [h] at hr; cases hr), fun j hj => ?_⟩
    by_cases hji : j = i
    · subst hji; exact hy.wpOp hi hS ⟨fun _ => hS, H⟩
    · have := ready_mono hj hji
      rw [H.1] at this
      cases this
  | succ fuel ih =>
    intro listed a w hfree hr hy hS H
    refine ⟨fun h => (by rw [h] at hr; cases hr), fun j hj => ?_⟩
    by_cases hji : j = i
    · subst hji; exact hy.wpOp hi hS ⟨fun _ => hS, H⟩
    · have h1 := H.2 j (ready_mono hj hji)
      obtain ⟨hjun, oj, hoj, hall⟩ := mem_ready.1 hj
      have hnot : ∀ e ∈ oj.after, Region.binds md e = true → e.on ≠ i := fun e he hb heq => by
        have h1 := hall e he hb
        have h0 := (mem_ready.1 hr).1
        rw [heq] at h1
        rcases Nat.lt_or_ge i listed.size with h' | h'
        · simp [h'] at h0 h1; rw [h0] at h1; cases h1
        · simp [Array.getElem?_eq_none h'] at h1
      have hTj : T j = false := by
        cases hq : T j with
        | false => rfl
        | true =>
          have hlt : j < ops.size := (Array.getElem?_eq_some_iff.1 hoj).1
          have h2 := List.all_eq_true.1 hT j (List.mem_range.2 hlt)
          rw [hq] at h2
          simp only [Bool.not_true, Bool.false_or] at h2
          obtain ⟨o', ho', e, he, hb, hon⟩ := Region.waitsFor_spec h2
          have : o' = oj := Option.some.inj (ho'.symm.trans hoj)
          subst this
          exact absurd hon (hnot e he hb)
      have h2 := wpOp_putIf hoj (hfree j oj hoj hji hjun hnot) (fun cs b => hsel i oi cs b hi) (fun cs b => hsel j oj cs b hoj) hQ hy h1
      have hfree' : ∀ k ok, ops[k]? = some ok → k ≠ i → (listed.setIfInBounds j true).getD k true = false →
          (∀ e ∈ ok.after, Region.binds md e = true → e.on ≠ i) → oi.apart ops ok = true := fun k ok hk hki hun hno => by
        refine hfree k ok hk hki ?_ hno
        by_cases hjk : j = k
        · subst hjk; exact hjun
        · rw [getD_set_ne true hjk] at hun; exact hun
      refine wpOp_mono (fun a' w' h3 => ⟨h3.2.1, ih (listed.setIfInBounds j true) a' w' hfree' (ready_mono hr (Ne.symm hji)) h3.1 (h3.2.1 hTj) ?_⟩) h2
      rw [Array.setIfInBounds_comm _ _ hji]
      exact h3.2.2
theorem takeG {i : Nat} {oi : Oper} {v : Value} {fuel : Nat} {listed : Array Bool} {a : Act} {w : World} (hi : ops[i]? = some oi)
    (hs : Region.noSelect ops = true) (hf : Region.free md ops listed i = true) (hr : (Region.ready md ops listed).contains i = true)
    (hQ : ∀ c a w, Q (.panic c) (a.put oi.dst v) w → Q (.panic c) a w) (hT : waitB md ops T i = true) (hTi : T i = false) (hy : YieldsIf P ops S oi v a) (hS : S w)
    (h : wpAnyG P md ops Q S T fuel (listed.setIfInBounds i true) (a.put oi.dst v) w) : wpAnyG P md ops Q S T (fuel + 1) listed a w :=
  firstG hi (Region.noSelect_spec hs) hQ hT hTi fuel listed a w (Region.free_spec hi hf) (by simpa using hr) hy hS h
def AllG (P : Program) (md : Region.Mode) (ops : Array Oper) (Q : Exit → Act → World → Prop) (S : World → Prop) (T : Nat → Bool) (fuel : Nat) (listed : Array Bool) (a : Act) (w : World) (rs : List Nat) : Prop :=
  ∀ i ∈ rs, wpOp P ops Q i (fun a' w' => (T i = false → S w') ∧ wpAnyG P md ops Q S T fuel (listed.setIfInBounds i true) a' w') a w
theorem AllG.nil {fuel : Nat} {listed : Array Bool} {a : Act} {w : World} : AllG P md ops Q S T fuel listed a w [] := fun _ h => by cases h
theorem AllG.cons {fuel : Nat} {listed : Array Bool} {a : Act} {w : World} {i : Nat} {o : Oper} {rs : List Nat} (ho : ops[i]? = some o)
    (h : ∀ K' : Act → World → Prop, Shut (∀ a w, (T i = false → S w) → wpAnyG P md ops Q S T fuel (listed.setIfInBounds i true) a w → K' a w) → if Region.wanted o (yielded ops a.tmps) = true then Oper.wp P o a w K' Q else K' (a.put o.dst undef) w)
    (hs : AllG P md ops Q S T fuel listed a w rs) : AllG P md ops Q S T fuel listed a w (i :: rs) := fun j hj => by
  rcases List.mem_cons.1 hj with rfl | hj
  · exact wpOp_step ho (fun K' hK => h K' (fun a w hS hW => hK a w ⟨hS, hW⟩))
  · exact hs j hj
theorem readyG {rs : List Nat} {fuel : Nat} {listed : Array Bool} {a : Act} {w : World} (hr : Region.ready md ops listed = rs) (hne : rs ≠ [])
    (h : AllG P md ops Q S T fuel listed a w rs) : wpAnyG P md ops Q S T (fuel + 1) listed a w :=
  ⟨fun h0 => absurd (hr ▸ h0) hne, hr ▸ h⟩
theorem doneG {listed : Array Bool} {a : Act} {w : World} (hr : Region.ready md ops listed = []) (h : Q .normal a w) :
    ∀ fuel, wpAnyG P md ops Q S T fuel listed a w
  | 0 => ⟨hr, h⟩
  | _ + 1 => ⟨fun _ => h, by rw [hr]; simp⟩
theorem regionG {id : Nat} {a : Act} {w : World} (S : World → Prop) (T : Nat → Bool) (hm : P.follows .mixedOrders = true)
    (h : wpAnyG P .any ops Q S T ops.size (Array.replicate ops.size false) a w.drew) : (Code.region id ops true).wp P Q a w :=
  wp_region_any hm (any_of_G _ _ _ _ h)
end
end Go.Proofs.YtjejmgdpjfdhjaaGreatDoor.heldG
namespace Go.Proofs.YtjejmgdpjfdhjaaGreatDoor.rshow6
open Go.RowKit Go.Proofs.YtjejmgdpjfdhjaaGreatDoor.kit Go.Proofs.YtjejmgdpjfdhjaaGreatDoor.nspec Go.Proofs.YtjejmgdpjfdhjaaGreatDoor.bits Go.Proofs.YtjejmgdpjfdhjaaGreatDoor.dshow Go.Proofs.YtjejmgdpjfdhjaaGreatDoor.rshowA Go.Proofs.YtjejmgdpjfdhjaaGreatDoor.rrows6 Go.Proofs.YtjejmgdpjfdhjaaGreatDoor.textsT Go.Proofs.YtjejmgdpjfdhjaaGreatDoor.ip6
set_option linter.unusedVariables false

theorem isSetTake {P : Program} {ops : Array Oper} {Q : Exit → Act → World → Prop} {md : Region.Mode} {S : World → Prop} {T : Nat → Bool} {i d : Nat} {oi : Oper} {v : Value} {fuel : Nat} {listed : Array Bool} {a : Act} {w : World} (hi : ops[i]? = some oi) (hd : oi.dst = some d)
    (hs : Region.noSelect ops = true) (hf : Region.free md ops listed i = true) (hr : (Region.ready md ops listed).contains i = true)
    (hQ : ∀ c a w, Q (.panic c) (a.put oi.dst v) w → Q (.panic c) a w) (hT : heldG.waitB md ops T i = true) (hTi : T i = false) (hy : YieldsIf P ops S oi v a) (hS : S w)
    (h : heldG.wpAnyG P md ops Q S T fuel (listed.setIfInBounds i true) (a.put (some d) v) w) : heldG.wpAnyG P md ops Q S T (fuel + 1) listed a w :=
  heldG.takeG hi hs hf hr hQ hT hTi hy hS (by rw [hd]; exact h)

def allB (d : Bs) (a : Nat) : Nat → Bool
  | 0 => true
  | c + 1 => allB d a c && (d.getD (a + c) 0 == 0)
theorem allZ_succ (z : List Bool) (k m : Nat) (h : k + m < z.length) : allZ z k (m + 1) = (allZ z k m && zAt z (k + m)) := by
  have hx : (z.drop k)[m]? = some (zAt z (k + m)) := by
    rw [List.getElem?_drop]
    unfold zAt
    rw [List.getD, List.getElem?_eq_getElem h]; rfl
  unfold allZ
  rw [List.take_add_one, hx]
  simp
theorem allB_pair (d : Bs) (k : Nat) : ∀ m, k + m ≤ 8 → allB d (2 * k) (2 * m) = allZ (zs6 d) k m
  | 0, _ => by simp [allB, allZ]
  | m + 1, h => by
    have ih := allB_pair d k m (by omega)
    have hl : (zs6 d).length = 8 := by simp [zs6]
    rw [allZ_succ _ _ _ (by omega), ← ih, zAt_eq d (k + m) (by omega)]
    rw [show 2 * (m + 1) = 2 * m + 1 + 1 by omega, allB, allB]
    unfold zeroG
    rw [show 2 * k + 2 * m = 2 * (k + m) by omega, show 2 * k + (2 * m + 1) = 2 * (k + m) + 1 by omega, Bool.and_assoc]
theorem try_go {z : List Bool} {k f m a n : Nat} {P : Nat × Nat} (h : tryM z k (f + 1) m (a, n) = P) (hk : k + m ≤ 8) : (allZ z k m = true ∧ n < m ∧ tryM z k f (m + 1) (k, m) = P) ∨ (¬ (allZ z k m = true ∧ n < m) ∧ tryM z k f (m + 1) (a, n) = P) := by
  rw [tryM, if_pos hk] at h
  by_cases hc : allZ z k m = true ∧ n < m
  · rw [if_pos hc] at h; exact .inl ⟨hc.1, hc.2, h⟩
  · rw [if_neg hc] at h; exact .inr ⟨hc, h⟩
theorem try_end {z : List Bool} {k f m a n : Nat} {P : Nat × Nat} (h : tryM z k f m (a, n) = P) (hk : ¬ k + m ≤ 8) : (a, n) = P := by
  cases f with
  | zero => exact h
  | succ f => rw [tryM, if_neg hk] at h; exact h
theorem pairs_take (d : Bs) (hd : d.length = 16) : ∀ a, a ≤ 8 → pairsG (d.take (2 * a)) = (hs6 d).take a ∧ pairsG (d.drop (2 * a)) = (hs6 d).drop a := by
  match d, hd with
  | [b0, b1, b2, b3, b4, b5, b6, b7, b8, b9, b10, b11, b12, b13, b14, b15], _ =>
    intro a ha
    have : a = 0 ∨ a = 1 ∨ a = 2 ∨ a = 3 ∨ a = 4 ∨ a = 5 ∨ a = 6 ∨ a = 7 ∨ a = 8 := by omega
    rcases this with rfl | rfl | rfl | rfl | rfl | rfl | rfl | rfl | rfl <;> exact ⟨rfl, rfl⟩
theorem zs6_eight (d : Bs) : ∃ a b c e f g h i : Bool, zs6 d = [a, b, c, e, f, g, h, i] := ⟨_, _, _, _, _, _, _, _, rfl⟩
theorem hs6_eight (d : Bs) : ∃ a b c e f g h i : Bs, hs6 d = [a, b, c, e, f, g, h, i] := ⟨_, _, _, _, _, _, _, _, rfl⟩
/-- the document's way gives the same -/
theorem ip6_ref (d : Bs) : ip6S d = refOut (hs6 d) (refZ (zs6 d)).1 (refZ (zs6 d)).2 := by
  obtain ⟨a, b, c, e, f, g, h, i, hz⟩ := zs6_eight d
  obtain ⟨h0, h1, h2, h3, h4, h5, h6, h7, hh⟩ := hs6_eight d
  have key := agree_all a b c e f g h i
  rw [← hz] at key
  unfold ip6S
  simp only [agree, Bool.or_eq_true, Bool.and_eq_true, decide_eq_true_eq] at key
  rcases key with ⟨⟨k1, k2⟩, k3⟩ | ⟨⟨⟨k1, k2⟩, k3⟩, k4⟩
  · rw [k1, k2, k3, hh, out_none]
    simp [refOut]
  · rw [k1, k2, hh]
    exact out_some h0 h1 h2 h3 h4 h5 h6 h7 _ _ k3 k4

set_option maxRecDepth 100000 in
set_option maxHeartbeats 4000000 in
theorem show6_any (s : ByteArray) (w : World) (hs : s.size = 16) :
    Calls Tryz.prog 44 #[.string s] w fun e w' => e = .returned (.string ⟨(ip6S s.data.toList).toArray⟩) ∧ Below w.heap.size w w' := by
  obtain ⟨z, hz⟩ : ∃ z, zs6 s.data.toList = z := ⟨_, rfl⟩
  obtain ⟨RA, RN, href⟩ : ∃ RA RN, refZ z = (RA, RN) := ⟨_, _, rfl⟩
  obtain ⟨R, hR⟩ : ∃ R, ip6S s.data.toList = R := ⟨_, rfl⟩
  have hR2 : refOut (hs6 s.data.toList) RA RN = R := by rw [← hR, ip6_ref, hz, href]
  have hR45 : R.length ≤ 45 := by rw [← hR]; exact ip6_len _
  rw [hR]
  have HZ := Lib.hid hz; have HREF : Hid (refF z 8 0 (0, 0) = (RA, RN)) := Lib.hid href
  have HR := Lib.hid hR2
  have HSZ := Lib.hid hs
  have h16 : (s.size : Int) = 16 := by omega
  have HPT := Lib.hid (pairs_take s.data.toList (by rw [size_len]; exact hs))
  clear hz href hR hR2
  go_enter Tryz.func44, Tryz.ntmps44
  go_wp2_with fail
  go_loopg [3, 4, 5, 6, 7, 8] 9 (fun gas av nv kv _ _ _ wr => ∃ (k a n : Nat), av = .int .i64 a ∧ nv = .int .i64 n ∧ kv = .int .i64 k ∧ k ≤ 8 ∧ k + gas = 9 ∧ a + n ≤ 8 ∧ Hid (refF z (8 - k) k (a, n) = (RA, RN)) ∧ w = wr)
  case atStart => exact ⟨0, 0, 0, rfl, rfl, rfl, by omega, by omega, by omega, HREF, rfl⟩
  case round =>
    obtain ⟨k, a, n, rfl, rfl, rfl, hk, hkg, han, HW, rfl⟩ := hrel
    obtain ⟨gk', hgk'⟩ : ∃ g, g = gk := ⟨_, rfl⟩
    rw [← hgk'] at hkg
    have HKG := Lib.hid hkg; clear hkg
    have HB := Lib.hid (Below.refl w.heap.size w)
    by_cases h8 : k < 8
    · obtain ⟨P, hP⟩ : ∃ P, tryM z k 8 2 (a, n) = P := ⟨_, rfl⟩
      have HNX : Hid (refF z (8 - (k + 1)) (k + 1) P = (RA, RN)) := Lib.hid (by
        have h := HW.out
        rw [show 8 - k = (8 - (k + 1)) + 1 by omega, refF, hP] at h; exact h)
      have HP : Hid (tryM z k (10 - 2) 2 (a, n) = P) := Lib.hid hP
      have h8d : decide ((k : Int) < 8) = true := by simp; omega
      clear hP
      go_wp2_with fail
      go_loopg [3, 4, 6, 7, 8] 8 (fun gas av nv mv _ _ wr => ∃ (m a n : Nat), av = .int .i64 a ∧ nv = .int .i64 n ∧ mv = .int .i64 m ∧ 2 ≤ m ∧ (m ≤ 9 - k ∨ m = 2) ∧ m + gas = 10 ∧ a + n ≤ 8 ∧ Hid (tryM z k (10 - m) m (a, n) = P) ∧ w = wr)
      case atStart => exact ⟨2, a, n, rfl, rfl, rfl, by omega, by omega, by omega, by omega, HP, rfl⟩
      case round =>
        clear HP HW
        obtain ⟨m, a, n, rfl, rfl, rfl, hm2, hm9, hmg, han, HV, rfl⟩ := hrel
        obtain ⟨gm, hgm⟩ : ∃ g, g = gk := ⟨_, rfl⟩
        rw [← hgm] at hmg
        have HMG := Lib.hid hmg; clear hmg
        by_cases hkm : k + m ≤ 8
        · have hV := HV.out
          rw [show 10 - m = (10 - (m + 1)) + 1 by omega] at hV
          have HTR := Lib.hid (try_go hV hkm)
          clear hV
          have hkmi : (k : Int) + (m : Int) ≤ 8 := by omega
          have hkmd : decide ((k : Int) + (m : Int) ≤ 8) = true := by simp; omega
          obtain ⟨e, HE⟩ : ∃ e, Hid (2 * m = e) := ⟨_, Lib.hid rfl⟩
          obtain ⟨b, HBB⟩ : ∃ b, Hid (2 * k = b) := ⟨_, Lib.hid rfl⟩
          have hbv := congrArg (Value.int .i64) (show 2 * (k : Int) = (b : Int) by have := HBB.out; omega)
          have hb16 : b + e ≤ 16 := by have := HE.out; have := HBB.out; omega
          have hbe : 2 * ((k : Int) + (m : Int)) = (b : Int) + (e : Int) := by have := HE.out; have := HBB.out; omega
          have HBE := Lib.hid hbe; clear hbe
          clear hbv
          go_wp2_with fail
          go_loopg [7, 8] (e + 1) (fun gas zv jv wr => ∃ (c : Nat), zv = .bool (allB s.data.toList b c) ∧ jv = .int .i64 ((b : Int) + (c : Int)) ∧ c ≤ e ∧ c + gas = e + 1 ∧ w = wr)
          case atStart => exact ⟨0, rfl, by have := HBB.out; congr 1; omega, by omega, by omega, rfl⟩
          case round =>
            obtain ⟨c, rfl, rfl, hc, hcg, rfl⟩ := hrel
            have HCG := Lib.hid hcg; clear hcg
            by_cases hce : c < e
            · obtain ⟨t, HT⟩ : ∃ t, Hid (b + c = t) := ⟨_, Lib.hid rfl⟩
              have htv := congrArg (Value.int .i64) (show (b : Int) + (c : Int) = (t : Int) by have := HT.out; omega)
              have ht16 : t < s.size := by have := HT.out; have := HSZ.out; omega
              have hlt : (b : Int) + (c : Int) < 2 * ((k : Int) + (m : Int)) := by have := HBE.out; omega
              obtain ⟨zz, hzz⟩ : ∃ zz, allB s.data.toList b c = zz := ⟨_, rfl⟩
              obtain ⟨y, hy⟩ : ∃ y : Bool, ((s[t].toNat : Int) == 0) = y := ⟨_, rfl⟩
              have HNEW : Hid (allB s.data.toList b (c + 1) = (zz && y)) := Lib.hid (by
                rw [allB, hzz, HT.out, getD_at s t ht16, ← hy]
                congr 1
                by_cases h0 : s[t] = 0
                · rw [h0]; rfl
                · have h1 : (s[t] == 0) = false := by rw [beq_eq_false_iff_ne]; exact h0
                  have h2 : ((s[t].toNat : Int) == 0) = false := by
                    rw [beq_eq_false_iff_ne]; intro h; exact h0 (UInt8.toNat.inj (by show s[t].toNat = 0; omega))
                  rw [h1, h2])
              rw [hzz]
              clear hzz
              trace "J"
              cases zz with
              | false =>
                go_wp2_with fail
                have hcg := HCG.out
                go_roundg (gk - 1)
                case rel => exact ⟨c + 1, by rw [HNEW.out]; rfl, by go_num, by omega, by omega, rfl⟩
                case measure => omega
              | true =>
                go_wp2_with fail
                have hcg := HCG.out
                go_roundg (gk - 1)
                case rel => exact ⟨c + 1, by rw [HNEW.out]; rfl, by go_num, by omega, by omega, rfl⟩
                case measure => omega
            · have hce2 : c = e := by omega
              subst hce2
              have HALL : Hid (allB s.data.toList b c = allZ z k m) := Lib.hid (by rw [← HBB.out, ← HE.out, allB_pair _ _ _ hkm, HZ.out])
              have hnlt : ¬ (b : Int) + (c : Int) < 2 * ((k : Int) + (m : Int)) := by have := HBE.out; omega
              obtain ⟨zz, hzz⟩ : ∃ zz, allB s.data.toList b c = zz := ⟨_, rfl⟩
              have HTZ : Hid ((zz = true ∧ n < m ∧ tryM z k (10 - (m + 1)) (m + 1) (k, m) = P) ∨ (¬ (zz = true ∧ n < m) ∧ tryM z k (10 - (m + 1)) (m + 1) (a, n) = P)) := Lib.hid (by
                have h := HTR.out; rw [← HALL.out, hzz] at h; exact h)
              rw [hzz]
              clear hzz HALL HTR
              cases zz with
              | false =>
                have HVN : Hid (tryM z k (10 - (m + 1)) (m + 1) (a, n) = P) := Lib.hid (by
                  rcases HTZ.out with ⟨h, _⟩ | ⟨_, h⟩
                  · cases h
                  · exact h)
                clear HTZ
                go_wp2_with fail
                have hmg := HMG.out
                go_roundg (gm - 1)
                case rel => exact ⟨m + 1, a, n, rfl, rfl, by go_num, by omega, by omega, by omega, by omega, HVN, rfl⟩
                case measure => omega
              | true =>
                by_cases hnm : n < m
                · have HVN : Hid (tryM z k (10 - (m + 1)) (m + 1) (k, m) = P) := Lib.hid (by
                    rcases HTZ.out with ⟨_, _, h⟩ | ⟨h, _⟩
                    · exact h
                    · exact absurd ⟨rfl, hnm⟩ h)
                  clear HTZ
                  go_wp2_with fail
                  have hmg := HMG.out
                  go_roundg (gm - 1)
                  case rel => exact ⟨m + 1, k, m, rfl, rfl, by go_num, by omega, by omega, by omega, by omega, HVN, rfl⟩
                  case measure => omega
                · have HVN : Hid (tryM z k (10 - (m + 1)) (m + 1) (a, n) = P) := Lib.hid (by
                    rcases HTZ.out with ⟨_, h, _⟩ | ⟨_, h⟩
                    · exact absurd h hnm
                    · exact h)
                  clear HTZ
                  go_wp2_with fail
                  have hmg := HMG.out
                  go_roundg (gm - 1)
                  case rel => exact ⟨m + 1, a, n, rfl, rfl, by go_num, by omega, by omega, by omega, by omega, HVN, rfl⟩
                  case measure => omega
        · have HPE := Lib.hid (try_end HV.out hkm)
          have hgt : ¬ (k : Int) + (m : Int) ≤ 8 := by omega
          have HN2 : Hid (refF z (8 - (k + 1)) (k + 1) (a, n) = (RA, RN)) := Lib.hid (by rw [HPE.out]; exact HNX.out)
          go_wp2_with fail
          have hkg := HKG.out
          go_roundg (gk' - 1)
          case rel => exact ⟨k + 1, a, n, rfl, rfl, by go_num, by omega, by omega, by omega, HN2, rfl⟩
          case measure => omega
    · have hke : k = 8 := by omega
      have HEQ : Hid (a = RA ∧ n = RN) := Lib.hid (by
        have h := HW.out
        rw [hke] at h
        simpa [refF] using h)
      subst hke
      obtain ⟨rfl, rfl⟩ := HEQ.out
      clear HW HEQ HREF
      by_cases hn0 : n = 0
      · have HRR : Hid (rowsS s.data.toList = R) := Lib.hid (by
          rw [← HR.out]; unfold refOut rowsS; rw [if_pos hn0]
          have h := (HPT.out 0 (by omega)).2
          simp only [Nat.mul_zero, List.drop_zero] at h
          rw [h])
        have hb : ((n : Int) == 0) = true := by rw [beq_iff_eq]; omega
        have C := Lib.hid (fun w => rrows6_any s 8 w (by have := HSZ.out; omega) (Nat.le_refl 8))
        rw [HRR.out] at C
        clear hn0
        go_wp2_with fail
        refine (C.out _).mono ?_
        rintro e w1 ⟨rfl, hB1⟩
        go_wp2_with fail
        go_ret
        exact ⟨rfl, hB1⟩
      · have hb : ((n : Int) == 0) = false := by rw [beq_eq_false_iff_ne]; omega
        obtain ⟨p, HP2⟩ : ∃ p, Hid (2 * a = p) := ⟨_, Lib.hid rfl⟩
        obtain ⟨q, HQ⟩ : ∃ q, Hid (a + n = q) := ⟨_, Lib.hid rfl⟩
        obtain ⟨r, HRQ⟩ : ∃ r, Hid (2 * q = r) := ⟨_, Lib.hid rfl⟩
        have hp := HP2.out; have hq := HQ.out; have hr := HRQ.out
        have hss := HSZ.out
        obtain ⟨x, hx0⟩ : ∃ x, s.extract 0 p = x := ⟨_, rfl⟩
        obtain ⟨y, hy0⟩ : ∃ y, s.extract r s.size = y := ⟨_, rfl⟩
        have hxd : x.data.toList = s.data.toList.take (2 * a) := by rw [← hx0, Lib.extract_data, hp]; simp
        have hyd : y.data.toList = s.data.toList.drop (2 * (a + n)) := by rw [← hy0, ext_end, hq, hr]
        have hxs : x.size = 2 * a := by rw [← hx0, ByteArray.size_extract]; omega
        have hys : y.size = 2 * (8 - (a + n)) := by rw [← hy0, ByteArray.size_extract]; omega
        have CX := Lib.hid (fun w => rrows6_any x a w hxs (by omega))
        have CY := Lib.hid (fun w => rrows6_any y (8 - (a + n)) w hys (by omega))
        obtain ⟨X, hX⟩ : ∃ X : ByteArray, (⟨(rowsS x.data.toList).toArray⟩ : ByteArray) = X := ⟨_, rfl⟩
        obtain ⟨Y, hY⟩ : ∃ Y : ByteArray, (⟨(rowsS y.data.toList).toArray⟩ : ByteArray) = Y := ⟨_, rfl⟩
        have HRR : Hid ((X ++ ⟨#[58, 58]⟩ ++ Y : ByteArray).data.toList = R) := Lib.hid (by
          rw [← HR.out]; unfold refOut; rw [if_neg hn0, ← (HPT.out a (by omega)).1, ← (HPT.out (a + n) (by omega)).2, ← hX, ← hY, hxd, hyd]
          unfold rowsS; simp)
        have hRl : X.size + 2 + Y.size ≤ 45 := by
          have h := hR45
          rw [← HRR.out, size_len, ByteArray.size_append, ByteArray.size_append] at h
          exact h
        have hXs : X.size ≤ 100 := by omega
        have hYs : Y.size ≤ 100 := by omega
        rw [hX] at CX
        rw [hY] at CY
        clear hX hY hxd hyd hRl hR45
        have hpi : (p : Int) = 2 * (a : Int) := by omega
        have hqi : (q : Int) = (a : Int) + (n : Int) := by omega
        have hri : (r : Int) = 2 * (q : Int) := by omega
        have hp16 : (p : Int) ≤ 16 := by omega
        have hq8 : (q : Int) ≤ 8 := by omega
        have han8 : (a : Int) + (n : Int) ≤ 8 := by omega
        have hr16 : (r : Int) ≤ 16 := by omega
        have hy1 : s.extract r 16 = y := by rw [← hy0, hss]
        have HPI := Lib.hid hpi; have HQI := Lib.hid hqi; have HRI := Lib.hid hri
        have HSS := Lib.hid hss
        clear hpi hqi hri
        clear hp hq hr
        go_upto_region 17 with fail
        refine heldG.regionG (fun w' => Below w.heap.size w w') (fun _ => false) (by kernel_rfl) ?_
        have hS0 := HB.out.drew
        refine isSetTake (i := 0) (d := 48) (v := .string s) rfl rfl (by kernel_rfl) (by kernel_rfl) (by kernel_rfl) (fun _ _ _ h => h) (by kernel_rfl) rfl (Or.inl ⟨by kernel_rfl, ?_⟩) hS0 ?_
        · intro wz hSw
          go_simp
        try simp only [Act.put, List.setIfInBounds_toArray, List.set_cons_zero, List.set_cons_succ]
        refine isSetTake (i := 1) (d := 49) (v := .int .i64 (a : Int)) rfl rfl (by kernel_rfl) (by kernel_rfl) (by kernel_rfl) (fun _ _ _ h => h) (by kernel_rfl) rfl (Or.inl ⟨by kernel_rfl, ?_⟩) hS0 ?_
        · intro wz hSw
          go_simp
        try simp only [Act.put, List.setIfInBounds_toArray, List.set_cons_zero, List.set_cons_succ]
        refine isSetTake (i := 2) (d := 50) (v := .int .i64 (p : Int)) rfl rfl (by kernel_rfl) (by kernel_rfl) (by kernel_rfl) (fun _ _ _ h => h) (by kernel_rfl) rfl (Or.inl ⟨by kernel_rfl, ?_⟩) hS0 ?_
        · intro wz hSw
          go_simp; (rw [HPI.out]; exact IntWalk.i64_in _ (by omega))
        try simp only [Act.put, List.setIfInBounds_toArray, List.set_cons_zero, List.set_cons_succ]
        refine isSetTake (i := 3) (d := 51) (v := .string x) rfl rfl (by kernel_rfl) (by kernel_rfl) (by kernel_rfl) (fun _ _ _ h => h) (by kernel_rfl) rfl (Or.inl ⟨by kernel_rfl, ?_⟩) hS0 ?_
        · intro wz hSw
          go_simp; first | done | exact hx0
        try simp only [Act.put, List.setIfInBounds_toArray, List.set_cons_zero, List.set_cons_succ]
        refine isSetTake (i := 6) (d := 54) (v := .string s) rfl rfl (by kernel_rfl) (by kernel_rfl) (by kernel_rfl) (fun _ _ _ h => h) (by kernel_rfl) rfl (Or.inl ⟨by kernel_rfl, ?_⟩) hS0 ?_
        · intro wz hSw
          go_simp
        try simp only [Act.put, List.setIfInBounds_toArray, List.set_cons_zero, List.set_cons_succ]
        refine isSetTake (i := 7) (d := 55) (v := .int .i64 (a : Int)) rfl rfl (by kernel_rfl) (by kernel_rfl) (by kernel_rfl) (fun _ _ _ h => h) (by kernel_rfl) rfl (Or.inl ⟨by kernel_rfl, ?_⟩) hS0 ?_
        · intro wz hSw
          go_simp
        try simp only [Act.put, List.setIfInBounds_toArray, List.set_cons_zero, List.set_cons_succ]
        refine isSetTake (i := 8) (d := 56) (v := .int .i64 (n : Int)) rfl rfl (by kernel_rfl) (by kernel_rfl) (by kernel_rfl) (fun _ _ _ h => h) (by kernel_rfl) rfl (Or.inl ⟨by kernel_rfl, ?_⟩) hS0 ?_
        · intro wz hSw
          go_simp
        try simp only [Act.put, List.setIfInBounds_toArray, List.set_cons_zero, List.set_cons_succ]
        refine isSetTake (i := 9) (d := 57) (v := .int .i64 (q : Int)) rfl rfl (by kernel_rfl) (by kernel_rfl) (by kernel_rfl) (fun _ _ _ h => h) (by kernel_rfl) rfl (Or.inl ⟨by kernel_rfl, ?_⟩) hS0 ?_
        · intro wz hSw
          go_simp; (rw [HQI.out]; exact IntWalk.i64_in _ (by omega))
        try simp only [Act.put, List.setIfInBounds_toArray, List.set_cons_zero, List.set_cons_succ]
        refine isSetTake (i := 10) (d := 58) (v := .int .i64 (r : Int)) rfl rfl (by kernel_rfl) (by kernel_rfl) (by kernel_rfl) (fun _ _ _ h => h) (by kernel_rfl) rfl (Or.inl ⟨by kernel_rfl, ?_⟩) hS0 ?_
        · intro wz hSw
          go_simp; (rw [HRI.out]; exact IntWalk.i64_in _ (by omega))
        try simp only [Act.put, List.setIfInBounds_toArray, List.set_cons_zero, List.set_cons_succ]
        refine isSetTake (i := 11) (d := 59) (v := .string y) rfl rfl (by kernel_rfl) (by kernel_rfl) (by kernel_rfl) (fun _ _ _ h => h) (by kernel_rfl) rfl (Or.inl ⟨by kernel_rfl, ?_⟩) hS0 ?_
        · intro wz hSw
          go_simp; first | done | exact hy1 | exact hy0
        try simp only [Act.put, List.setIfInBounds_toArray, List.set_cons_zero, List.set_cons_succ]
        refine heldG.readyG (rs := [4]) (by kernel_rfl) (by simp) ?_
        refine heldG.AllG.cons rfl (fun KK hKK => ?_) heldG.AllG.nil
        go_simp
        refine (CX.out _).mono ?_
        rintro en w1 ⟨rfl, hBz⟩
        have hS1 := hS0.trans (hBz.mono hS0.size)
        clear hBz
        dsimp only
        refine hKK.out _ _ (fun _ => hS1) ?_; clear hKK KK
        try simp only [Act.put, List.setIfInBounds_toArray, List.set_cons_zero, List.set_cons_succ]
        refine isSetTake (i := 5) (d := 53) (v := .string (X ++ ⟨#[58, 58]⟩)) rfl rfl (by kernel_rfl) (by kernel_rfl) (by kernel_rfl) (fun _ _ _ h => h) (by kernel_rfl) rfl (Or.inl ⟨by kernel_rfl, ?_⟩) hS1 ?_
        · intro wz hSw
          go_simp; try omega
        try simp only [Act.put, List.setIfInBounds_toArray, List.set_cons_zero, List.set_cons_succ]
        refine heldG.readyG (rs := [12]) (by kernel_rfl) (by simp) ?_
        refine heldG.AllG.cons rfl (fun KK hKK => ?_) heldG.AllG.nil
        go_simp
        refine (CY.out _).mono ?_
        rintro en w2 ⟨rfl, hBz⟩
        have hS2 := hS1.trans (hBz.mono hS1.size)
        clear hBz
        dsimp only
        refine hKK.out _ _ (fun _ => hS2) ?_; clear hKK KK
        try simp only [Act.put, List.setIfInBounds_toArray, List.set_cons_zero, List.set_cons_succ]
        refine isSetTake (i := 13) (d := 61) (v := .string (X ++ ⟨#[58, 58]⟩ ++ Y)) rfl rfl (by kernel_rfl) (by kernel_rfl) (by kernel_rfl) (fun _ _ _ h => h) (by kernel_rfl) rfl (Or.inl ⟨by kernel_rfl, ?_⟩) hS2 ?_
        · intro wz hSw
          go_simp; try omega
        try simp only [Act.put, List.setIfInBounds_toArray, List.set_cons_zero, List.set_cons_succ]
        refine isSetTake (i := 14) (d := 2) (v := .string (X ++ ⟨#[58, 58]⟩ ++ Y)) rfl rfl (by kernel_rfl) (by kernel_rfl) (by kernel_rfl) (fun _ _ _ h => h) (by kernel_rfl) rfl (Or.inl ⟨by kernel_rfl, ?_⟩) hS2 ?_
        · intro wz hSw
          go_simp
        try simp only [Act.put, List.setIfInBounds_toArray, List.set_cons_zero, List.set_cons_succ]
        refine heldG.doneG (by kernel_rfl) ?_ _
        go_wp2_with fail
        go_ret
        exact ⟨ret_str (ba_ext HRR.out), hS2⟩
end Go.Proofs.YtjejmgdpjfdhjaaGreatDoor.rshow6
namespace Go.Proofs.YtjejmgdpjfdhjaaGreatDoor.dshowC
open Go.RowKit Go.Proofs.YtjejmgdpjfdhjaaGreatDoor.kit Go.Proofs.YtjejmgdpjfdhjaaGreatDoor.nspec Go.Proofs.YtjejmgdpjfdhjaaGreatDoor.bits Go.Proofs.YtjejmgdpjfdhjaaGreatDoor.bld Go.Proofs.YtjejmgdpjfdhjaaGreatDoor.dshow Go.Proofs.YtjejmgdpjfdhjaaGreatDoor.rsplit Go.Proofs.YtjejmgdpjfdhjaaGreatDoor.dshowA Go.Proofs.YtjejmgdpjfdhjaaGreatDoor.tname Go.Proofs.YtjejmgdpjfdhjaaGreatDoor.fld Go.Proofs.YtjejmgdpjfdhjaaGreatDoor.dshowB
set_option linter.unusedVariables false

theorem isSetTake {P : Program} {ops : Array Oper} {Q : Exit → Act → World → Prop} {md : Region.Mode} {S : World → Prop} {T : Nat → Bool} {i d : Nat} {oi : Oper} {v : Value} {fuel : Nat} {listed : Array Bool} {a : Act} {w : World} (hi : ops[i]? = some oi) (hd : oi.dst = some d)
    (hs : Region.noSelect ops = true) (hf : Region.free md ops listed i = true) (hr : (Region.ready md ops listed).contains i = true)
    (hQ : ∀ c a w, Q (.panic c) (a.put oi.dst v) w → Q (.panic c) a w) (hT : heldG.waitB md ops T i = true) (hTi : T i = false) (hy : YieldsIf P ops S oi v a) (hS : S w)
    (h : heldG.wpAnyG P md ops Q S T fuel (listed.setIfInBounds i true) (a.put (some d) v) w) : heldG.wpAnyG P md ops Q S T (fuel + 1) listed a w :=
  heldG.takeG hi hs hf hr hQ hT hTi hy hS (by rw [hd]; exact h)
theorem at_byte (s : ByteArray) (k : Nat) (h : k < s.size) {c : UInt8} (hc : s.data.toList.getD k 0 = c) : s[k] = c := by rw [← hc, getD_at s k h]
theorem dec_size (c : UInt8) {T : ByteArray} (h : (⟨(Lib.decDigits c.toNat).toArray⟩ : ByteArray) = T) : T.size ≤ 3 := by rw [← h, mk_size]; exact dec_byte c
theorem ip4_put (s : ByteArray) {a b c d : UInt8} {A B C D : ByteArray} (ha : s.data.toList.getD 0 0 = a) (hb : s.data.toList.getD 1 0 = b) (hc : s.data.toList.getD 2 0 = c) (hd : s.data.toList.getD 3 0 = d)
    (hA : (⟨(Lib.decDigits a.toNat).toArray⟩ : ByteArray) = A) (hB : (⟨(Lib.decDigits b.toNat).toArray⟩ : ByteArray) = B) (hC : (⟨(Lib.decDigits c.toNat).toArray⟩ : ByteArray) = C) (hD : (⟨(Lib.decDigits d.toNat).toArray⟩ : ByteArray) = D) :
    ip4S s.data.toList = (A ++ ⟨#[46]⟩ ++ B ++ ⟨#[46]⟩ ++ C ++ ⟨#[46]⟩ ++ D).data.toList := by
  unfold ip4S
  rw [ha, hb, hc, hd, ← hA, ← hB, ← hC, ← hD]
  simp
set_option maxRecDepth 100000 in
set_option maxHeartbeats 4000000 in
theorem ip4_show (s : ByteArray) (w : World) (hs : s.size = 4) (hP : PowT w) :
    Calls Tryz.prog 103 #[.agg #[], .string s] w (ShowPost w (showF .ip4 s.data.toList)) := by
  have hB0 : Below w.heap.size w (w.alloc (.cells #[] 66)) := (Below.refl w.heap.size w).alloc (Nat.le_refl _) (.cells #[] 66)
  have hB00 := hB0.drew
  obtain ⟨c0, h0⟩ : ∃ c, s.data.toList.getD 0 0 = c := ⟨_, rfl⟩
  obtain ⟨c1, h1⟩ : ∃ c, s.data.toList.getD 1 0 = c := ⟨_, rfl⟩
  obtain ⟨c2, h2⟩ : ∃ c, s.data.toList.getD 2 0 = c := ⟨_, rfl⟩
  obtain ⟨c3, h3⟩ : ∃ c, s.data.toList.getD 3 0 = c := ⟨_, rfl⟩
  obtain ⟨T0, t0⟩ : ∃ T : ByteArray, (⟨(Lib.decDigits c0.toNat).toArray⟩ : ByteArray) = T := ⟨_, rfl⟩
  obtain ⟨T1, t1⟩ : ∃ T : ByteArray, (⟨(Lib.decDigits c1.toNat).toArray⟩ : ByteArray) = T := ⟨_, rfl⟩
  obtain ⟨T2, t2⟩ : ∃ T : ByteArray, (⟨(Lib.decDigits c2.toNat).toArray⟩ : ByteArray) = T := ⟨_, rfl⟩
  obtain ⟨T3, t3⟩ : ∃ T : ByteArray, (⟨(Lib.decDigits c3.toNat).toArray⟩ : ByteArray) = T := ⟨_, rfl⟩
  have hput := Lib.hid (ip4_put s h0 h1 h2 h3 t0 t1 t2 t3)
  have z0 := dec_size c0 t0; have z1 := dec_size c1 t1; have z2 := dec_size c2 t2; have z3 := dec_size c3 t3
  have CD : ∀ (c : UInt8) (T : ByteArray), (⟨(Lib.decDigits c.toNat).toArray⟩ : ByteArray) = T → ∀ z : Int, z = (c.toNat : Int) → Hid (∀ wx, Below w.heap.size w wx → Calls Tryz.prog 13 #[.int .i64 z] wx fun e w' => e = .returned (.string T) ∧ Below w.heap.size w w') := by
    intro c T hT z hz
    refine Lib.hid (fun wx hx => ?_)
    rw [hz]
    refine (digits_nat c.toNat (by have := c.toNat_lt; omega) wx ?_).mono ?_
    · unfold PowT Lib.TabIs World.var? at hP ⊢
      cases hg : Tryz.prog.globalNamed "internal/strconv.uint64pow10" with
      | none => rw [hg] at hP; cases hP
      | some g =>
        rw [hg] at hP
        simp only [Option.bind_some] at hP ⊢
        have hlt : g < w.heap.size := by
          rcases Nat.lt_or_ge g w.heap.size with h' | h'
          · exact h'
          · rw [Array.getElem?_eq_none h'] at hP; cases hP
        rw [hx.block g hlt]; exact hP
    · rintro e w' ⟨rfl, hb⟩
      exact ⟨by rw [hT], hx.trans (hb.mono hx.size)⟩
  have C0 := CD c0 T0 t0 (IntKind.i64.wrap (c0.toNat : Int)) (IntWalk.i64_in _ (by have := c0.toNat_lt; omega))
  have K0 := CD c0 T0 t0 (c0.toNat : Int) rfl
  have C1 := CD c1 T1 t1 (IntKind.i64.wrap (c1.toNat : Int)) (IntWalk.i64_in _ (by have := c1.toNat_lt; omega))
  have K1 := CD c1 T1 t1 (c1.toNat : Int) rfl
  have C2 := CD c2 T2 t2 (IntKind.i64.wrap (c2.toNat : Int)) (IntWalk.i64_in _ (by have := c2.toNat_lt; omega))
  have K2 := CD c2 T2 t2 (c2.toNat : Int) rfl
  have C3 := CD c3 T3 t3 (IntKind.i64.wrap (c3.toNat : Int)) (IntWalk.i64_in _ (by have := c3.toNat_lt; omega))
  have K3 := CD c3 T3 t3 (c3.toNat : Int) rfl
  have i0 := congrArg (fun c : UInt8 => Value.int .u8 (c.toNat : Int)) (at_byte s 0 (by omega) h0)
  have i1 := congrArg (fun c : UInt8 => Value.int .u8 (c.toNat : Int)) (at_byte s 1 (by omega) h1)
  have i2 := congrArg (fun c : UInt8 => Value.int .u8 (c.toNat : Int)) (at_byte s 2 (by omega) h2)
  have i3 := congrArg (fun c : UInt8 => Value.int .u8 (c.toNat : Int)) (at_byte s 3 (by omega) h3)
  have b0 := byte_lt c0; have b1 := byte_lt c1; have b2 := byte_lt c2; have b3 := byte_lt c3
  rw [showF]
  obtain ⟨R, hR⟩ : ∃ R, ip4S s.data.toList = R := ⟨_, rfl⟩
  have HR := Lib.hid (hput.out.symm.trans hR)
  rw [hR]
  clear hput hR t0 t1 t2 t3 h0 h1 h2 h3 CD hP
  go_enter Tryz.func103, Tryz.ntmps103
  go_upto_region 1 with (fail)
  have hS0 := hB00
  clear hB0 hB00
  refine heldG.regionG (fun w' => Below w.heap.size w w') (fun _ => false) (by kernel_rfl) ?_
  refine isSetTake (i := 0) (d := 5) (v := .string s) rfl rfl (by kernel_rfl) (by kernel_rfl) (by kernel_rfl) (fun _ _ _ h => h) (by kernel_rfl) rfl (Or.inl ⟨by kernel_rfl, ?_⟩) hS0 ?_
  · intro wz hSw
    go_simp
  try simp only [Act.put, List.setIfInBounds_toArray, List.set_cons_zero, List.set_cons_succ]
  refine isSetTake (i := 1) (d := 6) (v := .int .u8 (c0.toNat : Int)) rfl rfl (by kernel_rfl) (by kernel_rfl) (by kernel_rfl) (fun _ _ _ h => h) (by kernel_rfl) rfl (Or.inl ⟨by kernel_rfl, ?_⟩) hS0 ?_
  · intro wz hSw
    go_simp
  try simp only [Act.put, List.setIfInBounds_toArray, List.set_cons_zero, List.set_cons_succ]
  refine isSetTake (i := 2) (d := 7) (v := .int .i64 (c0.toNat : Int)) rfl rfl (by kernel_rfl) (by kernel_rfl) (by kernel_rfl) (fun _ _ _ h => h) (by kernel_rfl) rfl (Or.inl ⟨by kernel_rfl, ?_⟩) hS0 ?_
  · intro wz hSw
    go_simp; try (exact IntWalk.i64_in _ (by omega))
  try simp only [Act.put, List.setIfInBounds_toArray, List.set_cons_zero, List.set_cons_succ]
  refine isSetTake (i := 5) (d := 10) (v := .string s) rfl rfl (by kernel_rfl) (by kernel_rfl) (by kernel_rfl) (fun _ _ _ h => h) (by kernel_rfl) rfl (Or.inl ⟨by kernel_rfl, ?_⟩) hS0 ?_
  · intro wz hSw
    go_simp
  try simp only [Act.put, List.setIfInBounds_toArray, List.set_cons_zero, List.set_cons_succ]
  refine isSetTake (i := 6) (d := 11) (v := .int .u8 (c1.toNat : Int)) rfl rfl (by kernel_rfl) (by kernel_rfl) (by kernel_rfl) (fun _ _ _ h => h) (by kernel_rfl) rfl (Or.inl ⟨by kernel_rfl, ?_⟩) hS0 ?_
  · intro wz hSw
    go_simp
  try simp only [Act.put, List.setIfInBounds_toArray, List.set_cons_zero, List.set_cons_succ]
  refine isSetTake (i := 7) (d := 12) (v := .int .i64 (c1.toNat : Int)) rfl rfl (by kernel_rfl) (by kernel_rfl) (by kernel_rfl) (fun _ _ _ h => h) (by kernel_rfl) rfl (Or.inl ⟨by kernel_rfl, ?_⟩) hS0 ?_
  · intro wz hSw
    go_simp; try (exact IntWalk.i64_in _ (by omega))
  try simp only [Act.put, List.setIfInBounds_toArray, List.set_cons_zero, List.set_cons_succ]
  refine isSetTake (i := 11) (d := 16) (v := .string s) rfl rfl (by kernel_rfl) (by kernel_rfl) (by kernel_rfl) (fun _ _ _ h => h) (by kernel_rfl) rfl (Or.inl ⟨by kernel_rfl, ?_⟩) hS0 ?_
  · intro wz hSw
    go_simp
  try simp only [Act.put, List.setIfInBounds_toArray, List.set_cons_zero, List.set_cons_succ]
  refine isSetTake (i := 12) (d := 17) (v := .int .u8 (c2.toNat : Int)) rfl rfl (by kernel_rfl) (by kernel_rfl) (by kernel_rfl) (fun _ _ _ h => h) (by kernel_rfl) rfl (Or.inl ⟨by kernel_rfl, ?_⟩) hS0 ?_
  · intro wz hSw
    go_simp
  try simp only [Act.put, List.setIfInBounds_toArray, List.set_cons_zero, List.set_cons_succ]
  refine isSetTake (i := 13) (d := 18) (v := .int .i64 (c2.toNat : Int)) rfl rfl (by kernel_rfl) (by kernel_rfl) (by kernel_rfl) (fun _ _ _ h => h) (by kernel_rfl) rfl (Or.inl ⟨by kernel_rfl, ?_⟩) hS0 ?_
  · intro wz hSw
    go_simp; try (exact IntWalk.i64_in _ (by omega))
  try simp only [Act.put, List.setIfInBounds_toArray, List.set_cons_zero, List.set_cons_succ]
  refine isSetTake (i := 17) (d := 22) (v := .string s) rfl rfl (by kernel_rfl) (by kernel_rfl) (by kernel_rfl) (fun _ _ _ h => h) (by kernel_rfl) rfl (Or.inl ⟨by kernel_rfl, ?_⟩) hS0 ?_
  · intro wz hSw
    go_simp
  try simp only [Act.put, List.setIfInBounds_toArray, List.set_cons_zero, List.set_cons_succ]
  refine isSetTake (i := 18) (d := 23) (v := .int .u8 (c3.toNat : Int)) rfl rfl (by kernel_rfl) (by kernel_rfl) (by kernel_rfl) (fun _ _ _ h => h) (by kernel_rfl) rfl (Or.inl ⟨by kernel_rfl, ?_⟩) hS0 ?_
  · intro wz hSw
    go_simp
  try simp only [Act.put, List.setIfInBounds_toArray, List.set_cons_zero, List.set_cons_succ]
  refine isSetTake (i := 19) (d := 24) (v := .int .i64 (c3.toNat : Int)) rfl rfl (by kernel_rfl) (by kernel_rfl) (by kernel_rfl) (fun _ _ _ h => h) (by kernel_rfl) rfl (Or.inl ⟨by kernel_rfl, ?_⟩) hS0 ?_
  · intro wz hSw
    go_simp; try (exact IntWalk.i64_in _ (by omega))
  try simp only [Act.put, List.setIfInBounds_toArray, List.set_cons_zero, List.set_cons_succ]
  refine heldG.readyG (rs := [3]) (by kernel_rfl) (by simp) ?_
  refine heldG.AllG.cons rfl (fun KK hKK => ?_) heldG.AllG.nil
  go_simp
  refine (K0.out _ hS0).mono ?_
  rintro en w1 ⟨rfl, hS1⟩
  dsimp only
  refine hKK.out _ _ (fun _ => hS1) ?_; clear hKK KK
  try simp only [Act.put, List.setIfInBounds_toArray, List.set_cons_zero, List.set_cons_succ]
  refine isSetTake (i := 4) (d := 9) (v := .string (T0 ++ ⟨#[46]⟩)) rfl rfl (by kernel_rfl) (by kernel_rfl) (by kernel_rfl) (fun _ _ _ h => h) (by kernel_rfl) rfl (Or.inl ⟨by kernel_rfl, ?_⟩) hS1 ?_
  · intro wz hSw
    go_simp; try omega
  try simp only [Act.put, List.setIfInBounds_toArray, List.set_cons_zero, List.set_cons_succ]
  refine heldG.readyG (rs := [8]) (by kernel_rfl) (by simp) ?_
  refine heldG.AllG.cons rfl (fun KK hKK => ?_) heldG.AllG.nil
  go_simp
  refine (K1.out _ hS1).mono ?_
  rintro en w2 ⟨rfl, hS2⟩
  dsimp only
  refine hKK.out _ _ (fun _ => hS2) ?_; clear hKK KK
  try simp only [Act.put, List.setIfInBounds_toArray, List.set_cons_zero, List.set_cons_succ]
  refine isSetTake (i := 9) (d := 14) (v := .string (T0 ++ ⟨#[46]⟩ ++ T1)) rfl rfl (by kernel_rfl) (by kernel_rfl) (by kernel_rfl) (fun _ _ _ h => h) (by kernel_rfl) rfl (Or.inl ⟨by kernel_rfl, ?_⟩) hS2 ?_
  · intro wz hSw
    go_simp; try omega
  try simp only [Act.put, List.setIfInBounds_toArray, List.set_cons_zero, List.set_cons_succ]
  refine isSetTake (i := 10) (d := 15) (v := .string (T0 ++ ⟨#[46]⟩ ++ T1 ++ ⟨#[46]⟩)) rfl rfl (by kernel_rfl) (by kernel_rfl) (by kernel_rfl) (fun _ _ _ h => h) (by kernel_rfl) rfl (Or.inl ⟨by kernel_rfl, ?_⟩) hS2 ?_
  · intro wz hSw
    go_simp; try omega
  try simp only [Act.put, List.setIfInBounds_toArray, List.set_cons_zero, List.set_cons_succ]
  refine heldG.readyG (rs := [14]) (by kernel_rfl) (by simp) ?_
  refine heldG.AllG.cons rfl (fun KK hKK => ?_) heldG.AllG.nil
  go_simp
  refine (K2.out _ hS2).mono ?_
  rintro en w3 ⟨rfl, hS3⟩
  dsimp only
  refine hKK.out _ _ (fun _ => hS3) ?_; clear hKK KK
  try simp only [Act.put, List.setIfInBounds_toArray, List.set_cons_zero, List.set_cons_succ]
  refine isSetTake (i := 15) (d := 20) (v := .string (T0 ++ ⟨#[46]⟩ ++ T1 ++ ⟨#[46]⟩ ++ T2)) rfl rfl (by kernel_rfl) (by kernel_rfl) (by kernel_rfl) (fun _ _ _ h => h) (by kernel_rfl) rfl (Or.inl ⟨by kernel_rfl, ?_⟩) hS3 ?_
  · intro wz hSw
    go_simp; try omega
  try simp only [Act.put, List.setIfInBounds_toArray, List.set_cons_zero, List.set_cons_succ]
  refine isSetTake (i := 16) (d := 21) (v := .string (T0 ++ ⟨#[46]⟩ ++ T1 ++ ⟨#[46]⟩ ++ T2 ++ ⟨#[46]⟩)) rfl rfl (by kernel_rfl) (by kernel_rfl) (by kernel_rfl) (fun _ _ _ h => h) (by kernel_rfl) rfl (Or.inl ⟨by kernel_rfl, ?_⟩) hS3 ?_
  · intro wz hSw
    go_simp; try omega
  try simp only [Act.put, List.setIfInBounds_toArray, List.set_cons_zero, List.set_cons_succ]
  refine heldG.readyG (rs := [20]) (by kernel_rfl) (by simp) ?_
  refine heldG.AllG.cons rfl (fun KK hKK => ?_) heldG.AllG.nil
  go_simp
  refine (K3.out _ hS3).mono ?_
  rintro en w4 ⟨rfl, hS4⟩
  dsimp only
  refine hKK.out _ _ (fun _ => hS4) ?_; clear hKK KK
  try simp only [Act.put, List.setIfInBounds_toArray, List.set_cons_zero, List.set_cons_succ]
  refine isSetTake (i := 21) (d := 26) (v := .string (T0 ++ ⟨#[46]⟩ ++ T1 ++ ⟨#[46]⟩ ++ T2 ++ ⟨#[46]⟩ ++ T3)) rfl rfl (by kernel_rfl) (by kernel_rfl) (by kernel_rfl) (fun _ _ _ h => h) (by kernel_rfl) rfl (Or.inl ⟨by kernel_rfl, ?_⟩) hS4 ?_
  · intro wz hSw
    go_simp; try omega
  try simp only [Act.put, List.setIfInBounds_toArray, List.set_cons_zero, List.set_cons_succ]
  refine heldG.readyG (rs := [22]) (by kernel_rfl) (by simp) ?_
  refine heldG.AllG.cons rfl (fun KK hKK => ?_) heldG.AllG.nil
  go_simp
  have hS5 := Below.alloc hS4 hS4.size (.cells #[.string (T0 ++ ⟨#[46]⟩ ++ T1 ++ ⟨#[46]⟩ ++ T2 ++ ⟨#[46]⟩ ++ T3)] 9)
  refine hKK.out _ _ (fun _ => hS5) ?_; clear hKK KK
  try simp only [Act.put, List.setIfInBounds_toArray, List.set_cons_zero, List.set_cons_succ]
  refine isSetTake (i := 23) (d := 4) (v := .slice (some ⟨w4.heap.size, 0, none⟩) 1 1) rfl rfl (by kernel_rfl) (by kernel_rfl) (by kernel_rfl) (fun _ _ _ h => h) (by kernel_rfl) rfl (Or.inl ⟨by kernel_rfl, ?_⟩) hS5 ?_
  · intro wz hSw
    go_simp
  try simp only [Act.put, List.setIfInBounds_toArray, List.set_cons_zero, List.set_cons_succ]
  refine heldG.doneG (by kernel_rfl) ?_ _
  go_wp2_with fail
  go_ret
  exact show_one hS4 HR.out _
end Go.Proofs.YtjejmgdpjfdhjaaGreatDoor.dshowC
namespace Go.Proofs.YtjejmgdpjfdhjaaGreatDoor.dshowD
open Go.RowKit Go.Proofs.YtjejmgdpjfdhjaaGreatDoor.kit Go.Proofs.YtjejmgdpjfdhjaaGreatDoor.nspec Go.Proofs.YtjejmgdpjfdhjaaGreatDoor.bits Go.Proofs.YtjejmgdpjfdhjaaGreatDoor.bld Go.Proofs.YtjejmgdpjfdhjaaGreatDoor.dshow Go.Proofs.YtjejmgdpjfdhjaaGreatDoor.rsplit Go.Proofs.YtjejmgdpjfdhjaaGreatDoor.dshowA Go.Proofs.YtjejmgdpjfdhjaaGreatDoor.tname Go.Proofs.YtjejmgdpjfdhjaaGreatDoor.fld Go.Proofs.YtjejmgdpjfdhjaaGreatDoor.dshowB Go.Proofs.YtjejmgdpjfdhjaaGreatDoor.takes Go.Proofs.YtjejmgdpjfdhjaaGreatDoor.textsT Go.Proofs.YtjejmgdpjfdhjaaGreatDoor.small Go.Proofs.YtjejmgdpjfdhjaaGreatDoor.val Go.Proofs.YtjejmgdpjfdhjaaGreatDoor.typesW Go.Proofs.YtjejmgdpjfdhjaaGreatDoor.ints
set_option linter.unusedVariables false

theorem ext0 (s : ByteArray) (n : Nat) : (s.extract 0 n).data.toList = s.data.toList.take n := by rw [Lib.extract_data]; simp
theorem chain_any : ∀ (f : Nat) (a b : Nat) (d : Bs), 1 ≤ a → 1 ≤ b → 0 ≤ textsF f a d → 0 ≤ textsF f b d
  | 0, _, _, _, _, _, h => by simp [textsF] at h
  | f + 1, a, b, [], ha, hb, h => by simp only [textsF]; rw [if_neg (by omega)]; omega
  | f + 1, a, b, c :: r, ha, hb, h => by
    simp only [textsF] at h ⊢
    split at h
    · omega
    · rename_i hc; rw [if_neg hc]; exact chain_any f _ _ _ (by omega) (by omega) h
/-- a row of texts, maybe none -/
def Chain (d : Bs) : Prop := 0 ≤ textsF (d.length + 1) 1 d
theorem Chain.cons {c : UInt8} {r : Bs} (h : Chain (c :: r)) : c.toNat ≤ r.length ∧ Chain (r.drop c.toNat) := by
  unfold Chain at h ⊢
  rw [List.length_cons, textsF] at h
  split at h
  · omega
  · rename_i hc
    refine ⟨by omega, ?_⟩
    rw [texts_fuel _ ((r.drop c.toNat).length + 1) _ _ (by rw [List.length_drop]; omega) (by omega)] at h
    exact chain_any _ _ _ _ (by omega) (by omega) h
theorem chain_of {d : Bs} (h : OkP .texts d) : Chain d := by
  unfold OkP at h
  cases d with
  | nil => unfold Chain; simp [textsF]
  | cons c r =>
    simp only [takeS, textsS] at h
    unfold Chain
    rw [textsF] at h ⊢
    split at h
    · simp at h; omega
    · rename_i hc
      rw [if_neg hc]
      exact chain_any _ (0 + (1 + c.toNat)) _ _ (by omega) (by omega) (by rw [h]; exact Int.natCast_nonneg _)
theorem words_step {P R : List Bs} {c : UInt8} {r d : Bs} (h : P ++ textsW d = R) (hd : d = c :: r) : (P ++ [quoteS (r.take c.toNat)]) ++ textsW (r.drop c.toNat) = R := by
  subst hd
  rw [textsW_cons] at h
  rw [← h]; simp

set_option maxRecDepth 100000 in
set_option maxHeartbeats 2400000 in
theorem texts_show (s : ByteArray) (w : World) (hs : s.size ≤ 65535) (hok : OkP .texts s.data.toList) :
    Calls Tryz.prog 113 #[.agg #[], .string s] w (ShowPost w (showF .texts s.data.toList)) := by
  have HBA := Lib.hid ((Below.refl w.heap.size w).alloc (Nat.le_refl _) (.cells #[] 69))
  obtain ⟨R, HR⟩ : ∃ R, Hid ([] ++ textsW s.data.toList = R) := ⟨_, Lib.hid rfl⟩
  have e0 : showF .texts s.data.toList = R := HR.out
  rw [e0]
  have HC := Lib.hid (chain_of hok)
  clear e0 hok
  go_enter Tryz.func113, Tryz.ntmps113
  go_wp2_with fail
  go_loopg [1, 4, 5] (s.size + 1) (fun gas dv ov _ wr => ∃ (u : ByteArray) (P : List Bs), dv = .string u ∧ u.size < gas ∧ P.length + u.size ≤ 65535 ∧ Hid (P ++ textsW u.data.toList = R) ∧ Hid (Chain u.data.toList) ∧ Hid (wr.ownsRow w.heap.size 9 1 ov P.length (P.map strV)) ∧ Hid (Below w.heap.size w wr))
  case atStart => exact ⟨s, [], rfl, by omega, by simpa using hs, HR, HC, Lib.hid (World.ownsRow_nil _ _ _ _), HBA⟩
  case round =>
    obtain ⟨u, P, rfl, hg, hP, HW, HCH, HO, HB⟩ := hrel
    have HG := Lib.hid hg; clear hg
    have hsz := HB.out.size
    by_cases h0 : 0 < u.size
    · have hne : u.toList.isEmpty = false := by
        rw [Lib.toList_data]
        cases hl : u.data.toList with
        | nil => rw [← size_len, hl] at h0; simp at h0
        | cons a b => rfl
      have hd := drop_cons u 0 h0
      obtain ⟨c, hc⟩ : ∃ c, u[0] = c := ⟨_, rfl⟩
      obtain ⟨r, hr⟩ : ∃ r, u.data.toList.drop (0 + 1) = r := ⟨_, rfl⟩
      rw [hc, hr, List.drop_zero] at hd
      have hrl : r.length + 1 = u.size := by rw [← size_len, hd, List.length_cons]
      have hch := HCH.out
      rw [hd] at hch
      obtain ⟨hcr, hch2⟩ := hch.cons
      have HST := Lib.hid (words_step HW.out hd)
      obtain ⟨n, hn⟩ : ∃ n, 1 + c.toNat = n := ⟨_, rfl⟩
      have hnu : n ≤ u.size := by omega
      have hn1 : 1 ≤ n := by omega
      have CT := Lib.hid (fun w => text_any u w (by omega))
      have e1 : textS u.data.toList = (n : Int) := by rw [hd]; simp only [textS]; rw [if_neg (by omega), ← hn]; simp
      rw [e1] at CT
      obtain ⟨x, hx⟩ : ∃ x, u.extract 0 n = x := ⟨_, rfl⟩
      have hxd : x.data.toList = c :: r.take c.toNat := by
        rw [← hx, ext0, hd, ← hn, Nat.add_comm 1, List.take_succ_cons]
      have hxs : x.size ≤ 65535 := by rw [← hx, ByteArray.size_extract]; omega
      have hx1 : 1 ≤ x.size := by rw [← hx, ByteArray.size_extract]; omega
      obtain ⟨y, hy⟩ : ∃ y, u.extract n u.size = y := ⟨_, rfl⟩
      have hyd : y.data.toList = r.drop c.toNat := by
        rw [← hy, ext_end, hd, ← hn, Nat.add_comm 1, List.drop_succ_cons]
      have hys : y.size = u.size - n := by rw [← hy, ByteArray.size_extract]; omega
      have CS := Lib.hid (fun w => text_show x w hxs hx1)
      rw [showF, hxd, List.drop_succ_cons, List.drop_zero] at CS
      rw [← hyd] at HST hch2
      have HCH2 := Lib.hid hch2
      have HYS := Lib.hid hys
      obtain ⟨q, hq⟩ : ∃ q, quoteS (r.take c.toNat) = q := ⟨_, rfl⟩
      rw [hq] at CS HST
      have hni : 0 ≤ (n : Int) := by omega
      have hnui : (n : Int) ≤ (u.size : Int) := by omega
      clear hd hr hc hrl hch hch2 hcr e1 hxd hyd hq hn hys
      go_wp2_with fail
      refine (CT.out _).mono ?_
      rintro e w1 ⟨rfl, hB1⟩
      have HB1 := Lib.hid (HB.out.trans (hB1.mono hsz))
      have HO1 := Lib.hid (own_below HO.out hB1)
      have hsz1 := HB1.out.size
      clear hB1
      go_wp2_with fail
      refine (CS.out _).mono ?_
      rintro e w2 ⟨hB2, v2, rfl, hlv⟩
      have HB2 := Lib.hid (HB1.out.trans (hB2.mono hsz1))
      have HO2 := Lib.hid (own_below HO1.out hB2)
      have HLV := Lib.hid hlv
      have hsz2 := HB2.out.size
      clear hB2 hlv
      go_wp2_with (at_builtin; go_must (refine wpList_append_lv rfl _ _ rfl w.heap.size _ P rfl HO2.out w1.heap.size [q] _ rfl HLV.out ?c1 hsz2 ?_))
      case c1 => simp; omega
      intro v' w3 hown' hgrow
      have HO3 : Hid (w3.ownsRow w.heap.size 9 1 v' (P ++ [q]).length ((P ++ [q]).map strV)) := Lib.hid (by simpa using hown')
      have HB3 := Lib.hid (HB2.out.grown hgrow hsz2 (fun k hk => (HO2.out.lt k hk).1))
      clear hown' hgrow
      go_wp2_with fail
      have hg := HG.out
      have h2 := HYS.out
      go_roundg (gk - 1)
      case rel => exact ⟨y, P ++ [q], by first | rfl | (rw [hy]), by omega, by rw [List.length_append, List.length_singleton]; omega, HST, HCH2, HO3, HB3⟩
      case measure => omega
    · have hne : u.toList.isEmpty = true := by
        have : u.data.toList = [] := List.eq_nil_of_length_eq_zero (by rw [size_len]; omega)
        rw [Lib.toList_data, this]; rfl
      have HE : Hid (P = R) := Lib.hid (by
        have h := HW.out
        have h' : u.data.toList = [] := List.eq_nil_of_length_eq_zero (by rw [size_len]; omega)
        rw [h', textsW_nil, List.append_nil] at h; exact h)
      go_wp2_with fail
      go_ret
      exact ⟨HB.out, _, rfl, by rw [← HE.out]; exact LV.of_own HO.out⟩

theorem pick_lt : ∀ (l : List Nat) (b k : Nat), ∀ x ∈ pickL b k l, x < b * 256 + k + l.length
  | [], b, k => by simp [pickL]
  | y :: l, b, k => by
    intro x hx
    have ih := pick_lt l b (k + 1)
    simp only [pickL] at hx
    split at hx
    · rcases List.mem_cons.1 hx with rfl | hx
      · simp only [List.length_cons]; omega
      · have := ih x hx; simp only [List.length_cons]; omega
    · have := ih x hx; simp only [List.length_cons]; omega
theorem typesF_lt : ∀ (f : Nat) (last : Int) (out : List Nat) (d : Bs) (l : List Nat), (∀ x ∈ out, x < 65536) → typesF f last out d = some l → ∀ x ∈ l, x < 65536
  | 0, last, out, d, l, ho, h => by simp [typesF] at h
  | f + 1, last, out, [], l, ho, h => by
    have e : out = l := by simpa [typesF] using h
    rw [← e]; exact ho
  | f + 1, last, out, [b], l, ho, h => by simp [typesF] at h
  | f + 1, last, out, b :: n :: m, l, ho, h => by
    simp only [typesF] at h
    split at h
    · cases h
    · rename_i hc
      refine typesF_lt f _ _ _ _ ?_ h
      intro x hx
      rcases List.mem_append.1 hx with hx | hx
      · exact ho x hx
      · have h2 := pick_lt (bitsL (m.take n.toNat)) b.toNat 0 x hx
        rw [bitsL_len, List.length_take] at h2
        have := b.toNat_lt
        omega
theorem types_lt {d : Bs} {l : List Nat} (h : typesS d = some l) : ∀ x ∈ l, x < 65536 := by
  unfold typesS at h
  cases e : typesF (d.length + 1) (-1) [] d with
  | none => rw [e] at h; cases h
  | some l' =>
    rw [e] at h
    simp only at h
    split at h
    · cases h
    · have : l' = l := by simpa using h
      subst this
      exact typesF_lt _ _ _ _ _ (by simp) e
def tnW (t : Nat) : Bs := tnameS ((t : Nat) : Int)
theorem map_step {P R : List Bs} {l : List Nat} {k t : Nat} (h : P ++ (l.drop k).map tnW = R) (ht : l[k]? = some t) : (P ++ [tnW t]) ++ (l.drop (k + 1)).map tnW = R := by
  obtain ⟨h1, h2⟩ := List.getElem?_eq_some_iff.1 ht
  rw [List.drop_eq_getElem_cons h1, h2] at h
  rw [← h]; simp
theorem map_end {P R : List Bs} {l : List Nat} {k : Nat} (h : P ++ (l.drop k).map tnW = R) (hk : l.length ≤ k) : P = R := by
  rw [List.drop_eq_nil_iff.2 hk] at h; simpa using h
theorem kinds_ok {d : Bs} (h : OkP .kinds d) : ∃ l, typesS d = some l := by
  unfold OkP at h
  simp only [takeS] at h
  cases e : typesS d with
  | none => rw [e] at h; simp at h
  | some l => exact ⟨l, rfl⟩
set_option maxRecDepth 100000 in
set_option maxHeartbeats 2400000 in
theorem kinds_show (s : ByteArray) (w : World) (hs : s.size ≤ 65535) (hok : OkP .kinds s.data.toList) (hP : PowT w) :
    Calls Tryz.prog 130 #[.agg #[], .string s] w (ShowPost w (showF .kinds s.data.toList)) := by
  have HBA := Lib.hid ((Below.refl w.heap.size w).alloc (Nat.le_refl _) (.cells #[] 74))
  obtain ⟨l, hl⟩ := kinds_ok hok
  obtain ⟨R, HR⟩ : ∃ R, Hid ([] ++ (l.drop 0).map tnW = R) := ⟨_, Lib.hid rfl⟩
  have e0 : showF .kinds s.data.toList = R := by rw [showF, hl, ← HR.out]; rfl
  rw [e0]
  obtain ⟨n, hn⟩ : ∃ n, l.length = n := ⟨_, rfl⟩
  have hnb : n ≤ 524280 := by have := types_count hl; rw [size_len] at this; omega
  have HLT := Lib.hid (types_lt hl)
  have CT := Lib.hid (fun w => types_any s w (by omega))
  have HL := Lib.hid hl; have HN := Lib.hid hn; have HP := Lib.hid hP
  clear e0 hok hl hn hP
  go_enter Tryz.func130, Tryz.ntmps130
  go_wp2_with fail
  refine (CT.out _).mono ?_
  rintro e w1 ⟨hB1, ⟨v, l', hl', rfl, hown⟩ | ⟨hl', _⟩⟩
  case inr => rw [HL.out] at hl'; cases hl'
  obtain rfl : l = l' := Option.some.inj (HL.out.symm.trans hl')
  obtain ⟨a, c, rfl, hc1, hc2, hrd⟩ := RdN.of_own hown
  rw [HN.out] at hc1 ⊢
  have HRD := Lib.hid hrd
  have HB1 := Lib.hid (HBA.out.trans (hB1.mono HBA.out.size))
  have hz1 := HB1.out.size
  clear hB1 hown hrd hl'
  go_wp2_with fail
  go_loopg [4, 8, 16] (n + 1) (fun gas ov _ kv wr => ∃ (k : Nat) (P : List Bs), kv = .int .i64 k ∧ k ≤ n ∧ k + gas = n + 1 ∧ P.length = k ∧ Hid (P ++ (l.drop k).map tnW = R) ∧ Hid (wr.ownsRow w1.heap.size 9 1 ov P.length (P.map strV)) ∧ Hid (Below w1.heap.size w1 wr))
  case atStart => exact ⟨0, [], rfl, by omega, by omega, rfl, HR, Lib.hid (World.ownsRow_nil _ _ _ _), Lib.hid (Below.refl _ _)⟩
  case round =>
    obtain ⟨k, P, rfl, hk, hkg, hPl, HW, HO, HB⟩ := hrel
    have HKG := Lib.hid hkg; clear hkg
    have hsz := HB.out.size
    by_cases hlt : k < n
    · obtain ⟨t, ht⟩ : ∃ t, l[k]? = some t := ⟨_, List.getElem?_eq_getElem (by have := HN.out; omega)⟩
      obtain ⟨g, o, rfl, hg, hcell0⟩ := HRD.out k t ht
      have hcell := (HB.out.cell (p := ⟨g, o + k, none⟩) hg).trans hcell0
      unfold bitV at hcell
      have htb := HLT.out t (List.mem_of_getElem? ht)
      have HST := Lib.hid (map_step HW.out ht)
      have HBW := Lib.hid (HB1.out.trans (HB.out.mono hz1))
      have CN := Lib.hid (dtname_any (t : Int) (by omega) (by omega) wr (pow_below HP.out HBW.out))
      have e1 : tnameS (t : Int) = tnW t := rfl
      rw [e1] at CN
      have hk0 : 0 ≤ (k : Int) := by omega
      obtain ⟨q, hq⟩ : ∃ q, tnW t = q := ⟨_, rfl⟩
      rw [hq] at CN HST
      clear hcell0 ht e1 hq
      go_wp2_with fail
      refine CN.out.mono ?_
      rintro e w2 ⟨rfl, hB2⟩
      have HB2 := Lib.hid (HB.out.trans (hB2.mono hsz))
      have HO2 := Lib.hid (own_below HO.out hB2)
      have hz2 := HB2.out.size
      clear hB2
      have hlv : ∀ w3, w3 = w2.alloc (.cells #[.string ⟨q.toArray⟩] 9) → LV w3 (.slice (some ⟨w2.heap.size, 0, none⟩) 1 1) w2.heap.size [q] := by
        rintro _ rfl
        obtain ⟨_, v, hv, h⟩ := show_one (Below.refl w2.heap.size w2) (x := q) (X := ⟨q.toArray⟩) rfl 9
        cases hv; exact h
      have HLV := Lib.hid hlv; clear hlv
      go_wp2_with (at_builtin; go_must (refine wpList_append_lv rfl _ _ rfl w1.heap.size _ P rfl (own_below HO2.out ((Below.refl _ w2).alloc (Nat.le_refl _) _)) w2.heap.size [q] _ rfl (HLV.out _ rfl) ?c1 ?c2 ?_))
      case c1 => simp; omega
      case c2 => rw [World.size_alloc]; omega
      intro v' w3 hown' hgrow
      have HO3 : Hid (w3.ownsRow w1.heap.size 9 1 v' (P ++ [q]).length ((P ++ [q]).map strV)) := Lib.hid (by
        have e : (P ++ [q]).length = k + 1 := by rw [List.length_append, List.length_singleton, hPl]
        rw [e]; simpa using hown')
      have HB3 := Lib.hid ((HB2.out.alloc hz2 (.cells #[.string ⟨q.toArray⟩] 9)).grown hgrow (by rw [World.size_alloc]; omega) (fun k hk => (HO2.out.lt k hk).1))
      clear hown' hgrow
      go_wp2_with fail
      have hkg := HKG.out
      go_roundg (gk - 1)
      case rel => exact ⟨k + 1, P ++ [q], by go_num, by omega, by omega, by rw [List.length_append, List.length_singleton]; omega, HST, HO3, HB3⟩
      case measure => omega
    · have HE := Lib.hid (map_end HW.out (by have := HN.out; omega))
      go_wp2_with fail
      go_ret
      exact ⟨HB1.out.trans (HB.out.mono hz1), _, rfl, by rw [← HE.out]; exact (LV.of_own HO.out).mono hz1⟩
end Go.Proofs.YtjejmgdpjfdhjaaGreatDoor.dshowD
