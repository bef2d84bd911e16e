/- PLAIN: addresses that are told are read as they were. PLAIN: a set of types is made again out of its types. PLAIN: what is told of data is read as those data: field by field, then whole. -/
import Derived.Test.YtkcpbjoolfojjaaGreatDoorP27
import Derived.Lib.SplitLaws
namespace Go.Proofs.YtkcpbjoolfojjaaGreatDoor.rdAd
open Go.RowKit Go.Proofs.YtkcpbjoolfojjaaGreatDoor.kit Go.Proofs.YtkcpbjoolfojjaaGreatDoor.nspec Go.Proofs.YtkcpbjoolfojjaaGreatDoor.bits Go.Proofs.YtkcpbjoolfojjaaGreatDoor.fld Go.Proofs.YtkcpbjoolfojjaaGreatDoor.tname Go.Proofs.YtkcpbjoolfojjaaGreatDoor.dshow Go.Proofs.YtkcpbjoolfojjaaGreatDoor.rdP Go.Proofs.YtkcpbjoolfojjaaGreatDoor.rdE
open Go.Proofs.YtkcpbjoolfojjaaGreatDoor.rdQ (splitW octS octL ip4R groupsL groupsR ip6R)
set_option linter.unusedVariables false

abbrev B (l : Bs) : ByteArray := ⟨l.toArray⟩
theorem B_size (l : Bs) : (B l).size = l.length := (size_len (B l)).symm
/-- parts put together by one byte -/
def joinC (c : UInt8) : List Bs → Bs
  | [] => []
  | x :: r => x ++ r.flatMap (fun y => c :: y)
theorem index_app (c : UInt8) (T : Bs) : ∀ x : Bs, (∀ d ∈ x, d ≠ c) → Lib.index (x ++ c :: T) [c] = (x.length : Int)
  | [], _ => by rw [Lib.index_one]; simp [Lib.indexByte]
  | d :: r, h => by
    have ih := index_app c T r (fun e he => h e (by simp [he]))
    rw [Lib.index_one] at ih ⊢
    have hd : (d == c) = false := by simpa using h d (by simp)
    have hn : ((r.length : Int) == -1) = false := by rw [beq_eq_false_iff_ne]; omega
    simp only [List.cons_append, Lib.indexByte, hd, ih, hn, Bool.false_eq_true, if_false, List.length_cons]
    omega
theorem count_flat (c : UInt8) : ∀ r : List Bs, (∀ p ∈ r, ∀ d ∈ p, d ≠ c) → (r.flatMap (fun y => c :: y)).count c = r.length
  | [], _ => rfl
  | p :: r, h => by
    have h0 : List.count c p = 0 := List.count_eq_zero_of_not_mem (fun hc => h p (by simp) c hc rfl)
    rw [List.flatMap_cons, List.count_append, count_flat c r (fun q hq => h q (by simp [hq])), List.count_cons_self, h0, List.length_cons]
    omega
theorem split_pieces (c : UInt8) : ∀ (r : List Bs) (x : Bs), (∀ p ∈ x :: r, ∀ d ∈ p, d ≠ c) → Lib.splitB ⟨#[c]⟩ 0 r.length (B (joinC c (x :: r))) = (x :: r).map B
  | [], x, h => by
    rw [List.length_nil, Lib.splitB_zero]
    simp [joinC]
  | y :: r, x, h => by
    have ih := split_pieces c r y (fun p hp => h p (by simp at hp ⊢; exact .inr hp))
    have e : joinC c (x :: y :: r) = x ++ c :: joinC c (y :: r) := by simp [joinC]
    have hix : Lib.indexB (B (joinC c (x :: y :: r))) ⟨#[c]⟩ = ((x.length : Nat) : Int) := by
      show Lib.index (joinC c (x :: y :: r)) [c] = _
      rw [e]; exact index_app c _ x (h x (by simp))
    have e1 : (B (joinC c (x :: y :: r))).extract 0 (x.length + 0) = B x := by
      rw [Lib.extract_eq, e]; simp
    have e2 : (B (joinC c (x :: y :: r))).extract (x.length + 1) (B (joinC c (x :: y :: r))).size = B (joinC c (y :: r)) := by
      rw [Lib.extract_eq, B_size, e]
      show B (List.take _ (List.drop (x.length + 1) (x ++ c :: joinC c (y :: r)))) = _
      rw [show List.drop (x.length + 1) (x ++ c :: joinC c (y :: r)) = joinC c (y :: r) by simp, List.take_of_length_le (by simp; omega)]
    rw [List.length_cons, Lib.splitB_hit _ _ _ _ _ hix, e1]
    show B x :: Lib.splitB ⟨#[c]⟩ 0 r.length ((B (joinC c (x :: y :: r))).extract (x.length + 1) (B (joinC c (x :: y :: r))).size) = _
    rw [e2, ih]; rfl
theorem splitW_join (c : UInt8) (x : Bs) (r : List Bs) (h : ∀ p ∈ x :: r, ∀ d ∈ p, d ≠ c) : splitW c (B (joinC c (x :: r))) = (x :: r).map B := by
  have hc : Lib.countB (B (joinC c (x :: r))) ⟨#[c]⟩ = r.length := by
    show Lib.count (joinC c (x :: r)) [c] = _
    have h0 : List.count c x = 0 := List.count_eq_zero_of_not_mem (fun hc => h x (by simp) c hc rfl)
    rw [Lib.count_one, joinC, List.count_append, count_flat c r (fun p hp => h p (by simp [hp])), h0, Nat.zero_add]
  unfold splitW
  rw [hc]
  exact split_pieces c r x h

theorem oct_back (c : UInt8) : octS (Lib.decDigits c.toNat) = some c := by
  have hc := c.toNat_lt
  have h := count_dec c.toNat 3 255 (by omega) (dec_len 2 _ (by omega))
  unfold octS
  rw [h, if_neg (by omega), Int.toNat_natCast, if_neg (by simp)]
  simp
theorem dec_no {c : UInt8} (hc : c.toNat < 48 ∨ 57 < c.toNat) (v : Nat) : ∀ d ∈ Lib.decDigits v, d ≠ c := fun d hd e => by
  have := dec_dig _ v (Nat.lt_succ_self _) d hd
  subst e; omega
theorem ip4_back {x : Bs} (h : x.length = 4) : ip4R (B (ip4S x)) = some x := by
  match x, h with
  | [a, b, c, d], _ =>
    have e : ip4S [a, b, c, d] = joinC 46 [Lib.decDigits a.toNat, Lib.decDigits b.toNat, Lib.decDigits c.toNat, Lib.decDigits d.toNat] := by simp [ip4S, joinC]
    have hs := splitW_join 46 (Lib.decDigits a.toNat) [Lib.decDigits b.toNat, Lib.decDigits c.toNat, Lib.decDigits d.toNat] (by
      intro p hp
      have hno := fun v => dec_no (c := 46) (.inl (by decide)) v
      simp only [List.mem_cons, List.not_mem_nil, or_false] at hp
      rcases hp with rfl | rfl | rfl | rfl <;> exact hno _)
    unfold ip4R
    rw [e, hs, if_pos (by rfl)]
    simp [octL, oct_back]

def two (n : Nat) : Bs := [UInt8.ofNat (n / 256), UInt8.ofNat (n % 256)]
theorem two_pair (a b : UInt8) : two (a.toNat * 256 + b.toNat) = [a, b] := by
  have hb := b.toNat_lt
  unfold two
  rw [show (a.toNat * 256 + b.toNat) / 256 = a.toNat by omega, show (a.toNat * 256 + b.toNat) % 256 = b.toNat by omega]
  simp
theorem hexV_app : ∀ (a b : Bs) (v : Nat), hexV v (a ++ b) = (hexV v a).bind (fun u => hexV u b)
  | [], b, v => rfl
  | c :: r, b, v => by
    rw [List.cons_append, hexV, hexV]
    cases val16 c with
    | none => rfl
    | some x => exact hexV_app r b _
theorem hexV_hexN : ∀ (f n : Nat), n < 16 ^ f → hexV 0 (hexNF f n) = some n
  | 0, n, h => by
    have : n = 0 := by simpa using h
    subst this; rfl
  | f + 1, n, h => by
    rw [hexNF]
    by_cases h16 : n < 16
    · rw [if_pos h16, hexV, val16_letter n (by omega)]
      simp [hexV]
    · rw [if_neg h16, hexV_app, hexV_hexN f (n / 16) (by rw [Nat.pow_succ] at h; omega), Option.bind_some, hexV, val16_letter (n % 16) (by omega)]
      show some (n / 16 * 16 + n % 16) = _
      congr 1; omega
theorem group_back {n : Nat} (h : n < 65536) : groupS (hexN n) = some (two n) := by
  rw [group_val (hexN_len n)]
  unfold hexN
  rw [hexV_hexN 4 n (by omega)]; rfl
theorem hexV_all : ∀ (g : Bs) (v w : Nat), hexV v g = some w → ∀ c ∈ g, val16 c ≠ none
  | [], _, _, _ => fun c hc => by simp at hc
  | d :: r, v, w, h => by
    rw [hexV] at h
    intro c hc
    cases hd : val16 d with
    | none => rw [hd] at h; cases h
    | some x =>
      rw [hd] at h
      rcases List.mem_cons.1 hc with rfl | hc
      · rw [hd]; simp
      · exact hexV_all r _ _ h c hc
theorem hexN_all {n : Nat} (h : n < 65536) : ∀ c ∈ hexN n, val16 c ≠ none := hexV_all _ 0 n (hexV_hexN 4 n (by omega))
theorem hexN_no {n : Nat} (h : n < 65536) : ∀ c ∈ hexN n, c ≠ 58 := fun c hc e => hexN_all h c hc (by subst e; decide)
theorem groups_back : ∀ (ns : List Nat), (∀ n ∈ ns, n < 65536) → groupsL ((ns.map hexN).map B) = some (ns.flatMap two)
  | [], _ => rfl
  | n :: r, h => by
    have ih := groups_back r (fun m hm => h m (by simp [hm]))
    have hg := group_back (h n (by simp))
    rw [List.map_cons, List.map_cons, groupsL]
    rw [show (B (hexN n)).data.toList = hexN n from rfl, hg]
    simp only
    rw [ih, List.flatMap_cons]; rfl
theorem groupsR_back (ns : List Nat) (h : ∀ n ∈ ns, n < 65536) : groupsR (B (colon (ns.map hexN))) = some (ns.flatMap two) := by
  cases ns with
  | nil => rfl
  | cons n r =>
    have hl := (hexN_len n).1
    unfold groupsR
    rw [if_neg (by rw [B_size, List.map_cons, colon, List.length_append]; omega)]
    have hs := splitW_join 58 (hexN n) (r.map hexN) (by
      intro p hp
      rw [← List.map_cons] at hp
      obtain ⟨m, hm, rfl⟩ := List.mem_map.1 hp
      exact hexN_no (h m hm))
    rw [show colon ((n :: r).map hexN) = joinC 58 (hexN n :: r.map hexN) from rfl, hs, ← List.map_cons]
    exact groups_back _ h
/-- no two colons, and none at the end -/
def tame : Bs → Bool
  | [] => true
  | [c] => c != 58
  | c :: d :: r => (c != 58 || d != 58) && tame (d :: r)
theorem pre_no {c d : UInt8} {r : Bs} (h : c ≠ 58 ∨ d ≠ 58) : ([58, 58] : Bs).isPrefixOf (c :: d :: r) = false := by
  rcases h with h | h
  · have : ((58 : UInt8) == c) = false := by simpa using Ne.symm h
    simp [List.isPrefixOf, this]
  · have : ((58 : UInt8) == d) = false := by simpa using Ne.symm h
    simp [List.isPrefixOf, this]
theorem index_step {b : UInt8} {l : Bs} {i : Nat} (hp : ([58, 58] : Bs).isPrefixOf (b :: l) = false) (hi : Lib.index l [58, 58] = (i : Int)) : Lib.index (b :: l) [58, 58] = ((i + 1 : Nat) : Int) := by
  have hn : ((i : Int) == -1) = false := by rw [beq_eq_false_iff_ne]; omega
  rw [Lib.index, hp, hi, hn]
  simp
theorem index_two (T : Bs) : ∀ X : Bs, tame X = true → Lib.index (X ++ 58 :: 58 :: T) [58, 58] = (X.length : Int)
  | [], _ => by rw [List.nil_append, Lib.index]; rfl
  | [c], h => by
    have hc : c ≠ 58 := by simpa [tame] using h
    exact index_step (pre_no (.inl hc)) (index_two T [] rfl)
  | c :: d :: r, h => by
    simp only [tame, Bool.and_eq_true, Bool.or_eq_true, bne_iff_ne] at h
    exact index_step (pre_no h.1) (index_two T (d :: r) h.2)
theorem index_nix : ∀ X : Bs, tame X = true → Lib.index X [58, 58] = -1
  | [], _ => rfl
  | [c], h => by rw [Lib.index]; simp [List.isPrefixOf, Lib.index]
  | c :: d :: r, h => by
    simp only [tame, Bool.and_eq_true, Bool.or_eq_true, bne_iff_ne] at h
    rw [Lib.index, pre_no h.1, index_nix (d :: r) h.2]; rfl
theorem tame_app : ∀ (x y : Bs), x ≠ [] → (∀ c ∈ x, c ≠ 58) → tame y = true → y ≠ [] → y.head? ≠ some 58 → tame (x ++ 58 :: y) = true
  | [], _, h, _, _, _, _ => absurd rfl h
  | [c], [], _, _, _, h, _ => absurd rfl h
  | [c], d :: r, _, hx, hy, _, hh => by
    have hc := hx c (by simp)
    have hd : d ≠ 58 := by simpa using hh
    show tame (c :: 58 :: d :: r) = true
    simp [tame, hc, hd, hy]
  | c :: e :: r, y, _, hx, hy, hn, hh => by
    have hc := hx c (by simp)
    have ih := tame_app (e :: r) y (by simp) (fun d hd => hx d (by simp at hd ⊢; exact .inr hd)) hy hn hh
    show tame (c :: e :: (r ++ 58 :: y)) = true
    simp only [tame, Bool.and_eq_true, Bool.or_eq_true, bne_iff_ne]
    exact ⟨.inl hc, ih⟩
theorem tame_plain : ∀ x : Bs, (∀ c ∈ x, c ≠ 58) → tame x = true
  | [], _ => rfl
  | [c], h => by simpa [tame] using h c (by simp)
  | c :: d :: r, h => by
    simp only [tame, Bool.and_eq_true, Bool.or_eq_true, bne_iff_ne]
    exact ⟨.inl (h c (by simp)), tame_plain (d :: r) (fun e he => h e (by simp at he ⊢; exact .inr he))⟩
theorem colon_head {p : Bs} {P : List Bs} (h1 : p ≠ []) (h2 : ∀ c ∈ p, c ≠ 58) : colon (p :: P) ≠ [] ∧ (colon (p :: P)).head? ≠ some 58 := by
  cases p with
  | nil => exact absurd rfl h1
  | cons c r =>
    refine ⟨by simp [colon], ?_⟩
    simpa [colon] using h2 c (by simp)
theorem tame_colon : ∀ P : List Bs, (∀ p ∈ P, p ≠ [] ∧ ∀ c ∈ p, c ≠ 58) → tame (colon P) = true
  | [], _ => rfl
  | [p], h => by
    have e : colon [p] = p := by simp [colon]
    rw [e]; exact tame_plain p (h p (by simp)).2
  | p :: q :: r, h => by
    have e : colon (p :: q :: r) = p ++ 58 :: colon (q :: r) := by simp [colon]
    have hq := h q (by simp)
    have hh := colon_head (P := r) hq.1 hq.2
    rw [e]
    exact tame_app p _ (h p (by simp)).1 (h p (by simp)).2 (tame_colon (q :: r) (fun x hx => h x (by simp at hx ⊢; exact .inr hx))) hh.1 hh.2
def ns (x : Bs) : List Nat := (List.range 8).map (group x)
theorem ns_two {x : Bs} (h : x.length = 16) : (ns x).flatMap two = x := by
  match x, h with
  | [a0, a1, a2, a3, a4, a5, a6, a7, a8, a9, b0, b1, b2, b3, b4, b5], _ =>
    show two (a0.toNat * 256 + a1.toNat) ++ (two (a2.toNat * 256 + a3.toNat) ++ (two (a4.toNat * 256 + a5.toNat) ++ (two (a6.toNat * 256 + a7.toNat) ++ (two (a8.toNat * 256 + a9.toNat) ++ (two (b0.toNat * 256 + b1.toNat) ++ (two (b2.toNat * 256 + b3.toNat) ++ (two (b4.toNat * 256 + b5.toNat) ++ []))))))) = _
    simp only [two_pair]; rfl
theorem group_lt (x : Bs) (k : Nat) : group x k < 65536 := by
  unfold group
  have h1 := (x.getD (2 * k) 0).toNat_lt; have h2 := (x.getD (2 * k + 1) 0).toNat_lt
  omega
theorem ns_lt (x : Bs) : ∀ n ∈ ns x, n < 65536 := fun n hn => by
  obtain ⟨k, _, rfl⟩ := List.mem_map.1 hn
  exact group_lt x k
theorem zero_group {x : Bs} {k : Nat} (h : zeroG x k = true) : group x k = 0 := by
  unfold zeroG at h
  rw [Bool.and_eq_true, beq_iff_eq, beq_iff_eq] at h
  unfold group; rw [h.1, h.2]; rfl
set_option maxRecDepth 100000 in
theorem zero_all : ∀ a b c d e f g h : Bool, allZ [a, b, c, d, e, f, g, h] (refZ [a, b, c, d, e, f, g, h]).1 (refZ [a, b, c, d, e, f, g, h]).2 = true := by decide +kernel
theorem flat_zero : ∀ l : List Nat, (∀ n ∈ l, n = 0) → l.flatMap two = List.replicate (2 * l.length) 0
  | [], _ => rfl
  | n :: r, h => by
    have hn := h n (by simp)
    subst hn
    rw [List.flatMap_cons, flat_zero r (fun m hm => h m (by simp [hm])), List.length_cons, show 2 * (r.length + 1) = 2 * r.length + 1 + 1 by omega, List.replicate_succ, List.replicate_succ]; rfl
theorem flat_len : ∀ l : List Nat, (l.flatMap two).length = 2 * l.length
  | [] => rfl
  | n :: r => by
    rw [List.flatMap_cons, List.length_append, flat_len r, List.length_cons]
    show 2 + _ = _
    omega
theorem good_hex (l : List Nat) (h : ∀ n ∈ l, n < 65536) : ∀ p ∈ l.map hexN, p ≠ [] ∧ ∀ c ∈ p, c ≠ 58 := fun p hp => by
  obtain ⟨n, hn, rfl⟩ := List.mem_map.1 hp
  exact ⟨fun e => by have := (hexN_len n).1; rw [e] at this; simp at this, hexN_no (h n hn)⟩
theorem ip6_parts (x : Bs) : (ip6S x = colon ((ns x).map hexN)) ∨ ∃ a m : Nat, 2 ≤ m ∧ a + m ≤ 8 ∧ (∀ n ∈ ((ns x).drop a).take m, n = 0) ∧ ip6S x = colon (((ns x).take a).map hexN) ++ 58 :: 58 :: colon (((ns x).drop (a + m)).map hexN) := by
  have hz : zs6 x = [zeroG x 0, zeroG x 1, zeroG x 2, zeroG x 3, zeroG x 4, zeroG x 5, zeroG x 6, zeroG x 7] := rfl
  have hh : hs6 x = [grpS x 0, grpS x 1, grpS x 2, grpS x 3, grpS x 4, grpS x 5, grpS x 6, grpS x 7] := rfl
  have hm : hs6 x = (ns x).map hexN := by unfold hs6 ns; rw [List.map_map]; rfl
  have ag := agree_all (zeroG x 0) (zeroG x 1) (zeroG x 2) (zeroG x 3) (zeroG x 4) (zeroG x 5) (zeroG x 6) (zeroG x 7)
  have az := zero_all (zeroG x 0) (zeroG x 1) (zeroG x 2) (zeroG x 3) (zeroG x 4) (zeroG x 5) (zeroG x 6) (zeroG x 7)
  rw [← hz] at ag az
  unfold agree at ag
  rw [Bool.or_eq_true] at ag
  unfold ip6S
  rcases ag with ag | ag
  · simp only [Bool.and_eq_true, decide_eq_true_eq] at ag
    obtain ⟨⟨h1, h2⟩, h3⟩ := ag
    left
    rw [h1, h3, hh, out_none, ← hh, hm]; rfl
  · simp only [Bool.and_eq_true, decide_eq_true_eq] at ag
    obtain ⟨⟨⟨h1, h2⟩, h3⟩, h4⟩ := ag
    obtain ⟨a, ha⟩ : ∃ a, (refZ (zs6 x)).1 = a := ⟨_, rfl⟩
    obtain ⟨m, hm2⟩ : ∃ m, (refZ (zs6 x)).2 = m := ⟨_, rfl⟩
    rw [ha] at h1 h4 az
    rw [hm2] at h2 h3 h4 az
    right
    refine ⟨a, m, h3, h4, ?_, ?_⟩
    · intro n hn
      unfold ns at hn
      rw [← List.map_drop, ← List.map_take] at hn
      obtain ⟨k, hk, rfl⟩ := List.mem_map.1 hn
      apply zero_group
      unfold allZ zs6 at az
      rw [← List.map_drop, ← List.map_take, List.all_map, List.all_eq_true] at az
      exact az k hk
    · rw [h1, h2, hh, out_some _ _ _ _ _ _ _ _ a m h3 h4, ← hh, hm]
      unfold refOut
      rw [if_neg (by omega), List.map_take, List.map_drop]
      simp
theorem ip6_back {x : Bs} (h : x.length = 16) : ip6R (B (ip6S x)) = some x := by
  have hn := ns_lt x
  have h2 := ns_two h
  have hl : (ns x).length = 8 := rfl
  rcases ip6_parts x with e | ⟨a, m, hm2, ham, hz, e⟩
  · have hix : Lib.index (ip6S x) [58, 58] = -1 := by rw [e]; exact index_nix _ (tame_colon _ (good_hex _ hn))
    have hcut : Lib.cut (B (ip6S x)).data.toList [58, 58] = (ip6S x, [], false) := by
      show Lib.cut (ip6S x) [58, 58] = _
      unfold Lib.cut
      rw [hix, if_neg (by omega)]
    unfold ip6R
    rw [hcut]
    simp only
    rw [show rdQ.mk (ip6S x) = B (colon ((ns x).map hexN)) by rw [e]; rfl, groupsR_back _ hn, h2]
    rw [show groupsR (rdQ.mk []) = some [] from rfl]
    simp only [Bool.false_eq_true, if_false, List.length_nil, Nat.add_zero]
    rw [if_pos h, List.append_nil]
  · have hA : ∀ n ∈ (ns x).take a, n < 65536 := fun n hn' => hn n (List.mem_of_mem_take hn')
    have hC : ∀ n ∈ (ns x).drop (a + m), n < 65536 := fun n hn' => hn n (List.mem_of_mem_drop hn')
    have hix : Lib.index (ip6S x) [58, 58] = ((colon (((ns x).take a).map hexN)).length : Int) := by rw [e]; exact index_two _ _ (tame_colon _ (good_hex _ hA))
    have hcut : Lib.cut (B (ip6S x)).data.toList [58, 58] = (colon (((ns x).take a).map hexN), colon (((ns x).drop (a + m)).map hexN), true) := by
      show Lib.cut (ip6S x) [58, 58] = _
      unfold Lib.cut
      rw [hix, if_pos (by omega), Int.toNat_natCast, e]
      simp
    have hla : ((ns x).take a).length = a := by rw [List.length_take, hl]; omega
    have hlc : ((ns x).drop (a + m)).length = 8 - (a + m) := by rw [List.length_drop, hl]
    have hlm : (((ns x).drop a).take m).length = m := by rw [List.length_take, List.length_drop, hl]; omega
    unfold ip6R
    rw [hcut]
    simp only
    rw [show rdQ.mk (colon (((ns x).take a).map hexN)) = B (colon (((ns x).take a).map hexN)) from rfl, show rdQ.mk (colon (((ns x).drop (a + m)).map hexN)) = B (colon (((ns x).drop (a + m)).map hexN)) from rfl]
    rw [groupsR_back _ hA, groupsR_back _ hC]
    simp only [if_true]
    rw [flat_len, flat_len, hla, hlc, if_neg (by omega)]
    congr 1
    have hx : ns x = (ns x).take a ++ (((ns x).drop a).take m ++ (ns x).drop (a + m)) := by
      rw [show (ns x).drop (a + m) = ((ns x).drop a).drop m by rw [List.drop_drop], List.take_append_drop, List.take_append_drop]
    have hf : x = ((ns x).take a).flatMap two ++ ((((ns x).drop a).take m).flatMap two ++ ((ns x).drop (a + m)).flatMap two) := by
      rw [← List.flatMap_append, ← List.flatMap_append, ← hx, h2]
    rw [flat_zero _ hz, hlm] at hf
    rw [show 16 - (2 * a + 2 * (8 - (a + m))) = 2 * m by omega, List.append_assoc]
    exact hf.symm
end Go.Proofs.YtkcpbjoolfojjaaGreatDoor.rdAd
namespace Go.Proofs.YtkcpbjoolfojjaaGreatDoor.rdK
open Go.RowKit Go.Proofs.YtkcpbjoolfojjaaGreatDoor.kit Go.Proofs.YtkcpbjoolfojjaaGreatDoor.nspec Go.Proofs.YtkcpbjoolfojjaaGreatDoor.bits Go.Proofs.YtkcpbjoolfojjaaGreatDoor.fld Go.Proofs.YtkcpbjoolfojjaaGreatDoor.setP Go.Proofs.YtkcpbjoolfojjaaGreatDoor.rdP Go.Proofs.YtkcpbjoolfojjaaGreatDoor.rdQ
set_option linter.unusedVariables false

theorem bit_some (c : UInt8) (h : c ≠ 0) : ∃ i, i < 8 ∧ c.toNat / 2 ^ (7 - i) % 2 = 1 := by
  have key : ∀ n : Fin 256, n.val ≠ 0 → ∃ i : Fin 8, n.val / 2 ^ (7 - i.val) % 2 = 1 := by decide +kernel
  obtain ⟨i, hi⟩ := key ⟨c.toNat, c.toNat_lt⟩ (fun e => h (UInt8.toNat_inj.1 (by simpa using e)))
  exact ⟨i.val, i.isLt, hi⟩
theorem byte_bits {c d : UInt8} (h : ∀ i, i < 8 → c.toNat / 2 ^ (7 - i) % 2 = d.toNat / 2 ^ (7 - i) % 2) : c = d := by
  have h0 := h 0 (by omega); have h1 := h 1 (by omega); have h2 := h 2 (by omega); have h3 := h 3 (by omega)
  have h4 := h 4 (by omega); have h5 := h 5 (by omega); have h6 := h 6 (by omega); have h7 := h 7 (by omega)
  have hc := c.toNat_lt; have hd := d.toNat_lt
  simp at h0 h1 h2 h3 h4 h5 h6 h7
  exact UInt8.toNat_inj.1 (by omega)
/-- a row of bits ends with a byte that isn't nought -/
def Row (r : Bs) : Prop := 1 ≤ r.length ∧ r.length ≤ 32 ∧ r.getD (r.length - 1) 0 ≠ 0
theorem row_last {r : Bs} (h : Row r) : ∃ k, bitOf r k = 1 ∧ 8 * (r.length - 1) ≤ k ∧ k < 256 := by
  obtain ⟨h1, h2, h3⟩ := h
  obtain ⟨i, hi, hb⟩ := bit_some _ h3
  refine ⟨8 * (r.length - 1) + i, ?_, by omega, by omega⟩
  unfold bitOf
  rw [show (8 * (r.length - 1) + i) / 8 = r.length - 1 by omega, show (8 * (r.length - 1) + i) % 8 = i by omega]
  exact hb
theorem bit_in {r : Bs} (h : Row r) {k : Nat} (hk : bitOf r k = 1) : k < 256 := by
  obtain ⟨h1, h2, h3⟩ := h
  rcases Nat.lt_or_ge k (8 * r.length) with h | h
  · omega
  · rw [bitOf_out h] at hk; omega
theorem row_eq {r s : Bs} (hr : Row r) (hs : Row s) (h : ∀ k, bitOf r k = 1 ↔ bitOf s k = 1) : r = s := by
  have len : ∀ {r s : Bs}, Row r → Row s → (∀ k, bitOf r k = 1 ↔ bitOf s k = 1) → s.length ≤ r.length := by
    intro r s hr hs h
    obtain ⟨k, hk, hk2, _⟩ := row_last hs
    rcases Nat.lt_or_ge k (8 * r.length) with h3 | h3
    · have := hs.1; omega
    · have := (h k).2 hk
      rw [bitOf_out h3] at this; omega
  have hl : r.length = s.length := Nat.le_antisymm (len hs hr (fun k => (h k).symm)) (len hr hs h)
  apply List.ext_getElem hl
  intro j h1 h2
  apply byte_bits
  intro i hi
  have h3 := h (8 * j + i)
  unfold bitOf at h3
  rw [show (8 * j + i) / 8 = j by omega, show (8 * j + i) % 8 = i by omega] at h3
  rw [List.getD_eq_getElem?_getD, List.getD_eq_getElem?_getD, List.getElem?_eq_getElem h1, List.getElem?_eq_getElem h2] at h3
  simp only [Option.getD_some] at h3
  obtain ⟨x, hx⟩ : ∃ x, r[j].toNat / 2 ^ (7 - i) = x := ⟨_, rfl⟩
  obtain ⟨y, hy⟩ : ∃ y, s[j].toNat / 2 ^ (7 - i) = y := ⟨_, rfl⟩
  rw [hx, hy] at h3 ⊢
  omega
theorem types_step {f : Nat} {last : Int} {out : List Nat} {b n : UInt8} {m : Bs} {l : List Nat} (h : typesF (f + 1) last out (b :: n :: m) = some l) : last < (b.toNat : Int) ∧ n.toNat ≤ m.length ∧ Row (m.take n.toNat) ∧ (m.take n.toNat).length = n.toNat ∧ typesF f (b.toNat : Int) (out ++ blockL b.toNat (m.take n.toNat)) (m.drop n.toNat) = some l := by
  simp only [typesF] at h
  split at h
  · cases h
  · rename_i hc
    have hl : (m.take n.toNat).length = n.toNat := by rw [List.length_take]; omega
    have h0 : ¬ m.getD (n.toNat - 1) 0 = 0 := fun e => hc (.inr (.inr (.inr (.inr e))))
    refine ⟨by omega, by omega, ⟨by omega, by omega, ?_⟩, hl, h⟩
    rw [hl]
    rw [List.getD_eq_getElem?_getD, List.getElem?_take, if_pos (by omega), ← List.getD_eq_getElem?_getD]
    exact h0
/-- what is among the types -/
theorem types_mem : ∀ (f : Nat) (last : Int) (out : List Nat) (x : Bs) (l : List Nat), typesF f last out x = some l → (∀ t ∈ out, t ∈ l) ∧ ∀ t ∈ l, t ∈ out ∨ (last < ((t / 256 : Nat) : Int) ∧ t ≤ 65535)
  | 0, _, _, _, _, h => by simp [typesF] at h
  | f + 1, last, out, [], l, h => by
    simp only [typesF, Option.some.injEq] at h
    subst h
    exact ⟨fun _ h => h, fun _ h => .inl h⟩
  | f + 1, last, out, [b], l, h => by simp [typesF] at h
  | f + 1, last, out, b :: n :: m, l, h => by
    obtain ⟨h1, h2, h3, h4, h5⟩ := types_step h
    obtain ⟨m1, m2⟩ := types_mem f _ _ _ _ h5
    refine ⟨fun t ht => m1 t (by simp [ht]), fun t ht => ?_⟩
    have hb := b.toNat_lt
    rcases m2 t ht with h6 | h6
    · rcases List.mem_append.1 h6 with h7 | h7
      · exact .inl h7
      · obtain ⟨k, hk, rfl⟩ := (mem_block _ _ _).1 h7
        have := bit_in h3 hk
        exact .inr ⟨by omega, by omega⟩
    · exact .inr ⟨by omega, h6.2⟩
/-- the first block's own -/
theorem block_own {f : Nat} {last : Int} {out : List Nat} {b n : UInt8} {m : Bs} {l : List Nat} (h : typesF (f + 1) last out (b :: n :: m) = some l) (ho : ∀ t ∈ out, ((t / 256 : Nat) : Int) ≤ last) (k : Nat) (hk : k < 256) : b.toNat * 256 + k ∈ l ↔ bitOf (m.take n.toNat) k = 1 := by
  obtain ⟨h1, h2, h3, h4, h5⟩ := types_step h
  obtain ⟨m1, m2⟩ := types_mem f _ _ _ _ h5
  constructor
  · intro ht
    rcases m2 _ ht with h6 | h6
    · rcases List.mem_append.1 h6 with h7 | h7
      · have := ho _ h7; omega
      · obtain ⟨j, hj, e⟩ := (mem_block _ _ _).1 h7
        have : j = k := by omega
        subst this; exact hj
    · omega
  · intro hb
    exact m1 _ (List.mem_append.2 (.inr ((mem_block _ _ _).2 ⟨k, hb, rfl⟩)))
theorem types_inj : ∀ (f g : Nat) (last : Int) (out out' : List Nat) (x y : Bs) (l l' : List Nat), typesF f last out x = some l → typesF g last out' y = some l' → (∀ t ∈ out, ((t / 256 : Nat) : Int) ≤ last) → (∀ t ∈ out', ((t / 256 : Nat) : Int) ≤ last) → (∀ t : Nat, last < ((t / 256 : Nat) : Int) → (t ∈ l ↔ t ∈ l')) → x = y
  | 0, _, _, _, _, _, _, _, _, h, _, _, _, _ => by simp [typesF] at h
  | _ + 1, 0, _, _, _, _, _, _, _, _, h, _, _, _ => by simp [typesF] at h
  | f + 1, g + 1, last, out, out', [], [], _, _, _, _, _, _, _ => rfl
  | f + 1, g + 1, last, out, out', [b], _, _, _, h, _, _, _, _ => by simp [typesF] at h
  | f + 1, g + 1, last, out, out', _, [b], _, _, _, h, _, _, _ => by simp [typesF] at h
  | f + 1, g + 1, last, out, out', [], b :: n :: m, l, l', h, h', ho, ho', hm => by
    exfalso
    obtain ⟨h1, h2, h3, h4, h5⟩ := types_step h'
    obtain ⟨k, hk, _, hk2⟩ := row_last h3
    have ht := (block_own h' ho' k hk2).2 hk
    have ht2 := (hm (b.toNat * 256 + k) (by omega)).2 ht
    simp only [typesF, Option.some.injEq] at h
    subst h
    have := ho _ ht2; omega
  | f + 1, g + 1, last, out, out', b :: n :: m, [], l, l', h, h', ho, ho', hm => by
    exfalso
    obtain ⟨h1, h2, h3, h4, h5⟩ := types_step h
    obtain ⟨k, hk, _, hk2⟩ := row_last h3
    have ht := (block_own h ho k hk2).2 hk
    have ht2 := (hm (b.toNat * 256 + k) (by omega)).1 ht
    simp only [typesF, Option.some.injEq] at h'
    subst h'
    have := ho' _ ht2; omega
  | f + 1, g + 1, last, out, out', b :: n :: m, b' :: n' :: m', l, l', h, h', ho, ho', hm => by
    obtain ⟨h1, h2, h3, h4, h5⟩ := types_step h
    obtain ⟨i1, i2, i3, i4, i5⟩ := types_step h'
    have less : ∀ {f g : Nat} {out out' : List Nat} {b n b' n' : UInt8} {m m' : Bs} {l l' : List Nat}, typesF (f + 1) last out (b :: n :: m) = some l → typesF (g + 1) last out' (b' :: n' :: m') = some l' → (∀ t ∈ out, ((t / 256 : Nat) : Int) ≤ last) → (∀ t ∈ out', ((t / 256 : Nat) : Int) ≤ last) → (∀ t : Nat, last < ((t / 256 : Nat) : Int) → (t ∈ l ↔ t ∈ l')) → b'.toNat ≤ b.toNat := by
      intro f g out out' b n b' n' m m' l l' h h' ho ho' hm
      obtain ⟨h1, h2, h3, h4, h5⟩ := types_step h
      obtain ⟨i1, i2, i3, i4, i5⟩ := types_step h'
      obtain ⟨k, hk, _, hk2⟩ := row_last h3
      have ht := (hm (b.toNat * 256 + k) (by omega)).1 ((block_own h ho k hk2).2 hk)
      rcases (types_mem _ _ _ _ _ i5).2 _ ht with h6 | h6
      · rcases List.mem_append.1 h6 with h7 | h7
        · have := ho' _ h7; omega
        · obtain ⟨j, hj, e⟩ := (mem_block _ _ _).1 h7
          have := bit_in i3 hj
          omega
      · omega
    have hbb : b = b' := UInt8.toNat_inj.1 (Nat.le_antisymm (less h' h ho' ho (fun t ht => (hm t ht).symm)) (less h h' ho ho' hm))
    subst hbb
    have hrow : m.take n.toNat = m'.take n'.toNat := by
      apply row_eq h3 i3
      intro k
      by_cases hk : k < 256
      · rw [← block_own h ho k hk, ← block_own h' ho' k hk]
        exact hm _ (by omega)
      · constructor
        · intro e; exact absurd (bit_in h3 e) hk
        · intro e; exact absurd (bit_in i3 e) hk
    have hnn : n = n' := UInt8.toNat_inj.1 (by rw [← h4, ← i4, hrow])
    subst hnn
    have hout : ∀ t ∈ blockL b.toNat (m.take n.toNat), ((t / 256 : Nat) : Int) ≤ b.toNat := by
      intro t ht
      obtain ⟨j, hj, rfl⟩ := (mem_block _ _ _).1 ht
      have := bit_in h3 hj
      omega
    have hrest := types_inj f g _ _ _ _ _ _ _ h5 i5
      (fun t ht => by rcases List.mem_append.1 ht with h6 | h6
                      · have := ho t h6; omega
                      · exact hout t h6)
      (fun t ht => by rcases List.mem_append.1 ht with h6 | h6
                      · have := ho' t h6; omega
                      · rw [← hrow] at h6; exact hout t h6)
      (fun t ht => hm t (by omega))
    rw [← List.take_append_drop n.toNat m, ← List.take_append_drop n.toNat m', hrow, hrest]
/-- the types of a set make it again -/
theorem set_back {x : Bs} {l : List Nat} (h : typesS x = some l) : setL (sortL (l.map fun t : Nat => (t : Int))) = x ∧ ∀ t ∈ l, 1 ≤ t ∧ t ≤ 65535 := by
  unfold typesS at h
  cases hf : typesF (x.length + 1) (-1) [] x with
  | none => rw [hf] at h; cases h
  | some l1 =>
    rw [hf] at h
    simp only at h
    split at h
    · cases h
    · rename_i h0
      have e : l1 = l := by simpa using h
      subst e
      have hr : ∀ t ∈ l1, 1 ≤ t ∧ t ≤ 65535 := by
        intro t ht
        refine ⟨?_, ?_⟩
        · rcases Nat.eq_zero_or_pos t with e | e
          · subst e; exact absurd ht h0
          · exact e
        · rcases (types_mem _ _ _ _ _ hf).2 t ht with h6 | h6
          · simp at h6
          · exact h6.2
      refine ⟨?_, hr⟩
      obtain ⟨l2, g1, g2, g3, _⟩ := set_types (l1.map fun t : Nat => (t : Int))
      unfold typesS at g1
      cases hg : typesF ((setL (sortL (l1.map fun t : Nat => (t : Int)))).length + 1) (-1) [] (setL (sortL (l1.map fun t : Nat => (t : Int)))) with
      | none => rw [hg] at g1; cases g1
      | some l3 =>
        rw [hg] at g1
        simp only at g1
        split at g1
        · cases g1
        · have e3 : l3 = l2 := by simpa using g1
          subst e3
          refine types_inj _ _ _ _ _ _ _ _ _ hg hf (fun t ht => by simp at ht) (fun t ht => by simp at ht) (fun t _ => ?_)
          rw [g2 t]
          constructor
          · rintro ⟨h6, _⟩
            obtain ⟨u, hu, e⟩ := List.mem_map.1 h6
            have : u = t := by omega
            subst this; exact hu
          · intro ht
            have := hr t ht
            exact ⟨List.mem_map.2 ⟨t, ht, rfl⟩, by unfold isT; omega⟩
end Go.Proofs.YtkcpbjoolfojjaaGreatDoor.rdK
namespace Go.Proofs.YtkcpbjoolfojjaaGreatDoor.rdBk
open Go.RowKit Go.Proofs.YtkcpbjoolfojjaaGreatDoor.kit Go.Proofs.YtkcpbjoolfojjaaGreatDoor.nspec Go.Proofs.YtkcpbjoolfojjaaGreatDoor.val Go.Proofs.YtkcpbjoolfojjaaGreatDoor.bits Go.Proofs.YtkcpbjoolfojjaaGreatDoor.fld Go.Proofs.YtkcpbjoolfojjaaGreatDoor.tname Go.Proofs.YtkcpbjoolfojjaaGreatDoor.to32 Go.Proofs.YtkcpbjoolfojjaaGreatDoor.showA Go.Proofs.YtkcpbjoolfojjaaGreatDoor.showB Go.Proofs.YtkcpbjoolfojjaaGreatDoor.dshow Go.Proofs.YtkcpbjoolfojjaaGreatDoor.rdP Go.Proofs.YtkcpbjoolfojjaaGreatDoor.rdE Go.Proofs.YtkcpbjoolfojjaaGreatDoor.rdAd
open Go.Proofs.YtkcpbjoolfojjaaGreatDoor.spS (textW GoodW close_quote split_join splitS)
open Go.Proofs.YtkcpbjoolfojjaaGreatDoor.rdQ (numR ip4R ip6R lenR someR kindR saltR hashR oneW looseW hostW restR textsL textsR kindsL kindsR fieldR fieldsR genericR isSign fin wholeR readD)
set_option linter.unusedVariables false

/-- a row of texts as words -/
def textsO : Nat → Bs → List Wo
  | 0, _ => []
  | _ + 1, [] => []
  | f + 1, c :: r => ⟨B ((r.take c.toNat).flatMap quoteB), true⟩ :: textsO f (r.drop c.toNat)
/-- the words of a field -/
def woF : Fld → Bs → List Wo
  | .text, x => [⟨B ((x.drop 1).flatMap quoteB), true⟩]
  | .tail, x => [⟨B (x.flatMap quoteB), true⟩]
  | .texts, x => textsO (x.length + 1) x
  | f, x => (showF f x).map fun s => ⟨B s, false⟩
theorem textsO_show : ∀ (f : Nat) (x : Bs), (textsO f x).map textW = textsF2 f x
  | 0, _ => rfl
  | _ + 1, [] => rfl
  | f + 1, c :: r => by
    rw [textsO, textsF2, List.map_cons, textsO_show f]; rfl
theorem plain_show (l : List Bs) : (l.map fun s => (⟨B s, false⟩ : Wo)).map textW = l := by
  rw [List.map_map]
  have : (textW ∘ fun s => (⟨B s, false⟩ : Wo)) = id := rfl
  rw [this, List.map_id]
theorem woF_show (f : Fld) (x : Bs) : (woF f x).map textW = showF f x := by
  cases f with
  | text => rfl
  | tail => rfl
  | texts => exact textsO_show _ _
  | _ => exact plain_show _

/-! bytes of a plain word -/
def fine (s : Bs) : Prop := s ≠ [] ∧ (∀ c ∈ s, c ≠ 32) ∧ s.head? ≠ some 34
theorem fine_of {s : Bs} (h0 : s ≠ []) (h : ∀ c ∈ s, c ≠ 32 ∧ c ≠ 34) : fine s := by
  refine ⟨h0, fun c hc => (h c hc).1, fun e => ?_⟩
  exact (h 34 (List.mem_of_head? e)).2 rfl
theorem good_plain {s : Bs} (h : fine s) : GoodW ⟨B s, false⟩ := h
theorem good_quote (d : Bs) : GoodW ⟨B (d.flatMap quoteB), true⟩ := fun T => close_quote d T
theorem val_fine {n : Nat} {val : UInt8 → Option Nat} {s : Bs} {l : List Nat} (h : back.spreadS n val s = some l) (h1 : val 32 = none) (h2 : val 34 = none) : ∀ c ∈ s, c ≠ 32 ∧ c ≠ 34 := fun c hc =>
  ⟨fun e => last_ne h c hc (by rw [e]; exact h1), fun e => last_ne h c hc (by rw [e]; exact h2)⟩
theorem hex_fine (d : Bs) : ∀ c ∈ hexS d, c ≠ 32 ∧ c ≠ 34 := by
  obtain ⟨z, hz, e⟩ := order32.dec_enc 4 set16 val16 (by omega) val16_letter (bitsL d).length (bitsL d) (Nat.le_refl _) (coded.bitsL_01 d)
  exact val_fine e (by decide) (by decide)
theorem b64_fine (d : Bs) : ∀ c ∈ b64S d, c ≠ 32 ∧ c ≠ 34 := by
  obtain ⟨z, hz, e⟩ := order32.dec_enc 6 set64 val64 (by omega) val64_letter (bitsL d).length (bitsL d) (Nat.le_refl _) (coded.bitsL_01 d)
  intro c hc
  unfold b64S padS at hc
  rcases List.mem_append.1 hc with hc | hc
  · exact val_fine e (by decide) (by decide) c hc
  · have := (List.mem_replicate.1 hc).2
    subst this; decide
theorem to32_fine (d : Bs) : ∀ c ∈ to32S d, c ≠ 32 ∧ c ≠ 34 := by
  obtain ⟨z, hz, e⟩ := order32.dec_enc 5 set32 back.val32 (by omega) order32.val_letter32 (bitsL d).length (bitsL d) (Nat.le_refl _) (coded.bitsL_01 d)
  exact val_fine e (by decide) (by decide)
theorem dec_fine (v : Nat) : ∀ c ∈ Lib.decDigits v, c ≠ 32 ∧ c ≠ 34 := fun c hc => ⟨dec_no (.inl (by decide)) v c hc, dec_no (.inl (by decide)) v c hc⟩
theorem ip4_fine (x : Bs) : ∀ c ∈ ip4S x, c ≠ 32 ∧ c ≠ 34 := by
  intro c hc
  have hd := fun v => dec_fine v c
  simp only [ip4S, List.mem_append, List.mem_singleton] at hc
  rcases hc with (((((hc | hc) | hc) | hc) | hc) | hc) | hc
  all_goals first | exact hd _ hc | (subst hc; decide)
theorem colon_mem {c : UInt8} {P : List Bs} (h : c ∈ colon P) : c = 58 ∨ ∃ p ∈ P, c ∈ p := by
  cases P with
  | nil => simp [colon] at h
  | cons x r =>
    rcases List.mem_append.1 h with h | h
    · exact .inr ⟨x, by simp, h⟩
    · obtain ⟨p, hp, hc⟩ := List.mem_flatMap.1 h
      rcases List.mem_cons.1 hc with hc | hc
      · exact .inl hc
      · exact .inr ⟨p, by simp [hp], hc⟩
theorem hexc_fine {c : UInt8} {l : List Nat} (hl : ∀ n ∈ l, n < 65536) (h : c ∈ colon (l.map hexN)) : c ≠ 32 ∧ c ≠ 34 := by
  rcases colon_mem h with rfl | ⟨p, hp, hc⟩
  · decide
  · obtain ⟨n, hn, rfl⟩ := List.mem_map.1 hp
    have := hexN_all (hl n hn) c hc
    exact ⟨fun e => this (by rw [e]; decide), fun e => this (by rw [e]; decide)⟩
theorem ip6_fine (x : Bs) : fine (ip6S x) := by
  have hn := ns_lt x
  rcases ip6_parts x with e | ⟨a, m, hm2, ham, hz, e⟩
  · refine fine_of ?_ (fun c hc => ?_)
    · rw [e]
      have h0 := (hexN_len (group x 0)).1
      intro e0
      have e1 : hexN (group x 0) ++ ((ns x).tail.map hexN).flatMap (fun y => (58 : UInt8) :: y) = [] := e0
      rw [(List.append_eq_nil_iff.1 e1).1] at h0
      simp at h0
    · rw [e] at hc; exact hexc_fine hn hc
  · refine fine_of (by rw [e]; simp) (fun c hc => ?_)
    rw [e] at hc
    rcases List.mem_append.1 hc with hc | hc
    · exact hexc_fine (fun n hn' => hn n (List.mem_of_mem_take hn')) hc
    · simp only [List.mem_cons] at hc
      rcases hc with hc | hc | hc
      · subst hc; decide
      · subst hc; decide
      · exact hexc_fine (fun n hn' => hn n (List.mem_of_mem_drop hn')) hc
theorem tname_fine {t : Int} (h1 : 1 ≤ t) (h2 : t ≤ 65535) : fine (tnameS t) := by
  by_cases hm : mnemS t = []
  · rw [tname_in hm h1 h2, itoa_nat (by omega)]
    refine fine_of (by simp) (fun c hc => ?_)
    rcases List.mem_append.1 hc with hc | hc
    · have : ∀ c ∈ ([84, 89, 80, 69] : Bs), c ≠ 32 ∧ c ≠ 34 := by decide
      exact this c hc
    · exact dec_fine _ c hc
  · rw [tname_yes rfl (by cases h : mnemS t with | nil => exact absurd h hm | cons _ _ => rfl)]
    refine fine_of hm ?_
    have hall : ∀ p ∈ mnemL, ∀ c ∈ p.2, c ≠ 32 ∧ c ≠ 34 := by decide
    unfold mnemS at hm ⊢
    cases hf : mnemL.find? (·.1 == t) with
    | none => rw [hf] at hm; exact absurd rfl hm
    | some p => exact hall p (List.mem_of_find?_eq_some hf)
theorem escB_fine (c : UInt8) : (∀ d ∈ escB c, d ≠ 32) ∧ (escB c).head? ≠ some 34 ∧ escB c ≠ [] := by
  have hc := c.toNat_lt
  rcases escB_cases c with ⟨h1, e⟩ | ⟨h1, e, h2⟩ | ⟨h1, e, h2, h3⟩
  · rw [e]
    refine ⟨fun d hd => ?_, by simp, by simp⟩
    have hsp : ∀ d ∈ spec8, d ≠ 32 := by decide
    simp only [List.mem_cons, List.not_mem_nil, or_false] at hd
    rcases hd with rfl | rfl
    · decide
    · exact hsp d (by simpa using h1)
  · rw [e]
    refine ⟨fun d hd e2 => ?_, by simp, by simp⟩
    obtain ⟨d1, d2, d3⟩ := roundsP.escL_dig c
    subst e2
    have hn : (32 : UInt8).toNat = 32 := rfl
    simp only [escL, List.mem_cons, List.not_mem_nil, or_false] at hd
    rcases hd with h | h | h | h
    · exact absurd h (by decide)
    · rw [← h] at d1; omega
    · rw [← h] at d2; omega
    · rw [← h] at d3; omega
  · rw [e]
    refine ⟨fun d hd e2 => ?_, fun e2 => ?_, by simp⟩
    · have hd' : d = c := by simpa using hd
      subst hd'; subst e2
      exact h2 (by decide)
    · have e3 : c = 34 := by simpa using e2
      subst e3
      exact absurd h1 (by decide)
theorem flat_head {x : Bs} (h : x ≠ []) : (x.flatMap escB).head? ≠ some 34 ∧ x.flatMap escB ≠ [] := by
  cases x with
  | nil => exact absurd rfl h
  | cons c r =>
    obtain ⟨_, h2, h3⟩ := escB_fine c
    rw [List.flatMap_cons]
    cases he : escB c with
    | nil => exact absurd he h3
    | cons d t =>
      rw [he] at h2
      exact ⟨by simpa using h2, by simp⟩
theorem lab_fine (ls : List Bs) : ∀ c ∈ showL ls, c ≠ 32 := by
  intro c hc
  obtain ⟨x, hx, hc⟩ := List.mem_flatMap.1 hc
  rcases List.mem_append.1 hc with hc | hc
  · obtain ⟨d, hd, hc⟩ := List.mem_flatMap.1 hc
    exact (escB_fine d).1 c hc
  · have : c = 46 := by simpa using hc
    subst this; decide
theorem showL_last : ∀ (ls : List Bs), ls ≠ [] → (showL ls).getLast? = some 46
  | [], h => absurd rfl h
  | [x], _ => by simp [showL, labSh]
  | x :: y :: r, _ => by
    have ih := showL_last (y :: r) (by simp)
    have e : showL (x :: y :: r) = labSh x ++ showL (y :: r) := by simp [showL]
    rw [e, List.getLast?_append, ih]; rfl
theorem show_fine {x : Bs} {ls : List Bs} (h : IsN x ls) : fine (showS x) ∧ (showS x).getLast? = some 46 := by
  unfold showS
  rw [split_iff.2 h]
  cases ls with
  | nil => exact ⟨⟨by simp, by decide, by decide⟩, rfl⟩
  | cons y r =>
    have hy := (okL_cons.1 h.2.1).1
    have hy0 : y ≠ [] := fun e => by rw [e] at hy; simp at hy
    obtain ⟨h1, h2⟩ := flat_head hy0
    refine ⟨⟨?_, lab_fine _, ?_⟩, showL_last _ (by simp)⟩
    · simp [showL, labSh]
    · show (labSh y ++ showL r).head? ≠ some 34
      unfold labSh
      cases he : y.flatMap escB with
      | nil => exact absurd he h2
      | cons d t => rw [he] at h1; simpa using h1
theorem host_name {x : Bs} (h : OkP .host x) : ∃ ls, IsN x ls := by
  unfold OkP at h
  simp only [takeS, hostS] at h
  cases hf : (List.range 256).find? (fun k => (split (x.take k)).isSome) with
  | none => rw [hf] at h; simp at h
  | some k =>
    rw [hf] at h
    have hk : k = x.length := by
      have h' : (k : Int) = x.length := by simpa using h
      omega
    subst hk
    have h1 := List.find?_some hf
    rw [List.take_length] at h1
    obtain ⟨ls, hls⟩ := Option.isSome_iff_exists.1 h1
    exact ⟨ls, split_iff.1 hls⟩
theorem kind_in {x : Bs} (h : OkP .kind x) : x.length = 2 ∧ 1 ≤ valL x 0 ∧ valL x 0 ≤ 65535 := by
  unfold OkP at h
  simp only [takeS] at h
  split at h
  · omega
  · rename_i hz
    have hl : x.length = 2 := by omega
    match x, hl with
    | [a, b], _ =>
      have ha := a.toNat_lt; have hb := b.toNat_lt
      refine ⟨rfl, ?_, ?_⟩
      · rcases Nat.eq_zero_or_pos (valL [a, b] 0) with h0 | h0
        · exfalso; apply hz
          simp only [valL] at h0
          have ea : a = 0 := UInt8.toNat_inj.1 (by show a.toNat = 0; omega)
          have eb : b = 0 := UInt8.toNat_inj.1 (by show b.toNat = 0; omega)
          subst ea; subst eb
          exact .inr ⟨rfl, rfl⟩
        · exact h0
      · simp only [valL]; omega
theorem textsO_good : ∀ (f : Nat) (x : Bs), ∀ w ∈ textsO f x, GoodW w
  | 0, _ => fun w hw => by simp [textsO] at hw
  | _ + 1, [] => fun w hw => by simp [textsO] at hw
  | f + 1, c :: r => fun w hw => by
    rw [textsO] at hw
    rcases List.mem_cons.1 hw with rfl | hw
    · exact good_quote _
    · exact textsO_good f _ w hw
theorem some_ne {x : Bs} (h : someS x = (x.length : Int)) : x ≠ [] := fun e => by subst e; simp [someS] at h
theorem hash_parts {x : Bs} (h : OkP .hash x) : ¬ (x = [] ∨ x.getD 0 0 = 0) ∧ textS x = (x.length : Int) := by
  unfold OkP at h
  simp only [takeS] at h
  split at h
  · omega
  · rename_i hz; exact ⟨hz, h⟩
theorem kinds_some {x : Bs} (h : OkP .kinds x) : ∃ l, typesS x = some l := by
  unfold OkP at h
  simp only [takeS] at h
  cases e : typesS x with
  | none => rw [if_pos e] at h; omega
  | some l => exact ⟨l, rfl⟩
/-- each word of a field stands in a line as it must -/
theorem woF_good {f : Fld} {x : Bs} (h : OkP f x) : ∀ w ∈ woF f x, GoodW w := by
  have one : ∀ {s : Bs}, fine s → ∀ w ∈ [s].map (fun s => (⟨B s, false⟩ : Wo)), GoodW w := by
    intro s hs w hw
    have : w = ⟨B s, false⟩ := by simpa using hw
    subst this; exact good_plain hs
  cases f with
  | num k => exact one (fine_of (dec_ne _) (dec_fine _))
  | ip4 => exact one (fine_of (by simp [ip4S]) (ip4_fine x))
  | ip6 => exact one (ip6_fine x)
  | host => obtain ⟨ls, hls⟩ := host_name h; exact one (show_fine hls).1
  | text => intro w hw; have : w = ⟨B ((x.drop 1).flatMap quoteB), true⟩ := by simpa [woF] using hw
            subst this; exact good_quote _
  | texts => exact textsO_good _ _
  | tail => intro w hw; have : w = ⟨B (x.flatMap quoteB), true⟩ := by simpa [woF] using hw
            subst this; exact good_quote _
  | hexes =>
    have h0 := some_ne h
    refine one (fine_of (fun e => ?_) (hex_fine x))
    have := hex_len x
    rw [e] at this
    exact h0 (List.eq_nil_of_length_eq_zero (by simp at this; omega))
  | b64 =>
    have h0 := some_ne h
    refine one (fine_of (fun e => ?_) (b64_fine x))
    have := b64_back h0
    rw [e] at this
    cases this
  | kind =>
    obtain ⟨_, h1, h2⟩ := kind_in h
    exact one (tname_fine (by omega) (by omega))
  | kinds =>
    obtain ⟨l, hl⟩ := kinds_some h
    have hr := (rdK.set_back hl).2
    intro w hw
    simp only [woF, showF, hl, Option.getD_some, List.map_map] at hw
    obtain ⟨t, ht, rfl⟩ := List.mem_map.1 hw
    have := hr t ht
    exact good_plain (tname_fine (by omega) (by omega))
  | salt =>
    obtain ⟨c, r, rfl, hc⟩ := text_parts h
    refine one ?_
    unfold saltS
    split
    · exact fine_of (by simp) (by decide)
    · rename_i hl
      refine fine_of (fun e => ?_) (hex_fine _)
      have := hex_len ((c :: r).drop 1)
      rw [e] at this
      simp only [List.drop_one, List.tail_cons, List.length_nil, List.length_cons] at this hl
      omega
  | hash =>
    obtain ⟨hz, ht⟩ := hash_parts h
    refine one (fine_of (fun e => ?_) (to32_fine _))
    have := hash_back hz ht
    rw [e] at this
    cases this

/-! what the words tell -/
theorem get_at (A C : List Wo) (w : Wo) : (A ++ w :: C)[A.length]? = some w := by simp
theorem one_ok {A C : List Wo} {s d : Bs} {f : ByteArray → Option Bs} (h : f (B s) = some d) : oneW (A ++ (⟨B s, false⟩ :: C)) A.length f = .ok (d, A.length + 1) := by
  unfold oneW
  rw [get_at]
  simp only [Bool.false_eq_true, if_false]
  rw [h]
theorem rest_ok {A : List Wo} {s d : Bs} {f : Bs → Option Bs} (h : f s = some d) (h0 : d ≠ []) : restR (A ++ [⟨B s, false⟩]) A.length f = .ok (d, A.length + 1) := by
  unfold restR
  rw [List.drop_left]
  have e : restW [(⟨B s, false⟩ : Wo)] A.length = .ok s := by
    simp only [restW, Bool.false_eq_true, if_false, List.append_nil]
  rw [e]
  simp only
  rw [h]
  unfold someR; simp only
  rw [if_neg h0]; simp
theorem loose_ok {A C : List Wo} {d e : Bs} {f : Option Bs → Option Bs} (h : f (some d) = some e) : looseW (A ++ (⟨B (d.flatMap quoteB), true⟩ :: C)) A.length f = .ok (e, A.length + 1) := by
  unfold looseW
  rw [get_at]
  simp only
  rw [loose_quote, h]
theorem texts_ok : ∀ (f at0 k : Nat) (x : Bs), 0 ≤ textsF f at0 x → textsL (textsO f x) k = .ok x
  | 0, at0, k, x, h => by simp [textsF] at h
  | f + 1, at0, k, [], h => rfl
  | f + 1, at0, k, c :: r, h => by
    simp only [textsF] at h
    split at h
    · omega
    · rename_i hc
      have ih := texts_ok f _ (k + 1) _ h
      rw [textsO, textsL]
      simp only
      rw [loose_quote, len_back (c := c) (by rw [List.length_take]; omega)]
      simp only
      rw [ih]
      simp
theorem kinds_ok : ∀ (l : List Nat) (k : Nat), (∀ t ∈ l, 1 ≤ t ∧ t ≤ 65535) → kindsL (l.map fun t => (⟨B (tnameS ((t : Nat) : Int)), false⟩ : Wo)) k = .ok (l.map fun t : Nat => (t : Int))
  | [], _, _ => rfl
  | t :: r, k, h => by
    have ht := h t (by simp)
    have ih := kinds_ok r (k + 1) (fun u hu => h u (by simp [hu]))
    have hb := type_back (t := (t : Int)) (by omega) (by omega)
    rw [List.map_cons, kindsL]
    have hno : ¬ (false = true ∨ (t : Int) = 0) := by
      rintro (h1 | h1)
      · cases h1
      · omega
    simp only
    rw [hb, if_neg hno, ih]
    rfl
def isRest : Fld → Bool
  | .texts => true
  | .hexes => true
  | .b64 => true
  | .kinds => true
  | _ => false
def okNum : Fld → Bool
  | .num k => k == 1 || k == 2 || k == 4
  | _ => true
/-- what is told of a field's bytes is read as them -/
theorem field_back {org base : List UInt8 → Prop} {o : Bs} {bl : List Bs} (ho : IsN o bl) {f : Fld} {x : Bs} (h : OkP f x) (hn : okNum f = true) (A C : List Wo) (hC : isRest f = true → C = []) :
    fieldR o (A ++ (woF f x ++ C)) A.length f = .ok (x, A.length + (woF f x).length) := by
  cases f with
  | num k =>
    have hk : k = 1 ∨ k = 2 ∨ k = 4 := by simpa [okNum, or_assoc] using hn
    have hl : x.length = k := by
      unfold OkP at h; simp only [takeS] at h
      split at h <;> omega
    exact one_ok (f := fun s => numR k s.data.toList) (num_back hk hl)
  | ip4 =>
    have hl : x.length = 4 := by
      unfold OkP at h; simp only [takeS] at h
      split at h <;> omega
    exact one_ok (ip4_back hl)
  | ip6 =>
    have hl : x.length = 16 := by
      unfold OkP at h; simp only [takeS] at h
      split at h <;> omega
    exact one_ok (ip6_back hl)
  | host =>
    obtain ⟨ls, hls⟩ := host_name h
    show hostW o (A ++ (⟨B (showS x), false⟩ :: C)) A.length = _
    unfold hostW
    rw [get_at]
    simp only [Bool.false_eq_true, if_false]
    rw [roundsP.read_show hls ho]
    rfl
  | text =>
    obtain ⟨c, r, rfl, hc⟩ := text_parts h
    exact loose_ok (len_back hc)
  | texts =>
    obtain rfl := hC rfl
    have h0 : 0 ≤ textsF (x.length + 1) 0 x := by
      have h' : textsF (x.length + 1) 0 x = (x.length : Int) := h
      rw [h']; omega
    have hx : x ≠ [] := fun e => by subst e; simp [textsF] at h0
    rw [List.append_nil]
    show textsR (A ++ textsO (x.length + 1) x) A.length = .ok (x, A.length + (textsO (x.length + 1) x).length)
    have hlen : 1 ≤ (textsO (x.length + 1) x).length := by
      cases x with
      | nil => exact absurd rfl hx
      | cons c r => simp [textsO]
    unfold textsR
    rw [List.length_append, if_neg (by omega), List.drop_left, texts_ok _ 0 _ x h0]
  | tail => exact loose_ok rfl
  | hexes =>
    obtain rfl := hC rfl
    exact rest_ok (hex_back x) (some_ne h)
  | b64 =>
    obtain rfl := hC rfl
    exact rest_ok (b64_back (some_ne h)) (some_ne h)
  | kind =>
    obtain ⟨hl, h1, h2⟩ := kind_in h
    refine one_ok (s := tnameS ((valL x 0 : Nat) : Int)) (f := fun s => kindR s.data.toList) ?_
    show kindR (tnameS ((valL x 0 : Nat) : Int)) = _
    unfold kindR
    rw [type_back (by omega) (by omega), if_neg (by omega), Int.toNat_natCast, big_val 2 x hl]
  | kinds =>
    obtain rfl := hC rfl
    obtain ⟨l, hl⟩ := kinds_some h
    obtain ⟨hb, hr⟩ := rdK.set_back hl
    have e : woF .kinds x = l.map fun t => (⟨B (tnameS ((t : Nat) : Int)), false⟩ : Wo) := by
      simp only [woF, showF, hl, Option.getD_some, List.map_map]; rfl
    rw [e, List.append_nil]
    show kindsR _ _ = _
    unfold kindsR
    rw [List.drop_left, kinds_ok l _ hr]
    simp only
    rw [hb, List.length_append]
  | salt => exact one_ok (f := fun s => saltR s.data.toList) (salt_back h)
  | hash =>
    obtain ⟨hz, ht⟩ := hash_parts h
    exact one_ok (f := fun s => hashR s.data.toList) (hash_back hz ht)
/-- the fields of a form: but the last takes all that is left -/
def goodFs : List Fld → Bool
  | [] => true
  | f :: fs => okNum f && (fs.isEmpty || !isRest f) && goodFs fs
def woL : List Fld → List Bs → List Wo
  | f :: fs, x :: p => woF f x ++ woL fs p
  | _, _ => []
theorem woL_show : ∀ (fs : List Fld) (p : List Bs), (woL fs p).map textW = wordsL fs p
  | [], _ => rfl
  | _ :: _, [] => rfl
  | f :: fs, x :: p => by rw [woL, wordsL, List.map_append, woF_show, woL_show fs p]
theorem fields_back {o : Bs} {bl : List Bs} (ho : IsN o bl) : ∀ (fs : List Fld) (p : List Bs) (A : List Wo), p.length = fs.length → (∀ (k : Nat) (f : Fld) (x : Bs), fs[k]? = some f → p[k]? = some x → OkP f x) → goodFs fs = true →
    fieldsR o (A ++ woL fs p) fs A.length = .ok (p.flatten, A.length + (woL fs p).length)
  | [], p, A, hl, _, _ => by
    have : p = [] := List.eq_nil_of_length_eq_zero hl
    subst this; simp [fieldsR, woL]
  | f :: fs, [], A, hl, _, _ => by simp at hl
  | f :: fs, x :: p, A, hl, hk, hg => by
    simp only [goodFs, Bool.and_eq_true, Bool.or_eq_true, Bool.not_eq_true'] at hg
    obtain ⟨⟨h1, h2⟩, h3⟩ := hg
    have hf := field_back (org := fun _ => True) (base := fun _ => True) ho (hk 0 f x rfl rfl) h1 A (woL fs p) (fun hr => by
      rcases h2 with h2 | h2
      · have : fs = [] := by simpa using h2
        subst this; rfl
      · rw [h2] at hr; cases hr)
    have ih := fields_back ho fs p (A ++ woF f x) (by simpa using hl) (fun k g y hg hy => hk (k + 1) g y hg hy) h3
    rw [List.append_assoc, List.length_append] at ih
    rw [woL, fieldsR, hf]
    simp only
    rw [ih, List.flatten_cons, List.length_append]
    simp only [Nat.add_assoc]
theorem split_flat : ∀ (fs : List Fld) (d : Bs) (p : List Bs) (r : Bs), fld.splitS fs d = some (p, r) → p.length = fs.length ∧ p.flatten ++ r = d
  | [], d, p, r, h => by
    simp only [fld.splitS, Option.some.injEq, Prod.mk.injEq] at h
    obtain ⟨rfl, rfl⟩ := h
    exact ⟨rfl, rfl⟩
  | f :: fs, d, p, r, h => by
    simp only [fld.splitS] at h
    split at h
    · cases h
    · cases hs : fld.splitS fs (d.drop (takeS f d).toNat) with
      | none => rw [hs] at h; cases h
      | some q =>
        rw [hs] at h
        simp only [Option.map_some, Option.some.injEq, Prod.mk.injEq] at h
        obtain ⟨rfl, rfl⟩ := h
        obtain ⟨h1, h2⟩ := split_flat fs _ q.1 q.2 hs
        refine ⟨by simp [h1], ?_⟩
        rw [List.flatten_cons, List.append_assoc, h2, List.take_append_drop]
/-- a form's first field -/
def headF : List Fld → Bool
  | .num _ :: _ => true
  | .ip4 :: _ => true
  | .ip6 :: _ => true
  | .host :: _ => true
  | .text :: _ => true
  | .texts :: _ => true
  | .kind :: _ => true
  | _ => false
def okO (o : Option (List Fld)) : Bool := match o with
  | none => true
  | some fs => goodFs fs && headF fs && decide (fs.length ≤ 9)
theorem okO_ite {c : Prop} [Decidable c] {a b : Option (List Fld)} (ha : okO a = true) (hb : okO b = true) : okO (if c then a else b) = true := by
  by_cases h : c
  · rw [if_pos h]; exact ha
  · rw [if_neg h]; exact hb
theorem form_good {t : Int} {fs : List Fld} (h : formS t = some fs) : goodFs fs = true ∧ headF fs = true ∧ fs.length ≤ 9 := by
  have key : okO (formS t) = true := by
    unfold formS
    repeat (refine okO_ite (by rfl) ?_)
    rfl
  rw [h] at key
  simpa [okO, and_assoc] using key
theorem sign_no {W : List Wo} {s : Bs} (h : s ≠ [92, 35]) : isSign (⟨B s, false⟩ :: W) = false := by
  simp [isSign, h]
theorem first_ok {f : Fld} {fs : List Fld} {x : Bs} (hh : headF (f :: fs) = true) (h : OkP f x) (hn : okNum f = true) (W : List Wo) : isSign (woF f x ++ W) = false := by
  cases f with
  | num k =>
    refine sign_no (s := Lib.decDigits (valL x 0)) fun e => ?_
    exact dec_no (c := 92) (.inr (by decide)) (valL x 0) 92 (by rw [e]; simp) rfl
  | ip4 =>
    refine sign_no (s := ip4S x) fun e => ?_
    have h46 : (46 : UInt8) ∈ ip4S x := by simp [ip4S]
    rw [e] at h46
    exact absurd h46 (by decide)
  | ip6 =>
    refine sign_no (s := ip6S x) fun e => ?_
    have hl : x.length = 16 := by
      unfold OkP at h; simp only [takeS] at h
      split at h <;> omega
    have hb := ip6_back hl
    rw [e] at hb
    exact absurd hb (by rw [show ip6R (B [92, 35]) = none from by decide +kernel]; simp)
  | host =>
    obtain ⟨ls, hls⟩ := host_name h
    refine sign_no (s := showS x) fun e => ?_
    have := (show_fine hls).2
    rw [e] at this
    exact absurd this (by decide)
  | text => rfl
  | texts =>
    cases x with
    | nil =>
      have h' : textsF 1 0 [] = ((0 : Nat) : Int) := h
      exact absurd h' (by decide)
    | cons c r => rfl
  | kind =>
    obtain ⟨hl, h1, h2⟩ := kind_in h
    refine sign_no (s := tnameS ((valL x 0 : Nat) : Int)) fun e => ?_
    have hb := type_back (t := ((valL x 0 : Nat) : Int)) (by omega) (by omega)
    rw [e, show typeofP.typeOfD [92, 35] = 0 from by decide +kernel] at hb
    omega
  | tail => cases hh
  | hexes => cases hh
  | b64 => cases hh
  | kinds => cases hh
  | salt => cases hh
  | hash => cases hh

/-- the words of what is told of data -/
def wosD (t : Int) (d : Bs) : List Wo := match formS t, partsS t d with
  | some fs, some p => woL fs p
  | _, _ => ⟨B [92, 35], false⟩ :: ⟨B (Lib.decDigits d.length), false⟩ :: (if d = [] then [] else [⟨B (hexS d), false⟩])
theorem check_parts {t : Int} {d : Bs} (h : checkS t d = 0) : holdsB t = true ∧ d.length ≤ 65535 ∧ ∃ p, partsS t d = some p := by
  unfold checkS at h
  split at h
  · cases h
  · rename_i h1
    split at h
    · cases h
    · rename_i h2
      split at h
      · cases h
      · rename_i h3
        refine ⟨by simpa using h1, by omega, ?_⟩
        cases hp : partsS t d with
        | none => exact absurd hp h3
        | some p => exact ⟨p, rfl⟩
theorem parts_form {t : Int} {d : Bs} {fs : List Fld} {p : List Bs} (hf : formS t = some fs) (hp : partsS t d = some p) : fld.splitS fs d = some (p, []) := by
  unfold partsS at hp
  rw [hf] at hp
  simp only at hp
  split at hp
  · rename_i q hq
    have : q = p := by simpa using hp
    subst this; exact hq
  · cases hp
theorem gen_show (d : Bs) : ([92, 35, 32] : Bs) ++ Lib.decDigits d.length ++ (if d = [] then [] else 32 :: hexS d) = joinS (((⟨B [92, 35], false⟩ : Wo) :: ⟨B (Lib.decDigits d.length), false⟩ :: (if d = [] then [] else [⟨B (hexS d), false⟩])).map textW) := by
  by_cases h0 : d = []
  · rw [if_pos h0, if_pos h0]
    simp [joinS, textW]
  · rw [if_neg h0, if_neg h0]
    simp [joinS, textW]
theorem show_words {t : Int} {d : Bs} (h : checkS t d = 0) : showDS t d = joinS ((wosD t d).map textW) ∧ ∀ w ∈ wosD t d, GoodW w := by
  obtain ⟨hb, hd, p, hp⟩ := check_parts h
  unfold showDS wosD
  rw [if_pos h, hp]
  cases hf : formS t with
  | none =>
    simp only
    refine ⟨gen_show d, fun w hw => ?_⟩
    rcases List.mem_cons.1 hw with rfl | hw
    · exact good_plain (fine_of (by simp) (by decide))
    · rcases List.mem_cons.1 hw with rfl | hw
      · exact good_plain (fine_of (dec_ne _) (dec_fine _))
      · split at hw
        · simp at hw
        · rename_i h0
          have : w = ⟨B (hexS d), false⟩ := by simpa using hw
          subst this
          refine good_plain (fine_of (fun e => ?_) (hex_fine d))
          have := hex_len d
          rw [e] at this
          exact h0 (List.eq_nil_of_length_eq_zero (by simp at this; omega))
  | some fs =>
    simp only
    refine ⟨by rw [woL_show], ?_⟩
    have hs := parts_form hf hp
    have hk := ok_parts fs d p [] hs
    have : ∀ (fs : List Fld) (p : List Bs), (∀ (k : Nat) (f : Fld) (x : Bs), fs[k]? = some f → p[k]? = some x → OkP f x) → ∀ w ∈ woL fs p, GoodW w := by
      intro fs
      induction fs with
      | nil => intro p _ w hw; simp [woL] at hw
      | cons f fs ih =>
        intro p hk w hw
        cases p with
        | nil => simp [woL] at hw
        | cons x p =>
          rw [woL] at hw
          rcases List.mem_append.1 hw with hw | hw
          · exact woF_good (hk 0 f x rfl rfl) w hw
          · exact ih p (fun k g y hg hy => hk (k + 1) g y hg hy) w hw
    exact this fs p hk
/-- what is told of data is told apart into its words -/
theorem split_words {t : Int} {d : Bs} (h : checkS t d = 0) : splitS (showDS t d) = some (wosD t d) := by
  obtain ⟨h1, h2⟩ := show_words h
  rw [h1]
  exact split_join _ h2
/-- DATA ARE READ BACK -/
theorem read_back {t : Int} {d o : Bs} {bl : List Bs} (h : checkS t d = 0) (ho : IsN o bl) : readD t (wosD t d) o = (d, 0, 0) := by
  obtain ⟨hb, hd, p, hp⟩ := check_parts h
  unfold readD
  rw [if_neg (by rw [hb]; simp), split_iff.2 ho, if_neg (by simp)]
  unfold wosD
  rw [hp]
  cases hf : formS t with
  | none =>
    simp only
    rw [if_pos (by rfl)]
    have hc := count_dec d.length 5 65535 (by omega) (dec_len 4 _ (by omega))
    have hg : genericR (⟨B [92, 35], false⟩ :: ⟨B (Lib.decDigits d.length), false⟩ :: (if d = [] then [] else [⟨B (hexS d), false⟩])) = .ok d := by
      unfold genericR
      have hr : restW ((((⟨B [92, 35], false⟩ : Wo) :: ⟨B (Lib.decDigits d.length), false⟩ :: (if d = [] then [] else [⟨B (hexS d), false⟩]))).drop 2) 2 = .ok (hexS d) := by
        show restW (if d = [] then [] else [⟨B (hexS d), false⟩]) 2 = _
        by_cases h0 : d = []
        · rw [if_pos h0, h0]; rfl
        · rw [if_neg h0]
          simp only [restW, Bool.false_eq_true, if_false, List.append_nil]
      rw [show (((⟨B [92, 35], false⟩ : Wo) :: ⟨B (Lib.decDigits d.length), false⟩ :: (if d = [] then [] else [⟨B (hexS d), false⟩])))[1]? = some ⟨B (Lib.decDigits d.length), false⟩ from rfl, hr]
      simp only [Bool.false_eq_true, if_false]
      rw [hc, if_neg (by omega), hex_back]
      simp
    rw [hg]
    simp only
    rw [if_pos h]
  | some fs =>
    simp only
    obtain ⟨g1, g2, g3⟩ := form_good hf
    have hs := parts_form hf hp
    have hk := ok_parts fs d p [] hs
    obtain ⟨hl, hfl⟩ := split_flat fs d p [] hs
    rw [List.append_nil] at hfl
    have hns : isSign (woL fs p) = false := by
      cases fs with
      | nil => cases g2
      | cons f fs =>
        cases p with
        | nil => simp at hl
        | cons x p =>
          simp only [goodFs, Bool.and_eq_true] at g1
          exact first_ok g2 (hk 0 f x rfl rfl) g1.1.1 _
    rw [hns, if_neg (by simp)]
    have hfb := fields_back ho fs p [] hl hk g1
    rw [List.nil_append, List.length_nil, Nat.zero_add, hfl] at hfb
    unfold wholeR
    rw [hf]
    simp only
    rw [hfb]
    simp only
    rw [if_neg (by omega), if_neg (by omega)]
    rfl
/-! how many words, and how long -/
theorem textsO_len : ∀ (f : Nat) (x : Bs), (textsO f x).length ≤ x.length ∧ ∀ w ∈ textsO f x, w.s.size ≤ 4 * x.length
  | 0, x => ⟨by simp [textsO], fun w hw => by simp [textsO] at hw⟩
  | f + 1, [] => ⟨by simp [textsO], fun w hw => by simp [textsO] at hw⟩
  | f + 1, c :: r => by
    obtain ⟨h1, h2⟩ := textsO_len f (r.drop c.toNat)
    rw [List.length_drop] at h1 h2
    rw [textsO]
    refine ⟨by rw [List.length_cons, List.length_cons]; omega, fun w hw => ?_⟩
    rcases List.mem_cons.1 hw with rfl | hw
    · show (B ((r.take c.toNat).flatMap quoteB)).size ≤ _
      rw [B_size]
      have := quote_len (r.take c.toNat)
      rw [List.length_take] at this
      rw [List.length_cons]
      show ((r.take c.toNat).flatMap quoteB).length ≤ _
      omega
    · have := h2 w hw
      rw [List.length_cons]; omega
theorem woF_len {f : Fld} {x : Bs} (h : OkP f x) (hn : okNum f = true) : (woF f x).length ≤ 8 * x.length + 1 ∧ ∀ w ∈ woF f x, w.s.size ≤ 100 + 8 * x.length + 1100 := by
  have one : ∀ {s : Bs} {n : Nat}, s.length ≤ n → ∀ w ∈ [s].map (fun s => (⟨B s, false⟩ : Wo)), w.s.size ≤ n := by
    intro s n hs w hw
    have : w = ⟨B s, false⟩ := by simpa using hw
    subst this
    show (B s).size ≤ n
    rw [B_size]; exact hs
  cases f with
  | num k =>
    have hk : k = 1 ∨ k = 2 ∨ k = 4 := by simpa [okNum, or_assoc] using hn
    have hl : x.length = k := by
      unfold OkP at h; simp only [takeS] at h
      split at h <;> omega
    refine ⟨by simp [woF, showF], one (s := Lib.decDigits (valL x 0)) ?_⟩
    have := dec_len 9 (valL x 0) (by have := valL_four (l := x) (by omega); omega)
    omega
  | ip4 => exact ⟨by simp [woF, showF], one (s := ip4S x) (by have := ip4_len x; omega)⟩
  | ip6 => exact ⟨by simp [woF, showF], one (s := ip6S x) (by have := ip6_len x; omega)⟩
  | host => exact ⟨by simp [woF, showF], one (s := showS x) (by have := showS_len x; omega)⟩
  | text =>
    refine ⟨by simp [woF], fun w hw => ?_⟩
    have : w = ⟨B ((x.drop 1).flatMap quoteB), true⟩ := by simpa [woF] using hw
    subst this
    show (B ((x.drop 1).flatMap quoteB)).size ≤ _
    rw [B_size]
    have := quote_len (x.drop 1)
    rw [List.length_drop] at this
    show ((x.drop 1).flatMap quoteB).length ≤ _
    omega
  | texts =>
    obtain ⟨h1, h2⟩ := textsO_len (x.length + 1) x
    refine ⟨by show (textsO (x.length + 1) x).length ≤ _; omega, fun w hw => ?_⟩
    have := h2 w hw
    omega
  | tail =>
    refine ⟨by simp [woF], fun w hw => ?_⟩
    have : w = ⟨B (x.flatMap quoteB), true⟩ := by simpa [woF] using hw
    subst this
    show (B (x.flatMap quoteB)).size ≤ _
    rw [B_size]
    have := quote_len x
    show (x.flatMap quoteB).length ≤ _
    omega
  | hexes => exact ⟨by simp [woF, showF], one (s := hexS x) (by have := hex_len x; omega)⟩
  | b64 =>
    refine ⟨by simp [woF, showF], one (s := b64S x) ?_⟩
    have h1 := pad_len (enc 6 set64 (bitsL x))
    have h2 := enc_len 6 set64 (by omega) (bitsL x)
    rw [bitsL_len] at h2
    unfold b64S; omega
  | kind => exact ⟨by simp [woF, showF], one (s := tnameS ((valL x 0 : Nat) : Int)) (by have := tname_len ((valL x 0 : Nat) : Int); omega)⟩
  | kinds =>
    obtain ⟨l, hl⟩ := kinds_some h
    have hc := types_count hl
    refine ⟨by simp only [woF, showF, hl, Option.getD_some, List.length_map]; omega, fun w hw => ?_⟩
    simp only [woF, showF, hl, Option.getD_some, List.map_map] at hw
    obtain ⟨t, ht, rfl⟩ := List.mem_map.1 hw
    have := tname_len ((t : Nat) : Int)
    show (B (tnameS ((t : Nat) : Int))).size ≤ _
    rw [B_size]
    show (tnameS ((t : Nat) : Int)).length ≤ _
    omega
  | salt =>
    refine ⟨by simp [woF, showF], one (s := saltS x) ?_⟩
    unfold saltS
    split
    · simp
    · have := hex_len (x.drop 1); rw [List.length_drop] at this; omega
  | hash =>
    refine ⟨by simp [woF, showF], one (s := to32S (x.drop 1)) ?_⟩
    have h2 := enc_len 5 set32 (by omega) (bitsL (x.drop 1))
    rw [bitsL_len, List.length_drop] at h2
    unfold to32S; omega
theorem woL_len : ∀ (fs : List Fld) (p : List Bs) (n : Nat), (∀ (k : Nat) (f : Fld) (x : Bs), fs[k]? = some f → p[k]? = some x → OkP f x) → goodFs fs = true → p.flatten.length ≤ n →
    (woL fs p).length ≤ 8 * p.flatten.length + fs.length ∧ ∀ w ∈ woL fs p, w.s.size ≤ 100 + 8 * n + 1100
  | [], p, n, _, _, _ => ⟨by simp [woL], fun w hw => by simp [woL] at hw⟩
  | f :: fs, [], n, _, _, _ => ⟨by simp [woL], fun w hw => by simp [woL] at hw⟩
  | f :: fs, x :: p, n, hk, hg, hn => by
    simp only [goodFs, Bool.and_eq_true] at hg
    rw [List.flatten_cons, List.length_append] at hn
    obtain ⟨a1, a2⟩ := woF_len (hk 0 f x rfl rfl) hg.1.1
    obtain ⟨b1, b2⟩ := woL_len fs p n (fun k g y hg hy => hk (k + 1) g y hg hy) hg.2 (by omega)
    rw [woL, List.flatten_cons]
    refine ⟨by simp only [List.length_append, List.length_cons]; omega, fun w hw => ?_⟩
    rcases List.mem_append.1 hw with hw | hw
    · have := a2 w hw; omega
    · exact b2 w hw
theorem wosD_len {t : Int} {d : Bs} (h : checkS t d = 0) : (wosD t d).length ≤ 1048576 ∧ ∀ w ∈ wosD t d, w.s.size ≤ 1048576 := by
  obtain ⟨hb, hd, p, hp⟩ := check_parts h
  unfold wosD
  rw [hp]
  cases hf : formS t with
  | none =>
    simp only
    refine ⟨?_, fun w hw => ?_⟩
    · split <;> simp
    · rcases List.mem_cons.1 hw with rfl | hw
      · show (B [92, 35]).size ≤ _
        decide
      · rcases List.mem_cons.1 hw with rfl | hw
        · show (B (Lib.decDigits d.length)).size ≤ _
          rw [B_size]
          have := dec_len 4 d.length (by omega)
          show (Lib.decDigits d.length).length ≤ _
          omega
        · split at hw
          · simp at hw
          · have : w = ⟨B (hexS d), false⟩ := by simpa using hw
            subst this
            show (B (hexS d)).size ≤ _
            rw [B_size]
            have := hex_len d
            show (hexS d).length ≤ _
            omega
  | some fs =>
    simp only
    obtain ⟨g1, g2, g3⟩ := form_good hf
    have hs := parts_form hf hp
    have hk := ok_parts fs d p [] hs
    obtain ⟨hl, hfl⟩ := split_flat fs d p [] hs
    rw [List.append_nil] at hfl
    obtain ⟨b1, b2⟩ := woL_len fs p d.length hk g1 (by rw [hfl]; exact Nat.le_refl _)
    rw [hfl] at b1
    exact ⟨by omega, fun w hw => by have := b2 w hw; omega⟩
theorem num4_of {f : Fld} (h : okNum f = true) : Num4 f := fun k e => by
  subst e
  have hk : k = 1 ∨ k = 2 ∨ k = 4 := by simpa [okNum, or_assoc] using h
  omega
theorem wordsL_tot : ∀ (fs : List Fld) (p : List Bs) (n : Nat), (∀ (k : Nat) (f : Fld) (x : Bs), fs[k]? = some f → p[k]? = some x → OkP f x) → goodFs fs = true → (∀ x ∈ p, x.length ≤ n) → totW (wordsL fs p) ≤ (1200 + 100 * n) * fs.length
  | [], p, n, _, _, _ => by simp [wordsL, totW]
  | f :: fs, [], n, _, _, _ => by simp [wordsL, totW]
  | f :: fs, x :: p, n, hk, hg, hn => by
    simp only [goodFs, Bool.and_eq_true] at hg
    have h1 := show_tot (hk 0 f x rfl rfl) (num4_of hg.1.1)
    have h2 := wordsL_tot fs p n (fun k g y hg hy => hk (k + 1) g y hg hy) hg.2 (fun y hy => hn y (by simp [hy]))
    have h3 := hn x (by simp)
    rw [wordsL, totW_append, List.length_cons, Nat.mul_add]
    omega
theorem show_size {t : Int} {d : Bs} (h : checkS t d = 0) : (showDS t d).length ≤ 1000000000 := by
  obtain ⟨hb, hd, p, hp⟩ := check_parts h
  unfold showDS
  rw [if_pos h, hp]
  cases hf : formS t with
  | none =>
    have h1 := dec_len 4 d.length (by omega)
    have h2 := hex_len d
    simp only
    split
    · simp only [List.length_append, List.length_cons, List.length_nil]; omega
    · simp only [List.length_append, List.length_cons, List.length_nil]; omega
  | some fs =>
    simp only
    obtain ⟨g1, g2, g3⟩ := form_good hf
    have hs := parts_form hf hp
    have hk := ok_parts fs d p [] hs
    obtain ⟨hl, hfl⟩ := split_flat fs d p [] hs
    rw [List.append_nil] at hfl
    have hx : ∀ x ∈ p, x.length ≤ 65535 := fun x hx => by
      have h1 : x.length ≤ p.flatten.length := (List.sublist_flatten_of_mem hx).length_le
      rw [hfl] at h1; omega
    have h1 := wordsL_tot fs p 65535 hk g1 hx
    have h2 := join_len (wordsL fs p)
    have h3 : (1200 + 100 * 65535) * fs.length ≤ (1200 + 100 * 65535) * 9 := Nat.mul_le_mul_left _ g3
    omega
end Go.Proofs.YtkcpbjoolfojjaaGreatDoor.rdBk
