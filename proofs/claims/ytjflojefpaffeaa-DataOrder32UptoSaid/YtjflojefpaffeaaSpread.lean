/- gazetteerref1.spread: walk. -/
import Derived.Test.YtjflojefpaffeaaBack
import Derived.Test.YtjflojefpaffeaaCoded
namespace Go.Proofs.Ytjflojefpaffeaa.spread
open Go.RowKit Go.Proofs.Ytjflojefpaffeaa.kit Go.Proofs.Ytjflojefpaffeaa.bits Go.Proofs.Ytjflojefpaffeaa.ints Go.Proofs.Ytjflojefpaffeaa.back Go.Proofs.Ytjflojefpaffeaa.low

def valA (al : List UInt8) (c : UInt8) : Option Nat := if Lib.indexByte al c < 0 then none else some (Lib.indexByte al c).toNat
theorem idx_lt : ∀ (l : List UInt8) (c : UInt8), -1 ≤ Lib.indexByte l c ∧ Lib.indexByte l c < l.length
  | [], c => by simp [Lib.indexByte]
  | b :: l, c => by
    have ih := idx_lt l c
    simp only [Lib.indexByte, List.length_cons]
    by_cases h : b = c
    · simp [h]
    · have h' : (b == c) = false := by simpa using h
      rw [h', if_neg (by simp)]
      by_cases h2 : Lib.indexByte l c = -1
      · rw [if_pos (by simpa using h2)]; omega
      · rw [if_neg (by simpa using h2)]; omega
/-- what spread leaves -/
def SpreadPost (w : World) (o : Option (List Nat)) (e : Ending) (w' : World) : Prop :=
  Below w.heap.size w w' ∧ ((o = none ∧ e = .returned (.tuple #[.slice none 0 0, .bool false])) ∨ ∃ l a c, o = some l ∧ e = .returned (.tuple #[.slice a l.length c, .bool true]) ∧ l.length ≤ c ∧ c ≤ maxLen ∧ RdN w' a l)
def mapA (A : List Nat) (o : Option (List Nat)) : Option (List Nat) := o.map (A ++ ·)
theorem mapA_app (A B : List Nat) (o : Option (List Nat)) : mapA A (o.map (B ++ ·)) = mapA (A ++ B) o := by cases o <;> simp [mapA]
theorem mapA_nil (o : Option (List Nat)) : mapA [] o = o := by cases o <;> simp [mapA]

set_option maxRecDepth 100000 in
set_option maxHeartbeats 2000000 in
theorem spread_any (s : ByteArray) (n : Nat) (al : ByteArray) (w : World) (hs : s.size ≤ 1099511627776) (hn : 1 ≤ n) (hn8 : n ≤ 8) (hal : al.size ≤ 256) :
    Calls Try.prog 79 #[.string s, .int .i64 (n : Int), .string al] w (SpreadPost w (spreadS n (valA al.data.toList) s.data.toList)) := by
  obtain ⟨i0, hi, hz0, hz1, hz2⟩ := info_parts infoInt
  obtain ⟨R, HR⟩ : ∃ R, Hid (mapA [] (spreadS n (valA al.data.toList) s.data.toList) = R) := ⟨_, Lib.hid rfl⟩
  rw [← mapA_nil (spreadS n _ _), HR.out]
  obtain ⟨n1, hn1⟩ : ∃ n1, n = n1 + 1 := ⟨n - 1, by omega⟩
  have HN1 := Lib.hid hn1
  go_enter Try.func79, Try.ntmps79
  go_wp2
  go_loopg [8, 9, 10, 11] (s.size + 1) (fun gas ov kv _ _ wr => ∃ (k : Nat) (A : List Nat), kv = .int .i64 k ∧ k ≤ s.size ∧ k + gas = s.size + 1 ∧ A.length = n * k ∧ Hid (mapA A (spreadS n (valA al.data.toList) (s.data.toList.drop k)) = R) ∧ wr.ownsRow w.heap.size 3 1 ov A.length (A.map bitV) ∧ Below w.heap.size w wr)
  case atStart => exact ⟨0, [], rfl, by omega, by omega, rfl, HR, World.ownsRow_nil _ _ _ _, Below.refl _ _⟩
  case round =>
    obtain ⟨k, A, rfl, hk, hkg, hAk, HW, hA, hB⟩ := hrel
    obtain ⟨gk', hgk'⟩ : ∃ g, g = gk := ⟨_, rfl⟩
    rw [← hgk'] at hkg
    have HK := Lib.hid hkg; clear hkg
    have HAK := Lib.hid hAk; clear hAk
    by_cases hlt : k < s.size
    · obtain ⟨c, hc⟩ : ∃ c, s[k] = c := ⟨_, rfl⟩
      have HDR := Lib.hid (drop_cons s k hlt)
      obtain ⟨i, hi⟩ : ∃ i, Lib.indexByte al.data.toList c = i := ⟨_, rfl⟩
      have hix := Try.strings_IndexByte al (c.toNat : Int) wr
      rw [show Lib.indexByte al.data.toList ((c.toNat : Int).toNat.toUInt8) = i from by rw [← hi]; simp] at hix
      have HIX := Lib.hid hix
      have hil := idx_lt al.data.toList c
      rw [hi, size_len] at hil
      obtain ⟨hi1, hi2⟩ := hil
      clear hix
      have hc256 := byte_lt c
      by_cases hneg : i < 0
      · have hvn : valA al.data.toList c = none := by unfold valA; rw [hi, if_pos hneg]
        have HN : Hid (R = none) := Lib.hid (by rw [← HW.out, HDR.out, hc, spread_cons_none hvn]; rfl)
        clear hvn hi
        have HC := Lib.hid hc
        go_wp2_with fail
        refine HIX.out.mono ?_
        rintro e v0 ⟨rfl, rfl⟩
        go_wp2
        go_ret2
        exact ⟨hB, .inl ⟨HN.out, rfl⟩⟩
      · obtain ⟨v, hv⟩ : ∃ v : Nat, i = v := ⟨i.toNat, by omega⟩
        subst hv
        have hvn : valA al.data.toList c = some v := by unfold valA; rw [hi, if_neg hneg]; simp
        have HS : Hid (mapA (A ++ tob v n) (spreadS n (valA al.data.toList) (s.data.toList.drop (k + 1))) = R) := Lib.hid (by rw [← HW.out, HDR.out, hc, spread_cons_some hvn, mapA_app])
        obtain ⟨T, hT⟩ : ∃ T, A ++ tob v n = T := ⟨_, rfl⟩
        rw [hT] at HS
        have HT : Hid (A ++ (tob v n ++ []) = T) := Lib.hid (by rw [List.append_nil, hT])
        have HTL : Hid (T.length = n * (k + 1)) := Lib.hid (by rw [← hT, List.length_append, HAK.out, tob_length, Nat.mul_add]; omega)
        clear hvn hi hT
        have HC := Lib.hid hc
        have hsub : Value.int .i64 ((n : Int) - 1) = Value.int .i64 (n1 : Int) := by congr 1; omega
        have hn18 : (n1 : Int) < 8 := by omega
        have hsh : Value.int .i64 (wrap64 (2 ^ n1)) = Value.int .i64 ((mOf n : Nat) : Int) := by
          rw [hn1]
          have h1 := mOf_le (n1 + 1) (by omega)
          have e : (2 : Int) ^ n1 = ((mOf (n1 + 1) : Nat) : Int) := by simp [mOf]
          rw [e, IntWalk.wrap64_in _ (by omega)]
        have hvd : decide ((v : Int) < 0) = false := by simp
        clear hc hn1
        go_wp2_with fail
        rw [HC.out]
        refine HIX.out.mono ?_
        rintro e v0 ⟨rfl, rfl⟩
        go_wp2
        have HSH := Lib.hid hsh
        clear hsub hsh
        go_loopg [8, 11] (n + 1) (fun gas ov mv wq => ∃ (r : Nat) (A : List Nat) (M : Nat), mv = .int .i64 M ∧ Hid (M = mOf r) ∧ r ≤ 8 ∧ r < gas ∧ Hid (A ++ (tob v r ++ []) = T) ∧ wq.ownsRow w.heap.size 3 1 ov A.length (A.map bitV) ∧ Below w.heap.size w wq)
        case atStart => exact ⟨n, A, mOf n, HSH.out, Lib.hid rfl, by omega, by omega, HT, hA, hB⟩
        case round =>
          clear hA hB HW
          obtain ⟨r, A', M, rfl, HM, hr, hrg, HV, hA', hB'⟩ := hrel
          cases r with
          | succ r =>
            have hM1 : (1 : Int) ≤ (M : Int) := by have := mOf_pos r; have := HM.out; omega
            have hMl : (M : Int) ≤ 128 := by have := mOf_le (r + 1) hr; have := HM.out; omega
            obtain ⟨M', hM'⟩ : ∃ M', M / 2 = M' := ⟨_, rfl⟩
            have HM' : Hid (M' = mOf r) := Lib.hid (by rw [← hM', HM.out, mOf_half])
            have hm2 : Value.int .i64 ((M : Int) / 2) = Value.int .i64 (M' : Int) := by congr 1; omega
            have HMM := Lib.hid hM'; clear hM'
            obtain ⟨q, hqq⟩ : ∃ q, v / M = q := ⟨_, rfl⟩
            have hq255 : (q : Int) ≤ 255 := by have := Nat.div_le_self v M; omega
            obtain ⟨d, hd⟩ : ∃ d, q % 2 = d := ⟨_, rfl⟩
            have HD : Hid ((A' ++ [d]) ++ (tob v r ++ []) = T) := Lib.hid (by
              have h1 := bit_step HV.out
              rw [← HM.out, hqq, hd] at h1; exact h1)
            have hqv : Value.int .i64 (wrap64 ((v : Int) / (M : Int))) = Value.int .i64 (q : Int) := by
              have e : (v : Int) / (M : Int) = (q : Int) := by rw [← hqq]; simp
              rw [e, IntWalk.wrap64_in _ (by omega)]
            have hdv : Value.int .i64 ((q : Int) % 2) = Value.int .i64 (d : Int) := by congr 1; omega
            have hAl : A'.length ≤ T.length := by rw [← HV.out]; simp
            have hTl := HTL.out
            have hnk : n * (k + 1) ≤ 8 * 1099511627776 := Nat.mul_le_mul hn8 (by omega)
            have hAs : A'.length + 1 ≤ 8 * 1099511627776 + 1 := by omega
            have hsz := hB'.size
            clear hd hTl hqq hnk
            go_wp2_with (at_builtin; refine wpList_append_own _ rfl _ _ 24 rfl w.heap.size 3 i0 (.int .i64 0) 1 8 Try.underlying24 hi hz0 hz1 hz2 rfl (by decide) _ _ _ rfl (hA'.alloc _) ⟨wr.heap.size, 0, none⟩ 1 1 [.int .i64 (d : Int)] rfl rfl ?c1 ?c2 ?c3 ?c4 ?c5 ?_)
            case c2 => simp [Value.oneCell']
            case c3 => unfold maxLen; omega
            case c4 => omega
            case c5 => omega
            intro v' w1 hown' hgrow _
            have hown2 := own_snocN hown'
            have hB2 := below_append hB' hsz hA' hgrow
            clear hown' hgrow hA' hqv hdv
            go_wp2
            go_roundg (gk - 1)
            case rel => exact ⟨r, _, _, rfl, HM', by omega, by omega, HD, hown2, hB2⟩
            case measure => omega
          | zero =>
            have hM0 : (M : Int) = 0 := by rw [HM.out]; rfl
            have hm0 : M = 0 := by omega
            clear hM0
            subst hm0
            have HN := HV.out
            have hAT : A' = T := by simpa [tob] using HN
            have HAT := Lib.hid hAT
            subst hAT
            go_wp2
            have hkg := HK.out
            have hTl := HTL.out
            go_roundg (gk' - 1)
            case rel => exact ⟨k + 1, A', by go_num, by omega, by omega, hTl, HS, hA', hB'⟩
            case measure => omega
    · have HN := HW.out
      rw [drop_end s k (by omega)] at HN
      have e : R = some A := by rw [← HN]; simp [mapA, spreadS]
      obtain ⟨a, c, rfl, hc1, hc2, hrd⟩ := RdN.of_own hA
      have HE := Lib.hid e
      clear e HN
      go_wp2
      go_ret2
      exact ⟨hB, .inr ⟨A, a, c, HE.out, rfl, hc1, hc2, hrd⟩⟩
end Go.Proofs.Ytjflojefpaffeaa.spread
