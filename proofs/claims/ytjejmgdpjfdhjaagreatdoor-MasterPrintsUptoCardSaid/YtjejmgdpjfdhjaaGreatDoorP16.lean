/- gazetteerref1.coded, To32: walks. How a text tells a name: plain. -/
import Derived.Test.YtjejmgdpjfdhjaaGreatDoorP12
import Derived.Test.YtjejmgdpjfdhjaaGreatDoorP8
import Derived.Test.YtjejmgdpjfdhjaaGreatDoorP7
import Derived.Laws.BytesArg
namespace Go.Proofs.YtjejmgdpjfdhjaaGreatDoor.coded
open Go.RowKit Go.Proofs.YtjejmgdpjfdhjaaGreatDoor.kit Go.Proofs.YtjejmgdpjfdhjaaGreatDoor.bits Go.Proofs.YtjejmgdpjfdhjaaGreatDoor.ints Go.Proofs.YtjejmgdpjfdhjaaGreatDoor.bld Go.Proofs.YtjejmgdpjfdhjaaGreatDoor.to32

theorem own_string {P : Program} {w : World} {base : Nat} {e : TypeId} {v : Value} {l : List UInt8} (h : w.ownsRow base e 1 v l.length (Lib.byteCells l)) (src dst e' : TypeId) (hs : P.underlying src = some (.slice e')) (he : P.underlying e' = some (.int .u8)) (hd : P.underlying dst = some .string) :
    (convert src dst v).run P w = .ok (.string ⟨l.toArray⟩) w := by
  rcases h.2 with ⟨rfl, h0⟩ | ⟨g, cap, cur, rfl, hb, hg, h1, h2, _, htake⟩
  · have : l = [] := List.eq_nil_of_length_eq_zero h0
    subst this
    exact run_convert_bytes_nil w src e' hs he _ _ dst hd
  · refine run_convert_bytes_back w src dst e' ⟨g, 0, none⟩ cap l hs he hd (fun j hj => ?_)
    exact h.cells (g := g) rfl j _ (by simp [Lib.byteCells, hj])

theorem own_snocB {w1 : World} {base : Nat} {e : TypeId} {v' : Value} {acc : List UInt8} {d : UInt8} (h : w1.ownsRow base e 1 v' (acc.length + 1) (Lib.byteCells acc ++ [.int .u8 (d.toNat : Int)])) : w1.ownsRow base e 1 v' (acc ++ [d]).length (Lib.byteCells (acc ++ [d])) := by
  rw [bytes_snoc]; simpa using h

def codeTo (l : List Nat) (n k : Nat) : Nat := ofb ((l ++ List.replicate n 0).take k)
theorem codeTo_succ (l : List Nat) (n k : Nat) (h : k < n) : codeTo l n (k + 1) = 2 * codeTo l n k + l.getD k 0 := by
  have hx : (l ++ List.replicate n 0)[k]? = some (l.getD k 0) := by
    rw [List.getElem?_append]
    by_cases hk : k < l.length
    · simp [hk]
    · rw [if_neg hk, List.getElem?_replicate, if_pos (by omega)]; simp [List.getD, List.getElem?_eq_none (by omega : l.length ≤ k)]
  unfold codeTo
  rw [List.take_add_one, hx, ofb_append]
  simp [ofb]; omega
theorem codeTo_lt (l : List Nat) (n : Nat) (hl : ∀ x ∈ l, x ≤ 1) : ∀ k, k ≤ n → codeTo l n k < 2 ^ k
  | 0, _ => by simp [codeTo, ofb]
  | k + 1, h => by
    have ih := codeTo_lt l n hl k (by omega)
    have hx : l.getD k 0 ≤ 1 := by
      rw [List.getD]
      cases hh : l[k]? with
      | none => simp
      | some x => simpa using hl x (List.mem_of_getElem? hh)
    rw [codeTo_succ l n k (by omega), Nat.pow_succ]; omega
theorem enc_code {n : Nat} {al A R : List UInt8} {l : List Nat} (h : A ++ enc n al l = R) (hn : 1 ≤ n) (hl : 0 < l.length) : (A ++ [al.getD (codeTo l n n) 0]) ++ enc n al (l.drop n) = R := by
  rw [enc_step al hn (List.length_pos_iff.1 hl)] at h
  rw [← h]; simp [codeTo]
theorem pow6 {n : Nat} (h : n ≤ 6) : 2 ^ n ≤ 64 := Nat.pow_le_pow_right (n := 2) (by omega) (show n ≤ 6 from h)

set_option maxRecDepth 100000 in
set_option maxHeartbeats 2000000 in
theorem coded_any (a : Option Addr) (c : Nat) (l : List Nat) (n : Nat) (al : ByteArray) (w : World) (hr : RdN w a l) (hc : l.length ≤ c) (hcm : c ≤ maxLen) (hl : l.length ≤ 8796093022208) (h1 : ∀ x ∈ l, x ≤ 1) (hn : 1 ≤ n) (hn6 : n ≤ 6) (hal : 2 ^ n ≤ al.size) :
    Calls Tryz.prog 40 #[.slice a l.length c, .int .i64 (n : Int), .string al] w fun e w' => e = .returned (.string ⟨(enc n al.data.toList l).toArray⟩) ∧ Below w.heap.size w w' := by
  obtain ⟨i0, hi, hz0, hz1, hz2⟩ := info_parts infoByte
  obtain ⟨R, HR⟩ : ∃ R, Hid (enc n al.data.toList l = R) := ⟨_, Lib.hid rfl⟩
  have hRl : R.length ≤ l.length := by rw [← HR.out]; exact enc_len n _ hn l
  rw [HR.out]
  have H := Lib.hid hr; clear hr
  have H1 := Lib.hid h1; clear h1
  have HAL := Lib.hid hal; clear hal
  unfold maxLen at hcm
  go_enter Tryz.func40, Tryz.ntmps40
  go_wp2
  go_loopg [0, 7, 8, 9] (l.length + 1) (fun gas bv ov _ _ wr => ∃ (l' : List Nat) (a' : Option Addr) (c' : Nat) (A : List UInt8), bv = .slice a' l'.length c' ∧ l'.length ≤ c' ∧ c' ≤ 9223372036854775807 ∧ l'.length ≤ l.length ∧ l'.length < gas ∧ Hid (RdN w a' l') ∧ Hid (∀ x ∈ l', x ≤ 1) ∧ Hid (A ++ enc n al.data.toList l' = R) ∧ wr.ownsRow w.heap.size 5 1 ov A.length (Lib.byteCells A) ∧ Below w.heap.size w wr)
  case atStart => exact ⟨l, a, c, [], rfl, hc, hcm, Nat.le_refl _, by omega, H, H1, HR, World.ownsRow_nil _ _ _ _, Below.refl _ _⟩
  case round =>
    obtain ⟨l', a', c', A, rfl, hc', hcm', hll, hlg, HRD, HB1, HW, hA, hB⟩ := hrel
    obtain ⟨gk', hgk'⟩ : ∃ g, g = gk := ⟨_, rfl⟩
    rw [← hgk'] at hlg
    have HK := Lib.hid hlg; clear hlg
    by_cases hpos : 0 < (l'.length : Int)
    · obtain ⟨g1, o1, rfl⟩ := HRD.out.addr (by omega)
      have HE := Lib.hid (enc_code HW.out hn (by omega))
      have hn1 : (1 : Int) ≤ (n : Int) := by omega
      have hpd : decide (0 < l'.length) = true := by simp; omega
      go_wp2
      go_loopg [8, 9] (n + 1) (fun gas vv kv wq => ∃ (k : Nat) (v : Nat), kv = .int .i64 k ∧ vv = .int .i64 v ∧ k ≤ n ∧ k + gas = n + 1 ∧ v < 64 ∧ Hid (v = codeTo l' n k) ∧ wq = wr)
      case atStart => exact ⟨0, 0, rfl, rfl, by omega, by omega, by omega, Lib.hid rfl, rfl⟩
      case round =>
        obtain ⟨k, v, rfl, rfl, hk, hkg, hv64, HV, rfl⟩ := hrel
        have HKG := Lib.hid hkg; clear hkg
        by_cases hlt : k < n
        · have hcl := codeTo_lt l' n HB1.out k hk
          have hcl2 := codeTo_lt l' n HB1.out (k + 1) hlt
          have hcs := codeTo_succ l' n k hlt
          have hp : 2 ^ (k + 1) ≤ 64 := pow6 (by omega)
          have hvk := HV.out
          rw [← hvk] at hcs
          obtain ⟨v', hv'⟩ : ∃ v', codeTo l' n (k + 1) = v' := ⟨_, rfl⟩
          rw [hv'] at hcs hcl2
          have HV' := Lib.hid hv'.symm
          have hv'64 : v' < 64 := by omega
          clear hcl hcl2 hp hvk hv'
          have HCS := Lib.hid hcs; clear hcs
          by_cases hkl : k < l'.length
          · obtain ⟨x, hx⟩ : ∃ x, l'[k]? = some x := ⟨_, List.getElem?_eq_getElem hkl⟩
            obtain ⟨g2, o2, he, hg1, hcl0⟩ := HRD.out _ x hx
            cases he
            have hcl1 := (hB.cell (p := ⟨g1, o1 + k, none⟩) hg1).trans hcl0
            clear hcl0
            have hx1 := HB1.out x (List.mem_of_getElem? hx)
            have hgd : l'.getD k 0 = x := by rw [List.getD, hx]; rfl
            have hsum : Value.int .i64 ((v : Int) * 2 + (x : Int)) = Value.int .i64 (v' : Int) := by have := HCS.out; rw [hgd] at this; congr 1; omega
            clear hgd hx
            unfold bitV at hcl1
            go_wp2
            have hkg := HKG.out
            go_roundg (gk - 1)
            case rel => exact ⟨k + 1, _, by go_num, (by first | exact hsum | rfl), by omega, by omega, hv'64, HV', rfl⟩
            case measure => omega
          · have hgd : l'.getD k 0 = 0 := by rw [List.getD, List.getElem?_eq_none (by omega)]; rfl
            have hsum : Value.int .i64 ((v : Int) * 2) = Value.int .i64 (v' : Int) := by have := HCS.out; rw [hgd] at this; congr 1; omega
            clear hgd
            go_wp2
            have hkg := HKG.out
            go_roundg (gk - 1)
            case rel => exact ⟨k + 1, _, by go_num, (by first | exact hsum | rfl), by omega, by omega, hv'64, HV', rfl⟩
            case measure => omega
        · have hkn : k = n := by omega
          subst hkn
          have hv2 := HV.out
          have hcl := codeTo_lt l' k HB1.out k hk
          rw [← hv2] at hcl
          have hal := HAL.out
          have hva : v < al.size := by omega
          obtain ⟨c, hcc⟩ : ∃ c, al[v] = c := ⟨_, rfl⟩
          have hgd : al.data.toList.getD v 0 = c := by rw [getD_at al v hva, hcc]
          have HE2 : Hid ((A ++ [c]) ++ enc k al.data.toList (l'.drop k) = R) := Lib.hid (by
            have h1 := HE.out
            rw [← hv2, hgd] at h1; exact h1)
          have hAl : A.length ≤ R.length := by rw [← HW.out]; simp
          have hsz := hB.size
          clear hcl hv2 hal hgd
          have HCC := Lib.hid hcc; clear hcc
          have HD : Hid (l'.length - k = (l'.drop k).length) := Lib.hid (by simp)
          have HB2 : Hid (∀ x ∈ l'.drop k, x ≤ 1) := Lib.hid (fun x hx => HB1.out x (List.mem_of_mem_drop hx))
          go_wp2_with (at_builtin; refine wpList_append_own _ rfl _ _ 51 rfl w.heap.size 5 i0 (.int .u8 0) 1 1 Tryz.underlying51 hi hz0 hz1 hz2 rfl (by decide) _ _ _ rfl (hA.alloc _) ⟨wr.heap.size, 0, none⟩ 1 1 [.int .u8 (al[v].toNat : Int)] rfl rfl ?c1 ?c2 ?c3 ?c4 ?c5 ?_)
          case c1 => exact cell_one_new _ _ _
          case c2 => simp [Value.oneCell']
          case c3 => unfold maxLen; omega
          case c4 => omega
          case c5 => simp; omega
          intro v' w1 hown' hgrow _
          rw [HCC.out] at hown'
          have hown2 := own_snocB hown'
          have hB2 := below_append hB hsz hA hgrow
          clear hown' hgrow hA
          by_cases hlast : l'.length < k
          · have HDN : Hid (l'.drop k = []) := Lib.hid (by rw [List.drop_eq_nil_iff]; omega)
            rw [HDN.out] at HE2
            go_wp2
            have hlg := HK.out
            go_roundg (gk' - 1)
            case rel => exact ⟨[], none, 0, _, rfl, by simp, by omega, by simp, by simp; omega, Lib.hid (RdN.nil _ _), Lib.hid (by simp), HE2, hown2, hB2⟩
            case measure => omega
          · have hkl : k ≤ l'.length := by omega
            have HR2 := Lib.hid (HRD.out.drop k)
            by_cases hck : c' = k
            · subst hck
              have hd0 : l'.drop c' = [] := by rw [List.drop_eq_nil_iff]; omega
              have HDN := Lib.hid hd0; clear hd0
              rw [HDN.out] at HE2
              have hl0 : Value.slice (some ⟨g1, o1, none⟩) (l'.length - c') 0 = Value.slice (some ⟨g1, o1, none⟩) 0 0 := by congr 1; omega
              go_wp2
              have hlg := HK.out
              go_roundg (gk' - 1)
              case rel => exact ⟨[], _, 0, _, rfl, by simp, by omega, by simp, by simp; omega, Lib.hid (RdN.nil _ _), Lib.hid (by simp), HE2, hown2, hB2⟩
              case measure => omega
            · go_wp2
              have hlg := HK.out
              have hdl := HD.out
              go_roundg (gk' - 1)
              case rel => exact ⟨l'.drop k, _, c' - k, _, by rw [hdl], by omega, by omega, by omega, by omega, HR2, HB2, HE2, hown2, hB2⟩
              case measure => omega
    · have hl0 : l' = [] := List.eq_nil_of_length_eq_zero (by omega)
      have HN := HW.out
      rw [hl0, enc_nil, List.append_nil] at HN
      rw [HN] at hA
      have hst := own_string (P := Tryz.prog) hA 51 9 5 Tryz.underlying51 Tryz.underlying5 Tryz.underlying9
      have hpd : decide (0 < l'.length) = false := by simp; omega
      clear HN hl0 hA
      go_wp2
      go_ret
      exact ⟨rfl, hB⟩

theorem bitsL_01 (d : List UInt8) : ∀ x ∈ bitsL d, x ≤ 1 := by
  have ht : ∀ n v : Nat, ∀ x ∈ tob v n, x ≤ 1 := by
    intro n v
    induction n with
    | zero => intro x hx; simp [tob] at hx
    | succ n ih =>
      intro x hx
      rw [tob, List.mem_cons] at hx
      rcases hx with rfl | hx
      · omega
      · exact ih x hx
  intro x hx
  obtain ⟨c, _, hc⟩ := List.mem_flatMap.1 hx
  exact ht _ _ x hc

set_option maxRecDepth 100000 in
theorem rto32_any (s : ByteArray) (w : World) (hs : s.size ≤ 1099511627776) :
    Calls Tryz.prog 48 #[.string s] w fun e w' => e = .returned (.string ⟨(to32S s.data.toList).toArray⟩) ∧ Below w.heap.size w w' := by
  have hl : (bitsL s.data.toList).length ≤ 8796093022208 := by rw [bitsL_len, size_len]; omega
  go_enter Tryz.func48, Tryz.ntmps48
  go_wp2_with fail
  refine (bits_any s _ hs).mono ?_
  rintro e w1 ⟨a, c, rfl, hc, hcm, hrd, hB⟩
  go_wp2_with fail
  refine (coded_any a c _ 5 ⟨set32.toArray⟩ _ hrd hc hcm hl (bitsL_01 _) (by omega) (by omega) (by decide)).mono ?_
  rintro e w2 ⟨rfl, hB2⟩
  go_wp2
  go_ret
  exact ⟨rfl, hB.trans (hB2.mono hB.size)⟩
end Go.Proofs.YtjejmgdpjfdhjaaGreatDoor.coded
namespace Go.Proofs.YtjejmgdpjfdhjaaGreatDoor.readS
open Go.Proofs.YtjejmgdpjfdhjaaGreatDoor.kit Go.Proofs.YtjejmgdpjfdhjaaGreatDoor.nspec Go.Proofs.YtjejmgdpjfdhjaaGreatDoor.rput Go.Proofs.YtjejmgdpjfdhjaaGreatDoor.rsplit

def digB (c : UInt8) : Bool := decide (48 ≤ c.toNat) && decide (c.toNat ≤ 57)
theorem digB_yes {c : UInt8} (h : 48 ≤ c.toNat ∧ c.toNat ≤ 57) : digB c = true := by unfold digB; simp [h.1, h.2]
theorem digB_no {c : UInt8} (h : c.toNat < 48 ∨ 57 < c.toNat) : digB c = false := by
  unfold digB; rw [Bool.and_eq_false_iff, decide_eq_false_iff_not, decide_eq_false_iff_not]; omega
/-- what stands behind a backslash: the byte, and how many bytes it takes with it -/
def escS : Bs → Option (UInt8 × Nat)
  | [] => none
  | d :: r => if digB d = false then some (d, 2) else match r with
    | a :: b :: _ => if digB a && digB b then (if 255 < (d.toNat - 48) * 100 + (a.toNat - 48) * 10 + (b.toNat - 48) then none else some (UInt8.ofNat ((d.toNat - 48) * 100 + (a.toNat - 48) * 10 + (b.toNat - 48)), 4)) else none
    | _ => none
def pieceS : Bs → Option (UInt8 × Nat)
  | [] => none
  | c :: r => if c.toNat = 92 then escS r else some (c, 1)
theorem piece_len {l : Bs} {b : UInt8} {n : Nat} (h : pieceS l = some (b, n)) : 1 ≤ n ∧ n ≤ l.length := by
  unfold pieceS at h
  split at h
  · simp at h
  · rename_i c r
    split at h
    · unfold escS at h
      split at h
      · simp at h
      · rename_i d t
        split at h
        · injection h with h; injection h with h1 h2; subst h2; simp
        · split at h
          · split at h
            · split at h
              · simp at h
              · injection h with h; injection h with h1 h2; subst h2; simp
            · simp at h
          · simp at h
    · injection h with h; injection h with h1 h2; subst h2; simp

/-- the labels that are told, and the bytes of the last one; or the place and what is wrong -/
def rdF : Nat → List Bs → Bs → Nat → Nat → Bs → Except (Nat × Int) (List Bs × Bs)
  | 0, l, now, _, _, _ => .ok (l, now)
  | _ + 1, l, now, _, _, [] => .ok (l, now)
  | f + 1, l, now, first, k, c :: r =>
    if c.toNat = 46 then (if now = [] then .error (k, 2) else rdF f (l ++ [now]) [] (k + 1) (k + 1) r)
    else match pieceS (c :: r) with
      | none => .error (k, 2)
      | some (b, n) => if 63 ≤ now.length then .error (first, 3) else rdF f l (now ++ [b]) first (k + n) ((c :: r).drop n)
theorem rd_fuel : ∀ (f g : Nat) (l : List Bs) (now : Bs) (first k : Nat) (t : Bs), t.length ≤ f → t.length ≤ g → rdF f l now first k t = rdF g l now first k t
  | 0, 0, _, _, _, _, _, _, _ => rfl
  | 0, g + 1, l, now, first, k, t, h, _ => by
    have : t = [] := List.eq_nil_of_length_eq_zero (by omega)
    subst this; rfl
  | f + 1, 0, l, now, first, k, t, _, h => by
    have : t = [] := List.eq_nil_of_length_eq_zero (by omega)
    subst this; rfl
  | f + 1, g + 1, l, now, first, k, [], _, _ => rfl
  | f + 1, g + 1, l, now, first, k, c :: r, h1, h2 => by
    simp only [List.length_cons] at h1 h2
    simp only [rdF]
    by_cases hc : c.toNat = 46
    · rw [if_pos hc, if_pos hc, rd_fuel f g _ _ _ _ r (by omega) (by omega)]
    · rw [if_neg hc, if_neg hc]
      cases hp : pieceS (c :: r) with
      | none => rfl
      | some p =>
        obtain ⟨b, n⟩ := p
        have := piece_len hp
        simp only
        rw [rd_fuel f g _ _ _ _ _ (by rw [List.length_drop, List.length_cons]; omega) (by rw [List.length_drop, List.length_cons]; omega)]
def rd (l : List Bs) (now : Bs) (first k : Nat) (t : Bs) : Except (Nat × Int) (List Bs × Bs) := rdF t.length l now first k t
theorem rd_nil (l : List Bs) (now : Bs) (first k : Nat) : rd l now first k [] = .ok (l, now) := rfl
theorem rd_dot {l : List Bs} {now : Bs} {first k : Nat} {c : UInt8} {r : Bs} (hc : c.toNat = 46) (hn : now ≠ []) : rd l now first k (c :: r) = rd (l ++ [now]) [] (k + 1) (k + 1) r := by
  unfold rd; rw [List.length_cons, rdF, if_pos hc, if_neg hn]
theorem rd_dot_no {l : List Bs} {now : Bs} {first k : Nat} {c : UInt8} {r : Bs} (hc : c.toNat = 46) (hn : now = []) : rd l now first k (c :: r) = .error (k, 2) := by
  unfold rd; rw [List.length_cons, rdF, if_pos hc, if_pos hn]
theorem rd_bad {l : List Bs} {now : Bs} {first k : Nat} {c : UInt8} {r : Bs} (hc : c.toNat ≠ 46) (hp : pieceS (c :: r) = none) : rd l now first k (c :: r) = .error (k, 2) := by
  unfold rd; rw [List.length_cons, rdF, if_neg hc, hp]
theorem rd_full {l : List Bs} {now : Bs} {first k : Nat} {c : UInt8} {r : Bs} {b : UInt8} {n : Nat} (hc : c.toNat ≠ 46) (hp : pieceS (c :: r) = some (b, n)) (hn : 63 ≤ now.length) : rd l now first k (c :: r) = .error (first, 3) := by
  unfold rd; rw [List.length_cons, rdF, if_neg hc, hp]; simp only; rw [if_pos hn]
theorem rd_go {l : List Bs} {now : Bs} {first k : Nat} {c : UInt8} {r : Bs} {b : UInt8} {n : Nat} (hc : c.toNat ≠ 46) (hp : pieceS (c :: r) = some (b, n)) (hn : now.length < 63) : rd l now first k (c :: r) = rd l (now ++ [b]) first (k + n) ((c :: r).drop n) := by
  have hl := piece_len hp
  unfold rd; rw [List.length_cons, rdF, if_neg hc, hp]; simp only
  rw [if_neg (by omega)]
  exact rd_fuel _ _ _ _ _ _ _ (by rw [List.length_drop, List.length_cons]; omega) (Nat.le_refl _)

def endL (base : List Bs) (l : List Bs) (now : Bs) : List Bs := if now = [] then l else l ++ [now] ++ base
def finS (base : List Bs) (l : List Bs) (now : Bs) : Bs × Int × Int := if 254 < room (endL base l now) then ([], 0, 4) else (put (endL base l now), 0, 0)
def resS (base : List Bs) : Except (Nat × Int) (List Bs × Bs) → Bs × Int × Int
  | .error (k, e) => ([], (k : Int), e)
  | .ok (l, now) => finS base l now
def readS (text origin : Bs) : Bs × Int × Int := match split origin with
  | none => ([], 0, 1)
  | some base => if text = [] then ([], 0, 2) else if text = [64] then (origin, 0, 0) else if text = [46] then ([0], 0, 0) else resS base (rd [] [] 0 0 text)
def Ret3 (r : Bs × Int × Int) : Ending := .returned (.tuple #[.string ⟨r.1.toArray⟩, .int .i64 r.2.1, .int .i64 r.2.2])
end Go.Proofs.YtjejmgdpjfdhjaaGreatDoor.readS
