/- gazetteerref1.coded, To32: walks. data.hex, data.quoted: walks. gazetteerref1.Hex, Base64, Quote, rows6: walks. How many bytes a row of texts takes: data.texts.take: walk. gazetteerref1.rows6: walk. -/
import Derived.Test.YtjejmgdpjfdhjaaGreatDoorK9
import Derived.Test.YtjejmgdpjfdhjaaGreatDoorK4
import Derived.Test.YtjejmgdpjfdhjaaGreatDoorK3
import Derived.Laws.BytesArg
import Derived.Laws.BitsLemmas
namespace Go.Proofs.YtjejmgdpjfdhjaaGreatDoor.coded
open Go.RowKit Go.Proofs.YtjejmgdpjfdhjaaGreatDoor.kit Go.Proofs.YtjejmgdpjfdhjaaGreatDoor.bits Go.Proofs.YtjejmgdpjfdhjaaGreatDoor.ints Go.Proofs.YtjejmgdpjfdhjaaGreatDoor.bld Go.Proofs.YtjejmgdpjfdhjaaGreatDoor.to32

theorem own_string {P : Program} {w : World} {base : Nat} {e : TypeId} {v : Value} {l : List UInt8} (h : w.ownsRow base e 1 v l.length (Lib.byteCells l)) (src dst e' : TypeId) (hs : P.underlying src = some (.slice e')) (he : P.underlying e' = some (.int .u8)) (hd : P.underlying dst = some .string) :
    (convert src dst v).run P w = .ok (.string ⟨l.toArray⟩) w := by
  rcases h.2 with ⟨rfl, h0⟩ | ⟨g, cap, cur, rfl, hb, hg, h1, h2, _, htake⟩
  · have : l = [] := List.eq_nil_of_length_eq_zero h0
    subst this
    exact run_convert_bytes_nil w src e' hs he _ _ dst hd
  · refine run_convert_bytes_back w src dst e' ⟨g, 0, none⟩ cap l hs he hd (fun j hj => ?_)
    exact h.cells (g := g) rfl j _ (by simp [Lib.byteCells, hj])

theorem own_snocB {w1 : World} {base : Nat} {e : TypeId} {v' : Value} {acc : List UInt8} {d : UInt8} (h : w1.ownsRow base e 1 v' (acc.length + 1) (Lib.byteCells acc ++ [.int .u8 (d.toNat : Int)])) : w1.ownsRow base e 1 v' (acc ++ [d]).length (Lib.byteCells (acc ++ [d])) := by
  rw [bytes_snoc]; simpa using h

def codeTo (l : List Nat) (n k : Nat) : Nat := ofb ((l ++ List.replicate n 0).take k)
theorem codeTo_succ (l : List Nat) (n k : Nat) (h : k < n) : codeTo l n (k + 1) = 2 * codeTo l n k + l.getD k 0 := by
  have hx : (l ++ List.replicate n 0)[k]? = some (l.getD k 0) := by
    rw [List.getElem?_append]
    by_cases hk : k < l.length
    · simp [hk]
    · rw [if_neg hk, List.getElem?_replicate, if_pos (by omega)]; simp [List.getD, List.getElem?_eq_none (by omega : l.length ≤ k)]
  unfold codeTo
  rw [List.take_add_one, hx, ofb_append]
  simp [ofb]; omega
theorem codeTo_lt (l : List Nat) (n : Nat) (hl : ∀ x ∈ l, x ≤ 1) : ∀ k, k ≤ n → codeTo l n k < 2 ^ k
  | 0, _ => by simp [codeTo, ofb]
  | k + 1, h => by
    have ih := codeTo_lt l n hl k (by omega)
    have hx : l.getD k 0 ≤ 1 := by
      rw [List.getD]
      cases hh : l[k]? with
      | none => simp
      | some x => simpa using hl x (List.mem_of_getElem? hh)
    rw [codeTo_succ l n k (by omega), Nat.pow_succ]; omega
theorem enc_code {n : Nat} {al A R : List UInt8} {l : List Nat} (h : A ++ enc n al l = R) (hn : 1 ≤ n) (hl : 0 < l.length) : (A ++ [al.getD (codeTo l n n) 0]) ++ enc n al (l.drop n) = R := by
  rw [enc_step al hn (List.length_pos_iff.1 hl)] at h
  rw [← h]; simp [codeTo]
theorem pow6 {n : Nat} (h : n ≤ 6) : 2 ^ n ≤ 64 := Nat.pow_le_pow_right (n := 2) (by omega) (show n ≤ 6 from h)

set_option maxRecDepth 100000 in
set_option maxHeartbeats 2000000 in
theorem coded_any (a : Option Addr) (c : Nat) (l : List Nat) (n : Nat) (al : ByteArray) (w : World) (hr : RdN w a l) (hc : l.length ≤ c) (hcm : c ≤ maxLen) (hl : l.length ≤ 8796093022208) (h1 : ∀ x ∈ l, x ≤ 1) (hn : 1 ≤ n) (hn6 : n ≤ 6) (hal : 2 ^ n ≤ al.size) :
    Calls Tryz.prog 40 #[.slice a l.length c, .int .i64 (n : Int), .string al] w fun e w' => e = .returned (.string ⟨(enc n al.data.toList l).toArray⟩) ∧ Below w.heap.size w w' := by
  obtain ⟨i0, hi, hz0, hz1, hz2⟩ := info_parts infoByte
  obtain ⟨R, HR⟩ : ∃ R, Hid (enc n al.data.toList l = R) := ⟨_, Lib.hid rfl⟩
  have hRl : R.length ≤ l.length := by rw [← HR.out]; exact enc_len n _ hn l
  rw [HR.out]
  have H := Lib.hid hr; clear hr
  have H1 := Lib.hid h1; clear h1
  have HAL := Lib.hid hal; clear hal
  unfold maxLen at hcm
  go_enter Tryz.func40, Tryz.ntmps40
  go_wp2
  go_loopg [0, 7, 8, 9] (l.length + 1) (fun gas bv ov _ _ wr => ∃ (l' : List Nat) (a' : Option Addr) (c' : Nat) (A : List UInt8), bv = .slice a' l'.length c' ∧ l'.length ≤ c' ∧ c' ≤ 9223372036854775807 ∧ l'.length ≤ l.length ∧ l'.length < gas ∧ Hid (RdN w a' l') ∧ Hid (∀ x ∈ l', x ≤ 1) ∧ Hid (A ++ enc n al.data.toList l' = R) ∧ wr.ownsRow w.heap.size 5 1 ov A.length (Lib.byteCells A) ∧ Below w.heap.size w wr)
  case atStart => exact ⟨l, a, c, [], rfl, hc, hcm, Nat.le_refl _, by omega, H, H1, HR, World.ownsRow_nil _ _ _ _, Below.refl _ _⟩
  case round =>
    obtain ⟨l', a', c', A, rfl, hc', hcm', hll, hlg, HRD, HB1, HW, hA, hB⟩ := hrel
    obtain ⟨gk', hgk'⟩ : ∃ g, g = gk := ⟨_, rfl⟩
    rw [← hgk'] at hlg
    have HK := Lib.hid hlg; clear hlg
    by_cases hpos : 0 < (l'.length : Int)
    · obtain ⟨g1, o1, rfl⟩ := HRD.out.addr (by omega)
      have HE := Lib.hid (enc_code HW.out hn (by omega))
      have hn1 : (1 : Int) ≤ (n : Int) := by omega
      have hpd : decide (0 < l'.length) = true := by simp; omega
      go_wp2
      go_loopg [8, 9] (n + 1) (fun gas vv kv wq => ∃ (k : Nat) (v : Nat), kv = .int .i64 k ∧ vv = .int .i64 v ∧ k ≤ n ∧ k + gas = n + 1 ∧ v < 64 ∧ Hid (v = codeTo l' n k) ∧ wq = wr)
      case atStart => exact ⟨0, 0, rfl, rfl, by omega, by omega, by omega, Lib.hid rfl, rfl⟩
      case round =>
        obtain ⟨k, v, rfl, rfl, hk, hkg, hv64, HV, rfl⟩ := hrel
        have HKG := Lib.hid hkg; clear hkg
        by_cases hlt : k < n
        · have hcl := codeTo_lt l' n HB1.out k hk
          have hcl2 := codeTo_lt l' n HB1.out (k + 1) hlt
          have hcs := codeTo_succ l' n k hlt
          have hp : 2 ^ (k + 1) ≤ 64 := pow6 (by omega)
          have hvk := HV.out
          rw [← hvk] at hcs
          obtain ⟨v', hv'⟩ : ∃ v', codeTo l' n (k + 1) = v' := ⟨_, rfl⟩
          rw [hv'] at hcs hcl2
          have HV' := Lib.hid hv'.symm
          have hv'64 : v' < 64 := by omega
          clear hcl hcl2 hp hvk hv'
          have HCS := Lib.hid hcs; clear hcs
          by_cases hkl : k < l'.length
          · obtain ⟨x, hx⟩ : ∃ x, l'[k]? = some x := ⟨_, List.getElem?_eq_getElem hkl⟩
            obtain ⟨g2, o2, he, hg1, hcl0⟩ := HRD.out _ x hx
            cases he
            have hcl1 := (hB.cell (p := ⟨g1, o1 + k, none⟩) hg1).trans hcl0
            clear hcl0
            have hx1 := HB1.out x (List.mem_of_getElem? hx)
            have hgd : l'.getD k 0 = x := by rw [List.getD, hx]; rfl
            have hsum : Value.int .i64 ((v : Int) * 2 + (x : Int)) = Value.int .i64 (v' : Int) := by have := HCS.out; rw [hgd] at this; congr 1; omega
            clear hgd hx
            unfold bitV at hcl1
            go_wp2
            have hkg := HKG.out
            go_roundg (gk - 1)
            case rel => exact ⟨k + 1, _, by go_num, (by first | exact hsum | rfl), by omega, by omega, hv'64, HV', rfl⟩
            case measure => omega
          · have hgd : l'.getD k 0 = 0 := by rw [List.getD, List.getElem?_eq_none (by omega)]; rfl
            have hsum : Value.int .i64 ((v : Int) * 2) = Value.int .i64 (v' : Int) := by have := HCS.out; rw [hgd] at this; congr 1; omega
            clear hgd
            go_wp2
            have hkg := HKG.out
            go_roundg (gk - 1)
            case rel => exact ⟨k + 1, _, by go_num, (by first | exact hsum | rfl), by omega, by omega, hv'64, HV', rfl⟩
            case measure => omega
        · have hkn : k = n := by omega
          subst hkn
          have hv2 := HV.out
          have hcl := codeTo_lt l' k HB1.out k hk
          rw [← hv2] at hcl
          have hal := HAL.out
          have hva : v < al.size := by omega
          obtain ⟨c, hcc⟩ : ∃ c, al[v] = c := ⟨_, rfl⟩
          have hgd : al.data.toList.getD v 0 = c := by rw [getD_at al v hva, hcc]
          have HE2 : Hid ((A ++ [c]) ++ enc k al.data.toList (l'.drop k) = R) := Lib.hid (by
            have h1 := HE.out
            rw [← hv2, hgd] at h1; exact h1)
          have hAl : A.length ≤ R.length := by rw [← HW.out]; simp
          have hsz := hB.size
          clear hcl hv2 hal hgd
          have HCC := Lib.hid hcc; clear hcc
          have HD : Hid (l'.length - k = (l'.drop k).length) := Lib.hid (by simp)
          have HB2 : Hid (∀ x ∈ l'.drop k, x ≤ 1) := Lib.hid (fun x hx => HB1.out x (List.mem_of_mem_drop hx))
          go_wp2_with (at_builtin; refine wpList_append_own _ rfl _ _ 51 rfl w.heap.size 5 i0 (.int .u8 0) 1 1 Tryz.underlying51 hi hz0 hz1 hz2 rfl (by decide) _ _ _ rfl (hA.alloc _) ⟨wr.heap.size, 0, none⟩ 1 1 [.int .u8 (al[v].toNat : Int)] rfl rfl ?c1 ?c2 ?c3 ?c4 ?c5 ?_)
          case c1 => exact cell_one_new _ _ _
          case c2 => simp [Value.oneCell']
          case c3 => unfold maxLen; omega
          case c4 => omega
          case c5 => simp; omega
          intro v' w1 hown' hgrow _
          rw [HCC.out] at hown'
          have hown2 := own_snocB hown'
          have hB2 := below_append hB hsz hA hgrow
          clear hown' hgrow hA
          by_cases hlast : l'.length < k
          · have HDN : Hid (l'.drop k = []) := Lib.hid (by rw [List.drop_eq_nil_iff]; omega)
            rw [HDN.out] at HE2
            go_wp2
            have hlg := HK.out
            go_roundg (gk' - 1)
            case rel => exact ⟨[], none, 0, _, rfl, by simp, by omega, by simp, by simp; omega, Lib.hid (RdN.nil _ _), Lib.hid (by simp), HE2, hown2, hB2⟩
            case measure => omega
          · have hkl : k ≤ l'.length := by omega
            have HR2 := Lib.hid (HRD.out.drop k)
            by_cases hck : c' = k
            · subst hck
              have hd0 : l'.drop c' = [] := by rw [List.drop_eq_nil_iff]; omega
              have HDN := Lib.hid hd0; clear hd0
              rw [HDN.out] at HE2
              have hl0 : Value.slice (some ⟨g1, o1, none⟩) (l'.length - c') 0 = Value.slice (some ⟨g1, o1, none⟩) 0 0 := by congr 1; omega
              go_wp2
              have hlg := HK.out
              go_roundg (gk' - 1)
              case rel => exact ⟨[], _, 0, _, rfl, by simp, by omega, by simp, by simp; omega, Lib.hid (RdN.nil _ _), Lib.hid (by simp), HE2, hown2, hB2⟩
              case measure => omega
            · go_wp2
              have hlg := HK.out
              have hdl := HD.out
              go_roundg (gk' - 1)
              case rel => exact ⟨l'.drop k, _, c' - k, _, by rw [hdl], by omega, by omega, by omega, by omega, HR2, HB2, HE2, hown2, hB2⟩
              case measure => omega
    · have hl0 : l' = [] := List.eq_nil_of_length_eq_zero (by omega)
      have HN := HW.out
      rw [hl0, enc_nil, List.append_nil] at HN
      rw [HN] at hA
      have hst := own_string (P := Tryz.prog) hA 51 9 5 Tryz.underlying51 Tryz.underlying5 Tryz.underlying9
      have hpd : decide (0 < l'.length) = false := by simp; omega
      clear HN hl0 hA
      go_wp2
      go_ret
      exact ⟨rfl, hB⟩

theorem bitsL_01 (d : List UInt8) : ∀ x ∈ bitsL d, x ≤ 1 := by
  have ht : ∀ n v : Nat, ∀ x ∈ tob v n, x ≤ 1 := by
    intro n v
    induction n with
    | zero => intro x hx; simp [tob] at hx
    | succ n ih =>
      intro x hx
      rw [tob, List.mem_cons] at hx
      rcases hx with rfl | hx
      · omega
      · exact ih x hx
  intro x hx
  obtain ⟨c, _, hc⟩ := List.mem_flatMap.1 hx
  exact ht _ _ x hc

set_option maxRecDepth 100000 in
theorem rto32_any (s : ByteArray) (w : World) (hs : s.size ≤ 1099511627776) :
    Calls Tryz.prog 48 #[.string s] w fun e w' => e = .returned (.string ⟨(to32S s.data.toList).toArray⟩) ∧ Below w.heap.size w w' := by
  have hl : (bitsL s.data.toList).length ≤ 8796093022208 := by rw [bitsL_len, size_len]; omega
  go_enter Tryz.func48, Tryz.ntmps48
  go_wp2_with fail
  refine (bits_any s _ hs).mono ?_
  rintro e w1 ⟨a, c, rfl, hc, hcm, hrd, hB⟩
  go_wp2_with fail
  refine (coded_any a c _ 5 ⟨set32.toArray⟩ _ hrd hc hcm hl (bitsL_01 _) (by omega) (by omega) (by decide)).mono ?_
  rintro e w2 ⟨rfl, hB2⟩
  go_wp2
  go_ret
  exact ⟨rfl, hB.trans (hB2.mono hB.size)⟩
end Go.Proofs.YtjejmgdpjfdhjaaGreatDoor.coded
namespace Go.Proofs.YtjejmgdpjfdhjaaGreatDoor.dshowA
open Go.RowKit Go.Proofs.YtjejmgdpjfdhjaaGreatDoor.kit Go.Proofs.YtjejmgdpjfdhjaaGreatDoor.nspec Go.Proofs.YtjejmgdpjfdhjaaGreatDoor.bits Go.Proofs.YtjejmgdpjfdhjaaGreatDoor.bld Go.Proofs.YtjejmgdpjfdhjaaGreatDoor.dshow Go.Proofs.YtjejmgdpjfdhjaaGreatDoor.showA Go.Proofs.YtjejmgdpjfdhjaaGreatDoor.rsplit
set_option linter.unusedVariables false

theorem wbi (B b : Nat) (l : List UInt8) (c : UInt8) (z : Int) (hz : z = (c.toNat : Int)) (w : World) (h : Bld B b l w) (hlen : l.length + 1 ≤ 140737488355328) (hBw : B ≤ w.heap.size) :
    Calls Tryz.prog 38 #[.pointer (some ⟨b, 0, none⟩), .int .u8 z] w fun e w' => e = .returned .nilIface ∧ Bld B b (l ++ [c]) w' ∧ Below B w w' := by
  subst hz; exact wb B b l c w h hlen hBw
theorem wraps8 (n : Int) (h₀ : 0 ≤ n) (h₁ : n < 2 ^ 8) : IntKind.u8.wrap n = n := by rw [IntKind.wrap_u8]; omega
theorem and15 {x : Int} (h₀ : 0 ≤ x) (h₁ : x < 256) : bits .and .u8 x 15 = x % 16 := bits_mask .u8 8 (by decide) wraps8 4 (by decide) x h₀ h₁
theorem idx16 (v : Nat) (h : v < 16) : Value.int .u8 (((⟨#[48, 49, 50, 51, 52, 53, 54, 55, 56, 57, 97, 98, 99, 100, 101, 102]⟩ : ByteArray)[v]'h).toNat : Int) = Value.int .u8 ((set16.getD v 0).toNat : Int) := by
  rw [← getD_at]; rfl
theorem hex_go {A R : Bs} {s : ByteArray} {k : Nat} (h : A ++ hexS (s.data.toList.drop k) = R) (hk : k < s.size) : ((A ++ [set16.getD (s[k].toNat / 16) 0]) ++ [set16.getD (s[k].toNat % 16) 0]) ++ hexS (s.data.toList.drop (k + 1)) = R := by
  rw [drop_cons s k hk, hex_step] at h
  rw [← h]; simp
theorem hex_end {A R : Bs} {s : ByteArray} {k : Nat} (h : A ++ hexS (s.data.toList.drop k) = R) (hk : s.size ≤ k) : A = R := by
  rw [drop_end s k hk, hex_nil] at h; simpa using h

set_option maxRecDepth 100000 in
set_option maxHeartbeats 2400000 in
theorem hex_any (s : ByteArray) (w : World) (hs : s.size ≤ 1099511627776) :
    Calls Tryz.prog 14 #[.string s] w fun e w' => e = .returned (.string ⟨(hexS s.data.toList).toArray⟩) ∧ Below w.heap.size w w' := by
  obtain ⟨R, HR⟩ : ∃ R, Hid ([] ++ hexS (s.data.toList.drop 0) = R) := ⟨_, Lib.hid rfl⟩
  have HR0 : Hid (hexS s.data.toList = R) := Lib.hid (by rw [← HR.out]; rfl)
  have hRl : R.length ≤ 2199023255552 := by
    have h1 := hex_len s.data.toList
    rw [HR0.out, size_len] at h1; omega
  rw [HR0.out]
  have hfb := Lib.hid (Lib.fresh_isBuilder 53 5 w)
  have hBa := Lib.hid ((Below.refl w.heap.size w).alloc (Nat.le_refl _) (.cells #[.pointer none, .slice none 0 0] 53))
  go_enter Tryz.func14, Tryz.ntmps14
  go_wp2
  go_loopg [7] (s.size + 1) (fun gas kv wr => ∃ (k : Nat) (A : Bs), kv = .int .i64 k ∧ k ≤ s.size ∧ k + gas = s.size + 1 ∧ Hid (A ++ hexS (s.data.toList.drop k) = R) ∧ Hid (Bld w.heap.size w.heap.size A wr) ∧ Hid (Below w.heap.size w wr))
  case atStart => exact ⟨0, [], rfl, by omega, by omega, HR, hfb, hBa⟩
  case round =>
    obtain ⟨k, A, rfl, hk, hkg, HW, HA, HB⟩ := hrel
    have HK := Lib.hid hkg; clear hkg
    have hsz := HB.out.size
    by_cases hlt : k < s.size
    · have HST := Lib.hid (hex_go HW.out hlt)
      obtain ⟨c, hc⟩ : ∃ c, s[k] = c := ⟨_, rfl⟩
      rw [hc] at HST
      have hc256 := byte_lt c
      obtain ⟨v1, hv1⟩ : ∃ v : Nat, c.toNat / 16 = v := ⟨_, rfl⟩
      obtain ⟨v2, hv2⟩ : ∃ v : Nat, c.toNat % 16 = v := ⟨_, rfl⟩
      rw [hv1, hv2] at HST
      have hv1l : v1 < 16 := by have := c.toNat_lt; omega
      have hv2l : v2 < 16 := by omega
      have hAl : A.length + 2 ≤ R.length := by rw [← HST.out]; simp
      have HWB := Lib.hid (wb w.heap.size w.heap.size A (set16.getD v1 0) wr HA.out (by omega) hsz)
      have hx1 := idx16 v1 hv1l
      have hx2 := idx16 v2 hv2l
      have hsh := congrArg (Value.int .u8) (show (c.toNat : Int) / 16 = (v1 : Int) by omega)
      have hand := congrArg (Value.int .u8) (show bits .and .u8 (c.toNat : Int) 15 = (v2 : Int) by rw [and15 (by omega) hc256]; omega)
      clear hv1 hv2
      go_wp2_with fail
      refine HWB.out.mono ?_
      rintro e w1 ⟨rfl, hb1, hE1⟩
      have HB1 := Lib.hid (HB.out.trans hE1)
      have HWC := Lib.hid (wb w.heap.size w.heap.size (A ++ [set16.getD v1 0]) (set16.getD v2 0) w1 hb1 (by simp; omega) (by have := HB1.out.size; omega))
      clear hE1 hb1
      go_wp2_with fail
      refine HWC.out.mono ?_
      rintro e w2 ⟨rfl, hb2, hE2⟩
      clear hand hsh hx1 hx2
      have hkg := HK.out
      go_wp2_with fail
      go_roundg (gk - 1)
      case rel => exact ⟨k + 1, _, by go_num, by omega, by omega, HST, Lib.hid hb2, Lib.hid (HB1.out.trans hE2)⟩
      case measure => omega
    · have HN := Lib.hid (hex_end HW.out (by omega))
      rw [HN.out] at HA
      go_wp2_with fail
      refine (Tryz.Builder_String_any _ _ R _ HA.out (by omega)).mono ?_
      rintro e v2 ⟨rfl, hE2⟩
      go_wp2
      go_ret
      exact ⟨rfl, HB.out.trans hE2⟩

theorem quote_go {A R T : Bs} {s : ByteArray} {k : Nat} {c : UInt8} (h : A ++ ((s.data.toList.drop k).flatMap quoteB ++ T) = R) (hk : k < s.size) (hc : s[k] = c) : (A ++ quoteB c) ++ ((s.data.toList.drop (k + 1)).flatMap quoteB ++ T) = R := by
  rw [drop_cons s k hk, hc] at h
  rw [← h]; simp
theorem quote_end {A R T : Bs} {s : ByteArray} {k : Nat} (h : A ++ ((s.data.toList.drop k).flatMap quoteB ++ T) = R) (hk : s.size ≤ k) : A ++ T = R := by
  rw [drop_end s k hk] at h; simpa using h
theorem quote_cases (c : UInt8) : (((c.toNat : Int) = 34 ∨ (c.toNat : Int) = 92) ∧ quoteB c = [92, c]) ∨ ((c.toNat : Int) ≠ 34 ∧ (c.toNat : Int) ≠ 92 ∧ ((c.toNat : Int) < 32 ∨ 126 < (c.toNat : Int)) ∧ quoteB c = 92 :: escL c) ∨ ((c.toNat : Int) ≠ 34 ∧ (c.toNat : Int) ≠ 92 ∧ 32 ≤ (c.toNat : Int) ∧ (c.toNat : Int) ≤ 126 ∧ quoteB c = [c]) := by
  have e34 : c = 34 ↔ (c.toNat : Int) = 34 := ⟨fun h => by rw [h]; rfl, fun h => UInt8.toNat.inj (by show c.toNat = 34; omega)⟩
  have e92 : c = 92 ↔ (c.toNat : Int) = 92 := ⟨fun h => by rw [h]; rfl, fun h => UInt8.toNat.inj (by show c.toNat = 92; omega)⟩
  unfold quoteB
  by_cases h : c = 34 ∨ c = 92
  · refine .inl ⟨?_, by rw [if_pos h]⟩
    rcases h with h | h
    · exact .inl (e34.1 h)
    · exact .inr (e92.1 h)
  · have h1 : (c.toNat : Int) ≠ 34 := fun x => h (.inl (e34.2 x))
    have h2 : (c.toNat : Int) ≠ 92 := fun x => h (.inr (e92.2 x))
    rw [if_neg h]
    by_cases h3 : c.toNat < 32 ∨ 126 < c.toNat
    · exact .inr (.inl ⟨h1, h2, by omega, by rw [if_pos h3]⟩)
    · exact .inr (.inr ⟨h1, h2, by omega, by omega, by rw [if_neg h3]⟩)

set_option maxRecDepth 100000 in
set_option maxHeartbeats 4000000 in
theorem quoted_any (s : ByteArray) (w : World) (hs : s.size ≤ 1099511627776) :
    Calls Tryz.prog 111 #[.string s] w fun e w' => e = .returned (.string ⟨(quoteS s.data.toList).toArray⟩) ∧ Below w.heap.size w w' := by
  obtain ⟨R, HR⟩ : ∃ R, Hid ([34] ++ ((s.data.toList.drop 0).flatMap quoteB ++ [34]) = R) := ⟨_, Lib.hid rfl⟩
  have HR0 : Hid (quoteS s.data.toList = R) := Lib.hid (by rw [← HR.out]; rfl)
  have hRl : R.length ≤ 8796093022208 := by
    have h1 := quoteS_len s.data.toList
    rw [HR0.out, size_len] at h1; omega
  rw [HR0.out]
  have hfb := Lib.fresh_isBuilder 53 5 w
  have hBa := Lib.hid ((Below.refl w.heap.size w).alloc (Nat.le_refl _) (.cells #[.pointer none, .slice none 0 0] 53))
  have HW0 := Lib.hid (wbi w.heap.size w.heap.size [] 34 34 rfl _ hfb (by simp) hBa.out.size)
  clear hfb
  go_enter Tryz.func111, Tryz.ntmps111
  go_wp2_with fail
  refine HW0.out.mono ?_
  rintro e w0 ⟨rfl, hb0, hE0⟩
  have HB0 := Lib.hid (hBa.out.trans hE0)
  have HA0 : Hid (Bld w.heap.size w.heap.size [34] w0) := Lib.hid hb0
  clear hE0 hb0
  go_wp2_with fail
  go_loopg [9] (s.size + 1) (fun gas kv wr => ∃ (k : Nat) (A : Bs), kv = .int .i64 k ∧ k ≤ s.size ∧ k + gas = s.size + 1 ∧ Hid (A ++ ((s.data.toList.drop k).flatMap quoteB ++ [34]) = R) ∧ Hid (Bld w.heap.size w.heap.size A wr) ∧ Hid (Below w.heap.size w wr))
  case atStart => exact ⟨0, [34], rfl, by omega, by omega, HR, HA0, HB0⟩
  case round =>
    clear HA0 HB0
    obtain ⟨k, A, rfl, hk, hkg, HW, HA, HB⟩ := hrel
    have HK := Lib.hid hkg; clear hkg
    have hsz := HB.out.size
    by_cases hlt : k < s.size
    · obtain ⟨c, hc⟩ : ∃ c, s[k] = c := ⟨_, rfl⟩
      have HST := Lib.hid (quote_go HW.out hlt hc)
      have hAR : A.length + (quoteB c).length + 1 ≤ R.length := by rw [← HST.out]; simp; omega
      have hc256 := byte_lt c
      have hc0 : 0 ≤ (c.toNat : Int) := by omega
      rcases quote_cases c with ⟨hq, he⟩ | ⟨hq1, hq2, hq3, he⟩ | ⟨hq1, hq2, hq3, hq4, he⟩
      · rw [he] at HST hAR; clear he
        have hAl : A.length + 3 ≤ R.length := hAR
        clear hAR
        by_cases hq1 : (c.toNat : Int) = 34
        · have b1 : ((c.toNat : Int) == 34) = true := by rw [beq_iff_eq]; exact hq1
          clear hq hq1
          have HW0 := Lib.hid (wbi w.heap.size w.heap.size (A) (92) (92) rfl wr HA.out (by omega) (by have := HB.out.size; omega))
          go_wp2_with fail
          refine HW0.out.mono ?_
          rintro e u0 ⟨rfl, hb0, hE0⟩
          have HB0 := Lib.hid (HB.out.trans hE0)
          clear hE0
          have HW1 := Lib.hid (wbi w.heap.size w.heap.size (A ++ [92]) (c) ((c.toNat : Int)) rfl u0 hb0 (by simp; omega) (by have := HB0.out.size; omega))
          clear hb0
          go_wp2_with fail
          refine HW1.out.mono ?_
          rintro e u1 ⟨rfl, hb1, hE1⟩
          have HB1 := Lib.hid (HB0.out.trans hE1)
          clear hE1
          have hkg := HK.out
          go_wp2_with fail
          go_roundg (gk - 1)
          case rel => exact ⟨k + 1, A ++ [92] ++ [c], by go_num, by omega, by omega, Lib.hid (by have h := HST.out; simpa [escL] using h), Lib.hid hb1, HB1⟩
          case measure => omega
        · have b1 : ((c.toNat : Int) == 34) = false := by rw [beq_eq_false_iff_ne]; exact hq1
          have b2 : ((c.toNat : Int) == 92) = true := by rw [beq_iff_eq]; omega
          clear hq hq1
          have HW0 := Lib.hid (wbi w.heap.size w.heap.size (A) (92) (92) rfl wr HA.out (by omega) (by have := HB.out.size; omega))
          go_wp2_with fail
          refine HW0.out.mono ?_
          rintro e u0 ⟨rfl, hb0, hE0⟩
          have HB0 := Lib.hid (HB.out.trans hE0)
          clear hE0
          have HW1 := Lib.hid (wbi w.heap.size w.heap.size (A ++ [92]) (c) ((c.toNat : Int)) rfl u0 hb0 (by simp; omega) (by have := HB0.out.size; omega))
          clear hb0
          go_wp2_with fail
          refine HW1.out.mono ?_
          rintro e u1 ⟨rfl, hb1, hE1⟩
          have HB1 := Lib.hid (HB0.out.trans hE1)
          clear hE1
          have hkg := HK.out
          go_wp2_with fail
          go_roundg (gk - 1)
          case rel => exact ⟨k + 1, A ++ [92] ++ [c], by go_num, by omega, by omega, Lib.hid (by have h := HST.out; simpa [escL] using h), Lib.hid hb1, HB1⟩
          case measure => omega
      · rw [he] at HST hAR; clear he
        have hAl : A.length + 5 ≤ R.length := hAR
        clear hAR
        have b1 : ((c.toNat : Int) == 34) = false := by rw [beq_eq_false_iff_ne]; exact hq1
        have b2 : ((c.toNat : Int) == 92) = false := by rw [beq_eq_false_iff_ne]; exact hq2
        clear hq1 hq2
        by_cases hq4 : (c.toNat : Int) < 32
        · clear hq3
          have HW0 := Lib.hid (wbi w.heap.size w.heap.size (A) (92) (92) rfl wr HA.out (by omega) (by have := HB.out.size; omega))
          go_wp2_with fail
          refine HW0.out.mono ?_
          rintro e u0 ⟨rfl, hb0, hE0⟩
          have HB0 := Lib.hid (HB.out.trans hE0)
          clear hE0
          have HW1 := Lib.hid (wbi w.heap.size w.heap.size (A ++ [92]) (48 + c / 100) (48 + (c.toNat : Int) / 100) (dig c).1.symm u0 hb0 (by simp; omega) (by have := HB0.out.size; omega))
          clear hb0
          go_wp2_with fail
          refine HW1.out.mono ?_
          rintro e u1 ⟨rfl, hb1, hE1⟩
          have HB1 := Lib.hid (HB0.out.trans hE1)
          clear hE1
          have HW2 := Lib.hid (wbi w.heap.size w.heap.size (A ++ [92] ++ [48 + c / 100]) (48 + c / 10 % 10) (48 + (c.toNat : Int) / 10 % 10) (dig c).2.1.symm u1 hb1 (by simp; omega) (by have := HB1.out.size; omega))
          clear hb1
          go_wp2_with fail
          refine HW2.out.mono ?_
          rintro e u2 ⟨rfl, hb2, hE2⟩
          have HB2 := Lib.hid (HB1.out.trans hE2)
          clear hE2
          have HW3 := Lib.hid (wbi w.heap.size w.heap.size (A ++ [92] ++ [48 + c / 100] ++ [48 + c / 10 % 10]) (48 + c % 10) (48 + (c.toNat : Int) % 10) (dig c).2.2.symm u2 hb2 (by simp; omega) (by have := HB2.out.size; omega))
          clear hb2
          go_wp2_with fail
          refine HW3.out.mono ?_
          rintro e u3 ⟨rfl, hb3, hE3⟩
          have HB3 := Lib.hid (HB2.out.trans hE3)
          clear hE3
          have hkg := HK.out
          go_wp2_with fail
          go_roundg (gk - 1)
          case rel => exact ⟨k + 1, A ++ [92] ++ [48 + c / 100] ++ [48 + c / 10 % 10] ++ [48 + c % 10], by go_num, by omega, by omega, Lib.hid (by have h := HST.out; simpa [escL] using h), Lib.hid hb3, HB3⟩
          case measure => omega
        · have hq5 : 126 < (c.toNat : Int) := by omega
          clear hq3
          have HW0 := Lib.hid (wbi w.heap.size w.heap.size (A) (92) (92) rfl wr HA.out (by omega) (by have := HB.out.size; omega))
          go_wp2_with fail
          refine HW0.out.mono ?_
          rintro e u0 ⟨rfl, hb0, hE0⟩
          have HB0 := Lib.hid (HB.out.trans hE0)
          clear hE0
          have HW1 := Lib.hid (wbi w.heap.size w.heap.size (A ++ [92]) (48 + c / 100) (48 + (c.toNat : Int) / 100) (dig c).1.symm u0 hb0 (by simp; omega) (by have := HB0.out.size; omega))
          clear hb0
          go_wp2_with fail
          refine HW1.out.mono ?_
          rintro e u1 ⟨rfl, hb1, hE1⟩
          have HB1 := Lib.hid (HB0.out.trans hE1)
          clear hE1
          have HW2 := Lib.hid (wbi w.heap.size w.heap.size (A ++ [92] ++ [48 + c / 100]) (48 + c / 10 % 10) (48 + (c.toNat : Int) / 10 % 10) (dig c).2.1.symm u1 hb1 (by simp; omega) (by have := HB1.out.size; omega))
          clear hb1
          go_wp2_with fail
          refine HW2.out.mono ?_
          rintro e u2 ⟨rfl, hb2, hE2⟩
          have HB2 := Lib.hid (HB1.out.trans hE2)
          clear hE2
          have HW3 := Lib.hid (wbi w.heap.size w.heap.size (A ++ [92] ++ [48 + c / 100] ++ [48 + c / 10 % 10]) (48 + c % 10) (48 + (c.toNat : Int) % 10) (dig c).2.2.symm u2 hb2 (by simp; omega) (by have := HB2.out.size; omega))
          clear hb2
          go_wp2_with fail
          refine HW3.out.mono ?_
          rintro e u3 ⟨rfl, hb3, hE3⟩
          have HB3 := Lib.hid (HB2.out.trans hE3)
          clear hE3
          have hkg := HK.out
          go_wp2_with fail
          go_roundg (gk - 1)
          case rel => exact ⟨k + 1, A ++ [92] ++ [48 + c / 100] ++ [48 + c / 10 % 10] ++ [48 + c % 10], by go_num, by omega, by omega, Lib.hid (by have h := HST.out; simpa [escL] using h), Lib.hid hb3, HB3⟩
          case measure => omega
      · rw [he] at HST hAR; clear he
        have hAl : A.length + 2 ≤ R.length := hAR
        clear hAR
        have b1 : ((c.toNat : Int) == 34) = false := by rw [beq_eq_false_iff_ne]; exact hq1
        have b2 : ((c.toNat : Int) == 92) = false := by rw [beq_eq_false_iff_ne]; exact hq2
        clear hq1 hq2
        have HW0 := Lib.hid (wbi w.heap.size w.heap.size (A) (c) ((c.toNat : Int)) rfl wr HA.out (by omega) (by have := HB.out.size; omega))
        go_wp2_with fail
        refine HW0.out.mono ?_
        rintro e u0 ⟨rfl, hb0, hE0⟩
        have HB0 := Lib.hid (HB.out.trans hE0)
        clear hE0
        have hkg := HK.out
        go_wp2_with fail
        go_roundg (gk - 1)
        case rel => exact ⟨k + 1, A ++ [c], by go_num, by omega, by omega, Lib.hid (by have h := HST.out; simpa [escL] using h), Lib.hid hb0, HB0⟩
        case measure => omega
    · have HN := Lib.hid (quote_end HW.out (by omega))
      have hAl : A.length + 1 ≤ R.length := by rw [← HN.out]; simp
      have HSTEP := Lib.hid (wbi w.heap.size w.heap.size A 34 34 rfl wr HA.out (by omega) hsz)
      go_wp2_with fail
      refine HSTEP.out.mono ?_
      rintro e w1 ⟨rfl, hb1, hE1⟩
      rw [HN.out] at hb1
      have HB1 := Lib.hid (HB.out.trans hE1)
      clear hE1
      go_wp2_with fail
      refine (Tryz.Builder_String_any _ _ R _ hb1 (by have := HB1.out.size; omega)).mono ?_
      rintro e v2 ⟨rfl, hE2⟩
      go_wp2
      go_ret
      exact ⟨rfl, HB1.out.trans hE2⟩
end Go.Proofs.YtjejmgdpjfdhjaaGreatDoor.dshowA
namespace Go.Proofs.YtjejmgdpjfdhjaaGreatDoor.rshowA
open Go.RowKit Go.Proofs.YtjejmgdpjfdhjaaGreatDoor.kit Go.Proofs.YtjejmgdpjfdhjaaGreatDoor.nspec Go.Proofs.YtjejmgdpjfdhjaaGreatDoor.bits Go.Proofs.YtjejmgdpjfdhjaaGreatDoor.dshow Go.Proofs.YtjejmgdpjfdhjaaGreatDoor.showA Go.Proofs.YtjejmgdpjfdhjaaGreatDoor.showB Go.Proofs.YtjejmgdpjfdhjaaGreatDoor.ints Go.Proofs.YtjejmgdpjfdhjaaGreatDoor.coded Go.Proofs.YtjejmgdpjfdhjaaGreatDoor.dshowA
set_option linter.unusedVariables false

set_option maxRecDepth 100000 in
theorem rhex_any (s : ByteArray) (w : World) (hs : s.size ≤ 1099511627776) :
    Calls Tryz.prog 20 #[.string s] w fun e w' => e = .returned (.string ⟨(hexS s.data.toList).toArray⟩) ∧ Below w.heap.size w w' := by
  have hl : (bitsL s.data.toList).length ≤ 8796093022208 := by rw [bitsL_len, size_len]; omega
  go_enter Tryz.func20, Tryz.ntmps20
  go_wp2_with fail
  refine (bits_any s _ hs).mono ?_
  rintro e w1 ⟨a, c, rfl, hc, hcm, hrd, hB⟩
  go_wp2_with fail
  refine (coded_any a c _ 4 ⟨set16.toArray⟩ _ hrd hc hcm hl (bitsL_01 _) (by omega) (by omega) (by decide)).mono ?_
  rintro e w2 ⟨rfl, hB2⟩
  go_wp2
  go_ret
  exact ⟨rfl, hB.trans (hB2.mono hB.size)⟩

theorem pad_end {s : Bs} (h : s.length % 4 = 0) : padS s = s := by
  unfold padS; rw [h]; simp
theorem pad_go {s : Bs} (h : 0 < s.length % 4) : padS (s ++ [61]) = padS s := by
  unfold padS
  rw [List.length_append, List.length_singleton, List.append_assoc]
  congr 1
  obtain ⟨k, hk⟩ : ∃ k, (4 - s.length % 4) % 4 = k + 1 := ⟨(4 - s.length % 4) % 4 - 1, by omega⟩
  rw [hk, List.replicate_succ]
  have : (4 - (s.length + 1) % 4) % 4 = k := by omega
  rw [this]; rfl
set_option maxRecDepth 100000 in
set_option maxHeartbeats 1000000 in
theorem rb64_any (s : ByteArray) (w : World) (hs : s.size ≤ 1099511627776) :
    Calls Tryz.prog 46 #[.string s] w fun e w' => e = .returned (.string ⟨(b64S s.data.toList).toArray⟩) ∧ Below w.heap.size w w' := by
  have hl : (bitsL s.data.toList).length ≤ 8796093022208 := by rw [bitsL_len, size_len]; omega
  obtain ⟨R, HR⟩ : ∃ R, Hid (b64S s.data.toList = R) := ⟨_, Lib.hid rfl⟩
  rw [HR.out]
  obtain ⟨E, hE⟩ : ∃ E : ByteArray, (⟨(enc 6 set64 (bitsL s.data.toList)).toArray⟩ : ByteArray) = E := ⟨_, rfl⟩
  have hEd : E.data.toList = enc 6 set64 (bitsL s.data.toList) := by rw [← hE]
  have HE : Hid (padS E.data.toList = R) := Lib.hid (by rw [hEd, ← HR.out]; rfl)
  have hEl : E.size ≤ 8796093022208 := by
    have h1 := enc_len 6 set64 (by omega) (bitsL s.data.toList)
    rw [← hEd, size_len] at h1; omega
  have CC := Lib.hid (fun a c w (hrd : RdN w a (bitsL s.data.toList)) hc hcm => coded_any a c _ 6 ⟨set64.toArray⟩ w hrd hc hcm hl (bitsL_01 _) (by omega) (by omega) (by decide))
  rw [show (⟨set64.toArray⟩ : ByteArray).data.toList = set64 from rfl, hE] at CC
  clear hE hEd
  go_enter Tryz.func46, Tryz.ntmps46
  go_wp2_with fail
  refine (bits_any s _ hs).mono ?_
  rintro e w1 ⟨a, c, rfl, hc, hcm, hrd, hB⟩
  go_wp2_with fail
  refine (CC.out a c _ hrd hc hcm).mono ?_
  rintro e w2 ⟨rfl, hB2⟩
  have HB := Lib.hid (hB.trans (hB2.mono hB.size))
  clear hB hB2 hrd
  go_wp2_with fail
  go_loopg [3] 5 (fun gas sv wr => ∃ (S : ByteArray), sv = .string S ∧ S.size + gas = E.size + 5 ∧ 1 ≤ gas ∧ Hid ((4 - S.size % 4) % 4 < gas) ∧ Hid (padS S.data.toList = R) ∧ wr = w2)
  case atStart => exact ⟨E, rfl, by omega, by omega, Lib.hid (by omega), HE, rfl⟩
  case round =>
    obtain ⟨S, rfl, hS, hg1, HG, HP, rfl⟩ := hrel
    by_cases h4 : S.size % 4 = 0
    · have HN : Hid (S.data.toList = R) := Lib.hid (by rw [← HP.out, pad_end (by rw [size_len]; exact h4)])
      have h4i : (S.size : Int) % 4 = 0 := by omega
      go_wp2_with fail
      go_ret
      exact ⟨ret_str (ba_ext HN.out), HB.out⟩
    · have HN : Hid (padS (S ++ ⟨#[61]⟩ : ByteArray).data.toList = R) := Lib.hid (by rw [← HP.out, ByteArray.data_append, Array.toList_append]; exact pad_go (by rw [size_len]; omega))
      have h4i : 0 < (S.size : Int) % 4 := by omega
      have hsum : (S ++ (⟨#[61]⟩ : ByteArray)).size = S.size + 1 := by rw [ByteArray.size_append]; rfl
      have HSUM := Lib.hid hsum
      have HG2 : Hid ((4 - (S ++ (⟨#[61]⟩ : ByteArray)).size % 4) % 4 < gk - 1) := Lib.hid (by rw [hsum]; have := HG.out; omega)
      have hg2 : 1 ≤ gk - 1 := by have := HG.out; omega
      clear hsum
      go_wp2_with fail
      go_roundg (gk - 1)
      case rel => exact ⟨S ++ ⟨#[61]⟩, rfl, by rw [HSUM.out]; omega, hg2, HG2, HN, rfl⟩
      case measure => omega

theorem rq_go {C : ByteArray} {R T : Bs} {X : ByteArray} {j : Nat} {c : UInt8} (h : C.data.toList ++ ((X.data.toList.drop j).flatMap quoteB ++ T) = R) (hc : X.data.toList[j]? = some c) : (C.data.toList ++ quoteB c) ++ ((X.data.toList.drop (j + 1)).flatMap quoteB ++ T) = R := by
  obtain ⟨h3, h4⟩ := List.getElem?_eq_some_iff.1 hc
  rw [List.drop_eq_getElem_cons h3, h4] at h
  rw [← h]; simp
set_option maxRecDepth 100000 in
set_option maxHeartbeats 4000000 in
theorem rquote_any (X : ByteArray) (w : World) (hs : X.size ≤ 1099511627776) :
    Calls Tryz.prog 45 #[.string X] w fun e w' => e = .returned (.string ⟨(quoteS X.data.toList).toArray⟩) ∧ Below w.heap.size w w' := by
  obtain ⟨R, HR⟩ : ∃ R, Hid ((⟨#[34]⟩ : ByteArray).data.toList ++ ((X.data.toList.drop 0).flatMap quoteB ++ [34]) = R) := ⟨_, Lib.hid rfl⟩
  have HR0 : Hid (quoteS X.data.toList = R) := Lib.hid (by rw [← HR.out]; rfl)
  have hRl : R.length ≤ 8796093022208 := by
    have h1 := quoteS_len X.data.toList
    rw [HR0.out, size_len] at h1; omega
  rw [HR0.out]
  go_enter Tryz.func45, Tryz.ntmps45
  go_wp2_with fail
  go_loopg [3, 4] (X.size + 1) (fun gas sv jv wq => ∃ (j : Nat) (C : ByteArray), sv = .string C ∧ C.size ≤ 8796093022208 ∧ jv = .int .i64 j ∧ j ≤ X.size ∧ j + gas = X.size + 1 ∧ Hid (C.data.toList ++ ((X.data.toList.drop j).flatMap quoteB ++ [34]) = R) ∧ Hid (Below w.heap.size w wq))
  case atStart => exact ⟨0, _, rfl, by decide, rfl, by omega, by omega, HR, Lib.hid (Below.refl _ _)⟩
  case round =>
    obtain ⟨j, C, rfl, hC, rfl, hj, hjg, HV, HB⟩ := hrel
    have HJ := Lib.hid hjg; clear hjg
    by_cases hjt : j < X.size
    · obtain ⟨c, hc⟩ : ∃ c, X[j] = c := ⟨_, rfl⟩
      have hcj : X.data.toList[j]? = some c := by rw [← hc]; exact List.getElem?_eq_getElem (by rw [size_len]; exact hjt)
      have HN := Lib.hid (rq_go HV.out hcj)
      have hnl : C.size + (quoteB c).length + 1 ≤ R.length := by rw [← HN.out, ← size_len]; simp; omega
      have hX1 := one_ext X j c hcj
      have hc256 := byte_lt c
      have hc0 : 0 ≤ (c.toNat : Int) := by omega
      clear hcj
      rcases quote_cases c with ⟨hq, he⟩ | ⟨hq1, hq2, hq3, he⟩ | ⟨hq1, hq2, hq3, hq4, he⟩
      · rw [he] at HN hnl; clear he
        have hAl : C.size + 3 ≤ R.length := hnl
        clear hnl
        by_cases hq1 : (c.toNat : Int) = 34
        · have b1 : ((c.toNat : Int) == 34) = true := by rw [beq_iff_eq]; exact hq1
          clear hq hq1
          go_wp2_with fail
          have hjg := HJ.out
          go_roundg (gk - 1)
          case rel => exact ⟨j + 1, _, rfl, by rw [sz2]; omega, by go_num, by omega, by omega, by rw [dt2]; exact HN, HB⟩
          case measure => omega
        · have b1 : ((c.toNat : Int) == 34) = false := by rw [beq_eq_false_iff_ne]; exact hq1
          have b2 : ((c.toNat : Int) == 92) = true := by rw [beq_iff_eq]; omega
          clear hq hq1
          go_wp2_with fail
          have hjg := HJ.out
          go_roundg (gk - 1)
          case rel => exact ⟨j + 1, _, rfl, by rw [sz2]; omega, by go_num, by omega, by omega, by rw [dt2]; exact HN, HB⟩
          case measure => omega
      · rw [he] at HN hnl; clear he
        have hAl : C.size + 5 ≤ R.length := hnl
        clear hnl
        have b1 : ((c.toNat : Int) == 34) = false := by rw [beq_eq_false_iff_ne]; exact hq1
        have b2 : ((c.toNat : Int) == 92) = false := by rw [beq_eq_false_iff_ne]; exact hq2
        have ht4 : (⟨(92 :: escL c).toArray⟩ : ByteArray).size = 4 := rfl
        clear hq1 hq2
        by_cases hq4 : (c.toNat : Int) < 32
        · clear hq3
          go_wp2_with fail
          refine (escape_any c _).mono ?_
          rintro e w3 ⟨rfl, hB3⟩
          have HB3 := Lib.hid (HB.out.trans (hB3.mono HB.out.size))
          clear hB3
          go_wp2_with fail
          have hjg := HJ.out
          go_roundg (gk - 1)
          case rel => exact ⟨j + 1, _, rfl, by rw [ByteArray.size_append, ht4]; omega, by go_num, by omega, by omega, by rw [dtE]; exact HN, HB3⟩
          case measure => omega
        · have hq5 : 126 < (c.toNat : Int) := by omega
          clear hq3
          go_wp2_with fail
          refine (escape_any c _).mono ?_
          rintro e w3 ⟨rfl, hB3⟩
          have HB3 := Lib.hid (HB.out.trans (hB3.mono HB.out.size))
          clear hB3
          go_wp2_with fail
          have hjg := HJ.out
          go_roundg (gk - 1)
          case rel => exact ⟨j + 1, _, rfl, by rw [ByteArray.size_append, ht4]; omega, by go_num, by omega, by omega, by rw [dtE]; exact HN, HB3⟩
          case measure => omega
      · rw [he] at HN hnl; clear he
        have hAl : C.size + 2 ≤ R.length := hnl
        clear hnl
        have b1 : ((c.toNat : Int) == 34) = false := by rw [beq_eq_false_iff_ne]; exact hq1
        have b2 : ((c.toNat : Int) == 92) = false := by rw [beq_eq_false_iff_ne]; exact hq2
        clear hq1 hq2
        go_wp2_with fail
        have hjg := HJ.out
        go_roundg (gk - 1)
        case rel => exact ⟨j + 1, _, rfl, by rw [sz1]; omega, by go_num, by omega, by omega, by rw [dt1]; exact HN, HB⟩
        case measure => omega
    · have HN : Hid ((C ++ ⟨#[34]⟩ : ByteArray).data.toList = R) := Lib.hid (by
        have h := HV.out
        rw [drop_end X j (by omega)] at h
        rw [dt1]; simpa using h)
      have hcs : C.size + 1 ≤ 8796093022208 := by
        have h := hRl
        rw [← HN.out, size_len, ByteArray.size_append] at h
        exact h
      go_wp2_with fail
      go_ret
      exact ⟨ret_str (ba_ext HN.out), HB.out⟩
end Go.Proofs.YtjejmgdpjfdhjaaGreatDoor.rshowA
namespace Go.Proofs.YtjejmgdpjfdhjaaGreatDoor.textsT
open Go.RowKit Go.Proofs.YtjejmgdpjfdhjaaGreatDoor.kit Go.Proofs.YtjejmgdpjfdhjaaGreatDoor.nspec Go.Proofs.YtjejmgdpjfdhjaaGreatDoor.fld Go.Proofs.YtjejmgdpjfdhjaaGreatDoor.takes
set_option linter.unusedVariables false

def textsA (at0 : Nat) (d : Bs) : Int := textsF (d.length + 1) at0 d
theorem texts_end (at0 : Nat) : textsA at0 [] = if at0 = 0 then -1 else (at0 : Int) := rfl
theorem texts_go {at0 : Nat} {c : UInt8} {r : Bs} (h : c.toNat ≤ r.length) : textsA at0 (c :: r) = textsA (at0 + (1 + c.toNat)) (r.drop c.toNat) := by
  unfold textsA
  rw [List.length_cons, textsF, if_neg (by omega)]
  exact texts_fuel _ _ _ _ (by rw [List.length_drop]; omega) (by omega)
theorem texts_bad {at0 : Nat} {c : UInt8} {r : Bs} (h : r.length < c.toNat) : textsA at0 (c :: r) = -1 := by
  unfold textsA
  rw [List.length_cons, textsF, if_pos h]
theorem ext_end (s : ByteArray) (a : Nat) : (s.extract a s.size).data.toList = s.data.toList.drop a := by
  rw [Lib.extract_data]; rw [List.take_of_length_le (by rw [List.length_drop, size_len]; exact Nat.le_refl _)]

set_option maxRecDepth 100000 in
set_option maxHeartbeats 2000000 in
theorem texts_any (s : ByteArray) (w : World) (hs : s.size ≤ 1099511627776) :
    Calls Tryz.prog 114 #[.agg #[], .string s] w fun e w' => e = .returned (.int .i64 (takeS .texts s.data.toList)) ∧ Below w.heap.size w w' := by
  have hBa := Lib.hid ((Below.refl w.heap.size w).alloc (Nat.le_refl _) (.cells #[] 69))
  obtain ⟨R, HR⟩ : ∃ R, Hid (textsA 0 (s.data.toList.drop 0) = R) := ⟨_, Lib.hid rfl⟩
  have HT : Hid (takeS .texts s.data.toList = R) := Lib.hid HR.out
  rw [HT.out]
  go_enter Tryz.func114, Tryz.ntmps114
  go_wp2_with fail
  go_loopg [5, 6] (s.size + 1) (fun gas av _ wr => ∃ a : Nat, av = .int .i64 a ∧ a ≤ s.size ∧ s.size + 1 ≤ a + gas ∧ Hid (textsA a (s.data.toList.drop a) = R) ∧ Below w.heap.size w wr)
  case atStart => exact ⟨0, rfl, by omega, by omega, HR, hBa.out⟩
  case round =>
    obtain ⟨a, rfl, ha, hgas, HS, hB⟩ := hrel
    have HG := Lib.hid hgas; clear hgas
    have HB := Lib.hid hB; clear hB
    by_cases hlt : a < s.size
    · obtain ⟨c, hc⟩ : ∃ c, s[a] = c := ⟨_, rfl⟩
      have hd := drop_cons s a hlt
      rw [hc] at hd
      have hl : (s.data.toList.drop (a + 1)).length = s.size - (a + 1) := by rw [List.length_drop, size_len]
      have CT := Lib.hid (fun w => text_any (s.extract a s.size) w (by rw [ByteArray.size_extract]; omega))
      rw [ext_end, hd] at CT
      have h1 : (a : Int) ≤ (s.size : Int) := by omega
      by_cases h2 : (s.data.toList.drop (a + 1)).length < c.toNat
      · have e1 : textS (c :: s.data.toList.drop (a + 1)) = -1 := by simp only [textS]; rw [if_pos h2]
        have HN : Hid (-1 = R) := Lib.hid (by rw [← HS.out, hd, texts_bad h2])
        rw [e1] at CT
        clear e1 h2 hd hl
        go_wp2_with fail
        refine (CT.out _).mono ?_
        rintro e w1 ⟨rfl, hB1⟩
        have HB1 := Lib.hid (HB.out.trans (hB1.mono HB.out.size)); clear hB1
        go_wp2_with fail
        go_ret
        exact ⟨by rw [← HN.out]; rfl, HB1.out⟩
      · have e1 : textS (c :: s.data.toList.drop (a + 1)) = ((1 + c.toNat : Nat) : Int) := by simp only [textS]; rw [if_neg h2]; simp
        obtain ⟨n, hn⟩ : ∃ n, 1 + c.toNat = n := ⟨_, rfl⟩
        have hns : a + n ≤ s.size := by omega
        have HN : Hid (textsA (a + n) (s.data.toList.drop (a + n)) = R) := Lib.hid (by
          rw [← HS.out, hd, texts_go (by omega), List.drop_drop, hn, show a + 1 + c.toNat = a + n by omega])
        rw [e1, hn] at CT
        have hn1 : 1 ≤ n := by omega
        clear e1 h2 hd hl hn
        go_wp2_with fail
        refine (CT.out _).mono ?_
        rintro e w1 ⟨rfl, hB1⟩
        have HB1 := Lib.hid (HB.out.trans (hB1.mono HB.out.size)); clear hB1
        go_wp2_with fail
        have hgas := HG.out
        go_roundg (gk - 1)
        case rel => exact ⟨a + n, by go_num, by omega, by omega, HN, HB1.out⟩
        case measure => omega
    · have hae : a = s.size := by omega
      subst hae
      have HN : Hid ((if s.size = 0 then -1 else (s.size : Int)) = R) := Lib.hid (by rw [← HS.out, drop_end s s.size (Nat.le_refl _), texts_end])
      clear hlt
      by_cases h0 : s.size = 0
      · have hz : ((s.size : Int) == 0) = true := by rw [beq_iff_eq]; omega
        rw [if_pos h0] at HN
        have H0 := Lib.hid h0; clear h0
        go_wp2_with fail
        go_ret
        exact ⟨by rw [← HN.out]; rfl, HB.out⟩
      · have hz : ((s.size : Int) == 0) = false := by rw [beq_eq_false_iff_ne]; omega
        rw [if_neg h0] at HN
        clear h0
        go_wp2_with fail
        go_ret
        exact ⟨by rw [← HN.out]; rfl, HB.out⟩
end Go.Proofs.YtjejmgdpjfdhjaaGreatDoor.textsT
namespace Go.Proofs.YtjejmgdpjfdhjaaGreatDoor.rrows6
open Go.RowKit Go.Proofs.YtjejmgdpjfdhjaaGreatDoor.kit Go.Proofs.YtjejmgdpjfdhjaaGreatDoor.nspec Go.Proofs.YtjejmgdpjfdhjaaGreatDoor.bits Go.Proofs.YtjejmgdpjfdhjaaGreatDoor.dshow Go.Proofs.YtjejmgdpjfdhjaaGreatDoor.rshowA Go.Proofs.YtjejmgdpjfdhjaaGreatDoor.textsT
set_option linter.unusedVariables false

def pairsG : Bs → List Bs
  | a :: b :: r => hexN (a.toNat * 256 + b.toNat) :: pairsG r
  | _ => []
def rowsS (d : Bs) : Bs := colon (pairsG d)
def colonK (j : Nat) (gs : List Bs) : Bs := if j = 0 then colon gs else gs.flatMap (fun y => 58 :: y)
theorem colonK_nil (j : Nat) : colonK j [] = [] := by unfold colonK; split <;> simp [colon]
theorem colonK_cons (j : Nat) (g : Bs) (gs : List Bs) : colonK j (g :: gs) = (if 0 < j then [58] else []) ++ g ++ colonK (j + 1) gs := by
  unfold colonK
  by_cases h : j = 0
  · subst h; simp [colon]
  · rw [if_neg h, if_pos (by omega), if_neg (by omega)]; simp
theorem strip_go {d : UInt8} {r : Bs} : stripS (48 :: d :: r) = stripS (d :: r) := by
  unfold stripS
  simp only [List.length_cons]
  rw [stripF, if_pos rfl]
theorem strip_end {l : Bs} (h : l.length ≤ 1 ∨ l.getD 0 0 ≠ 48) : stripS l = l := by
  unfold stripS
  match l, h with
  | [], _ => rfl
  | [c], _ => rfl
  | c :: d :: r, h =>
    have hc : c ≠ 48 := by
      rcases h with h | h
      · simp at h
      · simpa using h
    simp only [List.length_cons]
    rw [stripF, if_neg hc]
theorem strip_step {D : ByteArray} {G : Bs} (h : stripS D.data.toList = G) (h1 : 1 < D.size) (h0 : D[0] = 48) : stripS (D.extract 1 D.size).data.toList = G := by
  rw [ext_end]
  have e1 := drop_cons D 0 (by omega)
  have e2 := drop_cons D 1 h1
  rw [List.drop_zero, h0] at e1
  rw [e1, show (0 : Nat) + 1 = 1 from rfl, e2, strip_go, ← e2] at h
  exact h
theorem pair_hex (X : ByteArray) (k : Nat) (h : k + 2 ≤ X.size) : pairsG (X.data.toList.drop k) = stripS (hexS (X.extract k (k + 2)).data.toList) :: pairsG (X.data.toList.drop (k + 2)) := by
  have e1 := drop_cons X k (by omega)
  have e2 := drop_cons X (k + 1) (by omega)
  have e3 : (X.extract k (k + 2)).data.toList = [X[k], X[k + 1]] := by
    rw [Lib.extract_data, e1, e2, show k + 2 - k = 2 by omega]; rfl
  rw [e3, strip_hex, e1, e2, pairsG]
theorem hexS_pair (X : ByteArray) (k : Nat) (h : k + 2 ≤ X.size) : (hexS (X.extract k (k + 2)).data.toList).length = 4 := by
  rw [hex_len, size_len, ByteArray.size_extract]; omega

set_option maxRecDepth 100000 in
set_option maxHeartbeats 2400000 in
theorem rrows6_any (X : ByteArray) (n : Nat) (w : World) (hs : X.size = 2 * n) (hn : n ≤ 8) :
    Calls Tryz.prog 62 #[.string X] w fun e w' => e = .returned (.string ⟨(rowsS X.data.toList).toArray⟩) ∧ Below w.heap.size w w' := by
  obtain ⟨R, HR⟩ : ∃ R, Hid ((⟨#[]⟩ : ByteArray).data.toList ++ colonK 0 (pairsG (X.data.toList.drop 0)) = R) := ⟨_, Lib.hid rfl⟩
  have HR0 : Hid (rowsS X.data.toList = R) := Lib.hid (by rw [← HR.out]; rfl)
  rw [HR0.out]
  have HSZ := Lib.hid hs
  have hxi : (X.size : Int) = 2 * (n : Int) := by omega
  clear hs
  go_enter Tryz.func62, Tryz.ntmps62
  go_wp2_with fail
  go_loopg [3, 4, 5] (n + 1) (fun gas sv kv _ wr => ∃ (j k : Nat) (S : ByteArray), sv = .string S ∧ kv = .int .i64 k ∧ S.size ≤ 5 * j ∧ Hid (k = 2 * j) ∧ j ≤ n ∧ j + gas = n + 1 ∧ Hid (S.data.toList ++ colonK j (pairsG (X.data.toList.drop k)) = R) ∧ Hid (Below w.heap.size w wr))
  case atStart => exact ⟨0, 0, ⟨#[]⟩, rfl, rfl, by decide, Lib.hid rfl, by omega, by omega, HR, Lib.hid (Below.refl _ _)⟩
  case round =>
    obtain ⟨j, k, S, rfl, rfl, hS, HKJ, hj, hjg, HW, HB⟩ := hrel
    obtain ⟨gk', hgk'⟩ : ∃ g, g = gk := ⟨_, rfl⟩
    rw [← hgk'] at hjg
    have HJ := Lib.hid hjg; clear hjg
    have hsz := HB.out.size
    by_cases hjn : j < n
    · have hk2 : k + 2 ≤ X.size := by have := HKJ.out; have := HSZ.out; omega
      have hk2i : (k : Int) + 2 ≤ (X.size : Int) := by omega
      obtain ⟨x, HX⟩ : ∃ x, Hid (X.extract k (k + 2) = x) := ⟨_, Lib.hid rfl⟩
      have hx := congrArg Value.string HX.out
      obtain ⟨G, HG⟩ : ∃ G, Hid (stripS (hexS x.data.toList) = G) := ⟨_, Lib.hid rfl⟩
      have HST := Lib.hid (by have h := HW.out; rw [pair_hex X k hk2, HX.out, HG.out, colonK_cons] at h; exact h)
      obtain ⟨D, hD⟩ : ∃ D : ByteArray, (⟨(hexS x.data.toList).toArray⟩ : ByteArray) = D := ⟨_, rfl⟩
      have hDd : D.data.toList = hexS x.data.toList := by rw [← hD]
      have hD4 : D.size = 4 := by rw [← size_len, hDd, ← HX.out]; exact hexS_pair X k hk2
      have hxs : x.size = 2 := by rw [← HX.out, ByteArray.size_extract]; omega
      have CH := Lib.hid (fun w => rhex_any x w (by omega))
      rw [hD] at CH
      have HG2 : Hid (stripS D.data.toList = G) := Lib.hid (by rw [hDd]; exact HG.out)
      have hlt : decide ((k : Int) < (X.size : Int)) = true := by simp; omega
      clear hD hDd
      go_wp2_with fail
      refine (CH.out _).mono ?_
      rintro e w1 ⟨rfl, hB1⟩
      have HB1 := Lib.hid (HB.out.trans (hB1.mono hsz))
      clear hB1
      go_wp2_with fail
      go_loopg [5] 5 (fun gas hv wq => ∃ (T : ByteArray), hv = .string T ∧ 1 ≤ T.size ∧ T.size ≤ 4 ∧ T.size < gas + 1 ∧ Hid (stripS T.data.toList = G) ∧ wq = w1)
      case atStart => exact ⟨D, rfl, by omega, by omega, by omega, HG2, rfl⟩
      case round =>
        obtain ⟨T, rfl, hT1, hT4, hTg, HT, rfl⟩ := hrel
        by_cases h1 : 1 < T.size
        · obtain ⟨c, hc⟩ : ∃ c, T[0] = c := ⟨_, rfl⟩
          by_cases h48 : c = 48
          · have HT2 := Lib.hid (strip_step HT.out h1 (hc.trans h48))
            have hb : ((c.toNat : Int) == 48) = true := by rw [h48]; rfl
            obtain ⟨U, hU⟩ : ∃ U, T.extract 1 T.size = U := ⟨_, rfl⟩
            have hUs : U.size = T.size - 1 := by rw [← hU, ByteArray.size_extract]; omega
            rw [hU] at HT2
            have HUS := Lib.hid hUs
            have h1i : (1 : Int) < (T.size : Int) := by omega
            clear h48 hUs
            go_wp2_with fail
            have hus := HUS.out
            go_roundg (gk - 1)
            case rel => exact ⟨U, by first | rfl | rw [hU], by omega, by omega, by omega, HT2, rfl⟩
            case measure => omega
          · have HTG : Hid (T.data.toList = G) := Lib.hid (by rw [← HT.out, strip_end (.inr (by rw [getD_at T 0 (by omega), hc]; exact h48))])
            have hb : ((c.toNat : Int) == 48) = false := by
              rw [beq_eq_false_iff_ne]; intro h; exact h48 (UInt8.toNat.inj (by show c.toNat = 48; omega))
            have h1i : (1 : Int) < (T.size : Int) := by omega
            clear h48
            by_cases hj0 : 0 < j
            · have hk0 : 0 < (k : Int) := by have := HKJ.out; omega
              rw [if_pos hj0] at HST
              have HN : Hid ((S ++ ⟨#[58]⟩ ++ T : ByteArray).data.toList ++ colonK (j + 1) (pairsG (X.data.toList.drop (k + 2))) = R) := Lib.hid (by
                rw [← HST.out, ← HTG.out]; simp)
              have HSS : Hid ((S ++ ⟨#[58]⟩ ++ T : ByteArray).size ≤ 5 * (j + 1)) := Lib.hid (by
                rw [ByteArray.size_append, ByteArray.size_append, show (⟨#[58]⟩ : ByteArray).size = 1 from rfl]; omega)
              have hs1 : (S ++ (⟨#[58]⟩ : ByteArray)).size = S.size + 1 := by rw [ByteArray.size_append]; rfl
              go_wp2_with fail
              have hjg := HJ.out
              go_roundg (gk' - 1)
              case rel => exact ⟨j + 1, k + 2, _, rfl, by go_num, HSS.out, Lib.hid (by have := HKJ.out; omega), by omega, by omega, HN, HB1⟩
              case measure => omega
            · have hk0 : ¬ 0 < (k : Int) := by have := HKJ.out; omega
              rw [if_neg hj0] at HST
              have HN : Hid ((S ++ T : ByteArray).data.toList ++ colonK (j + 1) (pairsG (X.data.toList.drop (k + 2))) = R) := Lib.hid (by
                rw [← HST.out, ← HTG.out]; simp)
              have HSS : Hid ((S ++ T : ByteArray).size ≤ 5 * (j + 1)) := Lib.hid (by rw [ByteArray.size_append]; omega)
              go_wp2_with fail
              have hjg := HJ.out
              go_roundg (gk' - 1)
              case rel => exact ⟨j + 1, k + 2, _, rfl, by go_num, HSS.out, Lib.hid (by have := HKJ.out; omega), by omega, by omega, HN, HB1⟩
              case measure => omega
        · have HTG : Hid (T.data.toList = G) := Lib.hid (by rw [← HT.out, strip_end (.inl (by rw [size_len]; omega))])
          by_cases hj0 : 0 < j
          · have hk0 : 0 < (k : Int) := by have := HKJ.out; omega
            rw [if_pos hj0] at HST
            have HN : Hid ((S ++ ⟨#[58]⟩ ++ T : ByteArray).data.toList ++ colonK (j + 1) (pairsG (X.data.toList.drop (k + 2))) = R) := Lib.hid (by
              rw [← HST.out, ← HTG.out]; simp)
            have HSS : Hid ((S ++ ⟨#[58]⟩ ++ T : ByteArray).size ≤ 5 * (j + 1)) := Lib.hid (by
              rw [ByteArray.size_append, ByteArray.size_append, show (⟨#[58]⟩ : ByteArray).size = 1 from rfl]; omega)
            have hs1 : (S ++ (⟨#[58]⟩ : ByteArray)).size = S.size + 1 := by rw [ByteArray.size_append]; rfl
            go_wp2_with fail
            have hjg := HJ.out
            go_roundg (gk' - 1)
            case rel => exact ⟨j + 1, k + 2, _, rfl, by go_num, HSS.out, Lib.hid (by have := HKJ.out; omega), by omega, by omega, HN, HB1⟩
            case measure => omega
          · have hk0 : ¬ 0 < (k : Int) := by have := HKJ.out; omega
            rw [if_neg hj0] at HST
            have HN : Hid ((S ++ T : ByteArray).data.toList ++ colonK (j + 1) (pairsG (X.data.toList.drop (k + 2))) = R) := Lib.hid (by
              rw [← HST.out, ← HTG.out]; simp)
            have HSS : Hid ((S ++ T : ByteArray).size ≤ 5 * (j + 1)) := Lib.hid (by rw [ByteArray.size_append]; omega)
            go_wp2_with fail
            have hjg := HJ.out
            go_roundg (gk' - 1)
            case rel => exact ⟨j + 1, k + 2, _, rfl, by go_num, HSS.out, Lib.hid (by have := HKJ.out; omega), by omega, by omega, HN, HB1⟩
            case measure => omega
    · have HE : Hid (S.data.toList = R) := Lib.hid (by
        have h := HW.out
        rw [drop_end X k (by have := HKJ.out; have := HSZ.out; omega)] at h
        have e : pairsG [] = [] := rfl
        rw [e, colonK_nil, List.append_nil] at h; exact h)
      have hge : (X.size : Int) ≤ (k : Int) := by have := HKJ.out; omega
      go_wp2_with fail
      go_ret
      exact ⟨ret_str (ba_ext HE.out), HB.out⟩
end Go.Proofs.YtjejmgdpjfdhjaaGreatDoor.rrows6
