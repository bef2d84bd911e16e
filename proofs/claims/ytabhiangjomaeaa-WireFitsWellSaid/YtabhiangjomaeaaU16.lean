/- (*wire.cursor).name: walk. (*wire.cursor).data: walk. -/
import Derived.Test.YtabhiangjomaeaaU15
import Derived.Test.YtabhiangjomaeaaU13
import Derived.StillTailTactics
namespace Go.Proofs.Ytabhiangjomaeaa.cname
open Go.RowKit Go.Proofs.Ytabhiangjomaeaa.kit Go.Proofs.Ytabhiangjomaeaa.nspec Go.Proofs.Ytabhiangjomaeaa.rsplit Go.Proofs.Ytabhiangjomaeaa.check Go.Proofs.Ytabhiangjomaeaa.bits Go.Proofs.Ytabhiangjomaeaa.bld Go.Proofs.Ytabhiangjomaeaa.coded Go.Proofs.Ytabhiangjomaeaa.fld Go.Proofs.Ytabhiangjomaeaa.wireP Go.Proofs.Ytabhiangjomaeaa.wireM Go.Proofs.Ytabhiangjomaeaa.packP Go.Proofs.Ytabhiangjomaeaa.buf Go.Proofs.Ytabhiangjomaeaa.unpP Go.Proofs.Ytabhiangjomaeaa.rows Go.Proofs.Ytabhiangjomaeaa.cur
set_option linter.unusedVariables false

/-- what was read ahead, and where it goes on if that is settled -/
def comb (l : Bs) (af : Option Nat) : Got Bs → Got Bs
  | .bad e => .bad e
  | .ok s j => .ok (l ++ s) (af.getD j)
theorem comb_label (l : Bs) (af : Option Nat) (c : Bs) (g : Got Bs) : comb l af (match g with | .bad e => .bad e | .ok r j => .ok (c ++ r) j) = comb (l ++ c) af g := by
  cases g with
  | bad e => rfl
  | ok r j => simp [comb]
theorem comb_jump (l : Bs) (af : Option Nat) (k : Nat) (g : Got Bs) : comb l af (match g with | .bad e => .bad e | .ok r _ => .ok r k) = comb l (some (af.getD k)) g := by
  cases g with
  | bad e => rfl
  | ok r j => simp [comb]
theorem comb_nil (g : Got Bs) : comb [] none g = g := by cases g <;> simp [comb]
def afV : Option Nat → Int
  | none => -1
  | some j => (j : Int)
/-- how a name's reading ends -/
def NameE (g : Got Bs) (C : Nat) (a : Option Addr) (b : Bs) (cap k : Nat) (w : World) (e : Ending) (w' : World) : Prop :=
  match g with
  | .bad x => e = stopE x ∧ Cur w' C a b cap k ∧ EffC C w w'
  | .ok s j => e = .returned (.string (mkB s)) ∧ Cur w' C a b cap j ∧ EffC C w w'
theorem NameE.no {g : Got Bs} {x : Int} {C : Nat} {a : Option Addr} {b : Bs} {cap k : Nat} {w w' : World} (hg : g = .bad x) (h1 : Cur w' C a b cap k) (h2 : EffC C w w') : NameE g C a b cap k w (stopE x) w' := by
  subst hg; exact ⟨rfl, h1, h2⟩
theorem NameE.yes {g : Got Bs} {s : Bs} {j : Nat} {C : Nat} {a : Option Addr} {b : Bs} {cap k : Nat} {w w' : World} (hg : g = .ok s j) (h1 : Cur w' C a b cap j) (h2 : EffC C w w') : NameE g C a b cap k w (.returned (.string (mkB s))) w' := by
  subst hg; exact ⟨rfl, h1, h2⟩
theorem cut_cells {w : World} {g o : Nat} {b : Bs} (h : RdB w (some ⟨g, o, none⟩) b) (i n : Nat) : ∀ (j : Nat) (u : Value), (Lib.byteCells (cutB b i (i + n)))[j]? = some u → w.cell? ((⟨g, o + i, none⟩ : Addr).add j) = some u := by
  intro j u hu
  simp only [Lib.byteCells, List.getElem?_map] at hu
  obtain ⟨c, hc, rfl⟩ := Option.map_eq_some_iff.1 hu
  unfold cutB at hc
  have hj : j < i + n - i := by have := (List.getElem?_eq_some_iff.1 hc).1; rw [List.length_take] at this; omega
  rw [List.getElem?_take_of_lt hj, List.getElem?_drop] at hc
  obtain ⟨g', o', h1, _, h3⟩ := h (i + j) c hc
  cases h1
  rw [addr_at, Nat.add_assoc]; exact h3
theorem byte_one (l : List UInt8) (u : Value) (h : u ∈ Lib.byteCells l) : u.oneCell' = true := by
  simp only [Lib.byteCells, List.mem_map] at h
  obtain ⟨c, _, rfl⟩ := h; rfl
theorem and63 {x : Int} (h₀ : 192 ≤ x) (h₁ : x < 256) : bits .and .i64 x 63 = x - 192 := by
  have h : bits .and .i64 x 63 = x % 64 := bits_mask .i64 40 (by decide) psmall.wraps40 6 (by decide) x (by omega) (by omega)
  rw [h]; omega

theorem _root_.Go.Proofs.Ytabhiangjomaeaa.cur.EffC.then_below {C : Nat} {w W w1 : World} (h : EffC C w W) (hB : Below w.heap.size W w1) : EffC C w w1 :=
  ⟨hB.os.trans h.os, hB.tape.trans h.tape, hB.output.trans h.output, Nat.le_trans h.size hB.size, fun k hk hn => (hB.block k hk).trans (h.kept k hk hn)⟩
theorem _root_.Go.Proofs.Ytabhiangjomaeaa.cur.Cur.from_ {w w1 : World} {C : Nat} {a : Option Addr} {b : Bs} {cap k j : Nat} (h : Cur w C a b cap k) (he : EffC C w w1) (hb : w1.heap[C]? = some (.cells #[.slice a b.length cap, .int .i64 (j : Int)] 107 (0, 0))) : Cur w1 C a b cap j :=
  ⟨hb, rdB_eff h he, h.le, h.cm⟩
set_option maxRecDepth 100000 in
set_option maxHeartbeats 8000000 in
theorem cname_any (C : Nat) (a : Option Addr) (b : Bs) (cap k lim : Nat) (over : Int) (w : World) (h : Cur w C a b cap k) (hl : b.length ≤ 65535) (hk : k ≤ b.length) (hlim : lim ≤ b.length) :
    Calls Try.prog 64 #[.pointer (some ⟨C, 0, none⟩), .int .i64 (lim : Int), .int .i64 over] w (NameE (nameAt b k lim over) C a b cap k w) := by
  obtain ⟨i0, hi, hz0, hz1, hz2⟩ := info_parts infoByte
  obtain ⟨R, hR⟩ : ∃ R, nameAt b k lim over = R := ⟨_, rfl⟩
  rw [hR]
  have HR0 : Hid (comb [] none (nameR b k k lim over 0) = R) := Lib.hid (by rw [comb_nil]; exact hR)
  have HC0 := Lib.hid h
  have k0 := h.c0; have k1 := h.c1; have hltC := h.lt
  have hcl := h.le; have hcm := h.cm
  have hcm : cap ≤ 9223372036854775807 := hcm
  obtain ⟨L, hL⟩ : ∃ L, b.length = L := ⟨_, rfl⟩
  rw [hL] at k0 hl hk hlim hcl
  have HL := Lib.hid hL
  clear h hR hL
  go_enter Try.func64, Try.ntmps64
  go_wp2_with fail
  go_quiet (fail)
  have HBq : Hid (Below w.heap.size w (w.drewN nq)) := Lib.hid ⟨rfl, rfl, rfl, Nat.le_refl _, fun _ _ => rfl⟩
  go_wp2_with fail
  go_loopg [1, 2, 7, 8, 9, 10, 11, 12] (256 + k + 3) (fun gas ev ov bv av sv fv _ _ wr => ∃ (lim : Nat) (over : Int) (v : Value) (l : Bs) (j st : Nat) (af : Option Nat), ev = .int .i64 (lim : Int) ∧ ov = .int .i64 over ∧ bv = v ∧ av = .int .i64 (j : Int) ∧ sv = .int .i64 (st : Int) ∧ fv = .int .i64 (afV af) ∧ lim ≤ L ∧ l.length ≤ 254 ∧ st ≤ 65535 ∧ Hid (leftU st l.length < gas) ∧ Hid (comb l af (nameR b j st lim over l.length) = R) ∧ Hid (wr.ownsRow w.heap.size 5 1 v l.length (Lib.byteCells l)) ∧ Hid (Below w.heap.size w wr) ∧ j ≤ 131072)
  case atStart => exact ⟨lim, over, .slice none 0 0, [], k, k, none, rfl, rfl, rfl, rfl, rfl, rfl, hlim, by simp, by omega, Lib.hid (by show 256 - 0 + k + 1 < 256 + k + 3; omega), HR0, Lib.hid (World.ownsRow_nil _ _ _ _), HBq, by omega⟩
  case round =>
    clear HR0 HBq hlim hk k1
    obtain ⟨lim, over, v, l, j, st, af, rfl, rfl, rfl, rfl, rfl, rfl, hlim, hll, hst, HG, HR, HO, HB, hj⟩ := hrel
    have hstep := nameR_step b j st lim over l.length (by omega)
    rw [hstep] at HR
    have HCr := Lib.hid (HC0.out.below HB.out)
    by_cases c1 : lim ≤ j
    · rw [if_pos c1] at HR
      have hci : (lim : Int) ≤ (j : Int) := by omega
      have HRb : Hid (R = .bad over) := Lib.hid HR.out.symm
      clear c1 HR hstep
      go_wp2_with fail
      exact ⟨rfl, NameE.no HRb.out HCr.out (EffC.of_below HB.out)⟩
    rw [if_neg c1] at HR
    have hci : (j : Int) < (lim : Int) := by omega
    have hjL : j < L := by omega
    obtain ⟨g, o, hag, hg, hgC, hcb⟩ := HCr.out.at_ (show j < b.length by rw [HL.out]; exact hjL)
    subst hag
    have r0 := HCr.out.c0; have r1 := HCr.out.c1; have rz := HCr.out.z 1; have rlt := HCr.out.lt
    rw [HL.out] at r0
    obtain ⟨n, hn⟩ : ∃ n, atB b j = n := ⟨_, rfl⟩
    have hn255 : n < 256 := by rw [← hn]; exact atB_lt _ _
    rw [hn] at hcb HR
    have hji : (j : Int) < (L : Int) := by omega
    have hj0 : (0 : Int) ≤ (j : Int) := by omega
    clear c1 hstep
    by_cases c2 : n = 0
    · rw [if_pos c2] at HR
      subst c2
      have HRb : Hid (R = .ok (l ++ [0]) (af.getD (j + 1))) := Lib.hid HR.out.symm
      clear HR
      go_upto_if 75 with fail
      go_cut [10] (fun fv wx => fv = .int .i64 ((af.getD (j + 1) : Nat) : Int) ∧ wx = wr)
      case first =>
        cases af with
        | none =>
          go_wp2_with fail
          go_meet
          exact ⟨by simp, rfl⟩
        | some i =>
          have hi0 : (0 : Int) ≤ (i : Int) := by omega
          simp only [afV]
          go_wp2_with fail
          go_meet
          exact ⟨rfl, rfl⟩
      case rest =>
        obtain ⟨rfl, hwc⟩ := hcut
        obtain rfl : wr = wc := hwc.symm
        obtain ⟨J, hJ⟩ : ∃ J, af.getD (j + 1) = J := ⟨_, rfl⟩
        rw [hJ] at HRb ⊢
        have hm := HCr.out.move J
        have hown := HO.out
        obtain ⟨av, cv, rfl⟩ := own_slice1 hown
        have hCw : w.heap.size ≤ wr.heap.size := HB.out.size
        have hown2 : (wr.setCell ⟨C, 1, none⟩ (.int .i64 (J : Int))).ownsRow w.heap.size 5 1 (.slice av l.length cv) l.length (Lib.byteCells l) := own_keptG hown (fun i cu hk => by
          rw [Below.heap_setCell _ ⟨C, 1, none⟩ _ i (by show i ≠ C; intro e; subst e; rw [HCr.out.blk] at hk; injection hk with hk; injection hk with _ h2 _; exact absurd h2 (by decide))]; exact hk)
        have hsz : (wr.setCell ⟨C, 1, none⟩ (.int .i64 (J : Int))).heap.size = wr.heap.size := by simp
        have HM1 := Lib.hid hm.1; have HM2 := Lib.hid ((EffC.of_below (C := C) HB.out).trans hm.2)
        clear hm hown hcb
        go_upto_region 18 with fail
        obtain ⟨W, hW⟩ : ∃ W, wr.setCell ⟨C, 1, none⟩ (.int .i64 (J : Int)) = W := ⟨_, rfl⟩
        rw [hW] at hown2 hsz HM1 HM2 ⊢
        have HSZ : Hid (w.heap.size ≤ W.heap.size) := Lib.hid (by omega)
        clear hW r0 r1 rz hsz
        go_wp2_with (at_builtin; refine wpList_append_own _ rfl _ _ 39 rfl w.heap.size 5 i0 (.int .u8 0) 1 1 Try.underlying39 hi hz0 hz1 hz2 rfl (by decide) _ _ _ rfl (hown2.alloc _) ⟨W.heap.size, 0, none⟩ 1 1 [.int .u8 0] rfl rfl ?c1 ?c2 ?c3 ?c4 ?c5 ?_)
        case c2 => simp [Value.oneCell']
        case c3 => unfold maxLen; omega
        case c4 => omega
        case c5 => have := HSZ.out; simp; omega
        intro v' w1 hown' hgrow _
        have hown3 : w1.ownsRow w.heap.size 5 1 v' (l ++ [0]).length (Lib.byteCells (l ++ [0])) := by
          rw [← cells_snoc]; simpa [u8V] using hown'
        have hst := own_string (P := Try.prog) hown3 39 9 5 Try.underlying39 Try.underlying5 Try.underlying9
        have hBg : Below w.heap.size W w1 := below_append' ((Below.refl _ _).alloc HSZ.out _) (by have := HSZ.out; simp; omega) (hown2.alloc _) hgrow
        have hE := HM2.out.then_below hBg
        have HC2 := Lib.hid (HC0.out.from_ hE ((hBg.block C hltC).trans HM1.out.blk))
        have HE2 := Lib.hid hE
        clear hown' hown3 hgrow hBg hE hown2
        go_wp2_with fail
        go_ret
        exact NameE.yes HRb.out HC2.out HE2.out
    rw [if_neg c2] at HR
    have e2 : ((n : Int) == 0) = false := by rw [beq_eq_false_iff_ne]; omega
    by_cases c3 : n < 64
    · rw [if_pos c3] at HR
      have c3i : (n : Int) < 64 := by omega
      by_cases c4 : lim < j + 1 + n
      · rw [if_pos c4] at HR
        have c4i : (lim : Int) < (j : Int) + 1 + (n : Int) := by omega
        have HRb : Hid (R = .bad over) := Lib.hid HR.out.symm
        clear HR c3 c4
        go_wp2_with fail
        exact ⟨rfl, NameE.no HRb.out HCr.out (EffC.of_below HB.out)⟩
      rw [if_neg c4] at HR
      have c4i : (j : Int) + 1 + (n : Int) ≤ (lim : Int) := by omega
      clear c3
      have hown := HO.out
      obtain ⟨av, cv, rfl⟩ := own_slice1 hown
      have hEi : (j : Int) + 1 + (n : Int) ≤ (L : Int) := by omega
      have hjE : (j : Int) ≤ (j : Int) + 1 + (n : Int) := by omega
      have hLc : (L : Int) ≤ (cap : Int) := by omega
      have hEc : (j : Int) + 1 + (n : Int) ≤ (cap : Int) := by omega
      have hjc : j < cap := by omega
      have hcE : (cutB b j (j + 1 + n)).length = 1 + n := by rw [cut_len b j _ (by omega) (by rw [HL.out]; omega)]; omega
      have HCE := Lib.hid hcE
      have HCC := Lib.hid (cut_cells HCr.out.rd j (1 + n))
      rw [← Nat.add_assoc] at HCC
      have HWS := Lib.hid HB.out.size
      clear hcE
      have hav : ∃ a', av = a' := ⟨_, rfl⟩
      go_wp2_with (at_builtin; refine wpList_append_own _ rfl _ _ 39 rfl w.heap.size 5 i0 (.int .u8 0) 1 1 Try.underlying39 hi hz0 hz1 hz2 rfl (by decide) _ _ _ rfl hown _ _ _ (Lib.byteCells (cutB b j (j + 1 + n))) rfl ?d1 ?d2 ?d3 ?d4 ?d5 ?d6 ?_)
      case d1 => rw [show (Lib.byteCells (cutB b j (j + 1 + n))).length = (cutB b j (j + 1 + n)).length from by simp [Lib.byteCells], HCE.out]; omega
      case d2 => exact HCC.out
      case d3 => exact byte_one _
      case d4 => unfold maxLen; omega
      case d5 => omega
      case d6 => exact HWS.out
      intro v' w1 hown' hgrow _
      have hB1 := below_append' HB.out HWS.out hown hgrow
      obtain ⟨l2, hl2⟩ : ∃ l2, l ++ cutB b j (j + 1 + n) = l2 := ⟨_, rfl⟩
      have hl2n : l2.length = l.length + 1 + n := by rw [← hl2, List.length_append, HCE.out]; omega
      have hown2 : w1.ownsRow w.heap.size 5 1 v' l2.length (Lib.byteCells l2) := by
        have h := hown'
        rw [show l.length + (j + 1 + n - j) = l2.length by omega] at h
        rw [← hl2]; rw [← hl2] at h
        simpa [Lib.byteCells] using h
      have HO2 := Lib.hid hown2; have HB1 := Lib.hid hB1
      obtain ⟨av2, cv2, rfl⟩ := own_slice1 hown2
      obtain ⟨M, hM⟩ : ∃ M, l2.length = M := ⟨_, rfl⟩
      have hMl : M = l.length + 1 + n := by rw [← hM]; exact hl2n
      have hmv : l.length + (j + 1 + n - j) = M := by omega
      rw [hM] at HO2 hown' ⊢
      have HMM := Lib.hid hM; have HML := Lib.hid hMl; have HL2 := Lib.hid hl2
      have HCx := Lib.hid (HC0.out.below HB1.out)
      clear hown' hown2 hgrow hown hB1 hl2n hav r0 r1 rz hM hmv hcb
      by_cases c5 : 255 < l.length + 1 + n + 1
      · rw [if_pos c5] at HR
        have HRb : Hid (R = .bad 4) := Lib.hid HR.out.symm
        have c5i : (255 : Int) < (M : Int) + 1 := by omega
        have hMb : M ≤ 1000 := by omega
        clear HR c5 hl2 hMl
        go_wp2_with fail
        exact ⟨rfl, NameE.no HRb.out HCx.out (EffC.of_below HB1.out)⟩
      rw [if_neg c5] at HR
      have c5i : (M : Int) + 1 ≤ 255 := by omega
      have c5j : (M : Int) < 255 := by omega
      have HR2 : Hid (comb l2 af (nameR b (j + 1 + n) st lim over M) = R) := Lib.hid (by
        rw [HML.out]
        have h := HR.out
        rw [← h]
        cases nameR b (j + 1 + n) st lim over (l.length + 1 + n) with
        | bad e => rfl
        | ok r i => simp [comb, ← hl2])
      clear HR c5 hl2 hMl
      go_wp2_with fail
      have hg := HG.out
      have hm := HML.out
      unfold leftU at hg
      go_roundg (gk - 1)
      case rel => exact ⟨lim, over, _, l2, j + 1 + n, st, af, rfl, rfl, rfl, by congr 1; omega, rfl, rfl, hlim, by rw [HMM.out]; omega, hst, Lib.hid (by rw [HMM.out]; unfold leftU; omega), by rw [HMM.out]; exact HR2, by rw [HMM.out]; exact HO2, HB1, by omega⟩
      case measure => omega
    have c3i : (64 : Int) ≤ (n : Int) := by omega
    rw [if_neg c3] at HR
    by_cases c6 : n < 192
    · rw [if_pos c6] at HR
      have c6i : (n : Int) < 192 := by omega
      have HRb : Hid (R = .bad 9) := Lib.hid HR.out.symm
      clear HR c3 c6
      go_wp2_with fail
      exact ⟨rfl, NameE.no HRb.out HCr.out (EffC.of_below HB.out)⟩
    rw [if_neg c6] at HR
    have c6i : (192 : Int) ≤ (n : Int) := by omega
    by_cases c7 : lim < j + 2
    · rw [if_pos c7] at HR
      have c7i : (lim : Int) < (j : Int) + 2 := by omega
      have HRb : Hid (R = .bad over) := Lib.hid HR.out.symm
      clear HR c3 c6 c7
      go_wp2_with fail
      exact ⟨rfl, NameE.no HRb.out HCr.out (EffC.of_below HB.out)⟩
    rw [if_neg c7] at HR
    have c7i : (j : Int) + 2 ≤ (lim : Int) := by omega
    obtain ⟨g', o', hag', _, _, hcb2⟩ := HCr.out.at_ (show j + 1 < b.length by rw [HL.out]; omega)
    cases hag'
    obtain ⟨d, hd⟩ : ∃ d, atB b (j + 1) = d := ⟨_, rfl⟩
    have hd255 : d < 256 := by rw [← hd]; exact atB_lt _ _
    rw [hd] at hcb2 HR
    obtain ⟨q, hq⟩ : ∃ q : Nat, n - 192 = q := ⟨_, rfl⟩
    rw [hq] at HR
    have hqb : q < 64 := by omega
    have ha : Value.int .i64 (bits .and .i64 (n : Int) 63) = Value.int .i64 (q : Int) := by rw [and63 (by omega) (by omega)]; congr 1; omega
    obtain ⟨T, hT⟩ : ∃ T : Nat, q * 256 + d = T := ⟨_, rfl⟩
    rw [hT] at HR
    have HOR : Hid (Value.int .i64 (bits .or .i64 (wrap64 (bits .and .i64 (n : Int) 63 * 256)) (d : Int)) = Value.int .i64 (T : Int)) := Lib.hid (by
      rw [and63 (by omega) (by omega), show wrap64 (((n : Int) - 192) * 256) = (q : Int) * 256 by unfold wrap64; omega, or_byte (by omega) hd255, hT])
    have HA := Lib.hid ha
    have hj1L : (j : Int) + 1 < (L : Int) := by omega
    have hTb : T ≤ 16383 := by omega
    have HCD := Lib.hid hcb2
    clear ha c3 c6 c7 hq hT
    go_upto_region 8 with fail
    go_cut [12] (fun tv wx => tv = .int .i64 (T : Int) ∧ wx = wr)
    case first =>
      have hcb3 := HCD.out
      go_wp2_with fail
      go_meet
      exact ⟨HOR.out, rfl⟩
    case rest =>
      obtain ⟨rfl, hwc⟩ := hcut
      obtain rfl : wr = wc := hwc.symm
      by_cases c8 : st ≤ T
      · rw [if_pos c8] at HR
        have HRb : Hid (R = .bad 9) := Lib.hid HR.out.symm
        have c8i : (st : Int) ≤ (T : Int) := by omega
        clear HR c8
        go_wp2_with fail
        exact ⟨rfl, NameE.no HRb.out HCr.out (EffC.of_below HB.out)⟩
      rw [if_neg c8] at HR
      have c8i : (T : Int) < (st : Int) := by omega
      have HR2 : Hid (comb l (some (af.getD (j + 2))) (nameR b T T L 10 l.length) = R) := Lib.hid (by
        have h := HR.out
        rw [← h, HL.out]
        cases nameR b T T L 10 l.length with
        | bad e => rfl
        | ok r i => simp [comb])
      clear HR c8
      go_upto_if 61 with fail
      go_cut [10] (fun fv wx => fv = .int .i64 ((af.getD (j + 2) : Nat) : Int) ∧ wx = wr)
      case first =>
        cases af with
        | none =>
          go_wp2_with fail
          go_meet
          exact ⟨by simp, rfl⟩
        | some i =>
          have hi0 : (0 : Int) ≤ (i : Int) := by omega
          simp only [afV]
          go_wp2_with fail
          go_meet
          exact ⟨rfl, rfl⟩
      case rest =>
        obtain ⟨rfl, hwc⟩ := hcut
        obtain rfl : wr = wc := hwc.symm
        go_wp2_with fail
        go_quiet (fail)
        have HBq : Hid (Below w.heap.size w (wr.drewN nq)) := Lib.hid ⟨HB.out.os, HB.out.tape, HB.out.output, HB.out.size, HB.out.block⟩
        have HOq : Hid ((wr.drewN nq).ownsRow w.heap.size 5 1 _ l.length (Lib.byteCells l)) := HO
        go_wp2_with fail
        have hg := HG.out
        unfold leftU at hg
        go_roundg (gk - 1)
        case rel => exact ⟨L, 10, _, l, T, T, some (af.getD (j + 2)), rfl, rfl, rfl, rfl, rfl, rfl, Nat.le_refl _, hll, by omega, Lib.hid (by unfold leftU; omega), HR2, HOq, HBq, by omega⟩
        case measure => omega
end Go.Proofs.Ytabhiangjomaeaa.cname
namespace Go.Proofs.Ytabhiangjomaeaa.cdata
open Go.RowKit Go.Proofs.Ytabhiangjomaeaa.kit Go.Proofs.Ytabhiangjomaeaa.takes Go.Proofs.Ytabhiangjomaeaa.nspec Go.Proofs.Ytabhiangjomaeaa.rsplit Go.Proofs.Ytabhiangjomaeaa.check Go.Proofs.Ytabhiangjomaeaa.bits Go.Proofs.Ytabhiangjomaeaa.bld Go.Proofs.Ytabhiangjomaeaa.coded Go.Proofs.Ytabhiangjomaeaa.fld Go.Proofs.Ytabhiangjomaeaa.wireP Go.Proofs.Ytabhiangjomaeaa.wireM Go.Proofs.Ytabhiangjomaeaa.packP Go.Proofs.Ytabhiangjomaeaa.buf Go.Proofs.Ytabhiangjomaeaa.psmall Go.Proofs.Ytabhiangjomaeaa.fits Go.Proofs.Ytabhiangjomaeaa.pdata Go.Proofs.Ytabhiangjomaeaa.unpP Go.Proofs.Ytabhiangjomaeaa.rows Go.Proofs.Ytabhiangjomaeaa.cur Go.Proofs.Ytabhiangjomaeaa.cname
set_option linter.unusedVariables false

theorem cut_cat (b : Bs) (i j k : Nat) (h1 : i ≤ j) (h2 : j ≤ k) : cutB b i j ++ cutB b j k = cutB b i k := by
  unfold cutB
  have e : k - i = (j - i) + (k - j) := by omega
  rw [e, List.take_add, List.drop_drop, show i + (j - i) = j by omega]
theorem ten_two (b : Bs) (i lim : Nat) (A : Bs) : dataU [some 10, some 10] b i lim A = dataU [some 20] b i lim A := by
  have e1 : dataU [some 10, some 10] b i lim A = if lim < i + 10 then .bad 7 else if lim < i + 10 + 10 then .bad 7 else if i + 10 + 10 = lim then .ok (A ++ cutB b i (i + 10) ++ cutB b (i + 10) (i + 10 + 10)) lim else .bad 7 := rfl
  have e2 : dataU [some 20] b i lim A = if lim < i + 20 then .bad 7 else if i + 20 = lim then .ok (A ++ cutB b i (i + 20)) lim else .bad 7 := rfl
  rw [e1, e2]
  have hc : A ++ cutB b i (i + 10) ++ cutB b (i + 10) (i + 10 + 10) = A ++ cutB b i (i + 20) := by
    rw [List.append_assoc, cut_cat b i (i + 10) (i + 10 + 10) (by omega) (by omega)]
  rw [hc]
  by_cases c1 : lim < i + 10
  · rw [if_pos c1, if_pos (show lim < i + 20 by omega)]
  · rw [if_neg c1]
/-- two tens are twenty -/
theorem dataU_w {t : Int} (b : Bs) (k lim : Nat) (acc : Bs) : dataU (fieldsW t) b k lim acc = dataU (shortL t) b k lim acc := by
  by_cases h2 : t = 2 ∨ t = 5 ∨ t = 12
  · have e : fieldsW t = [none] := by simp only [fieldsW, shortB, if_pos h2]; rfl
    rw [e]; simp only [shortL, if_pos h2]
  by_cases h15 : t = 15
  · subst h15; rfl
  by_cases h6 : t = 6
  · subst h6
    have e : fieldsW 6 = [none, none, some 10, some 10] := rfl
    have e2 : shortL 6 = [none, none, some 20] := rfl
    rw [e, e2]
    have u : ∀ fs k acc, dataU (none :: fs) b k lim acc = match nameAt b k lim 7 with | .bad e => .bad e | .ok s j => dataU fs b j lim (acc ++ s) := fun _ _ _ => rfl
    rw [u, u]
    cases nameAt b k lim 7 with
    | bad x => rfl
    | ok s j =>
      show dataU [none, some 10, some 10] b j lim _ = dataU [none, some 20] b j lim _
      rw [u, u]
      cases nameAt b j lim 7 with
      | bad x => rfl
      | ok s2 i => exact ten_two b i lim _
  · have e : fieldsW t = [] := by simp only [fieldsW, shortB, if_neg h2, if_neg h15, if_neg h6]; rfl
    rw [e]; simp only [shortL, if_neg h2, if_neg h15, if_neg h6]
theorem short_nil (t : Int) : (shortB t).size = 0 ↔ shortL t = [] := by
  by_cases h2 : t = 2 ∨ t = 5 ∨ t = 12
  · simp only [shortB, shortL, if_pos h2]; simp [ByteArray.size]
  by_cases h15 : t = 15
  · subst h15; simp [shortB, shortL, ByteArray.size]
  by_cases h6 : t = 6
  · subst h6; simp [shortB, shortL, ByteArray.size]
  · simp only [shortB, shortL, if_neg h2, if_neg h15, if_neg h6]; simp [ByteArray.size]
/-- data of so many bytes, from a place on -/
def dataC (t : Int) (b : Bs) (k n : Nat) : Got Bs := if n = 0 ∨ shortL t = [] then .ok (cutB b k (k + n)) (k + n) else dataU (shortL t) b k (k + n) []
theorem dataC_eq {t : Int} (b : Bs) (k : Nat) {n : Nat} {S : ByteArray} (hS : S = if n = 0 then (⟨#[]⟩ : ByteArray) else shortB t) : (if S.size = 0 then Got.ok (cutB b k (k + n)) (k + n) else dataU (S.data.toList.map fieldB) b k (k + n) []) = dataC t b k n := by
  unfold dataC
  by_cases hn : n = 0
  · rw [if_pos hn] at hS
    have h0 : S.size = 0 := by rw [hS]; rfl
    rw [if_pos h0, if_pos (Or.inl hn)]
  · rw [if_neg hn] at hS
    subst hS
    by_cases hs : shortL t = []
    · rw [if_pos ((short_nil t).2 hs), if_pos (Or.inr hs)]
    · rw [if_neg (fun h => hs ((short_nil t).1 h)), if_neg (fun h => h.elim hn hs), ← dataU_w]; rfl
/-- how a reading ends -/
def DataE (g : Got Bs) (C : Nat) (a : Option Addr) (b : Bs) (cap : Nat) (w : World) (e : Ending) (w' : World) : Prop :=
  match g with
  | .bad x => e = stopE x ∧ EffC C w w'
  | .ok s j => e = .returned (.string (mkB s)) ∧ Cur w' C a b cap j ∧ EffC C w w'
theorem DataE.no {g : Got Bs} {x : Int} {C : Nat} {a : Option Addr} {b : Bs} {cap : Nat} {w w' : World} (hg : g = .bad x) (h2 : EffC C w w') : DataE g C a b cap w (stopE x) w' := by
  subst hg; exact ⟨rfl, h2⟩
theorem DataE.yes {g : Got Bs} {s : Bs} {j : Nat} {C : Nat} {a : Option Addr} {b : Bs} {cap : Nat} {w w' : World} (hg : g = .ok s j) (h1 : Cur w' C a b cap j) (h2 : EffC C w w') : DataE g C a b cap w (.returned (.string (mkB s))) w' := by
  subst hg; exact ⟨rfl, h1, h2⟩
theorem dataU_len : ∀ (fs : List (Option Nat)) (b : Bs) (k lim : Nat) (acc : Bs) (s : Bs) (j : Nat), dataU fs b k lim acc = .ok s j → j = lim
  | [], b, k, lim, acc, s, j, h => by
    simp only [dataU] at h; split at h
    · cases h; rfl
    · cases h
  | none :: fs, b, k, lim, acc, s, j, h => by
    simp only [dataU] at h
    cases hn : nameAt b k lim 7 with
    | bad e => rw [hn] at h; cases h
    | ok r i => rw [hn] at h; exact dataU_len fs b i lim _ s j h
  | some n :: fs, b, k, lim, acc, s, j, h => by
    simp only [dataU] at h; split at h
    · cases h
    · exact dataU_len fs b _ lim _ s j h
theorem iter_eff {w w1 : World} {C Q : Nat} {s : ByteArray} {pos : Nat} (h : w.heap[Q]? = some (.stringIter s pos)) (he : EffC C w w1) (hne : Q ≠ C) : w1.heap[Q]? = some (.stringIter s pos) :=
  (he.kept Q (Array.getElem?_eq_some_iff.1 h).1 hne).trans h
theorem own_effC {w w1 : World} {C base : Nat} {v : Value} {n : Nat} {xs : List Value} (h : w.ownsRow base 5 1 v n xs) (he : EffC C w w1) (hb : ∃ c, w.heap[C]? = some (.cells c 107 (0, 0))) : w1.ownsRow base 5 1 v n xs := by
  refine own_keptG h (fun k cu hk => (he.kept k (Array.getElem?_eq_some_iff.1 hk).1 ?_).trans hk)
  intro e; subst e
  obtain ⟨c, hc⟩ := hb
  rw [hc] at hk; injection hk with hk; injection hk with _ h2 _; exact absurd h2 (by decide)

theorem nameAt_len {b : Bs} {j T : Nat} {x : Int} {s : Bs} {i : Nat} (hT : T ≤ b.length) (h : nameAt b j T x = .ok s i) : s.length ≤ 255 ∧ i ≤ T := by
  obtain ⟨ls, h1, h2, h3⟩ := nameU_is _ b j j T x 0 s i (by omega) hT h
  exact ⟨by omega, (nameU_next _ b j j T x 0 s i h).2⟩
/-- the iterator moved on: nothing of old -/
theorem iter_below {w wr : World} {Q : Nat} {S : ByteArray} (pos : Nat) (hQ : w.heap.size ≤ Q) : Below w.heap.size wr (wr.iterAt Q S pos) :=
  ⟨rfl, rfl, rfl, by rw [Lib.iterAt_size]; exact Nat.le_refl _, fun k hk => Lib.iterAt_other _ _ _ _ _ (by omega)⟩
theorem iter_own {wr : World} {Q base pos pos' : Nat} {S : ByteArray} {v : Value} {n : Nat} {xs : List Value} (h : wr.ownsRow base 5 1 v n xs) (hQ : wr.heap[Q]? = some (.stringIter S pos)) : (wr.iterAt Q S pos').ownsRow base 5 1 v n xs :=
  own_keptG h (fun k cu hk => (Lib.iterAt_other _ _ _ _ _ (by intro e; subst e; rw [hQ] at hk; cases hk)).trans hk)
theorem not_empty {S : ByteArray} (h : S.size ≠ 0) : S.toList.isEmpty = false := by
  rw [Lib.toList_data]
  cases hx : S.data.toList with
  | nil => exact absurd (by rw [← size_len, hx]; rfl) h
  | cons a l => rfl
/-- what is still to read -/
def DRel (S : ByteArray) (b : Bs) (k T : Nat) (R : Got Bs) (pos j : Nat) (l : Bs) : Prop :=
  (S.size = 0 ∧ l = [] ∧ j = k) ∨ (S.size ≠ 0 ∧ dataU ((S.data.toList.drop pos).map fieldB) b j T l = R)
theorem DRel.start {S : ByteArray} {b : Bs} {k T : Nat} {R : Got Bs} (h : (if S.size = 0 then Got.ok (cutB b k T) T else dataU (S.data.toList.map fieldB) b k T []) = R) : DRel S b k T R 0 k [] := by
  by_cases h0 : S.size = 0
  · exact .inl ⟨h0, rfl, rfl⟩
  · right; rw [if_neg h0] at h; rw [List.drop_zero]; exact ⟨h0, h⟩
theorem DRel.go {S : ByteArray} {b : Bs} {k T : Nat} {R : Got Bs} {pos j : Nat} {l : Bs} (h : DRel S b k T R pos j l) (hlt : pos < S.size) : dataU (fieldB (S[pos]'hlt) :: (S.data.toList.drop (pos + 1)).map fieldB) b j T l = R := by
  rcases h with ⟨h0, _⟩ | ⟨_, h⟩
  · omega
  · rw [drop_cons S pos hlt, List.map_cons] at h; exact h
/-- the end: the rest is all, or nothing -/
theorem DRel.stop {S : ByteArray} {b : Bs} {k T : Nat} {R : Got Bs} {pos j : Nat} {l : Bs} (h : DRel S b k T R pos j l) (hge : S.size ≤ pos) (hR : (if S.size = 0 then Got.ok (cutB b k T) T else dataU (S.data.toList.map fieldB) b k T []) = R) : (S.size = 0 ∧ l = [] ∧ j = k ∧ R = .ok (cutB b k T) T) ∨ (S.size ≠ 0 ∧ j = T ∧ R = .ok l T) ∨ (S.size ≠ 0 ∧ j ≠ T ∧ R = .bad 7) := by
  rcases h with ⟨h0, h1, h2⟩ | ⟨h0, h⟩
  · rw [if_pos h0] at hR; exact .inl ⟨h0, h1, h2, hR.symm⟩
  · have hd : S.data.toList.drop pos = [] := List.drop_eq_nil_of_le (by simpa using hge)
    rw [hd] at h
    simp only [List.map_nil, dataU] at h
    by_cases hj : j = T
    · rw [if_pos hj] at h; exact .inr (.inl ⟨h0, hj, h.symm⟩)
    · rw [if_neg hj] at h; exact .inr (.inr ⟨h0, hj, h.symm⟩)
set_option maxRecDepth 100000 in
set_option maxHeartbeats 8000000 in
theorem cdata_any (C : Nat) (a : Option Addr) (b : Bs) (cap k n : Nat) (t : Int) (w : World) (h : Cur w C a b cap k) (hl : b.length ≤ 65535) (hk : k + n ≤ b.length) (hb0 : 0 < b.length) :
    Calls Try.prog 104 #[.pointer (some ⟨C, 0, none⟩), .int .i64 t, .int .i64 (n : Int)] w (DataE (dataC t b k n) C a b cap w) := by
  obtain ⟨i0, hi, hz0, hz1, hz2⟩ := info_parts infoByte
  obtain ⟨R, hR⟩ : ∃ R, dataC t b k n = R := ⟨_, rfl⟩
  rw [hR]
  have HC0 := Lib.hid h
  have k1 := h.c1; have hltC := h.lt
  have CS := Lib.hid (fun w => short_any t w)
  obtain ⟨S, hS⟩ : ∃ S : ByteArray, (if n = 0 then (⟨#[]⟩ : ByteArray) else shortB t) = S := ⟨_, rfl⟩
  obtain ⟨T, hT⟩ : ∃ T, k + n = T := ⟨_, rfl⟩
  have hTL : T ≤ b.length := by omega
  have hkT : k ≤ T := by omega
  have HT := Lib.hid hT
  have hR2 : (if S.size = 0 then Got.ok (cutB b k T) T else dataU (S.data.toList.map fieldB) b k T []) = R := by
    rw [← hR, ← hT]; exact dataC_eq b k hS.symm
  have HR2 := Lib.hid hR2
  have HOKS : Hid (∀ c ∈ S.data.toList, okC c) := Lib.hid (by
    rw [← hS]; split
    · intro c hc; simp at hc
    · exact short_ok _)
  have hS4 : S.size ≤ 4 := by
    rw [← hS]; split
    · simp [ByteArray.size]
    · exact short_size _
  have HS := Lib.hid hS
  have hkn : Value.int .i64 ((k : Int) + (n : Int)) = Value.int .i64 (T : Int) := by congr 1; omega
  have HKN := Lib.hid hkn
  clear h hR hS hR2 hkn hT
  go_enter Try.func104, Try.ntmps104
  go_upto_region 2 with fail
  rw [HKN.out]
  go_wp2_with fail
  refine (CS.out _).mono ?_
  rintro e w1 ⟨rfl, rfl⟩
  go_upto_if 22 with fail
  go_cut [9] (fun s9 wx => s9 = .string S ∧ wx = w1)
  case first =>
    by_cases hn0 : n = 0
    · have hSe : S = ⟨#[]⟩ := by rw [← HS.out, if_pos hn0]
      subst hn0
      subst hSe
      go_wp2_with fail
      go_meet
      exact ⟨rfl, rfl⟩
    · have hSe : S = shortB t := by rw [← HS.out, if_neg hn0]
      have en : ((n : Int) == 0) = false := by rw [beq_eq_false_iff_ne]; omega
      go_wp2_with fail
      go_meet
      exact ⟨by rw [hSe], rfl⟩
  case rest =>
    obtain ⟨rfl, hwc⟩ := hcut
    obtain rfl : w1 = wc := hwc.symm
    have hit0 := World.iter_heap w1 S 0
    obtain ⟨Q, hQ⟩ : ∃ Q, w1.heap.size = Q := ⟨_, rfl⟩
    have hQC : Q ≠ C := by omega
    have hB0 := (Below.refl w1.heap.size w1).alloc (Nat.le_refl _) (.stringIter S 0)
    have HC1 := Lib.hid (HC0.out.below hB0); have HE1 : Hid (EffC C w1 (w1.alloc (.stringIter S 0))) := Lib.hid (EffC.of_below hB0)
    have HD0 : Hid (DRel S b k T R 0 k []) := Lib.hid (DRel.start HR2.out)
    have hQ1 : w1.heap.size ≤ Q := by omega
    have HQ := Lib.hid hQ
    have HLB := Lib.hid hl
    clear hB0 k1
    go_wp2_with fail
    go_loopg [8, 11, 12] (S.size + 1) (fun gas bv _ _ wr => ∃ (pos j : Nat) (v : Value) (l : Bs), bv = v ∧ wr.heap[Q]? = some (.stringIter S pos) ∧ pos + gas = S.size + 1 ∧ j ≤ T ∧ l.length ≤ 300 * pos ∧ Hid (DRel S b k T R pos j l) ∧ Hid (Cur wr C a b cap j) ∧ Hid (EffC C w1 wr) ∧ Hid (wr.ownsRow w1.heap.size 5 1 v l.length (Lib.byteCells l)))
    case atStart => exact ⟨0, k, .slice none 0 0, [], rfl, by rw [← hQ]; exact hit0, by omega, hkT, by simp, HD0, HC1, HE1, Lib.hid (World.ownsRow_nil _ _ _ _)⟩
    case round =>
      clear HC1 HE1 HD0 hit0 hQ
      obtain ⟨pos, j, v, l, rfl, hit, hG, hj, hll, HD, HC, HE, HO⟩ := hrel
      have HGG := Lib.hid hG
      by_cases hlt : pos < S.size
      · have hQw : w1.heap.size ≤ Q := by omega
        obtain ⟨c, hc⟩ : ∃ c, S[pos]'hlt = c := ⟨_, rfl⟩
        have hok : okC c := HOKS.out c (by rw [← hc]; exact bmem S pos hlt)
        have ha : (S[pos]'hlt).toNat < 128 := by
          rw [hc]; rcases hok with rfl | h
          · decide
          · omega
        have hnx := fun ty => Lib.run_next_ascii_at (P := Try.prog) wr Q S pos ty hit hlt ha
        rw [hc] at hnx
        have hBi := iter_below (w := w1) (wr := wr) (S := S) (pos + 1) hQw
        have hEi := HE.out.then_below hBi
        have HEI := Lib.hid hEi
        have HCI := Lib.hid (HC0.out.from_ hEi ((Lib.iterAt_other _ _ _ _ _ hQC.symm).trans HC.out.blk))
        have HOI := Lib.hid (iter_own (pos' := pos + 1) HO.out hit)
        have hit2 := Lib.iterAt_heap wr Q S pos (pos + 1) hit
        obtain ⟨W2, hW2⟩ : ∃ W2, wr.iterAt Q S (pos + 1) = W2 := ⟨_, rfl⟩
        rw [hW2] at hnx HEI HCI HOI hit2
        have HD2 := HD.out.go hlt
        rw [hc] at HD2
        have hs0 : S.size ≠ 0 := by omega
        have hsz2 : w1.heap.size ≤ W2.heap.size := HEI.out.size
        clear hW2 ha hc hit hBi hEi HD
        by_cases h110 : c = 110
        · have hfb : fieldB c = none := by unfold fieldB; rw [if_pos h110]
          rw [hfb] at HD2
          simp only [dataU] at HD2
          have hcn : c.toNat = 110 := by rw [h110]; rfl
          rw [hcn] at hnx
          have CN := Lib.hid (cname_any C a b cap j T 7 W2 HCI.out hl (by omega) hTL)
          cases hg : nameAt b j T 7 with
          | bad x =>
            rw [hg] at CN HD2
            have HRb : Hid (R = .bad x) := Lib.hid HD2.symm
            clear HD2 hg h110 hfb hcn hok hG
            go_wp2_with fail
            refine CN.out.mono ?_
            rintro e w3 ⟨rfl, _, he3⟩
            have HE3 := Lib.hid (HEI.out.trans he3)
            unfold stopE
            go_wp2_with fail
            exact ⟨rfl, DataE.no HRb.out HE3.out⟩
          | ok s2 i =>
            rw [hg] at CN HD2
            have hsl := nameAt_len hTL hg
            have HD3 := Lib.hid HD2
            have hss : (mkB s2).size = s2.length := by unfold mkB; rw [mk_size]
            obtain ⟨SS, hSS⟩ : ∃ SS, mkB s2 = SS := ⟨_, rfl⟩
            have HSD : Hid (SS.data.toList = s2) := Lib.hid (by rw [← hSS]; rfl)
            have hssz : SS.size ≤ 255 := by rw [← hSS, hss]; exact hsl.1
            have HSZ : Hid (SS.size = s2.length) := Lib.hid (by rw [← hSS, hss])
            have hil := hsl.2
            clear HD2 hg h110 hfb hcn hok hG hss hsl
            go_wp2_with fail
            refine CN.out.mono ?_
            rintro e w3 ⟨rfl, hc3, he3⟩
            rw [hSS]
            have HC3 := Lib.hid hc3; have HE3 := Lib.hid (HEI.out.trans he3)
            have hit3 := iter_eff hit2 he3 hQC
            have hown := own_effC HOI.out he3 ⟨_, HCI.out.blk⟩
            have HSZW := Lib.hid (HE3.out.size)
            obtain ⟨av, cv, rfl⟩ := own_slice1 hown
            clear hc3 he3
            go_wp2_with (at_builtin; refine Lib.wpList_append_own_string _ rfl _ _ 39 9 rfl w1.heap.size 5 i0 Try.underlying39 Try.underlying9 hi hz0 hz1 hz2 _ _ _ rfl hown SS rfl ?e3 ?e4 ?e5 ?_)
            case e3 => unfold maxLen; omega
            case e4 => omega
            case e5 => exact HSZW.out
            intro v' w4 hown' hgrow _
            have hown2 : w4.ownsRow w1.heap.size 5 1 v' (l ++ s2).length (Lib.byteCells (l ++ s2)) := by
              rw [← HSD.out, ← cells_str, List.length_append, HSD.out, ← HSZ.out]; exact hown'
            have hBg := below_append' (Below.refl w1.heap.size w3) HSZW.out hown hgrow
            have hE4 := HE3.out.then_below hBg
            have HE4 := Lib.hid hE4
            have HC4 := Lib.hid (HC0.out.from_ hE4 ((hBg.block C hltC).trans HC3.out.blk))
            have hit4 : w4.heap[Q]? = some (.stringIter S (pos + 1)) := (hgrow.block Q (Array.getElem?_eq_some_iff.1 hit3).1 (row_neG hown hit3 (by intro cu f e; cases e))).trans hit3
            have HO4 := Lib.hid hown2
            have hv2 := own_slice1 hown'
            obtain ⟨av2, cv2, rfl⟩ := hv2
            clear hown' hown2 hgrow hown hBg hE4 hit3 hit2 hSS
            go_wp2_with fail
            have hG := HGG.out
            go_roundg (gk - 1)
            case rel => exact ⟨pos + 1, i, _, l ++ s2, rfl, hit4, by omega, hil, by rw [List.length_append]; have := HSZ.out; omega, Lib.hid (.inr ⟨hs0, HD3.out⟩), HC4, HE4, HO4⟩
            case measure => omega
        · have hfb : fieldB c = some (2 * (c.toNat - 48)) := by unfold fieldB; rw [if_neg h110]
          have hcr : 49 ≤ c.toNat ∧ c.toNat ≤ 57 := by rcases hok with h | h; exact absurd h h110; exact h
          rw [hfb] at HD2
          simp only [dataU] at HD2
          obtain ⟨cn, hcn⟩ : ∃ cn, c.toNat = cn := ⟨_, rfl⟩
          rw [hcn] at hnx hcr HD2
          obtain ⟨L, hL⟩ : ∃ L, 2 * (cn - 48) = L := ⟨_, rfl⟩
          rw [hL] at HD2
          have hLv : Value.int .i64 (2 * ((cn : Int) - 48)) = Value.int .i64 (L : Int) := by congr 1; omega
          have HLV := Lib.hid hLv
          have hcn1 : (49 : Int) ≤ (cn : Int) := by omega
          have hcn2 : (cn : Int) ≤ 57 := by omega
          have hcb : ((cn : Int) == 110) = false := by rw [beq_eq_false_iff_ne]; omega
          have hL2 : 2 ≤ L := by omega
          have hLb : L ≤ 18 := by omega
          have r0 := HCI.out.c0; have r1 := HCI.out.c1; have rz := HCI.out.z 1; have rlt := HCI.out.lt
          have HGh := Lib.hid hG
          clear hL hLv hfb hok h110 hcn hG hcr
          go_upto_region 12 with fail
          rw [HLV.out]
          clear HLV hcn1 hcn2 hcb
          by_cases c1 : T < j + L
          · rw [if_pos c1] at HD2
            have HRb : Hid (R = .bad 7) := Lib.hid HD2.symm
            have c1i : (T : Int) < (j : Int) + (L : Int) := by omega
            clear HD2 c1
            go_wp2_with fail
            exact ⟨rfl, DataE.no HRb.out HEI.out⟩
          · rw [if_neg c1] at HD2
            have HD3 := Lib.hid HD2
            have c1i : (j : Int) + (L : Int) ≤ (T : Int) := by omega
            have hjL : j + L ≤ T := by omega
            clear HD2 c1
            obtain ⟨g, o, hag, hg, hgC, hcb⟩ := HCI.out.at_ (show j < b.length by omega)
            subst hag
            have HCC := Lib.hid (cut_cells HCI.out.rd j L)
            have hcE : (cutB b j (j + L)).length = L := by rw [cut_len b j _ (by omega) (by omega)]; omega
            have HCE := Lib.hid hcE
            have hLc := HCI.out.le
            have hji : (j : Int) ≤ (j : Int) + (L : Int) := by omega
            have hEc : (j : Int) + (L : Int) ≤ (cap : Int) := by omega
            have hEl : (j : Int) + (L : Int) ≤ (b.length : Int) := by omega
            have hown := HOI.out
            obtain ⟨av, cv, rfl⟩ := own_slice1 hown
            clear hcE hcb
            go_wp2_with fail
            have hj0 : (0 : Int) ≤ (j : Int) := by omega
            have hjc : j < cap := by omega
            obtain ⟨E, hE⟩ : ∃ E, j + L = E := ⟨_, rfl⟩
            have HW : Hid (IntKind.i64.wrap ((j : Int) + (L : Int)) = (E : Int)) := Lib.hid (by rw [← hE, IntWalk.i64_in _ (by omega)]; omega)
            have hE0c : 0 ≤ (E : Int) ∧ (E : Int) ≤ (cap : Int) := by omega
            have hjE : j ≤ E := by omega
            have hcj : ¬ cap = j := by omega
            have hEj : E - j ≤ 18 := by omega
            have HEE := Lib.hid hE
            clear hE
            go_still_tail 16, (by kernel_rfl)
            refine wpStill_step (fun KK hKK => ?_)
            go_simp
            simp only [HW.out, Int.toNat_natCast, if_pos hE0c, if_pos hjE]
            go_simp
            refine hKK _ ?_
            clear hKK KK
            refine wpStill_nil ?_
            have hownd : W2.drew.ownsRow w1.heap.size 5 1 (.slice av l.length cv) l.length (Lib.byteCells l) := hown
            go_wp2_with (at_builtin; refine wpList_append_own _ rfl _ _ 39 rfl w1.heap.size 5 i0 (.int .u8 0) 1 1 Try.underlying39 hi hz0 hz1 hz2 rfl (by decide) _ _ _ rfl hownd _ _ _ (Lib.byteCells (cutB b j (j + L))) rfl ?d1 ?d2 ?d3 ?d4 ?d5 ?d6 ?_)
            case d1 => rw [show (Lib.byteCells (cutB b j (j + L))).length = (cutB b j (j + L)).length from by simp [Lib.byteCells], HCE.out]; have := HEE.out; omega
            case d2 => exact HCC.out
            case d3 => exact byte_one _
            case d4 => unfold maxLen; omega
            case d5 => omega
            intro v' w4 hown' hgrow _
            have hEL : E - j = L := by have := HEE.out; omega
            have hown2 : w4.ownsRow w1.heap.size 5 1 v' (l ++ cutB b j (j + L)).length (Lib.byteCells (l ++ cutB b j (j + L))) := by
              have h := hown'
              rw [hEL] at h
              rw [List.length_append, HCE.out]
              simpa [Lib.byteCells] using h
            have hBg := below_append' (Below.refl w1.heap.size W2.drew) hsz2 hownd hgrow
            have hE4 := HEI.out.then_below (show Below w1.heap.size W2 w4 from ⟨hBg.os, hBg.tape, hBg.output, hBg.size, hBg.block⟩)
            have HE4 := Lib.hid hE4
            have HC4 := Lib.hid (HC0.out.from_ hE4 ((hBg.block C hltC).trans HCI.out.blk))
            have hit4 : w4.heap[Q]? = some (.stringIter S (pos + 1)) := (hgrow.block Q (Array.getElem?_eq_some_iff.1 hit2).1 (row_neG hownd hit2 (by intro cu f e; cases e))).trans hit2
            have HO4 := Lib.hid hown2
            have hv2 := own_slice1 hown'
            obtain ⟨av2, cv2, rfl⟩ := hv2
            have r14 := HC4.out.c1; have rz4 := HC4.out.z 1; have rlt4 := HC4.out.lt
            clear hown' hown2 hgrow hown hBg hE4 hit2 r0 r1 rz rlt hownd hEL
            have hm : Cur (w4.setCell ⟨C, 1, none⟩ (.int .i64 ((j : Int) + (L : Int)))) C (some ⟨g, o, none⟩) b cap (j + L) ∧ EffC C w4 (w4.setCell ⟨C, 1, none⟩ (.int .i64 ((j : Int) + (L : Int)))) := HC4.out.move (j + L)
            have HCm := Lib.hid hm.1; have HEm := Lib.hid (HE4.out.trans hm.2)
            have HOm := Lib.hid (own_effC HO4.out hm.2 ⟨_, HC4.out.blk⟩)
            have HIm := Lib.hid (iter_eff hit4 hm.2 hQC)
            clear hm hit4
            have HLE : Hid (l.length + L = l.length + (E - j)) := Lib.hid (by have := HEE.out; omega)
            go_wp2_with fail
            have hG := HGh.out
            go_roundg (gk - 1)
            case rel => exact ⟨pos + 1, j + L, _, l ++ cutB b j (j + L), rfl, HIm.out, by omega, hjL, by rw [List.length_append, HCE.out]; omega, Lib.hid (.inr ⟨hs0, HD3.out⟩), HCm, HEm, HOm⟩
            case measure => omega
      · have hnx : ∀ ty, (Instr.next (.pointer (some ⟨Q, 0, none⟩)) true ty).run Try.prog wr = _ := fun ty => Lib.run_next_end_at wr Q S pos ty hit hlt
        have hst := HD.out.stop (by omega) HR2.out
        have r0 := HC.out.c0; have r1 := HC.out.c1; have rz := HC.out.z 1; have rlt := HC.out.lt
        have hlb : l.length ≤ 1500 := by omega
        clear HD hG hll HGG hlt
        go_upto_region 16 with fail
        by_cases hbad : S.size ≠ 0 ∧ j ≠ T
        · have HRb : Hid (R = .bad 7) := Lib.hid (by
            rcases hst with ⟨h0, _⟩ | ⟨_, h1, _⟩ | ⟨_, _, h⟩
            · exact absurd h0 hbad.1
            · exact absurd h1 hbad.2
            · exact h)
          have hSn := not_empty hbad.1
          have hjT : (j == T) = false := by rw [beq_eq_false_iff_ne]; exact hbad.2
          have hjT2 : (j != T) = true := by rw [bne_iff_ne]; exact hbad.2
          have hjT3 : ((j : Int) != (T : Int)) = true := by rw [bne_iff_ne]; have := hbad.2; omega
          clear hst hbad
          go_wp2_with fail
          exact ⟨rfl, DataE.no HRb.out HE.out⟩
        · have HRg : Hid (R = .ok (l ++ cutB b j T) T) := Lib.hid (by
            rcases hst with ⟨h0, h1, h2, h3⟩ | ⟨_, h1, h⟩ | ⟨h0, h1, h⟩
            · rw [h3, h1, h2]; rfl
            · rw [h, h1, show cutB b T T = [] by unfold cutB; simp, List.append_nil]
            · exact absurd ⟨h0, h1⟩ hbad)
          go_cut [83] (fun sv wx => sv = .bool false ∧ wx = wr)
          case first =>
            by_cases h0 : S.size = 0
            · have hSe : S = ⟨#[]⟩ := by
                apply ByteArray.ext; apply Array.eq_empty_of_size_eq_zero; exact h0
              have hSn : S.toList.isEmpty = true := by rw [hSe, Lib.toList_data]; rfl
              clear hSe hst hbad h0
              go_wp2_with fail
              go_meet
              exact ⟨rfl, rfl⟩
            · have hSn := not_empty h0
              have hjTe : j = T := by
                rcases Nat.decEq j T with h | h
                · exact absurd ⟨h0, h⟩ hbad
                · exact h
              have hjT : (j == T) = true := by rw [hjTe]; simp
              have hjT2 : (j != T) = false := by rw [hjTe]; simp
              have hjT3 : ((j : Int) != (T : Int)) = false := by rw [hjTe]; simp
              clear hst hbad h0 hjTe
              go_wp2_with fail
              go_meet
              exact ⟨rfl, rfl⟩
          case rest =>
            obtain ⟨rfl, hwc⟩ := hcut
            obtain rfl : wr = wc := hwc.symm
            clear hst hbad
            have hjl : j ≤ b.length := by omega
            obtain ⟨g, o, hag, hg, hgC, _⟩ := HC.out.at_ hb0
            subst hag
            have hLc := HC.out.le
            have hTc : (T : Int) ≤ (cap : Int) := by omega
            have hT0c : 0 ≤ (T : Int) ∧ (T : Int) ≤ (cap : Int) := by omega
            have hjTi : (j : Int) ≤ (T : Int) := by omega
            have hj0 : (0 : Int) ≤ (j : Int) := by omega
            have hcE : (cutB b j T).length = T - j := by rw [cut_len b j _ (by omega) (by omega)]
            have HCE := Lib.hid hcE
            obtain ⟨ad, had, hcc⟩ : ∃ ad, (if cap = j then some (⟨g, o, none⟩ : Addr) else some ⟨g, o + j, none⟩) = some ad ∧ ∀ (x : Nat) (u : Value), (Lib.byteCells (cutB b j T))[x]? = some u → wr.cell? (ad.add x) = some u := by
              by_cases hcj : cap = j
              · refine ⟨⟨g, o, none⟩, by rw [if_pos hcj], ?_⟩
                intro x u hu
                have : (cutB b j T) = [] := List.eq_nil_of_length_eq_zero (by omega)
                rw [this] at hu; simp [Lib.byteCells] at hu
              · refine ⟨⟨g, o + j, none⟩, by rw [if_neg hcj], ?_⟩
                have h := cut_cells HC.out.rd j (T - j)
                rw [show j + (T - j) = T by omega] at h
                exact h
            have HCC := Lib.hid hcc; have HAD := Lib.hid had
            have hown := HO.out
            obtain ⟨av, cv, rfl⟩ := own_slice1 hown
            have hsz3 : w1.heap.size ≤ wr.heap.size := HE.out.size
            have hTj : T - j ≤ 65535 := by omega
            clear hcE hcc had
            go_upto_region 18 with fail
            go_still_tail 11, (by kernel_rfl)
            have hownd : wr.drew.ownsRow w1.heap.size 5 1 (.slice av l.length cv) l.length (Lib.byteCells l) := hown
            simp only [HAD.out]
            refine wpList_append_own _ rfl _ _ 39 rfl w1.heap.size 5 i0 (.int .u8 0) 1 1 Try.underlying39 hi hz0 hz1 hz2 rfl (by decide) _ _ _ rfl hownd ad (T - j) (cap - j) (Lib.byteCells (cutB b j T)) rfl ?f1 ?f2 ?f3 ?f4 ?f5 ?f6 ?_
            case f1 => rw [show (Lib.byteCells (cutB b j T)).length = (cutB b j T).length from by simp [Lib.byteCells], HCE.out]; omega
            case f2 => exact HCC.out
            case f3 => exact byte_one _
            case f4 => unfold maxLen; omega
            case f5 => omega
            case f6 => exact hsz3
            intro v' w4 hown' hgrow _
            have hown2 : w4.ownsRow w1.heap.size 5 1 v' (l ++ cutB b j T).length (Lib.byteCells (l ++ cutB b j T)) := by
              have h := hown'
              rw [List.length_append, HCE.out]
              simpa [Lib.byteCells] using h
            have hBg := below_append' (Below.refl w1.heap.size wr.drew) hsz3 hownd hgrow
            have hE4 := HE.out.then_below (show Below w1.heap.size wr w4 from ⟨hBg.os, hBg.tape, hBg.output, hBg.size, hBg.block⟩)
            have hC4 := HC0.out.from_ hE4 ((hBg.block C hltC).trans HC.out.blk)
            have hm := hC4.move T
            have HCm := Lib.hid hm.1; have HEm := Lib.hid (hE4.trans hm.2)
            have HO4 := Lib.hid (own_effC hown2 hm.2 ⟨_, hC4.blk⟩)
            have hst := own_string (P := Try.prog) HO4.out 39 9 5 Try.underlying39 Try.underlying5 Try.underlying9
            have r14 := hC4.c1; have rz4 := hC4.z 1; have rlt4 := hC4.lt
            clear hown' hown2 hgrow hBg hE4 hC4 hm r0 r1 rz rlt hown hownd
            go_wp2_with fail
            go_ret
            exact DataE.yes HRg.out HCm.out HEm.out
end Go.Proofs.Ytabhiangjomaeaa.cdata
