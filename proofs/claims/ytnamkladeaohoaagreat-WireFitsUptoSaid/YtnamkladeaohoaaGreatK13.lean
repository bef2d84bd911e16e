/- (*wire.packer).name: walk. wire.buffer.u32, wire.short, wire.nameSize: walks. Right data split as the short names want: plain. -/
import Derived.Test.YtnamkladeaohoaaGreatK12
import Derived.Maps.OwnSet
import Derived.Maps.OwnOps
import Derived.Maps.Views
import Derived.StringKeys
import Derived.StillTailTactics
import Derived.Deep.DeepCutAuto
namespace Go.Proofs.YtnamkladeaohoaaGreat.pname
open Go.RowKit Go.Maps Go.Proofs.YtnamkladeaohoaaGreat.kit Go.Proofs.YtnamkladeaohoaaGreat.nspec Go.Proofs.YtnamkladeaohoaaGreat.bits Go.Proofs.YtnamkladeaohoaaGreat.bld Go.Proofs.YtnamkladeaohoaaGreat.coded Go.Proofs.YtnamkladeaohoaaGreat.fld Go.Proofs.YtnamkladeaohoaaGreat.packP Go.Proofs.YtnamkladeaohoaaGreat.buf
set_option linter.unusedVariables false

theorem keyLaw : Keyed Tryz.prog 9 := string_keyed Tryz.underlying9
theorem zeroInt (w : World) : (zeroValue 3).run Tryz.prog w = .ok (.int .i64 0) w := by kernel_rfl
/-- the map tells what is noted -/
def Tied (D : DataW Unit) (N : Noted) : Prop := ∀ k : Bs, Maps.has D (.string k) = (findN N k).isSome ∧ ∀ j, findN N k = some j → D.atKey (.string k) (.lit (.int .i64 0)) = .lit (.int .i64 (j : Int))
theorem Tied.nil : Tied (.map []) [] := by
  intro k
  exact ⟨rfl, by intro j h; cases h⟩
theorem Tied.snoc {D : DataW Unit} {N : Noted} (h : Tied D N) (hD : IsMap D) {r : Bs} {j : Nat} (hr : findN N r = none) : Tied (D.put (.string r) (.lit (.int .i64 (j : Int)))) (N ++ [(r, j)]) := by
  intro k
  obtain ⟨h1, h2⟩ := h k
  rw [findN_snoc]
  by_cases e : r = k
  · subst e
    rw [hr]
    simp only [if_true]
    refine ⟨by rw [has_put_same hD (show WideAt.IsKeyLit (.string r) from trivial)]; rfl, ?_⟩
    intro i hi
    cases hi
    rw [atKey_put_same hD (show WideAt.IsKeyLit (.string r) from trivial)]
  · have hne : (Lit.string k) ≠ Lit.string r := by intro h; injection h with h; exact e h.symm
    refine ⟨?_, ?_⟩
    · rw [has_put_other hne, h1]
      cases findN N k with
      | some i => rfl
      | none => simp [e]
    · intro i hi
      rw [atKey_put_other hne]
      cases hf : findN N k with
      | some i' => rw [hf] at hi; simp at hi; subst hi; exact h2 _ hf
      | none => rw [hf] at hi; simp [e] at hi

/-- the packer in memory -/
structure Paper (w : World) (b0 B M : Nat) (v : Value) (p : Pp) : Prop where
  buf : Buf w b0 B v (.map (some M)) p.out
  map : ∃ D : DataW Unit, w.ownsMap Tryz.prog 9 (plainElem Tryz.prog 3) M p.N.length D ∧ Tied D p.N
  near : Near p.N
  low : b0 ≤ M
  ne : B ≠ M
  few : p.N.length ≤ p.out.length + 1
def Two (B M : Nat) (k : Nat) : Prop := k = B ∨ k = M
theorem mapObj {w : World} {P : Program} {k : TypeId} {R : Value → Option (DataW Unit × List MemPlace)} {b n : Nat} {D : DataW Unit} (h : w.ownsMap P k R b n D) : ∃ es st, w.heap[b]? = some (.map es st) := by
  obtain ⟨es, clock, h1, _⟩ := h; exact ⟨es, clock, h1⟩
theorem notU8_map (es : Array MapEntry) (st : Nat) : NotU8 (.map es st) := by intro cur f e; cases e
/-- behind a write of the buffer -/
theorem Paper.wrote {w w1 : World} {b0 B M : Nat} {v v' : Value} {p : Pp} {out : Bs} (h : Paper w b0 B M v p) (hb : Buf w1 b0 B v' (.map (some M)) out) (he : Eff b0 (fun k => k = B) w w1) (hlen : p.out.length ≤ out.length) : Paper w1 b0 B M v' ⟨out, p.N⟩ := by
  obtain ⟨D, hD, hT⟩ := h.map
  refine ⟨hb, ⟨D, ?_, hT⟩, h.near, h.low, h.ne, by have := h.few; show p.N.length ≤ out.length + 1; omega⟩
  obtain ⟨es, clock, h1, h2⟩ := hD
  exact ⟨es, clock, he.kept M _ h1 (notU8_map _ _) (fun e => h.ne e.symm), h2⟩
theorem or14 {y : Int} (h₀ : 0 ≤ y) (h₁ : y < 16384) : bits .or .i64 49152 y = 49152 + y :=
  bits_join .i64 31 (by decide) to32.wraps31 14 49152 y (by decide) (by decide) (by decide) h₀ h₁ (by omega)
theorem drop_put (x : Bs) (r : List Bs) (h : x.length ≤ 63) : (put (x :: r)).drop (1 + (UInt8.ofNat x.length).toNat) = put r := by
  rw [UInt8.toNat_ofNat_of_lt' (by show x.length < 256; omega)]
  simp only [put]
  rw [Nat.add_comm, List.drop_succ_cons, List.drop_left]
theorem Paper.c0 {w : World} {b0 B M : Nat} {v : Value} {p : Pp} (h : Paper w b0 B M v p) : w.cell? ⟨B, 0, none⟩ = some v := h.buf.c0
theorem Paper.c1 {w : World} {b0 B M : Nat} {v : Value} {p : Pp} (h : Paper w b0 B M v p) : w.cell? ⟨B, 1, none⟩ = some (.map (some M)) := h.buf.c1'
theorem Paper.open {w : World} {b0 B M : Nat} {v : Value} {p : Pp} (h : Paper w b0 B M v p) : ∃ a c, v = .slice a p.out.length c := own_slice1 h.buf.own

theorem Paper.drew {w : World} {b0 B M : Nat} {v : Value} {p : Pp} (h : Paper w b0 B M v p) : Paper w.drew b0 B M v p := by
  obtain ⟨D, hD, hT⟩ := h.map
  exact ⟨⟨h.buf.blk, h.buf.own, h.buf.low⟩, ⟨D, hD.drew, hT⟩, h.near, h.low, h.ne, h.few⟩
theorem Eff.of_drew (b0 : Nat) (T : Nat → Prop) (w : World) : Eff b0 T w w.drew := ⟨rfl, rfl, rfl, Nat.le_refl _, fun _ _ => rfl, fun _ _ h _ _ => h⟩
theorem Paper.noted {w w1 : World} {b0 B M : Nat} {v : Value} {p : Pp} {D : DataW Unit} {N2 : Noted} {u : ByteArray} {n : Bs} (h : Paper w b0 B M v p) (HN22 : p.N ++ [(n, p.out.length)] = N2) (hu : u.data.toList = n) (hf : findN p.N n = none) (hT : Tied D p.N) (hD : w.ownsMap Tryz.prog 9 (plainElem Tryz.prog 3) M p.N.length D)
    (hown : w1.ownsMap Tryz.prog 9 (plainElem Tryz.prog 3) M (p.N.length + 1) (D.put (.string u.data.toList) (.lit (.int .i64 (p.out.length : Int))))) (hg : w.drew.grownBy w1 (some M)) (h16 : p.out.length ≤ 16383) (hpos : p.N.length ≤ p.out.length) : Paper w1 b0 B M v ⟨p.out, N2⟩ := by
  subst HN22
  obtain ⟨es, clock, hM, hrest⟩ := hD
  have hDm : IsMap D := ⟨_, hrest.2.2⟩
  refine ⟨⟨(hg.block B h.buf.lt (by intro e; cases e; exact h.ne rfl)).trans h.buf.blk, ?_, h.buf.low⟩, ⟨D.put (.string u.data.toList) (.lit (.int .i64 (p.out.length : Int))), ?_, ?_⟩, h.near.snoc h16, h.low, h.ne, by simp; omega⟩
  · refine ⟨h.buf.own.1, ?_⟩
    rcases h.buf.own.2 with h1 | ⟨g, cap, cur, h1, h2, h3, h4⟩
    · exact .inl h1
    · refine .inr ⟨g, cap, cur, h1, h2, (hg.block g (Array.getElem?_eq_some_iff.1 h3).1 ?_).trans h3, h4⟩
      intro e; cases e
      have : w.heap[M]? = some (.cells cur 5 (0, 0)) := h3
      rw [hM] at this; cases this
  · simp only [List.length_append, List.length_cons, List.length_nil]; exact hown
  · rw [hu]; exact hT.snoc hDm hf
theorem Paper.noted_eff {w w1 : World} {b0 B M : Nat} {v : Value} {p : Pp} (h : Paper w b0 B M v p) (hg : w.drew.grownBy w1 (some M)) (hb : b0 ≤ w.heap.size) : Eff b0 (Two B M) w w1 := by
  have hlt := h.buf.lt
  have hlo := h.buf.low
  have hm := h.low
  refine ⟨hg.os, hg.tape, hg.output, hg.size, fun k hk => hg.block k (show k < w.heap.size by omega) (by intro e; cases e; omega), fun k o hk hn hT => (hg.block k (Array.getElem?_eq_some_iff.1 hk).1 (by intro e; cases e; exact hT (.inr rfl))).trans hk⟩

set_option maxRecDepth 100000 in
set_option maxHeartbeats 8000000 in
theorem pname_any (b0 B M : Nat) (v : Value) (p : Pp) (n : ByteArray) (ls : List Bs) (w : World) (h : Paper w b0 B M v p) (hn : IsN n.data.toList ls) (hl : p.out.length ≤ 549755813888) (hfew : p.N.length ≤ p.out.length) :
    Calls Tryz.prog 116 #[.pointer (some ⟨B, 0, none⟩), .string n] w fun e w' => e = .returned (.tuple #[]) ∧ ∃ v', Paper w' b0 B M v' (nameP n.data.toList p) ∧ Eff b0 (Two B M) w w' := by
  obtain ⟨R, HR⟩ : ∃ R, Hid (nameP n.data.toList p = R) := ⟨_, Lib.hid rfl⟩
  rw [HR.out]
  have HP0 := Lib.hid h
  have hn1 := hn.1; have hn2 := hn.2.1; have hn3 := hn.2.2
  rw [size_len] at hn3
  have HR0 : Hid (nameP (put ls) p = R) := Lib.hid (by rw [← HR.out, hn1])
  have HN1 := Lib.hid hn1; have HN2 := Lib.hid hn2
  obtain ⟨O, hO⟩ : ∃ O, p.out.length = O := ⟨_, rfl⟩
  rw [hO] at hl
  have HFW0 := Lib.hid hfew
  have HO0 : Hid (p.out.length + n.size ≤ O + 255) := Lib.hid (by omega)
  clear h hn hn1 hn2 hO hfew
  go_enter Tryz.func116, Tryz.ntmps116
  go_wp2_with fail
  go_loopg [1, 4, 5, 6, 10] (ls.length + 1) (fun gas nv _ _ _ _ wr => ∃ (ls' : List Bs) (u : ByteArray) (v' : Value) (q : Pp), nv = .string u ∧ u.size ≤ 255 ∧ Hid (ls'.length < gas) ∧ Hid (u.data.toList = put ls') ∧ Hid (okL ls') ∧ Hid (q.out.length + u.size ≤ O + 255) ∧ Hid (q.N.length ≤ q.out.length) ∧ Hid (nameP (put ls') q = R) ∧ Hid (Paper wr b0 B M v' q) ∧ Hid (Eff b0 (Two B M) w wr))
  case atStart => exact ⟨ls, n, v, p, rfl, hn3, Lib.hid (by omega), HN1, HN2, HO0, HFW0, HR0, HP0, Lib.hid (Eff.refl _ _ _)⟩
  case round =>
    obtain ⟨ls', u, v', q, rfl, hus, HG, HU, HOK, HOO, HFW, HW, HPP, HEE⟩ := hrel
    cases ls' with
    | nil =>
      have h1s : u.size = 1 := by rw [← size_len, HU.out]; rfl
      have hu0 : u[0] = 0 := by
        have h := HU.out
        have h1 := drop_cons u 0 (by omega)
        rw [List.drop_zero] at h1
        rw [h1] at h
        simp only [put] at h
        exact (List.cons.inj h).1
      have hsz : (0 : Int) < (u.size : Int) := by omega
      have hlen : q.out.length ≤ 1099511627776 := by have := HOO.out; omega
      have CW := Lib.hid (u8_any b0 B v' (.map (some M)) q.out 0 wr HPP.out.buf hlen)
      have HRq : Hid ((⟨q.out ++ [byte 0], q.N⟩ : Pp) = R) := Lib.hid (by rw [← HW.out]; exact nameP_end.symm)
      go_wp2_with fail
      refine CW.out.mono ?_
      rintro e w1 ⟨rfl, v2, hb, he⟩
      have HF := Lib.hid (HPP.out.wrote hb he (by simp))
      have HG2 := Lib.hid (HEE.out.trans (he.wider (fun k h => .inl h)))
      rw [HRq.out] at HF
      clear hb he
      go_wp2_with fail
      go_end0
      exact ⟨rfl, _, HF.out, HG2.out⟩
    | cons x r =>
      have hx := (okL_cons.1 HOK.out).1
      have HOKr := Lib.hid (okL_cons.1 HOK.out).2
      have hpl : (put (x :: r)).length = 1 + x.length + (put r).length := by simp only [put, List.length_cons, List.length_append]; omega
      have hul : u.size = 1 + x.length + (put r).length := by rw [← size_len, HU.out, hpl]
      have hrl : 1 ≤ (put r).length := by cases r <;> simp [put]
      have h0s : 0 < u.size := by omega
      obtain ⟨c, hc⟩ : ∃ c, u[0]'h0s = c := ⟨_, rfl⟩
      have hcx : c = UInt8.ofNat x.length := by
        have h := HU.out
        have h1 := drop_cons u 0 (by omega)
        rw [List.drop_zero] at h1
        rw [h1, hc] at h
        simp only [put] at h
        exact (List.cons.inj h).1
      have hcn : c.toNat = x.length := by rw [hcx, UInt8.toNat_ofNat_of_lt' (by show x.length < 256; omega)]
      have hc0 : c ≠ 0 := by intro h; rw [h] at hcn; simp at hcn; omega
      have hcb : ((c.toNat : Int) != 0) = true := by simp; omega
      have hsz : (0 : Int) < (u.size : Int) := by omega
      have hpc : put (x :: r) = c :: (x ++ put r) := by rw [hcx]; rfl
      obtain ⟨va, vc, rfl⟩ := HPP.out.open
      have hk0 := HPP.out.c0
      obtain ⟨D, hD, hT⟩ := HPP.out.map
      have hk1 := HPP.out.c1
      have hmax : u.size ≤ maxLen := by unfold maxLen; omega
      have hTk := hT u.data.toList
      have HT := Lib.hid hT
      rw [HU.out] at hTk
      cases hf : findN q.N (put (x :: r)) with
      | some j =>
        rw [hf] at hTk
        have hj := HPP.out.near _ _ (findN_mem hf)
        have hhas : Maps.has D (.string u.data.toList) = true := by rw [HU.out, hTk.1]; rfl
        have hat0 : Hid (D.atKey (.string u.data.toList) (.lit (.int .i64 0)) = .lit (.int .i64 (j : Int))) := Lib.hid (by rw [HU.out]; exact hTk.2 j rfl)
        have HRq : Hid ((⟨q.out ++ be2 (49152 + (j : Int)), q.N⟩ : Pp) = R) := Lib.hid (by
          rw [← HW.out]; rw [hpc] at hf ⊢; exact (nameP_hit hc0 hf).symm)
        have hlen : q.out.length ≤ 1099511627776 := by have := HOO.out; omega
        have C16 := Lib.hid (fun b => u16_any b0 B (.slice va q.out.length vc) (.map (some M)) q.out b wr HPP.out.buf hlen)
        have hor : Value.int .i64 (bits .or .i64 49152 (j : Int)) = Value.int .i64 (49152 + (j : Int)) := by rw [or14 (by omega) (by omega)]
        clear hTk hf hx hpl hul hrl hcx hcn hc0 hpc
        have hkey := Go.WideMaps.keyOf_string_mk (P := Tryz.prog) Tryz.underlying9 hmax
        go_wp2_with (first | (at_lookup; refine wpList_lookup_own_ok_int wr rfl _ _ 140 rfl 9 3 .i64 keyLaw Tryz.underlying140 Tryz.underlying3 (zeroInt _) M _ D rfl hD _ _ rfl hkey ?_; intro c' hat hwc))
        have hcj : c' = (j : Int) := by
          have h := hat.symm.trans hat0.out
          injection h with h; injection h
        have hor2 : Hid (bits .or .i64 49152 c' = 49152 + (j : Int)) := Lib.hid (by rw [hcj, or14 (by omega) (by omega)])
        clear hat hwc hkey hT hcj hor
        refine (C16.out (bits .or .i64 49152 c')).mono ?_
        rintro e w1 ⟨rfl, v2, hb, he⟩
        rw [hor2.out] at hb
        have HF := Lib.hid (HPP.out.wrote hb he (by simp))
        have HG2 := Lib.hid (HEE.out.trans (he.wider (fun k h => .inl h)))
        rw [HRq.out] at HF
        clear hb he
        go_wp2_with fail
        exact bodyPost_ret (v := .tuple #[]) (by simp [results, Tryz.results116, go_sem]) rfl ⟨rfl, _, HF.out, HG2.out⟩
      | none =>
        rw [hf] at hTk
        have hhas : Maps.has D (.string u.data.toList) = false := by rw [HU.out, hTk.1]; rfl
        have HGO : Hid (nameP (put r) ⟨q.out ++ (put (x :: r)).take (1 + x.length), if q.out.length ≤ 16383 then q.N ++ [(put (x :: r), q.out.length)] else q.N⟩ = R) := Lib.hid (by
          rw [← HW.out]
          have h := nameP_go (p := q) hc0 (by rw [← hpc]; exact hf)
          rw [← hpc, hcn] at h
          rw [h]
          have h2 := drop_put x r hx.2
          rw [UInt8.toNat_ofNat_of_lt' (by show x.length < 256; omega)] at h2
          rw [h2])
        have hlen : q.out.length ≤ 1099511627776 := by have := HOO.out; omega
        have hkey := Go.WideMaps.keyOf_string_mk (P := Tryz.prog) Tryz.underlying9 hmax
        have HF0 := Lib.hid hf
        have HCN := Lib.hid hcn; have HXL := Lib.hid hx; have HUL := Lib.hid hul
        clear hTk hf hx hpl hul hrl hcx hc0 hpc
        go_upto_if 32 with (first | (at_lookup; refine wpList_lookup_own_ok_int wr rfl _ _ 140 rfl 9 3 .i64 keyLaw Tryz.underlying140 Tryz.underlying3 (zeroInt _) M _ D rfl hD _ _ rfl hkey ?_; intro c' hat hwc))
        clear hat hwc
        have hwr : b0 ≤ wr.heap.size := by have := HPP.out.buf.low; have := HPP.out.buf.lt; omega
        have HLW := Lib.hid hwr
        obtain ⟨N2, hN2⟩ : ∃ N2, (if q.out.length ≤ 16383 then q.N ++ [(put (x :: r), q.out.length)] else q.N) = N2 := ⟨_, rfl⟩
        rw [hN2] at HGO
        have HN22 := Lib.hid hN2; clear hN2 hwr
        go_cut [4] (fun _ wx => ∃ v2, Hid (Paper wx b0 B M v2 ⟨q.out, N2⟩) ∧ Hid (Eff b0 (Two B M) wr wx))
        case first =>
          obtain ⟨O2, hO2⟩ : ∃ O2, q.out.length = O2 := ⟨_, rfl⟩
          by_cases h16 : q.out.length ≤ 16383
          · have h16i : (O2 : Int) ≤ 16383 := by omega
            have hfew := HPP.out.few
            have HD := Lib.hid hD
            rw [hO2] at hk0 HPP hlen ⊢
            go_wp2_with fail
            go_still_tail 11, (by kernel_rfl)
            refine wpList_mapUpdate_own _ rfl _ _ _ 140 rfl 9 3 keyLaw Tryz.underlying140 (plainElem Tryz.prog 3) M q.N.length D rfl HD.out.drew (by unfold maxLen; omega) _ _ _ rfl rfl hkey (.lit (.int .i64 (O2 : Int))) [] (plainElem_int Tryz.underlying3 (by simp only [Lit.wf, Bool.and_eq_true, decide_eq_true_eq]; exact ⟨by show (-9223372036854775808 : Int) ≤ _; omega, by show _ ≤ (9223372036854775807 : Int); omega⟩)) ?_
            intro w1 hown1 hgrow1
            have HF1 : Hid (Paper w1 b0 B M (.slice va O2 vc) ⟨q.out, N2⟩) := Lib.hid (by
              rw [← hO2]
              have hN := HN22.out
              rw [if_pos h16] at hN
              have hnb := HPP.out
              rw [← hO2] at hnb
              exact hnb.noted (HN22 := hN) HU.out HF0.out HT.out HD.out (by rw [hO2]; exact hown1) hgrow1 h16 HFW.out)
            have HE1 : Hid (Eff b0 (Two B M) wr w1) := Lib.hid (HPP.out.noted_eff hgrow1 HLW.out)
            clear hown1 hgrow1
            go_wp2_with fail
            go_meet
            exact ⟨_, HF1, HE1⟩
          · have h16i : (16383 : Int) < (O2 : Int) := by omega
            have HF1 : Hid (Paper wr b0 B M (.slice va O2 vc) ⟨q.out, N2⟩) := Lib.hid (by
              rw [← HN22.out, if_neg h16]; rw [← hO2]; exact HPP.out)
            rw [hO2] at hk0
            go_wp2_with fail
            go_meet
            exact ⟨_, HF1, Lib.hid (Eff.refl _ _ _)⟩
        case rest =>
          obtain ⟨v2, HP2, HE2⟩ := hcut
          have HEE2 := Lib.hid (HEE.out.trans HE2.out)
          clear hk0 hk1 hhas hkey hD
          have hsl : (u.extract 0 (1 + x.length)).data.toList = (put (x :: r)).take (1 + x.length) := by
            rw [Lib.extract_data, HU.out]; simp
          have hsz2 : (u.extract 0 (1 + x.length)).size = 1 + x.length := by rw [ByteArray.size_extract]; have := HUL.out; omega
          have hdr : (u.extract (1 + x.length) u.size).data.toList = put r := by
            rw [Lib.extract_data, List.take_of_length_le (by rw [List.length_drop, size_len]; exact Nat.le_refl _), HU.out]
            have h2 := drop_put x r HXL.out.2
            rw [UInt8.toNat_ofNat_of_lt' (by have := HXL.out.2; show x.length < 256; omega)] at h2
            exact h2
          have hds : (u.extract (1 + x.length) u.size).size = (put r).length := by rw [← size_len, hdr]
          have CR := Lib.hid (raw_any b0 B v2 (.map (some M)) q.out (u.extract 0 (1 + x.length)) wc.drew HP2.out.drew.buf hlen (by rw [hsz2]; have := HXL.out.2; omega))
          rw [hsl] at CR
          have HSZ2 := Lib.hid hsz2; have HDR := Lib.hid hdr; have HDS := Lib.hid hds
          obtain ⟨X, hX⟩ : ∃ X, x.length = X := ⟨_, rfl⟩
          rw [hX] at hsl hsz2 hdr hds CR HSZ2 HDR HDS HGO HUL HXL hcn
          have hxi : 1 + (X : Int) ≤ (u.size : Int) := by have := HUL.out; omega
          have hx1 : (1 : Int) ≤ (X : Int) := by have := HXL.out.1; omega
          have hx63 : (X : Int) ≤ 63 := by have := HXL.out.2; omega
          have HK := Lib.hid hX
          obtain ⟨K, hK⟩ : ∃ K, 1 + X = K := ⟨_, rfl⟩
          rw [hK] at CR HSZ2 HDR HDS HGO
          have HKv : Hid (Value.int .i64 (1 + (X : Int)) = Value.int .i64 (K : Int)) := Lib.hid (by congr 1; omega)
          have hKs : K ≤ u.size := by omega
          have HKX := Lib.hid hK
          clear hsl hsz2 hdr hds hX hK
          go_wp2_with fail
          rw [HKv.out]
          clear HKv hxi hx1 hx63
          have hKi : (K : Int) ≤ (u.size : Int) := by omega
          have hK0 : (0 : Int) ≤ (K : Int) := by omega
          go_still_tail 6, (by kernel_rfl)
          go_wp2_with fail
          refine CR.out.mono ?_
          rintro e w1 ⟨rfl, v3, hb, he⟩
          have HP3 := Lib.hid ((HP2.out.drew).wrote hb he (by simp))
          have HE3 := Lib.hid ((HEE2.out.trans (Eff.of_drew _ _ wc)).trans (he.wider (fun k h => .inl h)))
          clear hb he
          go_wp2_with fail
          have hg := HG.out
          rw [List.length_cons] at hg
          go_roundg (gk - 1)
          case rel =>
            refine ⟨r, _, v3, _, rfl, ?_, Lib.hid (by omega), HDR, HOKr, Lib.hid ?_, Lib.hid ?_, HGO, HP3, HE3⟩
            · rw [HDS.out]; have := HUL.out; have h4 := HKX.out; omega
            · rw [HDS.out]; have h1 := HUL.out; have h2 := HOO.out; have h3 := HK.out; have h4 := HKX.out; simp only [List.length_append, List.length_take]; omega
            · have h1 := HFW.out; have h2 := HN22.out; have h4 := HKX.out; have h5 := HXL.out.1; have h6 : 1 ≤ (put (x :: r)).length := by simp [put]
              rw [← h2]; simp only [List.length_append, List.length_take]; split <;> ((try simp only [List.length_append, List.length_cons, List.length_nil]); omega)
          case measure => omega
end Go.Proofs.YtnamkladeaohoaaGreat.pname
namespace Go.Proofs.YtnamkladeaohoaaGreat.psmall
open Go.RowKit Go.Proofs.YtnamkladeaohoaaGreat.kit Go.Proofs.YtnamkladeaohoaaGreat.nspec Go.Proofs.YtnamkladeaohoaaGreat.bits Go.Proofs.YtnamkladeaohoaaGreat.bld Go.Proofs.YtnamkladeaohoaaGreat.coded Go.Proofs.YtnamkladeaohoaaGreat.fld Go.Proofs.YtnamkladeaohoaaGreat.packP Go.Proofs.YtnamkladeaohoaaGreat.buf Go.Proofs.YtnamkladeaohoaaGreat.pname
set_option linter.unusedVariables false

theorem be2_low {v : Int} (h0 : 0 ≤ v) : be2 (v % 65536) = be2 v := by
  simp only [be2, byte]
  have e1 : v % 65536 / 256 % 256 = v / 256 % 256 := by omega
  have e2 : v % 65536 % 256 = v % 256 := by omega
  rw [e1, e2]
theorem wraps40 (n : Int) (h₀ : 0 ≤ n) (h₁ : n < 2 ^ 40) : IntKind.i64.wrap n = n := by rw [IntKind.wrap_i64]; omega
theorem and16 {x : Int} (h₀ : 0 ≤ x) (h₁ : x < 1099511627776) : bits .and .i64 x 65535 = x % 65536 := bits_mask .i64 40 (by decide) wraps40 16 (by decide) x h₀ h₁
set_option maxRecDepth 100000 in
set_option maxHeartbeats 2000000 in
theorem u32_any (b0 B : Nat) (v c1 : Value) (out : Bs) (b : Int) (w : World) (h : Buf w b0 B v c1 out) (hl : out.length ≤ 549755813888) (hb0 : 0 ≤ b) (hb1 : b ≤ 4294967295) :
    Calls Tryz.prog 117 #[.pointer (some ⟨B, 0, none⟩), .int .i64 b] w fun e w' => e = .returned (.tuple #[]) ∧ ∃ v', Buf w' b0 B v' c1 (out ++ be4 b) ∧ Eff b0 (fun k => k = B) w w' := by
  have C1 := Lib.hid (u16_any b0 B v c1 out (b / 65536) w h (by omega))
  have C2 := Lib.hid (fun v' w' h' => u16_any b0 B v' c1 (out ++ be2 (b / 65536)) (b % 65536) w' h' (by simp only [List.length_append, be2, List.length_cons, List.length_nil]; omega))
  have hand : Value.int .i64 (bits .and .i64 b 65535) = Value.int .i64 (b % 65536) := by rw [and16 hb0 (by omega)]
  have HE : Hid (be4 b = be2 (b / 65536) ++ be2 (b % 65536)) := Lib.hid (by rw [be2_low hb0]; rfl)
  rw [HE.out, ← List.append_assoc]
  clear h
  go_enter Tryz.func117, Tryz.ntmps117
  go_wp2_with fail
  refine C1.out.mono ?_
  rintro e w1 ⟨rfl, v1, hB1, hE1⟩
  have HE1 := Lib.hid hE1; have C3 := Lib.hid (C2.out v1 w1 hB1)
  clear hE1 hB1 C1 C2
  go_wp2_with fail
  refine C3.out.mono ?_
  rintro e w2 ⟨rfl, v2, hB2, hE2⟩
  have HB2 := Lib.hid hB2; have HE2 := Lib.hid (HE1.out.trans hE2)
  clear hE2 hB2
  go_wp2_with fail
  go_end0
  exact ⟨rfl, v2, HB2.out, HE2.out⟩

def shortB (t : Int) : ByteArray := if t = 2 ∨ t = 5 ∨ t = 12 then ⟨#[110]⟩ else if t = 15 then ⟨#[49, 110]⟩ else if t = 6 then ⟨#[110, 110, 53, 53]⟩ else ⟨#[]⟩
set_option maxRecDepth 100000 in
theorem short_any (t : Int) (w : World) : Calls Tryz.prog 179 #[.int .i64 t] w fun e w' => e = .returned (.string (shortB t)) ∧ w' = w := by
  obtain ⟨R, HR⟩ : ∃ R, Hid (shortB t = R) := ⟨_, Lib.hid rfl⟩
  rw [HR.out]
  by_cases h2 : t = 2
  · subst h2
    obtain rfl : R = ⟨#[110]⟩ := by rw [← HR.out]; simp [shortB]
    go_enter Tryz.func179, Tryz.ntmps179
    go_wp2_with fail
    go_ret
    exact ⟨rfl, rfl⟩
  have e2 : (t == 2) = false := by simpa using h2
  by_cases h5 : t = 5
  · subst h5
    obtain rfl : R = ⟨#[110]⟩ := by rw [← HR.out]; simp [shortB]
    go_enter Tryz.func179, Tryz.ntmps179
    go_wp2_with fail
    go_ret
    exact ⟨rfl, rfl⟩
  have e5 : (t == 5) = false := by simpa using h5
  by_cases h12 : t = 12
  · subst h12
    obtain rfl : R = ⟨#[110]⟩ := by rw [← HR.out]; simp [shortB]
    go_enter Tryz.func179, Tryz.ntmps179
    go_wp2_with fail
    go_ret
    exact ⟨rfl, rfl⟩
  have e12 : (t == 12) = false := by simpa using h12
  by_cases h15 : t = 15
  · subst h15
    obtain rfl : R = ⟨#[49, 110]⟩ := by rw [← HR.out]; simp [shortB]
    go_enter Tryz.func179, Tryz.ntmps179
    go_wp2_with fail
    go_ret
    exact ⟨rfl, rfl⟩
  have e15 : (t == 15) = false := by simpa using h15
  by_cases h6 : t = 6
  · subst h6
    obtain rfl : R = ⟨#[110, 110, 53, 53]⟩ := by rw [← HR.out]; simp [shortB]
    go_enter Tryz.func179, Tryz.ntmps179
    go_wp2_with fail
    go_ret
    exact ⟨rfl, rfl⟩
  have e6 : (t == 6) = false := by simpa using h6
  obtain rfl : R = ⟨#[]⟩ := by rw [← HR.out]; simp [shortB, h2, h5, h12, h15, h6]
  clear h2 h5 h12 h15 h6
  go_enter Tryz.func179, Tryz.ntmps179
  go_wp2_with fail
  go_ret
  exact ⟨rfl, rfl⟩

theorem nameSz_put : ∀ (ls : List Bs) (t : Bs), okL ls → nameSz (put ls ++ t) = (put ls).length
  | [], t, _ => by simp [put, nameSz]
  | x :: r, t, h => by
    have hx := (okL_cons.1 h).1
    have hc : (UInt8.ofNat x.length).toNat = x.length := UInt8.toNat_ofNat_of_lt' (by show x.length < 256; omega)
    have h0 : UInt8.ofNat x.length ≠ 0 := by intro e; rw [e] at hc; simp at hc; omega
    simp only [put, List.cons_append, nameSz, if_neg h0, hc, List.append_assoc]
    rw [List.drop_left, nameSz_put r t (okL_cons.1 h).2]
    simp only [List.length_cons, List.length_append]; omega
set_option maxRecDepth 100000 in
set_option maxHeartbeats 2000000 in
theorem nsize_any (s : ByteArray) (ls : List Bs) (t : Bs) (w : World) (hs : s.data.toList = put ls ++ t) (ho : okL ls) (hl : s.size ≤ 1099511627776) :
    Calls Tryz.prog 180 #[.string s] w fun e w' => e = .returned (.int .i64 ((put ls).length : Int)) ∧ w' = w := by
  obtain ⟨N, hN⟩ : ∃ N, (put ls).length = N := ⟨_, rfl⟩
  rw [hN]
  have HS := Lib.hid hs
  have HN0 : Hid (0 + (put ls).length = N) := Lib.hid (by omega)
  have HD0 : Hid (s.data.toList.drop 0 = put ls ++ t) := Lib.hid (by rw [List.drop_zero]; exact hs)
  have HO := Lib.hid ho
  have hNs : Hid (N + t.length = s.size) := Lib.hid (by rw [← size_len, hs, List.length_append, hN])
  clear hs ho hN
  go_enter Tryz.func180, Tryz.ntmps180
  go_wp2_with fail
  go_loopg [3] (ls.length + 1) (fun gas kv wr => ∃ (ls' : List Bs) (k : Nat), kv = .int .i64 (k : Int) ∧ Hid (ls'.length < gas) ∧ Hid (okL ls') ∧ Hid (k + (put ls').length = N) ∧ Hid (s.data.toList.drop k = put ls' ++ t) ∧ wr = w)
  case atStart => exact ⟨ls, 0, rfl, Lib.hid (by omega), HO, HN0, HD0, rfl⟩
  case round =>
    obtain ⟨ls', k, rfl, HG, HOK, HK, HD, rfl⟩ := hrel
    have hpos : 1 ≤ (put ls').length := by cases ls' <;> simp [put]
    have hks : k < s.size := by have := HK.out; have := hNs.out; omega
    obtain ⟨c, hc⟩ : ∃ c, s[k]'hks = c := ⟨_, rfl⟩
    have hcd := drop_cons s k hks
    rw [HD.out, hc] at hcd
    have hki : (k : Int) < (s.size : Int) := by omega
    cases ls' with
    | nil =>
      have hc0 : c = 0 := by
        simp only [put, List.cons_append, List.nil_append] at hcd
        exact (List.cons.inj hcd).1.symm
      have hres : Value.int .i64 ((k : Int) + 1) = Value.int .i64 (N : Int) := by
        have := HK.out; simp only [put, List.length_cons, List.length_nil] at this; congr 1; omega
      subst hc0
      clear hpos hcd
      go_wp2_with fail
      go_ret
      exact ⟨by first | rfl | rw [hres], rfl⟩
    | cons x r =>
      have hx := (okL_cons.1 HOK.out).1
      have hcx : c = UInt8.ofNat x.length := by
        simp only [put, List.cons_append] at hcd
        exact (List.cons.inj hcd).1.symm
      have hcn : c.toNat = x.length := by rw [hcx, UInt8.toNat_ofNat_of_lt' (by show x.length < 256; omega)]
      have hcb : ((c.toNat : Int) != 0) = true := by simp; omega
      have HOKr := Lib.hid (okL_cons.1 HOK.out).2
      have HK2 : Hid (k + (1 + x.length) + (put r).length = N) := Lib.hid (by have := HK.out; simp only [put, List.length_cons, List.length_append] at this; omega)
      have HD2 : Hid (s.data.toList.drop (k + (1 + x.length)) = put r ++ t) := Lib.hid (by
        rw [← List.drop_drop, HD.out]
        simp only [put, List.cons_append, List.append_assoc]
        rw [Nat.add_comm 1, List.drop_succ_cons, List.drop_left])
      have hx63 : (x.length : Int) ≤ 63 := by omega
      have hkv : Value.int .i64 ((k : Int) + (1 + (c.toNat : Int))) = Value.int .i64 ((k + (1 + x.length) : Nat) : Int) := by rw [hcn]; congr 1
      have HKV := Lib.hid hkv
      have hc255 := byte_lt c
      clear hpos hcd hx hcx hkv hcn
      go_wp2_with fail
      have hg := HG.out
      rw [List.length_cons] at hg
      go_roundg (gk - 1)
      case rel => exact ⟨r, _, HKV.out, Lib.hid (by omega), HOKr, HK2, HD2, rfl⟩
      case measure => omega
end Go.Proofs.YtnamkladeaohoaaGreat.psmall
namespace Go.Proofs.YtnamkladeaohoaaGreat.fits
open Go.Proofs.YtnamkladeaohoaaGreat.nspec Go.Proofs.YtnamkladeaohoaaGreat.fld Go.Proofs.YtnamkladeaohoaaGreat.wireP Go.Proofs.YtnamkladeaohoaaGreat.packP Go.Proofs.YtnamkladeaohoaaGreat.psmall
set_option linter.unusedVariables false

/-- data that begin with such parts -/
def Fits : List (Option Nat) → Bs → Prop
  | [], _ => True
  | none :: fs, d => ∃ ls d', okL ls ∧ (put ls).length ≤ 255 ∧ d = put ls ++ d' ∧ Fits fs d'
  | some k :: fs, d => k ≤ d.length ∧ Fits fs (d.drop k)
theorem split_step {x : Fld} {f : List Fld} {d : Bs} {r : List Bs × Bs} (h : splitS (x :: f) d = some r) : 0 ≤ takeS x d ∧ ∃ r', splitS f (d.drop (takeS x d).toNat) = some r' ∧ r.2 = r'.2 := by
  simp only [splitS] at h
  split at h
  · cases h
  · rename_i hn
    refine ⟨by omega, ?_⟩
    cases hs : splitS f (d.drop (takeS x d).toNat) with
    | none => rw [hs] at h; cases h
    | some r' => rw [hs] at h; cases h; exact ⟨r', rfl, rfl⟩
theorem host_split {d : Bs} (h : 0 ≤ takeS .host d) : ∃ ls, okL ls ∧ (put ls).length ≤ 255 ∧ d = put ls ++ d.drop (takeS .host d).toNat := by
  simp only [takeS, hostS] at h ⊢
  cases hf : (List.range 256).find? (fun k => (split (d.take k)).isSome) with
  | none => rw [hf] at h; simp at h
  | some k =>
    have h1 := List.find?_some hf
    obtain ⟨ls, hls⟩ := Option.isSome_iff_exists.1 h1
    have hn := split_iff.1 hls
    refine ⟨ls, hn.2.1, by rw [← hn.1]; exact hn.2.2, ?_⟩
    rw [← hn.1]
    exact (List.take_append_drop k d).symm
theorem num_split {k : Nat} {d : Bs} (h : 0 ≤ takeS (.num k) d) : k ≤ d.length ∧ (takeS (.num k) d).toNat = k := by
  simp only [takeS] at h ⊢
  split at h
  · omega
  · rename_i hn
    rw [if_neg hn]
    exact ⟨by omega, by simp⟩
theorem parts_split {t : Int} {d : Bs} {f : List Fld} (h : checkS t d = 0) (hf : formS t = some f) : ∃ p, splitS f d = some (p, []) := by
  unfold checkS at h
  split at h
  · omega
  split at h
  · omega
  split at h
  · omega
  rename_i hp
  unfold partsS at hp
  rw [hf] at hp
  simp only at hp
  cases hs : splitS f d with
  | none => rw [hs] at hp; exact absurd rfl hp
  | some r =>
    obtain ⟨p, e⟩ := r
    cases e with
    | nil => exact ⟨p, rfl⟩
    | cons c e => rw [hs] at hp; exact absurd rfl hp
def fieldB (c : UInt8) : Option Nat := if c = 110 then none else some (2 * (c.toNat - 48))
def fieldsW (t : Int) : List (Option Nat) := (shortB t).data.toList.map fieldB
theorem one_host {d : Bs} {p : List Bs} (h : splitS [.host] d = some (p, [])) : Fits [none] d := by
  obtain ⟨h0, r', h1, h2⟩ := split_step h
  obtain ⟨ls, g1, g2, g3⟩ := host_split h0
  exact ⟨ls, _, g1, g2, g3, trivial⟩
theorem fits_w {t : Int} {d : Bs} (h : checkS t d = 0) : Fits (fieldsW t) d := by
  by_cases h2 : t = 2 ∨ t = 5 ∨ t = 12
  · have e : fieldsW t = [none] := by simp only [fieldsW, shortB, if_pos h2]; rfl
    rw [e]
    have hf : formS t = some [.host] := by rcases h2 with rfl | rfl | rfl <;> rfl
    obtain ⟨p, hp⟩ := parts_split h hf
    exact one_host hp
  by_cases h15 : t = 15
  · subst h15
    have e : fieldsW 15 = [some 2, none] := rfl
    rw [e]
    obtain ⟨p, hp⟩ := parts_split h (show formS 15 = some [.num 2, .host] from rfl)
    obtain ⟨h0, r', h1, h2'⟩ := split_step hp
    obtain ⟨g1, g2⟩ := num_split h0
    rw [g2] at h1
    obtain ⟨p', e'⟩ := r'
    simp only at h2'
    subst h2'
    exact ⟨g1, one_host h1⟩
  by_cases h6 : t = 6
  · subst h6
    have e : fieldsW 6 = [none, none, some 10, some 10] := rfl
    rw [e]
    obtain ⟨p, hp⟩ := parts_split h (show formS 6 = some [.host, .host, .num 4, .num 4, .num 4, .num 4, .num 4] from rfl)
    obtain ⟨a0, r1, a1, _⟩ := split_step hp
    obtain ⟨ls, g1, g2, g3⟩ := host_split a0
    obtain ⟨b0, r2, b1, _⟩ := split_step a1
    obtain ⟨ms, k1, k2, k3⟩ := host_split b0
    refine ⟨ls, _, g1, g2, g3, ms, _, k1, k2, k3, ?_⟩
    obtain ⟨c0, r3, c1, _⟩ := split_step b1
    obtain ⟨n1, m1⟩ := num_split c0
    rw [m1] at c1
    obtain ⟨d0, r4, d1, _⟩ := split_step c1
    obtain ⟨n2, m2⟩ := num_split d0
    rw [m2] at d1
    obtain ⟨e0, r5, e1, _⟩ := split_step d1
    obtain ⟨n3, m3⟩ := num_split e0
    rw [m3] at e1
    obtain ⟨f0, r6, f1, _⟩ := split_step e1
    obtain ⟨n4, m4⟩ := num_split f0
    rw [m4] at f1
    obtain ⟨i0, r7, i1, _⟩ := split_step f1
    obtain ⟨n5, m5⟩ := num_split i0
    simp only [List.length_drop] at n1 n2 n3 n4 n5
    refine ⟨by simp only [List.length_drop]; omega, by simp only [List.length_drop]; omega, trivial⟩
  · have e : fieldsW t = [] := by
      simp only [fieldsW, shortB, if_neg h2, if_neg h15, if_neg h6]; rfl
    rw [e]; trivial
/-- two tens are twenty -/
theorem data_w {t : Int} (d : Bs) (p : Pp) : dataP (fieldsW t) d p = dataP (shortL t) d p := by
  by_cases h2 : t = 2 ∨ t = 5 ∨ t = 12
  · have e : fieldsW t = [none] := by simp only [fieldsW, shortB, if_pos h2]; rfl
    rw [e]; simp only [shortL, if_pos h2]
  by_cases h15 : t = 15
  · subst h15; rfl
  by_cases h6 : t = 6
  · subst h6
    have e : fieldsW 6 = [none, none, some 10, some 10] := rfl
    have e2 : shortL 6 = [none, none, some 20] := rfl
    rw [e, e2]
    simp only [dataP]
    have h : ∀ (x : Bs) (o : Bs), (o ++ x.take 10) ++ (x.drop 10).take 10 = o ++ x.take 20 := by
      intro x o
      rw [List.append_assoc, ← List.take_add]
    have hd : ∀ x : Bs, (x.drop 10).drop 10 = x.drop 20 := fun x => by rw [List.drop_drop]
    rw [h, hd]
  · have e : fieldsW t = [] := by
      simp only [fieldsW, shortB, if_neg h2, if_neg h15, if_neg h6]; rfl
    have e2 : shortL t = [] := by simp only [shortL, if_neg h2, if_neg h15, if_neg h6]
    rw [e, e2]
end Go.Proofs.YtnamkladeaohoaaGreat.fits
