/- (*wire.packer).data: walk. slices.Clone of bytes: walk. wire.signs: walk. wire.Check: walk. -/
import Derived.Test.YtabhiangjomaeaaU12
import Derived.Test.YtabhiangjomaeaaU10
import Derived.Deep.QuietTactic
import Derived.BigQuiet
import Derived.BigRegion
import Derived.Lib.OthersKept
namespace Go.Proofs.Ytabhiangjomaeaa.pdata
open Go.RowKit Go.Proofs.Ytabhiangjomaeaa.kit Go.Proofs.Ytabhiangjomaeaa.takes Go.Proofs.Ytabhiangjomaeaa.nspec Go.Proofs.Ytabhiangjomaeaa.bits Go.Proofs.Ytabhiangjomaeaa.bld Go.Proofs.Ytabhiangjomaeaa.coded Go.Proofs.Ytabhiangjomaeaa.fld Go.Proofs.Ytabhiangjomaeaa.wireP Go.Proofs.Ytabhiangjomaeaa.packP Go.Proofs.Ytabhiangjomaeaa.buf Go.Proofs.Ytabhiangjomaeaa.pname Go.Proofs.Ytabhiangjomaeaa.psmall Go.Proofs.Ytabhiangjomaeaa.fits
set_option linter.unusedVariables false

theorem notU8_record {c : Array Value} {f : Nat × Nat} : NotU8 (.cells c 52 f) := by
  intro cur f' e; injection e with _ e2 _; exact absurd e2 (by decide)
theorem notU8_iter (s : ByteArray) (k : Nat) : NotU8 (.stringIter s k) := by intro cur f e; cases e
theorem own_set {w : World} {base : Nat} {e : TypeId} {g n cap size : Nat} {xs : List Value} (h : w.ownsRow base e size (.slice (some ⟨g, 0, none⟩) n cap) n xs) (k : Nat) (hk : k < n * size) (u : Value) :
    (w.setCell ⟨g, k, none⟩ u).ownsRow base e size (.slice (some ⟨g, 0, none⟩) n cap) n (xs.set k u) := by
  obtain ⟨h1, h2⟩ := h
  rcases h2 with ⟨h2, _⟩ | ⟨g', cap', cur, hv, hg, hh, r1, r2, r3, r4⟩
  · cases h2
  · cases hv
    refine ⟨by rw [List.length_set]; exact h1, .inr ⟨g, cap, _, rfl, hg, heap_setCell_same w g k cur e u hh, r1, r2, by simpa using r3, ?_⟩⟩
    rw [← r4, Array.toList_setIfInBounds, List.take_set]
theorem own_cells {w : World} {base : Nat} {e : TypeId} {v : Value} {n size : Nat} {xs : List Value} (h : w.ownsRow base e size v n xs) (hn : 1 ≤ n) : ∃ g cap, v = .slice (some ⟨g, 0, none⟩) n cap ∧ base ≤ g ∧ g < w.heap.size ∧ (∀ j, j < n * size → ∃ u, w.cell? ⟨g, j, none⟩ = some u) ∧ (∀ j, w.frozen? ⟨g, j, none⟩ = false) ∧ ∃ cur, w.heap[g]? = some (.cells cur e (0, 0)) := by
  rcases h.2 with ⟨_, h0⟩ | ⟨g, cap, cur, rfl, hb, hg, h1, h2, _, _⟩
  · omega
  · refine ⟨g, cap, rfl, hb, (Array.getElem?_eq_some_iff.1 hg).1, fun j hj => ?_, fun j => by simp [World.frozen?, hg], cur, hg⟩
    have hl : j < xs.length := by rw [h.1]; exact hj
    refine ⟨xs[j], ?_⟩
    have := h.cells (g := g) rfl j xs[j] (List.getElem?_eq_getElem hl)
    rw [addr_add] at this; exact this
/-- one byte of the row written over -/
theorem _root_.Go.Proofs.Ytabhiangjomaeaa.buf.Buf.put1 {w : World} {b0 B g cap : Nat} {c1 : Value} {out : Bs} (h : Buf w b0 B (.slice (some ⟨g, 0, none⟩) out.length cap) c1 out) (k : Nat) (hk : k < out.length) (c : UInt8) :
    Buf (w.setCell ⟨g, k, none⟩ (.int .u8 (c.toNat : Int))) b0 B (.slice (some ⟨g, 0, none⟩) (out.set k c).length cap) c1 (out.set k c) := by
  have hne : B ≠ g := by
    intro e
    subst e
    exact row_u8 h.own h.blk (notU8_packer _ _) rfl
  have ho := own_set h.own k (by omega) (.int .u8 (c.toNat : Int))
  refine ⟨?_, ?_, h.low⟩
  · rw [Below.heap_setCell _ _ _ _ (by show B ≠ g; exact hne), List.length_set]; exact h.blk
  · rw [List.length_set]
    have e : (Lib.byteCells out).set k (.int .u8 (c.toNat : Int)) = Lib.byteCells (out.set k c) := by
      unfold Lib.byteCells; rw [List.map_set]
    rw [← e]; exact ho
theorem _root_.Go.Proofs.Ytabhiangjomaeaa.buf.Eff.set {b0 : Nat} {T : Nat → Prop} {w w1 : World} (h : Eff b0 T w w1) {g k : Nat} {cur : Array Value} {v : Value} (hg : w1.heap[g]? = some (.cells cur 5 (0, 0))) (hb : b0 ≤ g) : Eff b0 T w (w1.setCell ⟨g, k, none⟩ v) := by
  refine ⟨h.os, h.tape, h.output, by simpa using h.size, fun j hj => ?_, fun j o hj hn hT => ?_⟩
  · rw [Below.heap_setCell _ _ _ _ (by show j ≠ g; omega)]; exact h.low j hj
  · have h1 := h.kept j o hj hn hT
    rw [Below.heap_setCell _ _ _ _ (by show j ≠ g; intro e; subst e; rw [hg] at h1; cases h1; exact hn _ _ rfl)]
    exact h1
/-- the iterator moved on -/
theorem _root_.Go.Proofs.Ytabhiangjomaeaa.pname.Paper.iterAt {w : World} {b0 B M k : Nat} {v : Value} {p : Pp} {s : ByteArray} {pos : Nat} (h : Paper w b0 B M v p) (hk : w.heap[k]? = some (.stringIter s pos)) (pos' : Nat) : Paper (w.iterAt k s pos') b0 B M v p := by
  have hB : B ≠ k := by intro e; subst e; rw [h.buf.blk] at hk; cases hk
  obtain ⟨D, ⟨es, clock, hM, hrest⟩, hT⟩ := h.map
  have hMk : M ≠ k := by intro e; subst e; rw [hM] at hk; cases hk
  refine ⟨⟨(Lib.iterAt_other w k B s pos' hB).trans h.buf.blk, ?_, h.buf.low⟩, ⟨D, ⟨es, clock, (Lib.iterAt_other w k M s pos' hMk).trans hM, hrest⟩, hT⟩, h.near, h.low, h.ne, h.few⟩
  refine ⟨h.buf.own.1, ?_⟩
  rcases h.buf.own.2 with h1 | ⟨g, cap, cur, h1, h2, h3, h4⟩
  · exact .inl h1
  · refine .inr ⟨g, cap, cur, h1, h2, (Lib.iterAt_other w k g s pos' ?_).trans h3, h4⟩
    intro e; subst e; rw [h3] at hk; cases hk
theorem _root_.Go.Proofs.Ytabhiangjomaeaa.buf.Eff.iterAt {b0 k : Nat} {T : Nat → Prop} {w w1 : World} {s : ByteArray} (h : Eff b0 T w w1) (hk : w.heap.size ≤ k) (hb : b0 ≤ w.heap.size) (pos' : Nat) : Eff b0 T w (w1.iterAt k s pos') := by
  refine ⟨h.os, h.tape, h.output, by rw [Lib.iterAt_size]; exact h.size, fun j hj => (Lib.iterAt_other _ _ _ _ _ (by omega)).trans (h.low j hj), fun j o hj hn hT => (Lib.iterAt_other _ _ _ _ _ ?_).trans (h.kept j o hj hn hT)⟩
  have := (Array.getElem?_eq_some_iff.1 hj).1
  omega
theorem _root_.Go.Proofs.Ytabhiangjomaeaa.pname.Paper.alloc {w : World} {b0 B M : Nat} {v : Value} {p : Pp} (h : Paper w b0 B M v p) (o : Obj) : Paper (w.alloc o) b0 B M v p := by
  obtain ⟨D, ⟨es, clock, hM, hrest⟩, hT⟩ := h.map
  exact ⟨h.buf.alloc o, ⟨D, ⟨es, clock, (Below.heap_alloc _ _ _ (Array.getElem?_eq_some_iff.1 hM).1).trans hM, hrest⟩, hT⟩, h.near, h.low, h.ne, h.few⟩
theorem _root_.Go.Proofs.Ytabhiangjomaeaa.buf.Eff.alloc {b0 : Nat} {T : Nat → Prop} {w w1 : World} (h : Eff b0 T w w1) (o : Obj) (hb : b0 ≤ w1.heap.size) : Eff b0 T w (w1.alloc o) := h.trans (Eff.of_below ((Below.refl _ _).alloc (Nat.le_refl _) _) hb)

theorem paper_drewN {w : World} {b0 B M : Nat} {v : Value} {p : Pp} (h : Paper w b0 B M v p) (n : Nat) : Paper (w.drewN n) b0 B M v p := by
  obtain ⟨D, ⟨es, clock, hM, hrest⟩, hT⟩ := h.map
  exact ⟨⟨h.buf.blk, h.buf.own, h.buf.low⟩, ⟨D, ⟨es, clock, hM, hrest⟩, hT⟩, h.near, h.low, h.ne, h.few⟩
theorem eff_drewN (b0 : Nat) (T : Nat → Prop) (w : World) (n : Nat) : Eff b0 T w (w.drewN n) := ⟨rfl, rfl, rfl, Nat.le_refl _, fun _ _ => rfl, fun _ _ h _ _ => h⟩
theorem dataP_len : ∀ (fs : List (Option Nat)) (d : Bs) (p : Pp), p.out.length ≤ (dataP fs d p).out.length
  | [], d, p => by simp [dataP]
  | none :: fs, d, p => by
    simp only [dataP]
    exact Nat.le_trans (nameF_len _ _ _).2 (dataP_len fs _ _)
  | some k :: fs, d, p => by
    simp only [dataP]
    exact Nat.le_trans (by simp) (dataP_len fs _ _)
theorem nameF_few : ∀ (f : Nat) (ls : List Bs) (p : Pp), okL ls → p.N.length ≤ p.out.length → (nameF f (put ls) p).N.length ≤ (nameF f (put ls) p).out.length
  | 0, ls, p, _, h => h
  | f + 1, [], p, _, h => by simp only [put, nameF]; simp; omega
  | f + 1, x :: r, p, ho, h => by
    have hx := (okL_cons.1 ho).1
    have hcn : (UInt8.ofNat x.length).toNat = x.length := UInt8.toNat_ofNat_of_lt' (by show x.length < 256; omega)
    have hc0 : UInt8.ofNat x.length ≠ 0 := by intro e; rw [e] at hcn; simp at hcn; omega
    simp only [put, nameF, if_neg hc0]
    cases findN p.N (UInt8.ofNat x.length :: (x ++ put r)) with
    | some k => simp only [be2, List.length_append, List.length_cons, List.length_nil]; omega
    | none =>
      have hd := drop_put x r hx.2
      simp only [put] at hd
      rw [hd]
      refine nameF_few f r _ (okL_cons.1 ho).2 ?_
      simp only [List.length_append, List.length_take, List.length_cons, hcn]
      split <;> ((try simp only [List.length_append, List.length_cons, List.length_nil]); omega)
theorem nameP_few (ls : List Bs) (p : Pp) (ho : okL ls) (h : p.N.length ≤ p.out.length) : (nameP (put ls) p).N.length ≤ (nameP (put ls) p).out.length := nameF_few _ ls p ho h
theorem bmem (S : ByteArray) (k : Nat) (h : k < S.size) : S[k] ∈ S.data.toList := by
  have := drop_cons S k h
  have h2 : S[k] ∈ S.data.toList.drop k := by rw [this]; exact List.mem_cons_self
  exact List.mem_of_mem_drop h2
def okC (c : UInt8) : Prop := c = 110 ∨ (49 ≤ c.toNat ∧ c.toNat ≤ 57)
theorem short_ok (t : Int) : ∀ c ∈ (shortB t).data.toList, okC c := by
  intro c hc
  unfold shortB at hc
  split at hc
  · simp at hc; exact .inl hc
  split at hc
  · simp at hc; rcases hc with rfl | rfl
    · exact .inr ⟨by decide, by decide⟩
    · exact .inl rfl
  split at hc
  · simp at hc; rcases hc with rfl | rfl
    · exact .inl rfl
    · exact .inr ⟨by decide, by decide⟩
  · simp at hc
theorem short_size (t : Int) : (shortB t).size ≤ 4 := by
  unfold shortB; split; · simp [ByteArray.size]
  split; · simp [ByteArray.size]
  split; · simp [ByteArray.size]
  · simp [ByteArray.size]

set_option maxRecDepth 100000 in
set_option maxHeartbeats 8000000 in
theorem pdata_any (b0 B M : Nat) (v : Value) (p : Pp) (x : Rc) (w : World) (h : Paper w b0 B M v p) (hl : p.out.length ≤ 274877906944) (hfew : p.N.length ≤ p.out.length) (hds : x.d.size ≤ 65535) (hfit : x.d.size ≠ 0 → Fits (fieldsW x.t) x.d.data.toList) :
    Calls Try.prog 47 #[.pointer (some ⟨B, 0, none⟩), .agg #[.string x.o, .int .i64 x.t, .int .i64 x.c, .int .i64 x.l, .string x.d]] w fun e w' => e = .returned (.tuple #[]) ∧
      ∃ v', Paper w' b0 B M v' ⟨patch (dataP (if x.d.size = 0 then [] else fieldsW x.t) x.d.data.toList ⟨p.out ++ [0, 0], p.N⟩).out p.out.length (((dataP (if x.d.size = 0 then [] else fieldsW x.t) x.d.data.toList ⟨p.out ++ [0, 0], p.N⟩).out.length : Int) - p.out.length - 2), (dataP (if x.d.size = 0 then [] else fieldsW x.t) x.d.data.toList ⟨p.out ++ [0, 0], p.N⟩).N⟩ ∧ Eff b0 (Two B M) w w' := by
  obtain ⟨S, hS⟩ : ∃ S : ByteArray, (if x.d.size = 0 then (⟨#[]⟩ : ByteArray) else shortB x.t) = S := ⟨_, rfl⟩
  have hfS : (if x.d.size = 0 then [] else fieldsW x.t) = S.data.toList.map fieldB := by
    rw [← hS]; unfold fieldsW; split <;> rfl
  rw [hfS]
  have HFit : Hid (Fits (S.data.toList.map fieldB) x.d.data.toList) := Lib.hid (by
    rw [← hfS]; split
    · trivial
    · exact hfit (by assumption))
  have HOKS : Hid (∀ c ∈ S.data.toList, okC c) := Lib.hid (by
    rw [← hS]; split
    · intro c hc; simp at hc
    · exact short_ok _)
  have hS4 : S.size ≤ 4 := by
    rw [← hS]; split
    · simp [ByteArray.size]
    · exact short_size _
  obtain ⟨R, hR⟩ : ∃ R, dataP (S.data.toList.map fieldB) x.d.data.toList ⟨p.out ++ [0, 0], p.N⟩ = R := ⟨_, rfl⟩
  have hRlen : p.out.length + 2 ≤ R.out.length := by
    rw [← hR]; exact Nat.le_trans (by simp) (dataP_len _ _ _)
  rw [hR]
  have HR0 := Lib.hid hR
  have HP0 := Lib.hid h
  have HS := Lib.hid hS
  have CS := Lib.hid (fun w => short_any x.t w)
  obtain ⟨va, vc, rfl⟩ := h.open
  have hbel := (Below.refl w.heap.size w).alloc (Nat.le_refl _) (.cells #[.string x.o, .int .i64 x.t, .int .i64 x.c, .int .i64 x.l, .string x.d] 52)
  have hk0 := h.c0
  have hlt := h.buf.lt
  have hb0w : b0 ≤ w.heap.size := by have := h.buf.low; omega
  have CW := Lib.hid (fun w h => u16_any b0 B (.slice va p.out.length vc) (.map (some M)) p.out 0 w h (by omega))
  have HPA := Lib.hid (h.alloc (.cells #[.string x.o, .int .i64 x.t, .int .i64 x.c, .int .i64 x.l, .string x.d] 52))
  have HEA : Hid (Eff b0 (Two B M) w (w.alloc (.cells #[.string x.o, .int .i64 x.t, .int .i64 x.c, .int .i64 x.l, .string x.d] 52))) := Lib.hid (Eff.of_below hbel hb0w)
  obtain ⟨K, hK⟩ : ∃ K, p.out.length = K := ⟨_, rfl⟩
  have HK := Lib.hid hK
  have HFW := Lib.hid hfew
  clear h hR hS hfS hfit hfew
  rw [hK] at CW hk0 hRlen ⊢
  go_enter Try.func47, Try.ntmps47
  go_wp2_with fail
  refine (CW.out _ (by have hq := HPA.out.buf; rw [HK.out] at hq; exact hq)).mono ?_
  rintro e w1 ⟨rfl, v1, hb, he⟩
  have hbx : w1.heap[w.heap.size]? = some (.cells #[.string x.o, .int .i64 x.t, .int .i64 x.c, .int .i64 x.l, .string x.d] 52 (0, 0)) := he.kept _ _ (heap_alloc_new _ _) notU8_record (by omega)
  have k1 : w1.cell? ⟨w.heap.size, 1, none⟩ = some (.int .i64 x.t) := by simp only [World.cell?, hbx]; rfl
  have k4 : w1.cell? ⟨w.heap.size, 4, none⟩ = some (.string x.d) := by simp only [World.cell?, hbx]; rfl
  have HP1 : Hid (Paper w1 b0 B M v1 ⟨p.out ++ [0, 0], p.N⟩) := Lib.hid (HPA.out.wrote hb he (by simp))
  have HE1 := Lib.hid (HEA.out.trans (he.wider (fun k h => (.inl h : Two B M k))))
  have hw1 : w.heap.size < w1.heap.size := (Array.getElem?_eq_some_iff.1 hbx).1
  clear hb he hbx hbel HPA HEA CW
  go_wp2_with fail
  go_quiet ((go_at_call 92; refine Calls.quiet_of_same (CS.out _)))
  have HPq := Lib.hid (paper_drewN HP1.out nq)
  have HEq := Lib.hid (HE1.out.trans (eff_drewN b0 (Two B M) w1 nq))
  go_upto_if 28 with fail
  go_cut [5] (fun s5 wx => s5 = .string S ∧ Hid (Paper wx b0 B M v1 ⟨p.out ++ [0, 0], p.N⟩) ∧ Hid (Eff b0 (Two B M) w wx) ∧ w.heap.size < wx.heap.size)
  case first =>
    by_cases hd0 : x.d.size = 0
    · have hemp : x.d.toList.isEmpty = true := by rw [emp_yes hd0]; rfl
      have hSe : S = ⟨#[]⟩ := by rw [← HS.out, if_pos hd0]
      subst hSe
      simp only [hemp]
      go_wp2_with fail
      go_meet
      exact ⟨rfl, HPq, HEq, hw1⟩
    · have hemp := emp_no (Nat.pos_of_ne_zero hd0)
      have hSe : S = shortB x.t := by rw [← HS.out, if_neg hd0]
      simp only [hemp]
      go_wp2_with fail
      go_meet
      exact ⟨by rw [hSe], HPq, HEq, hw1⟩
  case rest =>
    obtain ⟨rfl, HP2, HE2, hw2⟩ := hcut
    have hwc : b0 ≤ wc.heap.size := by omega
    have HIP := Lib.hid (HP2.out.alloc (.stringIter S 0))
    have HIE := Lib.hid (HE2.out.alloc (.stringIter S 0) hwc)
    have hit0 := World.iter_heap wc S 0
    obtain ⟨Q, hQ⟩ : ∃ Q, wc.heap.size = Q := ⟨_, rfl⟩
    clear k1 k4 HPq HEq
    go_wp2_with fail
    go_loopg [6, 8, 9, 10] (S.size + 1) (fun gas dv _ _ _ wr => ∃ (pos : Nat) (u : ByteArray) (v' : Value) (q : Pp), dv = .string u ∧ u.size ≤ 65535 ∧ wr.heap[Q]? = some (.stringIter S pos) ∧ pos + gas = S.size + 1 ∧ Hid (Fits ((S.data.toList.drop pos).map fieldB) u.data.toList) ∧ Hid (dataP ((S.data.toList.drop pos).map fieldB) u.data.toList q = R) ∧ Hid (q.out.length ≤ K + 2 + 1000 * pos) ∧ Hid (q.N.length ≤ q.out.length) ∧ Hid (Paper wr b0 B M v' q) ∧ Hid (Eff b0 (Two B M) w wr))
    case atStart => exact ⟨0, x.d, v1, ⟨p.out ++ [0, 0], p.N⟩, rfl, hds, by rw [← hQ]; exact hit0, by omega, HFit, HR0, Lib.hid (by simp only [List.length_append, List.length_cons, List.length_nil]; have := HK.out; omega), Lib.hid (by have := HFW.out; simp only [List.length_append]; omega), HIP, HIE⟩
    case round =>
      obtain ⟨pos, u, v', q, rfl, hus, hit, hG, HFI, HRI, HLE, HFE, HPP, HEE⟩ := hrel
      have hlenq : q.out.length ≤ 549755813888 := by have := HLE.out; omega
      by_cases hlt : pos < S.size
      · have hQw : w.heap.size ≤ Q := by omega
        obtain ⟨c, hc⟩ : ∃ c, S[pos]'hlt = c := ⟨_, rfl⟩
        have hok : okC c := HOKS.out c (by rw [← hc]; exact bmem S pos hlt)
        have ha : (S[pos]'hlt).toNat < 128 := by
          rw [hc]; rcases hok with rfl | h
          · decide
          · omega
        have hnx := fun ty => Lib.run_next_ascii_at (P := Try.prog) wr Q S pos ty hit hlt ha
        rw [hc] at hnx
        have HPI := Lib.hid (HPP.out.iterAt hit (pos + 1))
        have HEI := Lib.hid (HEE.out.iterAt hQw hb0w (k := Q) (s := S) (pos + 1))
        have hit2 := Lib.iterAt_heap wr Q S pos (pos + 1) hit
        obtain ⟨W2, hW2⟩ : ∃ W2, wr.iterAt Q S (pos + 1) = W2 := ⟨_, rfl⟩
        rw [hW2] at hnx HPI HEI hit2
        have hdc := drop_cons S pos hlt
        rw [hc] at hdc
        have HF2 := HFI.out
        have HR2 := HRI.out
        rw [hdc, List.map_cons] at HF2 HR2
        have hQB : Q ≠ B := by intro e; have hq := HPP.out.buf.blk; rw [← e, hit] at hq; cases hq
        have hQM : Q ≠ M := by intro e; obtain ⟨D, ⟨es, clock, hM, _⟩, _⟩ := HPP.out.map; rw [← e, hit] at hM; cases hM
        clear hW2 ha hc hdc hit
        by_cases h110 : c = 110
        · have hfb : fieldB c = none := by unfold fieldB; rw [if_pos h110]
          rw [hfb] at HF2 HR2
          obtain ⟨ls, d', g1, g2, g3, g4⟩ := HF2
          have hcn : c.toNat = 110 := by rw [h110]; rfl
          rw [hcn] at hnx
          have hus' : u.size = (put ls).length + d'.length := by rw [← size_len, g3, List.length_append]
          have CN := Lib.hid (fun w => nsize_any u ls d' w g3 g1 (by omega))
          obtain ⟨L, hL⟩ : ∃ L, (put ls).length = L := ⟨_, rfl⟩
          have hex : (u.extract 0 L).data.toList = put ls := by
            rw [Lib.extract_data, g3, ← hL]; simp
          have hdr : (u.extract L u.size).data.toList = d' := by
            rw [Lib.extract_data, List.take_of_length_le (by rw [List.length_drop, size_len]; exact Nat.le_refl _), g3, ← hL, List.drop_left]
          have hdrs : (u.extract L u.size).size = d'.length := by rw [← size_len, hdr]
          have CP := Lib.hid (fun w h => pname_any b0 B M v' q (u.extract 0 L) ls w h (by rw [hex]; exact ⟨rfl, g1, g2⟩) hlenq HFE.out)
          rw [hex] at CP
          rw [hL] at CN hus' g2
          have HR3 : Hid (dataP ((S.data.toList.drop (pos + 1)).map fieldB) d' (nameP (put ls) q) = R) := Lib.hid (by
            rw [← HR2]; simp only [dataP]
            rw [g3, nameSz_put ls d' g1, List.drop_left, List.take_left])
          have HF3 := Lib.hid g4
          have hlen2 := nameF_len ((put ls).length + 1) (put ls) q
          have HL2 : Hid ((nameP (put ls) q).out.length ≤ q.out.length + L + 2 ∧ q.out.length ≤ (nameP (put ls) q).out.length) := Lib.hid (by rw [← hL]; exact hlen2)
          have HDR := Lib.hid hdr; have HDRS := Lib.hid hdrs; have HU := Lib.hid hus'
          have hLu : (L : Int) ≤ (u.size : Int) := by omega
          have hL0 : (0 : Int) ≤ (L : Int) := by omega
          have HN2 : Hid ((nameP (put ls) q).N.length ≤ (nameP (put ls) q).out.length) := Lib.hid (nameP_few _ q g1 HFE.out)
          clear hex hdr hdrs hlen2 g1 g3 g4 hL HR2 HFI HRI hus' hok h110 hcn hfb
          go_wp2_with fail
          refine (CN.out _).mono ?_
          rintro e w2 ⟨rfl, rfl⟩
          go_wp2_with fail
          refine (CP.out _ HPI.out).mono ?_
          rintro e w2 ⟨rfl, v2, hp2, he2⟩
          have HP3 := Lib.hid hp2
          have hit3 := he2.kept Q _ hit2 (notU8_iter _ _) (by rintro (h | h); exact hQB h; exact hQM h)
          have HE3 := Lib.hid (HEI.out.trans he2)
          clear hp2 he2
          go_wp2_with fail
          go_roundg (gk - 1)
          case rel => exact ⟨pos + 1, _, v2, _, rfl, by rw [HDRS.out]; have := HU.out; omega, hit3, by omega, by rw [HDR.out]; exact HF3, by rw [HDR.out]; exact HR3, Lib.hid (by have := HL2.out; have := HLE.out; omega), HN2, HP3, HE3⟩
          case measure => omega
        · have hfb : fieldB c = some (2 * (c.toNat - 48)) := by unfold fieldB; rw [if_neg h110]
          have hcr : 49 ≤ c.toNat ∧ c.toNat ≤ 57 := by rcases hok with h | h; exact absurd h h110; exact h
          rw [hfb] at HF2 HR2
          obtain ⟨cn, hcn⟩ : ∃ cn, c.toNat = cn := ⟨_, rfl⟩
          rw [hcn] at hnx hcr HF2 HR2
          obtain ⟨L, hL⟩ : ∃ L, 2 * (cn - 48) = L := ⟨_, rfl⟩
          rw [hL] at HF2 HR2
          obtain ⟨g1, g2⟩ := HF2
          rw [size_len] at g1
          have hex : (u.extract 0 L).data.toList = u.data.toList.take L := by
            rw [Lib.extract_data]; simp
          have hexs : (u.extract 0 L).size = L := by rw [← size_len, hex, List.length_take, size_len]; omega
          have hdr : (u.extract L u.size).data.toList = u.data.toList.drop L := by
            rw [Lib.extract_data, List.take_of_length_le (by rw [List.length_drop, size_len]; exact Nat.le_refl _)]
          have hdrs : (u.extract L u.size).size = u.size - L := by rw [← size_len, hdr, List.length_drop, size_len]
          have CP := Lib.hid (fun w h => raw_any b0 B v' (.map (some M)) q.out (u.extract 0 L) w h (by omega) (by rw [hexs]; omega))
          rw [hex] at CP
          have HR3 : Hid (dataP ((S.data.toList.drop (pos + 1)).map fieldB) (u.data.toList.drop L) ⟨q.out ++ u.data.toList.take L, q.N⟩ = R) := Lib.hid (by
            rw [← HR2]; rfl)
          have HF3 := Lib.hid g2
          have HDR := Lib.hid hdr; have HDRS := Lib.hid hdrs
          have hLu : (L : Int) ≤ (u.size : Int) := by omega
          have hL0 : (0 : Int) ≤ (L : Int) := by omega
          have hLv : Value.int .i64 (2 * ((cn : Int) - 48)) = Value.int .i64 (L : Int) := by congr 1; omega
          have hcn1 : (49 : Int) ≤ (cn : Int) := by omega
          have hcn2 : (cn : Int) ≤ 57 := by omega
          have hcb : ((cn : Int) != 110) = true := by simp; omega
          have HLL : Hid (L ≤ 18) := Lib.hid (by omega)
          have HTL : Hid ((u.data.toList.take L).length ≤ L) := Lib.hid (by rw [List.length_take]; omega)
          have HG1 := Lib.hid g1
          clear hex hexs hdr hdrs g1 g2 hL HR2 HFI HRI hok h110 hcn hfb hcr
          have HLV := Lib.hid hLv
          clear hLv
          go_wp2_with fail
          rw [HLV.out]
          clear HLV hcn1 hcn2 hcb
          go_still_tail 6, (by kernel_rfl)
          go_wp2_with fail
          refine (CP.out _ HPI.out.drew.buf).mono ?_
          rintro e w3 ⟨rfl, v3, hb3, he3⟩
          have HP3 := Lib.hid ((HPI.out.drew).wrote hb3 he3 (by simp))
          have hit3 := he3.kept Q _ (show W2.drew.heap[Q]? = _ from hit2) (notU8_iter _ _) hQB
          have HE3 := Lib.hid ((HEI.out.trans (Eff.of_drew _ _ _)).trans (he3.wider (fun k h => (.inl h : Two B M k))))
          clear hb3 he3
          go_wp2_with fail
          go_roundg (gk - 1)
          case rel => exact ⟨pos + 1, _, v3, _, rfl, by rw [HDRS.out]; omega, hit3, by omega, by rw [HDR.out]; exact HF3, by rw [HDR.out]; exact HR3, Lib.hid (by have h1 := HTL.out; have h2 := HLE.out; have h3 := HLL.out; simp only [List.length_append]; omega), Lib.hid (by have h1 := HFE.out; simp only [List.length_append]; omega), HP3, HE3⟩
          case measure => omega
      · have hnx : ∀ ty, (Instr.next (.pointer (some ⟨Q, 0, none⟩)) true ty).run Try.prog wr = _ := fun ty => Lib.run_next_end_at wr Q S pos ty hit hlt
        have CR := Lib.hid (raw_any b0 B v' (.map (some M)) q.out u wr HPP.out.buf (by omega) (by omega))
        have hRq : R = ⟨q.out ++ u.data.toList, q.N⟩ := by
          rw [← HRI.out, List.drop_of_length_le (by rw [size_len]; omega)]; rfl
        subst hRq
        go_wp2_with fail
        refine CR.out.mono ?_
        rintro e w2 ⟨rfl, v2, hb2, he2⟩
        have HPR := Lib.hid (HPP.out.wrote hb2 he2 (by simp))
        have HER := Lib.hid (HEE.out.trans (he2.wider (fun k h => (.inl h : Two B M k))))
        obtain ⟨out, hout⟩ : ∃ out, q.out ++ u.data.toList = out := ⟨_, rfl⟩
        rw [hout] at HPR
        simp only [hout] at hRlen ⊢
        obtain ⟨g, cap, rfl, hgb, hgl, hgc, hgf, cur, hgh⟩ := own_cells HPR.out.buf.own (by show 1 ≤ out.length; omega)
        have hkk0 := HPR.out.buf.c0
        obtain ⟨T, hT⟩ : ∃ T, out.length = T := ⟨_, rfl⟩
        have HT := Lib.hid hT
        simp only [hT] at hkk0 hRlen hgc ⊢
        obtain ⟨n, hn⟩ : ∃ n : Nat, T - K - 2 = n := ⟨_, rfl⟩
        have HN : Hid ((T : Int) - K - 2 = (n : Int)) := Lib.hid (by omega)
        have hnv : Value.int .i64 ((T : Int) - K - 2) = Value.int .i64 (n : Int) := by rw [HN.out]
        have hKT : (K : Int) + 2 ≤ (T : Int) := by omega
        have hTs : T ≤ 549755813888 + 65535 := by rw [← hT, ← hout, List.length_append, size_len]; omega
        clear hb2 he2 hT hn
        go_upto_region 18 with (fail)
        obtain ⟨K1, hK1⟩ : ∃ K1, K + 1 = K1 := ⟨_, rfl⟩
        have hkv : Value.int .i64 ((K : Int) + 1) = Value.int .i64 (K1 : Int) := by congr 1; omega
        have HK1 := Lib.hid hK1
        have hKl : (K : Int) < (T : Int) := by omega
        have hK1l : (K1 : Int) < (T : Int) := by omega
        obtain ⟨u0, hu0⟩ := hgc K (by omega)
        obtain ⟨u1, hu1⟩ := hgc K1 (by omega)
        have hf0 := hgf K
        have hf1 := hgf K1
        have hgB : B ≠ g := by
          intro e
          have h1 := hgc 0 (by omega)
          subst e
          exact row_u8 HPR.out.buf.own HPR.out.buf.blk (notU8_packer _ _) rfl
        obtain ⟨c1, hc1⟩ : ∃ c, byte ((n : Int) / 256) = c := ⟨_, rfl⟩
        obtain ⟨c2, hc2⟩ : ∃ c, byte (n : Int) = c := ⟨_, rfl⟩
        have hv1 : Value.int .u8 (IntKind.u8.wrap ((n : Int) / 256)) = Value.int .u8 (c1.toNat : Int) := by rw [byte_wrap, hc1]
        have hv2 : Value.int .u8 (IntKind.u8.wrap (n : Int)) = Value.int .u8 (c2.toNat : Int) := by rw [byte_wrap, hc2]
        have HC1 := Lib.hid hc1; have HC2 := Lib.hid hc2
        have hne : K ≠ K1 := by omega
        have hu1' : (w2.setCell ⟨g, K, none⟩ (.int .u8 (c1.toNat : Int))).cell? ⟨g, K1, none⟩ = some u1 := by
          rw [World.cell?_setCell_other _ _ _ _ (by intro e; injection e with _ e _; exact hne e)]; exact hu1
        have HGF := Lib.hid hgf
        have HNE := Lib.hid hne
        have HKL := Lib.hid hKl
        have HK1L := Lib.hid hK1l
        clear hc1 hc2 hK1 hgc hgf hnx hne
        go_region
        clear hk0 hkk0 hu0 hu1 hu1' hf0 hf1
        have HB1 : Buf (w2.setCell ⟨g, K, none⟩ (.int .u8 (c1.toNat : Int))) b0 B (.slice (some ⟨g, 0, none⟩) (out.set K c1).length cap) (.map (some M)) (out.set K c1) := HPR.out.buf.put1 K (by show K < out.length; have := HT.out; have := HKL.out; omega) c1
        have HB2 := HB1.put1 K1 (by rw [List.length_set]; have := HT.out; have := HK1L.out; omega) c2
        have HKK := HK1.out
        subst HKK
        have hE1 := (Eff.refl b0 (fun k => k = B) w2).set hgh hgb (k := K) (v := .int .u8 (c1.toNat : Int))
        have hE2 := hE1.set (heap_setCell_same w2 g K cur 5 (.int .u8 (c1.toNat : Int)) hgh) hgb (k := K + 1) (v := .int .u8 (c2.toNat : Int))
        have hpat : (out.set K c1).set (K + 1) c2 = patch (q.out ++ u.data.toList) K (((q.out ++ u.data.toList).length : Int) - K - 2) := by
          rw [hout, HT.out, HN.out]; unfold patch; rw [HC1.out, HC2.out]
        have HF := Paper.wrote HPR.out HB2 hE2 (by show out.length ≤ _; simp)
        rw [hpat] at HF
        go_end0
        exact ⟨rfl, _, HF.drew, (HER.out.trans (hE2.wider (fun k h => (.inl h : Two B M k)))).trans (Eff.of_drew _ _ _)⟩
end Go.Proofs.Ytabhiangjomaeaa.pdata
namespace Go.Proofs.Ytabhiangjomaeaa.cloneB
open Go.RowKit Go.Proofs.Ytabhiangjomaeaa.kit Go.Proofs.Ytabhiangjomaeaa.nspec Go.Proofs.Ytabhiangjomaeaa.bits Go.Proofs.Ytabhiangjomaeaa.bld Go.Proofs.Ytabhiangjomaeaa.coded
set_option linter.unusedVariables false

set_option maxRecDepth 100000 in
set_option maxHeartbeats 2000000 in
theorem clone_bytes (base : Nat) (v : Value) (out : Bs) (w : World) (h : w.ownsRow base 5 1 v out.length (Lib.byteCells out)) (hpos : 1 ≤ out.length) (hbig : out.length ≤ 1099511627776) :
    Calls Try.prog 48 #[v] w fun e w' => ∃ v', e = .returned v' ∧ w'.ownsRow w.heap.size 5 1 v' out.length (Lib.byteCells out) ∧ Below w.heap.size w w' := by
  obtain ⟨i0, hi, hz0, hz1, hz2⟩ := info_parts infoByte
  obtain ⟨g, cap, rfl, hb, hg, _, _, cur, hh⟩ := pdata.own_cells h hpos
  have hcell : Hid (∀ j u, (Lib.byteCells out)[j]? = some u → w.cell? ⟨g, j, none⟩ = some u) := Lib.hid (fun j u hj => by
    have := h.cells (g := g) rfl j u hj
    rw [addr_add] at this; exact this)
  have hbl : (Lib.byteCells out).length = out.length := by simp [Lib.byteCells]
  have HBL := Lib.hid hbl
  have HCU : Hid (∀ u ∈ Lib.byteCells out, ∃ c : UInt8, u = .int .u8 (c.toNat : Int)) := Lib.hid (fun u hu => by
    simp only [Lib.byteCells, List.mem_map] at hu
    obtain ⟨c, _, rfl⟩ := hu; exact ⟨c, rfl⟩)
  obtain ⟨n, hn⟩ : ∃ n, out.length = n := ⟨_, rfl⟩
  rw [hn] at hpos hbig hbl ⊢
  have HN := Lib.hid hn
  have q22 : ∀ (w : World) (a : Option Addr) (n c n' c' : Nat), (binOp .eql 39 (.slice a n c) (.slice none n' c')).run Try.prog w = .ok (.bool a.isNone) w := fun w a n c n' c' => Lib.run_eql_slice_nil w _ _ a n c n' c' Try.underlying39
  clear h hh hbl hn
  go_enter Try.func48, Try.ntmps48
  go_wp2_with (at_builtin; refine wpList_append_own _ rfl _ _ 39 rfl w.heap.size 5 i0 (.int .u8 0) 1 1 Try.underlying39 hi hz0 hz1 hz2 rfl (by decide) _ _ _ rfl (World.ownsRow_made w #[] 0 (Nat.le_refl _) (Nat.zero_le _) rfl) ⟨g, 0, none⟩ n cap (Lib.byteCells out) rfl ?d1 ?d2 ?d3 ?d4 ?d5 ?d6 ?_)
  case d1 => rw [HBL.out, HN.out]; simp
  case d2 =>
    intro j u hj
    rw [addr_add]
    exact Lib.cell?_alloc_some _ (hcell.out j u hj)
  case d3 => intro u hu; obtain ⟨c, rfl⟩ := HCU.out u hu; rfl
  case d4 => unfold maxLen; omega
  case d5 => omega
  case d6 => simp
  intro v' w1 hown hgrow hnil
  go_wp2_with fail
  go_ret
  refine ⟨v', rfl, by simpa using hown, ?_⟩
  exact ((Below.refl _ w).alloc (Nat.le_refl _) _).grown hgrow (by simp) (by intro k hk; simp [Value.ownBlock] at hk; omega)
end Go.Proofs.Ytabhiangjomaeaa.cloneB
namespace Go.Proofs.Ytabhiangjomaeaa.signs
open Go.RowKit Go.Proofs.Ytabhiangjomaeaa.kit Go.Proofs.Ytabhiangjomaeaa.timed Go.Proofs.Ytabhiangjomaeaa.nspec Go.Proofs.Ytabhiangjomaeaa.fld Go.Proofs.Ytabhiangjomaeaa.wireP Go.Proofs.Ytabhiangjomaeaa.wireM Go.Proofs.Ytabhiangjomaeaa.packP
set_option linter.unusedVariables false

theorem or_bit (a i : Nat) (h : a / 2 ^ i % 2 = 0) : a ||| 2 ^ i = a + 2 ^ i := by
  have e : a = 2 ^ (i + 1) * (a / 2 ^ (i + 1)) + a % 2 ^ i := by
    have h1 := Nat.div_add_mod a (2 ^ i)
    have h2 : a / 2 ^ i = 2 * (a / 2 ^ (i + 1)) := by
      rw [Nat.pow_succ, ← Nat.div_div_eq_div_mul]; omega
    rw [h2] at h1
    have e2 : 2 ^ i * (2 * (a / 2 ^ (i + 1))) = 2 ^ (i + 1) * (a / 2 ^ (i + 1)) := by rw [Nat.pow_succ, Nat.mul_assoc]
    omega
  have hl : a % 2 ^ i < 2 ^ i := Nat.mod_lt _ (Nat.two_pow_pos i)
  have hp : 2 ^ (i + 1) = 2 ^ i + 2 ^ i := by rw [Nat.pow_succ]; omega
  obtain ⟨q, hq⟩ : ∃ q, a / 2 ^ (i + 1) = q := ⟨_, rfl⟩
  obtain ⟨l, hl2⟩ : ∃ l, a % 2 ^ i = l := ⟨_, rfl⟩
  rw [hq, hl2] at e
  rw [hl2] at hl
  have h3 : 2 ^ (i + 1) * q + l = 2 ^ (i + 1) * q ||| l := Nat.two_pow_add_eq_or_of_lt (by omega) q
  have h4 : 2 ^ i * 1 + l = 2 ^ i * 1 ||| l := Nat.two_pow_add_eq_or_of_lt hl 1
  have h5 : 2 ^ (i + 1) * q + (2 ^ i + l) = 2 ^ (i + 1) * q ||| (2 ^ i + l) := Nat.two_pow_add_eq_or_of_lt (by omega) q
  rw [Nat.mul_one] at h4
  rw [e, h3, Nat.or_assoc, Nat.or_comm l, ← h4, ← h5, ← h3]; omega

theorem i64_or_nat (a b : Nat) (ha : a < 4611686018427387904) (hb : b < 4611686018427387904) : bits .or .i64 (a : Int) (b : Int) = ((a ||| b : Nat) : Int) := by
  have hx : a ||| b < 2 ^ 62 := Nat.or_lt_two_pow (by omega) (by omega)
  have h1 : (BitVec.ofInt 64 (a : Int)).toNat = a := by
    rw [BitVec.ofInt_natCast, BitVec.toNat_ofNat]; exact Nat.mod_eq_of_lt (by omega)
  have h2 : (BitVec.ofInt 64 (b : Int)).toNat = b := by
    rw [BitVec.ofInt_natCast, BitVec.toNat_ofNat]; exact Nat.mod_eq_of_lt (by omega)
  show IntKind.i64.wrap ((BitVec.ofInt 64 (a : Int) ||| BitVec.ofInt 64 (b : Int)).toNat : Int) = _
  rw [BitVec.toNat_or, h1, h2, IntKind.wrap_i64]
  omega
set_option maxRecDepth 100000 in
set_option maxHeartbeats 2000000 in
theorem set_any (g V b : Nat) (on : Bool) (w : World) (hc : w.cell? ⟨g, 0, none⟩ = some (.int .i64 (V : Int))) (hz : w.frozen? ⟨g, 0, none⟩ = false) (hg : g < w.heap.size) (hV : V < 1099511627776) (hb : b ≤ 15) (hbit : V / 2 ^ b % 2 = 0) :
    Calls Try.prog 89 #[.int .i64 (b : Int), .bool on, .pointer (some ⟨g, 0, none⟩)] w fun e w' => e = .returned (.tuple #[]) ∧ w'.cell? ⟨g, 0, none⟩ = some (.int .i64 ((if on then V + 2 ^ b else V : Nat) : Int)) ∧ w'.frozen? ⟨g, 0, none⟩ = false ∧ w.grownBy w' (some g) := by
  cases on with
  | false =>
    go_enter Try.func89, Try.ntmps89
    go_wp2_with fail
    go_end0
    exact ⟨rfl, hc, hz, rfl, rfl, rfl, Nat.le_refl _, fun _ _ _ => rfl⟩
  | true =>
    have hbi : (0 : Int) ≤ (b : Int) := by omega
    have hbl : (b : Int) < 64 := by omega
    have hp : 2 ^ b ≤ 32768 := Nat.pow_le_pow_right (n := 2) (by omega) hb
    have he : bits .or .i64 (V : Int) (wrap64 (2 ^ b)) = ((V + 2 ^ b : Nat) : Int) := by
      have h1 : ((2 : Int) ^ b) = ((2 ^ b : Nat) : Int) := by simp
      have h2 : wrap64 ((2 ^ b : Nat) : Int) = ((2 ^ b : Nat) : Int) := by
        clear hbit h1
        generalize 2 ^ b = Q at hp ⊢
        exact IntWalk.wrap64_in _ (by omega)
      rw [h1, h2, i64_or_nat V (2 ^ b) (by omega) (by omega), or_bit V b hbit]
    have HE := Lib.hid he
    clear he
    go_enter Try.func89, Try.ntmps89
    go_wp2_with fail
    go_region
    rw [HE.out]
    go_end0
    refine ⟨rfl, ?_, by simpa using hz, rfl, rfl, rfl, by simp, fun k hk hne => ?_⟩
    · exact World.cell?_setCell_same' _ _ _ (by rw [hc]; rfl)
    · exact Below.heap_setCell _ _ _ _ (by intro e; exact hne (by rw [e]))

theorem _root_.Go.Proofs.Ytabhiangjomaeaa.wireM.BoxM.grown {w w1 : World} {B g : Nat} {p : Pl} {m : Mg} (h : BoxM w B p m) (hg : w.grownBy w1 (some g)) (hne : B ≠ g) : BoxM w1 B p m := by
  have hb := hg.block B h.lt (by intro e; cases e; exact hne rfl)
  have hc : ∀ j, w1.cell? ⟨B, j, none⟩ = w.cell? ⟨B, j, none⟩ := fun j => by simp only [World.cell?, hb]
  exact ⟨Nat.lt_of_lt_of_le h.lt hg.size, (hc 0).trans h.c0, (hc 1).trans h.c1, (hc 2).trans h.c2, (hc 3).trans h.c3, (hc 4).trans h.c4, (hc 5).trans h.c5, (hc 6).trans h.c6, (hc 7).trans h.c7, (hc 8).trans h.c8, (hc 9).trans h.c9, (hc 10).trans h.c10, (hc 11).trans h.c11, (hc 12).trans h.c12, (hc 13).trans h.c13⟩
def bn (b : Bool) (v : Nat) : Nat := if b then v else 0
theorem bn_or (b : Bool) (v : Nat) : bn b v = 0 ∨ bn b v = v := by cases b <;> simp [bn]
theorem bn_if (b : Bool) (V v : Nat) : (if b then V + v else V) = V + bn b v := by cases b <;> simp [bn]
theorem bit_bn (b : Bool) (v : Nat) : bit b v = ((bn b v : Nat) : Int) := by cases b <;> simp [bit, bn]
theorem or11 {x y : Int} (hx₀ : 0 ≤ x) (hx : x % 2048 = 0) (hx₁ : x < 2147483648) (h₀ : 0 ≤ y) (h₁ : y < 2048) : bits .or .i64 x y = x + y :=
  bits_join .i64 31 (by decide) to32.wraps31 11 x y hx₀ hx hx₁ h₀ h₁ (by omega)

set_option maxRecDepth 100000 in
set_option maxHeartbeats 4000000 in
theorem signs_any (p : Pl) (m : Mg) (w : World) (ho0 : 0 ≤ m.op) (ho1 : m.op ≤ 15) (hr0 : 0 ≤ m.rc) (hr1 : m.rc ≤ 15) :
    Calls Try.prog 44 #[.agg #[.int .i64 m.id, .bool m.rs, .int .i64 m.op, .bool m.aa, .bool m.tc, .bool m.rd, .bool m.ra, .bool m.ad, .bool m.cd, .int .i64 m.rc, .slice p.qa m.qs.length p.qc, .slice p.na m.an.length p.nc, .slice p.ua m.au.length p.uc, .slice p.ra m.ar.length p.rc]] w fun e w' => e = .returned (.int .i64 (signsV m)) ∧ Below w.heap.size w w' := by
  have hbox := BoxM.fresh w 37 _ rfl p m
  have hbel := (Below.refl w.heap.size w).alloc (Nat.le_refl _) (.cells #[.int .i64 m.id, .bool m.rs, .int .i64 m.op, .bool m.aa, .bool m.tc, .bool m.rd, .bool m.ra, .bool m.ad, .bool m.cd, .int .i64 m.rc, .slice p.qa m.qs.length p.qc, .slice p.na m.an.length p.nc, .slice p.ua m.au.length p.uc, .slice p.ra m.ar.length p.rc] 37)
  obtain ⟨V0, hV0⟩ : ∃ V0 : Nat, m.op * 2048 + m.rc = (V0 : Int) := ⟨(m.op * 2048 + m.rc).toNat, by omega⟩
  obtain ⟨q, hq⟩ : ∃ q : Nat, m.op = (q : Int) := ⟨m.op.toNat, by omega⟩
  obtain ⟨r, hr⟩ : ∃ r : Nat, m.rc = (r : Int) := ⟨m.rc.toNat, by omega⟩
  have hVqr : V0 = q * 2048 + r := by omega
  have hq15 : q ≤ 15 := by omega
  have hr15 : r ≤ 15 := by omega
  have hor : Value.int .i64 (bits .or .i64 (m.op * 2048) m.rc) = Value.int .i64 (V0 : Int) := by rw [or11 (by omega) (by omega) (by omega) (by omega) (by omega), hV0]
  have hb0 := bn_or m.rs 32768
  obtain ⟨x0, hx0⟩ : ∃ x, bn m.rs 32768 = x := ⟨_, rfl⟩
  rw [hx0] at hb0
  obtain ⟨V1, hV1⟩ : ∃ V, V0 + x0 = V := ⟨_, rfl⟩
  have hz0 : V0 / 2 ^ 15 % 2 = 0 := by omega
  have hl0 : V1 < 1099511627776 := by omega
  have S0 := Lib.hid (fun g w hc hz hg => set_any g V0 15 m.rs w hc hz hg (by omega) (by omega) hz0)
  simp only [bn_if] at S0
  rw [show (2 : Nat) ^ 15 = 32768 from rfl, hx0, hV1] at S0
  have hb1 := bn_or m.aa 1024
  obtain ⟨x1, hx1⟩ : ∃ x, bn m.aa 1024 = x := ⟨_, rfl⟩
  rw [hx1] at hb1
  obtain ⟨V2, hV2⟩ : ∃ V, V1 + x1 = V := ⟨_, rfl⟩
  have hz1 : V1 / 2 ^ 10 % 2 = 0 := by omega
  have hl1 : V2 < 1099511627776 := by omega
  have S1 := Lib.hid (fun g w hc hz hg => set_any g V1 10 m.aa w hc hz hg (by omega) (by omega) hz1)
  simp only [bn_if] at S1
  rw [show (2 : Nat) ^ 10 = 1024 from rfl, hx1, hV2] at S1
  have hb2 := bn_or m.tc 512
  obtain ⟨x2, hx2⟩ : ∃ x, bn m.tc 512 = x := ⟨_, rfl⟩
  rw [hx2] at hb2
  obtain ⟨V3, hV3⟩ : ∃ V, V2 + x2 = V := ⟨_, rfl⟩
  have hz2 : V2 / 2 ^ 9 % 2 = 0 := by omega
  have hl2 : V3 < 1099511627776 := by omega
  have S2 := Lib.hid (fun g w hc hz hg => set_any g V2 9 m.tc w hc hz hg (by omega) (by omega) hz2)
  simp only [bn_if] at S2
  rw [show (2 : Nat) ^ 9 = 512 from rfl, hx2, hV3] at S2
  have hb3 := bn_or m.rd 256
  obtain ⟨x3, hx3⟩ : ∃ x, bn m.rd 256 = x := ⟨_, rfl⟩
  rw [hx3] at hb3
  obtain ⟨V4, hV4⟩ : ∃ V, V3 + x3 = V := ⟨_, rfl⟩
  have hz3 : V3 / 2 ^ 8 % 2 = 0 := by omega
  have hl3 : V4 < 1099511627776 := by omega
  have S3 := Lib.hid (fun g w hc hz hg => set_any g V3 8 m.rd w hc hz hg (by omega) (by omega) hz3)
  simp only [bn_if] at S3
  rw [show (2 : Nat) ^ 8 = 256 from rfl, hx3, hV4] at S3
  have hb4 := bn_or m.ra 128
  obtain ⟨x4, hx4⟩ : ∃ x, bn m.ra 128 = x := ⟨_, rfl⟩
  rw [hx4] at hb4
  obtain ⟨V5, hV5⟩ : ∃ V, V4 + x4 = V := ⟨_, rfl⟩
  have hz4 : V4 / 2 ^ 7 % 2 = 0 := by omega
  have hl4 : V5 < 1099511627776 := by omega
  have S4 := Lib.hid (fun g w hc hz hg => set_any g V4 7 m.ra w hc hz hg (by omega) (by omega) hz4)
  simp only [bn_if] at S4
  rw [show (2 : Nat) ^ 7 = 128 from rfl, hx4, hV5] at S4
  have hb5 := bn_or m.ad 32
  obtain ⟨x5, hx5⟩ : ∃ x, bn m.ad 32 = x := ⟨_, rfl⟩
  rw [hx5] at hb5
  obtain ⟨V6, hV6⟩ : ∃ V, V5 + x5 = V := ⟨_, rfl⟩
  have hz5 : V5 / 2 ^ 5 % 2 = 0 := by omega
  have hl5 : V6 < 1099511627776 := by omega
  have S5 := Lib.hid (fun g w hc hz hg => set_any g V5 5 m.ad w hc hz hg (by omega) (by omega) hz5)
  simp only [bn_if] at S5
  rw [show (2 : Nat) ^ 5 = 32 from rfl, hx5, hV6] at S5
  have hb6 := bn_or m.cd 16
  obtain ⟨x6, hx6⟩ : ∃ x, bn m.cd 16 = x := ⟨_, rfl⟩
  rw [hx6] at hb6
  obtain ⟨V7, hV7⟩ : ∃ V, V6 + x6 = V := ⟨_, rfl⟩
  have hz6 : V6 / 2 ^ 4 % 2 = 0 := by omega
  have hl6 : V7 < 1099511627776 := by omega
  have S6 := Lib.hid (fun g w hc hz hg => set_any g V6 4 m.cd w hc hz hg (by omega) (by omega) hz6)
  simp only [bn_if] at S6
  rw [show (2 : Nat) ^ 4 = 16 from rfl, hx6, hV7] at S6
  have HRES : Hid (signsV m = (V7 : Int)) := Lib.hid (by
    simp only [signsV]
    rw [show bit m.rs 32768 = ((bn m.rs 32768 : Nat) : Int) from bit_bn m.rs 32768, show bit m.aa 1024 = ((bn m.aa 1024 : Nat) : Int) from bit_bn m.aa 1024, show bit m.tc 512 = ((bn m.tc 512 : Nat) : Int) from bit_bn m.tc 512, show bit m.rd 256 = ((bn m.rd 256 : Nat) : Int) from bit_bn m.rd 256, show bit m.ra 128 = ((bn m.ra 128 : Nat) : Int) from bit_bn m.ra 128, show bit m.ad 32 = ((bn m.ad 32 : Nat) : Int) from bit_bn m.ad 32, show bit m.cd 16 = ((bn m.cd 16 : Nat) : Int) from bit_bn m.cd 16, hx0, hx1, hx2, hx3, hx4, hx5, hx6]
    omega)
  rw [HRES.out]
  clear hb0 hx0 hV1 hz0 hl0 hb1 hx1 hV2 hz1 hl1 hb2 hx2 hV3 hz2 hl2 hb3 hx3 hV4 hz3 hl3 hb4 hx4 hV5 hz4 hl4 hb5 hx5 hV6 hz5 hl5 hb6 hx6 hV7 hz6 hl6 hVqr hq hr hV0 hq15 hr15
  go_enter Try.func44, Try.ntmps44
  go_upto_region 1 with (fail)
  obtain ⟨w0, hw0⟩ : ∃ w0, w.alloc (.cells #[.int .i64 m.id, .bool m.rs, .int .i64 m.op, .bool m.aa, .bool m.tc, .bool m.rd, .bool m.ra, .bool m.ad, .bool m.cd, .int .i64 m.rc, .slice p.qa m.qs.length p.qc, .slice p.na m.an.length p.nc, .slice p.ua m.au.length p.uc, .slice p.ra m.ar.length p.rc] 37) = w0 := ⟨_, rfl⟩
  rw [hw0] at hbox hbel ⊢
  have HBOX := Lib.hid hbox; have HBEL := Lib.hid hbel
  have a2 := hbox.c2; have a9 := hbox.c9; have a1 := hbox.c1
  have hlt := hbox.lt
  have hgl := hlt
  clear hbox hbel hw0
  have hne : w.heap.size ≠ w0.heap.size := by omega
  have hc0 : (w0.alloc (.cells #[.int .i64 (V0 : Int)] 3)).cell? ⟨w0.heap.size, 0, none⟩ = some (.int .i64 (V0 : Int)) := by
    have hb : (w0.alloc (.cells #[.int .i64 (V0 : Int)] 3)).heap[w0.heap.size]? = some (.cells #[.int .i64 (V0 : Int)] 3 (0, 0)) := heap_alloc_new _ _
    simp only [World.cell?, hb]; rfl
  have hz0 : (w0.alloc (.cells #[.int .i64 (V0 : Int)] 3)).frozen? ⟨w0.heap.size, 0, none⟩ = false := by
    have hb : (w0.alloc (.cells #[.int .i64 (V0 : Int)] 3)).heap[w0.heap.size]? = some (.cells #[.int .i64 (V0 : Int)] 3 (0, 0)) := heap_alloc_new _ _
    simp only [World.frozen?, hb]; simp
  have hg0 : w0.heap.size < (w0.alloc (.cells #[.int .i64 (V0 : Int)] 3)).heap.size := by simp
  have hbe := (Below.refl w0.heap.size w0).alloc (Nat.le_refl _) (.cells #[.int .i64 (V0 : Int)] 3)
  have HX0 := Lib.hid (HBOX.out.below hbe hgl)
  have HB0 := Lib.hid (HBEL.out.trans (hbe.mono (Nat.le_of_lt hgl)))
  have T0 := Lib.hid (S0.out _ _ hc0 hz0 hg0)
  clear hc0 hz0 hbe S0
  go_wp2_with fail
  refine T0.out.mono ?_
  rintro e w1 ⟨rfl, hc, hz, hgr⟩
  have HX1 := Lib.hid (HX0.out.grown hgr hne)
  have HB1 := Lib.hid (HB0.out.grown hgr HB0.out.size (fun j hj => by cases hj; omega))
  have hg1 := Nat.lt_of_lt_of_le hg0 hgr.size
  have T1 := Lib.hid (S1.out _ _ hc hz hg1)
  have n1 := HX1.out.c3
  clear hgr hc hz S1
  go_wp2_with fail
  refine T1.out.mono ?_
  rintro e w2 ⟨rfl, hc, hz, hgr⟩
  have HX2 := Lib.hid (HX1.out.grown hgr hne)
  have HB2 := Lib.hid (HB1.out.grown hgr HB1.out.size (fun j hj => by cases hj; omega))
  have hg2 := Nat.lt_of_lt_of_le hg1 hgr.size
  have T2 := Lib.hid (S2.out _ _ hc hz hg2)
  have n2 := HX2.out.c4
  clear hgr hc hz S2
  go_wp2_with fail
  refine T2.out.mono ?_
  rintro e w3 ⟨rfl, hc, hz, hgr⟩
  have HX3 := Lib.hid (HX2.out.grown hgr hne)
  have HB3 := Lib.hid (HB2.out.grown hgr HB2.out.size (fun j hj => by cases hj; omega))
  have hg3 := Nat.lt_of_lt_of_le hg2 hgr.size
  have T3 := Lib.hid (S3.out _ _ hc hz hg3)
  have n3 := HX3.out.c5
  clear hgr hc hz S3
  go_wp2_with fail
  refine T3.out.mono ?_
  rintro e w4 ⟨rfl, hc, hz, hgr⟩
  have HX4 := Lib.hid (HX3.out.grown hgr hne)
  have HB4 := Lib.hid (HB3.out.grown hgr HB3.out.size (fun j hj => by cases hj; omega))
  have hg4 := Nat.lt_of_lt_of_le hg3 hgr.size
  have T4 := Lib.hid (S4.out _ _ hc hz hg4)
  have n4 := HX4.out.c6
  clear hgr hc hz S4
  go_wp2_with fail
  refine T4.out.mono ?_
  rintro e w5 ⟨rfl, hc, hz, hgr⟩
  have HX5 := Lib.hid (HX4.out.grown hgr hne)
  have HB5 := Lib.hid (HB4.out.grown hgr HB4.out.size (fun j hj => by cases hj; omega))
  have hg5 := Nat.lt_of_lt_of_le hg4 hgr.size
  have T5 := Lib.hid (S5.out _ _ hc hz hg5)
  have n5 := HX5.out.c7
  clear hgr hc hz S5
  go_wp2_with fail
  refine T5.out.mono ?_
  rintro e w6 ⟨rfl, hc, hz, hgr⟩
  have HX6 := Lib.hid (HX5.out.grown hgr hne)
  have HB6 := Lib.hid (HB5.out.grown hgr HB5.out.size (fun j hj => by cases hj; omega))
  have hg6 := Nat.lt_of_lt_of_le hg5 hgr.size
  have T6 := Lib.hid (S6.out _ _ hc hz hg6)
  have n6 := HX6.out.c8
  clear hgr hc hz S6
  go_wp2_with fail
  refine T6.out.mono ?_
  rintro e w7 ⟨rfl, hc, hz, hgr⟩
  have HX7 := Lib.hid (HX6.out.grown hgr hne)
  have HB7 := Lib.hid (HB6.out.grown hgr HB6.out.size (fun j hj => by cases hj; omega))
  clear hgr hz
  go_wp2_with fail
  go_ret
  exact ⟨rfl, HB7.out⟩
end Go.Proofs.Ytabhiangjomaeaa.signs
namespace Go.Proofs.Ytabhiangjomaeaa.wireC
open Go.RowKit Go.Proofs.Ytabhiangjomaeaa.kit Go.Proofs.Ytabhiangjomaeaa.timed Go.Proofs.Ytabhiangjomaeaa.nspec Go.Proofs.Ytabhiangjomaeaa.rsplit Go.Proofs.Ytabhiangjomaeaa.check Go.Proofs.Ytabhiangjomaeaa.checkAll Go.Proofs.Ytabhiangjomaeaa.fld Go.Proofs.Ytabhiangjomaeaa.wireP Go.Proofs.Ytabhiangjomaeaa.wireR Go.Proofs.Ytabhiangjomaeaa.wireM
set_option linter.unusedVariables false

theorem max4 (a b c d : Nat) (w : World) : Sem.run Try.prog (Builtin.max_ #[3, 3, 3, 3] 3 #[.int .i64 (a : Int), .int .i64 (b : Int), .int .i64 (c : Int), .int .i64 (d : Int)]) w = .ok (.int .i64 ((max (max (max a b) c) d : Nat) : Int)) w := by
  simp [Builtin.max_, Builtin.max2, go_sem]
  (repeat' split) <;> omega
theorem hu3 : Try.prog.underlying 92 = some (.array 3 35) := Try.underlying92
def secL (m : Mg) (k : Nat) : List Rc := match k with | 0 => m.an | 1 => m.au | _ => m.ar
theorem idx0 (a b x : Option Addr) (n m k c d e : Nat) (w : World) : Sem.run Try.prog (Instr.index 92 (Value.agg #[.slice a n c, .slice b m d, .slice x k e]) (Value.int IntKind.i64 0)) w = .ok (.slice a n c) w := by
  simp [Instr.index, asIntOf, run_underlying hu3, go_sem]
theorem idx1 (a b x : Option Addr) (n m k c d e : Nat) (w : World) : Sem.run Try.prog (Instr.index 92 (Value.agg #[.slice a n c, .slice b m d, .slice x k e]) (Value.int IntKind.i64 1)) w = .ok (.slice b m d) w := by
  simp [Instr.index, asIntOf, run_underlying hu3, go_sem]
theorem idx2 (a b x : Option Addr) (n m k c d e : Nat) (w : World) : Sem.run Try.prog (Instr.index 92 (Value.agg #[.slice a n c, .slice b m d, .slice x k e]) (Value.int IntKind.i64 2)) w = .ok (.slice x k e) w := by
  simp [Instr.index, asIntOf, run_underlying hu3, go_sem]
/-- one of the three lists of records -/
theorem sec_at {w : World} {p : Pl} {m : Mg} (h : RdM w p m) (ho : OkW m) (s : Nat) (hs : s < 3) : ∃ (a : Option Addr) (c : Nat), (∀ w', Sem.run Try.prog (Instr.index 92 (Value.agg #[.slice p.na m.an.length p.nc, .slice p.ua m.au.length p.uc, .slice p.ra m.ar.length p.rc]) (Value.int IntKind.i64 (s : Int))) w' = .ok (.slice a (secL m s).length c) w') ∧ RdC w a 5 ((secL m s).map Rc.cells) ∧ (∀ x ∈ secL m s, x.d.size ≤ maxLen) ∧ (secL m s).length ≤ maxLen := by
  match s, hs with
  | 0, _ => exact ⟨p.na, p.nc, fun w' => idx0 .., h.n, ho.n, ho.nl⟩
  | 1, _ => exact ⟨p.ua, p.uc, fun w' => idx1 .., h.u, ho.u, ho.ul⟩
  | 2, _ => exact ⟨p.ra, p.rc, fun w' => idx2 .., h.r, ho.r, ho.rl⟩
theorem q_cells {w w1 : World} {x : Qn} {t : TypeId} (hB : Below (w.alloc (.cells #[.string x.n, .int .i64 x.t, .int .i64 x.c] t)).heap.size (w.alloc (.cells #[.string x.n, .int .i64 x.t, .int .i64 x.c] t)) w1) :
    w1.cell? ⟨w.heap.size, 0, none⟩ = some (.string x.n) ∧ w1.cell? ⟨w.heap.size, 1, none⟩ = some (.int .i64 x.t) ∧ w1.cell? ⟨w.heap.size, 2, none⟩ = some (.int .i64 x.c) := by
  have hl : w.heap.size < (w.alloc (.cells #[.string x.n, .int .i64 x.t, .int .i64 x.c] t)).heap.size := by simp
  have hb : (w.alloc (.cells #[.string x.n, .int .i64 x.t, .int .i64 x.c] t)).heap[w.heap.size]? = some (.cells #[.string x.n, .int .i64 x.t, .int .i64 x.c] t (0, 0)) := heap_alloc_new _ _
  refine ⟨(hB.cell (p := ⟨w.heap.size, 0, none⟩) hl).trans ?_, (hB.cell (p := ⟨w.heap.size, 1, none⟩) hl).trans ?_, (hB.cell (p := ⟨w.heap.size, 2, none⟩) hl).trans ?_⟩ <;> (simp only [World.cell?, hb]; rfl)

set_option maxRecDepth 100000 in
set_option maxHeartbeats 4000000 in
theorem wcheck_any (p : Pl) (m : Mg) (w : World) (hm : RdM w p m) (ho : OkW m) :
    Calls Try.prog 22 #[.agg #[.int .i64 m.id, .bool m.rs, .int .i64 m.op, .bool m.aa, .bool m.tc, .bool m.rd, .bool m.ra, .bool m.ad, .bool m.cd, .int .i64 m.rc, .slice p.qa m.qs.length p.qc, .slice p.na m.an.length p.nc, .slice p.ua m.au.length p.uc, .slice p.ra m.ar.length p.rc]] w fun e w' =>
      e = .returned (.int .i64 (if checkB m then 0 else 8)) ∧ Below w.heap.size w w' := by
  obtain ⟨qa, qc, na, nc, ua, uc, ra, rcc⟩ := p
  dsimp only
  obtain ⟨R, HR⟩ : ∃ R, Hid (checkB m = R) := ⟨_, Lib.hid rfl⟩
  rw [HR.out]
  have HM := Lib.hid hm; have HO := Lib.hid ho
  have C0 := Lib.hid (fun w => in_any m.id 65535 w)
  have C1 := Lib.hid (fun w => in_any m.op 15 w)
  have C2 := Lib.hid (fun w => in_any m.rc 15 w)
  have hbox := BoxM.fresh w 37 _ rfl ⟨qa, qc, na, nc, ua, uc, ra, rcc⟩ m
  dsimp only at hbox
  have hbel := (Below.refl w.heap.size w).alloc (Nat.le_refl _) (.cells #[.int .i64 m.id, .bool m.rs, .int .i64 m.op, .bool m.aa, .bool m.tc, .bool m.rd, .bool m.ra, .bool m.ad, .bool m.cd, .int .i64 m.rc, .slice qa m.qs.length qc, .slice na m.an.length nc, .slice ua m.au.length uc, .slice ra m.ar.length rcc] 37)
  clear hm ho
  go_enter Try.func22, Try.ntmps22
  go_upto_region 1 with (fail)
  obtain ⟨w0, hw0⟩ : ∃ w0, w.alloc (.cells #[.int .i64 m.id, .bool m.rs, .int .i64 m.op, .bool m.aa, .bool m.tc, .bool m.rd, .bool m.ra, .bool m.ad, .bool m.cd, .int .i64 m.rc, .slice qa m.qs.length qc, .slice na m.an.length nc, .slice ua m.au.length uc, .slice ra m.ar.length rcc] 37) = w0 := ⟨_, rfl⟩
  rw [hw0] at hbox hbel ⊢
  have HBOX := Lib.hid hbox; have HBEL := Lib.hid hbel
  have b0 := hbox.c0; have b2 := hbox.c2; have b9 := hbox.c9; have b10 := hbox.c10; have b11 := hbox.c11; have b12 := hbox.c12; have b13 := hbox.c13
  dsimp only at b10 b11 b12 b13
  obtain ⟨nq, hnq⟩ : ∃ nq, m.qs.length = nq := ⟨_, rfl⟩
  obtain ⟨nn, hnn⟩ : ∃ nn, m.an.length = nn := ⟨_, rfl⟩
  obtain ⟨nu, hnu⟩ : ∃ nu, m.au.length = nu := ⟨_, rfl⟩
  obtain ⟨nr, hnr⟩ : ∃ nr, m.ar.length = nr := ⟨_, rfl⟩
  rw [hnq] at b10
  rw [hnn] at b11
  rw [hnu] at b12
  rw [hnr] at b13
  have hql : nq ≤ 9223372036854775807 := by rw [← hnq]; exact HO.out.ql
  have hnl : nn ≤ 9223372036854775807 := by rw [← hnn]; exact HO.out.nl
  have hul : nu ≤ 9223372036854775807 := by rw [← hnu]; exact HO.out.ul
  have hrl : nr ≤ 9223372036854775807 := by rw [← hnr]; exact HO.out.rl
  have HNQ := Lib.hid hnq; have HNN := Lib.hid hnn; have HNU := Lib.hid hnu; have HNR := Lib.hid hnr
  clear hbox hbel hw0 hnq hnn hnu hnr
  cases h0 : inB m.id 65535 with
  | false =>
    obtain rfl : R = false := by rw [← HR.out]; simp [checkB, h0]
    rw [h0] at C0
    clear h0
    go_wp2_with fail
    refine (C0.out _).mono ?_
    rintro e w' ⟨rfl, rfl⟩
    go_wp2_with fail
    go_ret
    exact ⟨rfl, HBEL.out⟩
  | true =>
    rw [h0] at C0
    go_wp2_with fail
    refine (C0.out _).mono ?_
    rintro e w' ⟨rfl, rfl⟩
    cases h1 : inB m.op 15 with
    | false =>
      obtain rfl : R = false := by rw [← HR.out]; simp [checkB, h1]
      rw [h1] at C1
      clear h0 h1
      go_wp2_with fail
      refine (C1.out _).mono ?_
      rintro e w' ⟨rfl, rfl⟩
      go_wp2_with fail
      go_ret
      exact ⟨rfl, HBEL.out⟩
    | true =>
      rw [h1] at C1
      go_wp2_with fail
      refine (C1.out _).mono ?_
      rintro e w' ⟨rfl, rfl⟩
      cases h2 : inB m.rc 15 with
      | false =>
        obtain rfl : R = false := by rw [← HR.out]; simp [checkB, h2]
        rw [h2] at C2
        clear h0 h1 h2
        go_wp2_with fail
        refine (C2.out _).mono ?_
        rintro e w' ⟨rfl, rfl⟩
        go_wp2_with fail
        go_ret
        exact ⟨rfl, HBEL.out⟩
      | true =>
        rw [h2] at C2
        have HS : Hid ((decide (nq ≤ 65535 ∧ nn ≤ 65535 ∧ nu ≤ 65535 ∧ nr ≤ 65535) && (m.qs.all rightQ && (m.an.all rightB && (m.au.all rightB && m.ar.all rightB)))) = R) := Lib.hid (by
          rw [← HR.out, ← HNQ.out, ← HNN.out, ← HNU.out, ← HNR.out]; simp only [checkB, h0, h1, h2, Bool.true_and])
        clear h0 h1 h2
        obtain ⟨M, hM⟩ : ∃ M, max (max (max nq nn) nu) nr = M := ⟨_, rfl⟩
        have hmax := max4 nq nn nu nr
        rw [hM] at hmax
        have hMb : M ≤ 9223372036854775807 := by omega
        by_cases hbig : 65535 < M
        · obtain rfl : R = false := by rw [← HS.out, decide_eq_false (by omega)]; rfl
          have hbi : (65535 : Int) < (M : Int) := by omega
          clear hM hbig HS
          go_wp2_with fail
          refine (C2.out _).mono ?_
          rintro e w' ⟨rfl, rfl⟩
          go_wp2_with fail
          go_ret
          exact ⟨rfl, HBEL.out⟩
        · have HT : Hid ((m.qs.all rightQ && (m.an.all rightB && (m.au.all rightB && m.ar.all rightB))) = R) := Lib.hid (by rw [← HS.out, decide_eq_true (by omega)]; rfl)
          have hbi : (M : Int) ≤ 65535 := by omega
          clear hM hbig HS
          go_wp2_with fail
          refine (C2.out _).mono ?_
          rintro e w' ⟨rfl, rfl⟩
          go_wp2_with fail
          have HB0 := HBEL
          go_loopg [4, 44] (nq + 1) (fun gas _ kv wr => ∃ (k : Nat), kv = .int .i64 (k : Int) ∧ k ≤ nq ∧ k + gas = nq + 1 ∧ Hid ((m.qs.take k).all rightQ = true) ∧ Hid (Below w'.heap.size w' wr))
          case atStart => exact ⟨0, rfl, by omega, by omega, Lib.hid (by simp), Lib.hid (Below.refl _ _)⟩
          case round =>
            obtain ⟨k, rfl, hk, hkg, HA, HBr⟩ := hrel
            have HK := Lib.hid hkg; clear hkg
            by_cases hlt : k < nq
            · obtain ⟨x, hx⟩ : ∃ x, m.qs[k]? = some x := ⟨_, List.getElem?_eq_getElem (by have := HNQ.out; omega)⟩
              obtain ⟨g, o, hqa, hg, hat⟩ := at_q HM.out.q hx
              have HBw := Lib.hid (HBEL.out.trans (HBr.out.mono HBEL.out.size))
              obtain ⟨x0, x1, x2⟩ := hat.below HBw.out hg
              have HB1 := Lib.hid ((Below.refl wr.heap.size wr).alloc (Nat.le_refl _) (.cells #[.string x.n, .int .i64 x.t, .int .i64 x.c] 50))
              have CN := Lib.hid (check_all x.n (wr.alloc (.cells #[.string x.n, .int .i64 x.t, .int .i64 x.c] 50)))
              rw [chkE_isB] at CN
              have Ct := Lib.hid (fun w => in_any x.t 65535 w)
              have Cc := Lib.hid (fun w => in_any x.c 65535 w)
              have NO : rightQ x = false → false = R := fun h => by rw [← HT.out, all_no hx h]; rfl
              have NO := Lib.hid NO
              have YES : rightQ x = true → Hid ((m.qs.take (k + 1)).all rightQ = true) := fun h => Lib.hid (all_step hx h HA.out)
              have YES := Lib.hid YES
              have zl : (k : Int) < (nq : Int) := by omega
              have hpq : qa = some ⟨g, o, none⟩ := hqa
              clear hx hat hqa
              subst hpq
              go_wp2_with fail
              refine CN.out.mono ?_
              rintro e w1 ⟨rfl, hB1⟩
              obtain ⟨k0, k1, k2⟩ := q_cells hB1
              have HW1 := Lib.hid (HBr.out.trans ((HB1.out.trans (hB1.mono HB1.out.size)).mono HBr.out.size))
              clear hB1 HB1 CN x0 x1 x2
              cases hn : isB x.n with
              | false =>
                obtain rfl := NO.out (by simp [rightQ, hn])
                clear hn
                go_wp2_with fail
                go_ret
                exact ⟨rfl, HBEL.out.trans (HW1.out.mono HBEL.out.size)⟩
              | true =>
                cases ht : inB x.t 65535 with
                | false =>
                  obtain rfl := NO.out (by simp [rightQ, ht])
                  rw [ht] at Ct
                  clear hn ht
                  go_wp2_with fail
                  refine (Ct.out _).mono ?_
                  rintro e w2 ⟨rfl, rfl⟩
                  go_wp2_with fail
                  go_ret
                  exact ⟨rfl, HBEL.out.trans (HW1.out.mono HBEL.out.size)⟩
                | true =>
                  rw [ht] at Ct
                  cases hc : inB x.c 65535 with
                  | false =>
                    obtain rfl := NO.out (by simp [rightQ, hc])
                    rw [hc] at Cc
                    clear hn ht hc
                    go_wp2_with fail
                    refine (Ct.out _).mono ?_
                    rintro e w2 ⟨rfl, rfl⟩
                    go_wp2_with fail
                    refine (Cc.out _).mono ?_
                    rintro e w2 ⟨rfl, rfl⟩
                    go_wp2_with fail
                    go_ret
                    exact ⟨rfl, HBEL.out.trans (HW1.out.mono HBEL.out.size)⟩
                  | true =>
                    have HY := YES.out (by simp [rightQ, hn, ht, hc])
                    rw [hc] at Cc
                    clear hn ht hc
                    go_wp2_with fail
                    refine (Ct.out _).mono ?_
                    rintro e w2 ⟨rfl, rfl⟩
                    go_wp2_with fail
                    refine (Cc.out _).mono ?_
                    rintro e w2 ⟨rfl, rfl⟩
                    go_wp2_with fail
                    have hkg := HK.out
                    go_roundg (gk - 1)
                    case rel => exact ⟨k + 1, by go_num, by omega, by omega, HY, HW1⟩
                    case measure => omega
            · have HQ := Lib.hid (all_end (f := rightQ) (L := m.qs) (by have := HNQ.out; omega) HA.out)
              have HU : Hid ((m.an.all rightB && (m.au.all rightB && m.ar.all rightB)) = R) := Lib.hid (by rw [← HT.out, HQ.out]; rfl)
              have HBw := Lib.hid (HBEL.out.trans (HBr.out.mono HBEL.out.size))
              have d11 := (HBOX.out.below HBr.out HBOX.out.lt).c11
              have d12 := (HBOX.out.below HBr.out HBOX.out.lt).c12
              have d13 := (HBOX.out.below HBr.out HBOX.out.lt).c13
              dsimp only at d11 d12 d13
              rw [HNN.out] at d11
              rw [HNU.out] at d12
              rw [HNR.out] at d13
              clear HT HA
              go_wp2_with fail
              go_loopg [6, 8, 72] 4 (fun gas _ _ kv wq => ∃ (s : Nat), kv = .int .i64 (s : Int) ∧ s ≤ 3 ∧ s + gas = 4 ∧ Hid (∀ t, t < s → (secL m t).all rightB = true) ∧ Hid (Below w.heap.size w wq))
              case atStart => exact ⟨0, rfl, by omega, by omega, Lib.hid (fun t h => by omega), HBw⟩
              case round =>
                clear HBr HBw
                obtain ⟨s, rfl, hs, hsg, HA, HBq⟩ := hrel
                obtain ⟨gk', hgk'⟩ : ∃ g, g = gk := ⟨_, rfl⟩
                rw [← hgk'] at hsg
                have HSG := Lib.hid hsg; clear hsg
                by_cases hlt3 : s < 3
                · obtain ⟨a, c, hidx, hrd, hok, hlen⟩ := sec_at HM.out HO.out s hlt3
                  dsimp only at hidx
                  rw [HNN.out, HNU.out, HNR.out] at hidx
                  obtain ⟨L, hL⟩ : ∃ L, secL m s = L := ⟨_, rfl⟩
                  rw [hL] at hidx hrd hok hlen
                  obtain ⟨n, hn⟩ : ∃ n, L.length = n := ⟨_, rfl⟩
                  rw [hn] at hidx hlen
                  unfold maxLen at hlen
                  have HL := Lib.hid hL; have HRD := Lib.hid hrd; have HOK := Lib.hid hok; have HN := Lib.hid hn
                  have zs : (s : Int) < 3 := by omega
                  have NOL : L.all rightB = false → false = R := fun h => by
                    rw [← HU.out]
                    rw [← hL] at h
                    match s, hlt3 with
                    | 0, _ => simp only [secL] at h; rw [h]; rfl
                    | 1, _ => simp only [secL] at h; rw [h]; simp
                    | 2, _ => simp only [secL] at h; rw [h]; simp
                  have NOL := Lib.hid NOL
                  clear hL hrd hok hn hlt3
                  go_wp2_with fail
                  go_loopg [8, 77] (n + 1) (fun gas _ kv wq => ∃ (k : Nat), kv = .int .i64 (k : Int) ∧ k ≤ n ∧ k + gas = n + 1 ∧ Hid ((L.take k).all rightB = true) ∧ Hid (Below w.heap.size w wq))
                  case atStart => exact ⟨0, rfl, by omega, by omega, Lib.hid (by simp), HBq⟩
                  case round =>
                    clear HBq hidx
                    obtain ⟨k, rfl, hk, hkg, HAL, HBr⟩ := hrel
                    have HK := Lib.hid hkg; clear hkg
                    by_cases hlt : k < n
                    · obtain ⟨x, hx⟩ : ∃ x, L[k]? = some x := ⟨_, List.getElem?_eq_getElem (by have := HN.out; omega)⟩
                      obtain ⟨g, o, rfl, hg, hat⟩ := at_r HRD.out hx
                      obtain ⟨x0, x1, x2, x3, x4⟩ := hat.below HBr.out hg
                      have hox := HOK.out x (List.mem_of_getElem? hx)
                      have HB1 := Lib.hid ((Below.refl wr.heap.size wr).alloc (Nat.le_refl _) (.cells #[.string x.o, .int .i64 x.t, .int .i64 x.c, .int .i64 x.l, .string x.d] 52))
                      have CR := Lib.hid (fun w => right_any x w hox)
                      have NO : rightB x = false → false = R := fun h => NOL.out (all_no hx h)
                      have NO := Lib.hid NO
                      have YES : rightB x = true → Hid ((L.take (k + 1)).all rightB = true) := fun h => Lib.hid (all_step hx h HAL.out)
                      have YES := Lib.hid YES
                      have zl : (k : Int) < (n : Int) := by omega
                      clear hx hat hox
                      cases hb : rightB x with
                      | false =>
                        obtain rfl := NO.out hb
                        rw [hb] at CR
                        clear hb
                        go_wp2_with fail
                        refine (CR.out _).mono ?_
                        rintro e w1 ⟨rfl, hB1⟩
                        have HW1 := Lib.hid (HBr.out.trans ((HB1.out.trans (hB1.mono HB1.out.size)).mono HBr.out.size))
                        clear hB1
                        go_wp2_with fail
                        go_ret
                        exact ⟨rfl, HW1.out⟩
                      | true =>
                        have HY := YES.out hb
                        rw [hb] at CR
                        clear hb
                        go_wp2_with fail
                        refine (CR.out _).mono ?_
                        rintro e w1 ⟨rfl, hB1⟩
                        have HW1 := Lib.hid (HBr.out.trans ((HB1.out.trans (hB1.mono HB1.out.size)).mono HBr.out.size))
                        clear hB1
                        go_wp2_with fail
                        have hkg := HK.out
                        go_roundg (gk - 1)
                        case rel => exact ⟨k + 1, by go_num, by omega, by omega, HY, HW1⟩
                        case measure => omega
                    · have HALL := Lib.hid (all_end (f := rightB) (L := L) (by have := HN.out; omega) HAL.out)
                      have HA2 : Hid (∀ t, t < s + 1 → (secL m t).all rightB = true) := Lib.hid (fun t ht => by
                        by_cases h : t < s
                        · exact HA.out t h
                        · have : t = s := by omega
                          rw [this, HL.out]; exact HALL.out)
                      go_wp2_with fail
                      have hsg := HSG.out
                      go_roundg (gk' - 1)
                      case rel => exact ⟨s + 1, by go_num, by omega, by omega, HA2, HBr⟩
                      case measure => omega
                · have hTT : R = true := by
                    have h0 := HA.out 0 (by omega); have h1 := HA.out 1 (by omega); have h2 := HA.out 2 (by omega)
                    simp only [secL] at h0 h1 h2
                    rw [← HU.out, h0, h1, h2]; rfl
                  subst hTT
                  go_wp2_with fail
                  go_ret
                  exact ⟨rfl, HBq.out⟩
end Go.Proofs.Ytabhiangjomaeaa.wireC
