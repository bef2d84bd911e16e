/- wire.Check: walk. wire.Pack: walk. -/
import Derived.Test.YtnamkladeaohoaaGreatK10
import Derived.Test.YtnamkladeaohoaaGreatK19
namespace Go.Proofs.YtnamkladeaohoaaGreat.wireC
open Go.RowKit Go.Proofs.YtnamkladeaohoaaGreat.kit Go.Proofs.YtnamkladeaohoaaGreat.timed Go.Proofs.YtnamkladeaohoaaGreat.nspec Go.Proofs.YtnamkladeaohoaaGreat.rsplit Go.Proofs.YtnamkladeaohoaaGreat.check Go.Proofs.YtnamkladeaohoaaGreat.checkAll Go.Proofs.YtnamkladeaohoaaGreat.fld Go.Proofs.YtnamkladeaohoaaGreat.wireP Go.Proofs.YtnamkladeaohoaaGreat.wireR Go.Proofs.YtnamkladeaohoaaGreat.wireM
set_option linter.unusedVariables false

theorem max4 (a b c d : Nat) (w : World) : Sem.run Tryz.prog (Builtin.max_ #[3, 3, 3, 3] 3 #[.int .i64 (a : Int), .int .i64 (b : Int), .int .i64 (c : Int), .int .i64 (d : Int)]) w = .ok (.int .i64 ((max (max (max a b) c) d : Nat) : Int)) w := by
  simp [Builtin.max_, Builtin.max2, go_sem]
  (repeat' split) <;> omega
theorem hu3 : Tryz.prog.underlying 139 = some (.array 3 23) := Tryz.underlying139
def secL (m : Mg) (k : Nat) : List Rc := match k with | 0 => m.an | 1 => m.au | _ => m.ar
theorem idx0 (a b x : Option Addr) (n m k c d e : Nat) (w : World) : Sem.run Tryz.prog (Instr.index 139 (Value.agg #[.slice a n c, .slice b m d, .slice x k e]) (Value.int IntKind.i64 0)) w = .ok (.slice a n c) w := by
  simp [Instr.index, asIntOf, run_underlying hu3, go_sem]
theorem idx1 (a b x : Option Addr) (n m k c d e : Nat) (w : World) : Sem.run Tryz.prog (Instr.index 139 (Value.agg #[.slice a n c, .slice b m d, .slice x k e]) (Value.int IntKind.i64 1)) w = .ok (.slice b m d) w := by
  simp [Instr.index, asIntOf, run_underlying hu3, go_sem]
theorem idx2 (a b x : Option Addr) (n m k c d e : Nat) (w : World) : Sem.run Tryz.prog (Instr.index 139 (Value.agg #[.slice a n c, .slice b m d, .slice x k e]) (Value.int IntKind.i64 2)) w = .ok (.slice x k e) w := by
  simp [Instr.index, asIntOf, run_underlying hu3, go_sem]
/-- one of the three lists of records -/
theorem sec_at {w : World} {p : Pl} {m : Mg} (h : RdM w p m) (ho : OkW m) (s : Nat) (hs : s < 3) : ∃ (a : Option Addr) (c : Nat), (∀ w', Sem.run Tryz.prog (Instr.index 139 (Value.agg #[.slice p.na m.an.length p.nc, .slice p.ua m.au.length p.uc, .slice p.ra m.ar.length p.rc]) (Value.int IntKind.i64 (s : Int))) w' = .ok (.slice a (secL m s).length c) w') ∧ RdC w a 5 ((secL m s).map Rc.cells) ∧ (∀ x ∈ secL m s, x.d.size ≤ maxLen) ∧ (secL m s).length ≤ maxLen := by
  match s, hs with
  | 0, _ => exact ⟨p.na, p.nc, fun w' => idx0 .., h.n, ho.n, ho.nl⟩
  | 1, _ => exact ⟨p.ua, p.uc, fun w' => idx1 .., h.u, ho.u, ho.ul⟩
  | 2, _ => exact ⟨p.ra, p.rc, fun w' => idx2 .., h.r, ho.r, ho.rl⟩
theorem q_cells {w w1 : World} {x : Qn} {t : TypeId} (hB : Below (w.alloc (.cells #[.string x.n, .int .i64 x.t, .int .i64 x.c] t)).heap.size (w.alloc (.cells #[.string x.n, .int .i64 x.t, .int .i64 x.c] t)) w1) :
    w1.cell? ⟨w.heap.size, 0, none⟩ = some (.string x.n) ∧ w1.cell? ⟨w.heap.size, 1, none⟩ = some (.int .i64 x.t) ∧ w1.cell? ⟨w.heap.size, 2, none⟩ = some (.int .i64 x.c) := by
  have hl : w.heap.size < (w.alloc (.cells #[.string x.n, .int .i64 x.t, .int .i64 x.c] t)).heap.size := by simp
  have hb : (w.alloc (.cells #[.string x.n, .int .i64 x.t, .int .i64 x.c] t)).heap[w.heap.size]? = some (.cells #[.string x.n, .int .i64 x.t, .int .i64 x.c] t (0, 0)) := heap_alloc_new _ _
  refine ⟨(hB.cell (p := ⟨w.heap.size, 0, none⟩) hl).trans ?_, (hB.cell (p := ⟨w.heap.size, 1, none⟩) hl).trans ?_, (hB.cell (p := ⟨w.heap.size, 2, none⟩) hl).trans ?_⟩ <;> (simp only [World.cell?, hb]; rfl)

set_option maxRecDepth 100000 in
set_option maxHeartbeats 4000000 in
theorem wcheck_any (p : Pl) (m : Mg) (w : World) (hm : RdM w p m) (ho : OkW m) :
    Calls Tryz.prog 31 #[.agg #[.int .i64 m.id, .bool m.rs, .int .i64 m.op, .bool m.aa, .bool m.tc, .bool m.rd, .bool m.ra, .bool m.ad, .bool m.cd, .int .i64 m.rc, .slice p.qa m.qs.length p.qc, .slice p.na m.an.length p.nc, .slice p.ua m.au.length p.uc, .slice p.ra m.ar.length p.rc]] w fun e w' =>
      e = .returned (.int .i64 (if checkB m then 0 else 8)) ∧ Below w.heap.size w w' := by
  obtain ⟨qa, qc, na, nc, ua, uc, ra, rcc⟩ := p
  dsimp only
  obtain ⟨R, HR⟩ : ∃ R, Hid (checkB m = R) := ⟨_, Lib.hid rfl⟩
  rw [HR.out]
  have HM := Lib.hid hm; have HO := Lib.hid ho
  have C0 := Lib.hid (fun w => in_any m.id 65535 w)
  have C1 := Lib.hid (fun w => in_any m.op 15 w)
  have C2 := Lib.hid (fun w => in_any m.rc 15 w)
  have hbox := BoxM.fresh w 25 _ rfl ⟨qa, qc, na, nc, ua, uc, ra, rcc⟩ m
  dsimp only at hbox
  have hbel := (Below.refl w.heap.size w).alloc (Nat.le_refl _) (.cells #[.int .i64 m.id, .bool m.rs, .int .i64 m.op, .bool m.aa, .bool m.tc, .bool m.rd, .bool m.ra, .bool m.ad, .bool m.cd, .int .i64 m.rc, .slice qa m.qs.length qc, .slice na m.an.length nc, .slice ua m.au.length uc, .slice ra m.ar.length rcc] 25)
  clear hm ho
  go_enter Tryz.func31, Tryz.ntmps31
  go_upto_region 1 with (fail)
  obtain ⟨w0, hw0⟩ : ∃ w0, w.alloc (.cells #[.int .i64 m.id, .bool m.rs, .int .i64 m.op, .bool m.aa, .bool m.tc, .bool m.rd, .bool m.ra, .bool m.ad, .bool m.cd, .int .i64 m.rc, .slice qa m.qs.length qc, .slice na m.an.length nc, .slice ua m.au.length uc, .slice ra m.ar.length rcc] 25) = w0 := ⟨_, rfl⟩
  rw [hw0] at hbox hbel ⊢
  have HBOX := Lib.hid hbox; have HBEL := Lib.hid hbel
  have b0 := hbox.c0; have b2 := hbox.c2; have b9 := hbox.c9; have b10 := hbox.c10; have b11 := hbox.c11; have b12 := hbox.c12; have b13 := hbox.c13
  dsimp only at b10 b11 b12 b13
  obtain ⟨nq, hnq⟩ : ∃ nq, m.qs.length = nq := ⟨_, rfl⟩
  obtain ⟨nn, hnn⟩ : ∃ nn, m.an.length = nn := ⟨_, rfl⟩
  obtain ⟨nu, hnu⟩ : ∃ nu, m.au.length = nu := ⟨_, rfl⟩
  obtain ⟨nr, hnr⟩ : ∃ nr, m.ar.length = nr := ⟨_, rfl⟩
  rw [hnq] at b10
  rw [hnn] at b11
  rw [hnu] at b12
  rw [hnr] at b13
  have hql : nq ≤ 9223372036854775807 := by rw [← hnq]; exact HO.out.ql
  have hnl : nn ≤ 9223372036854775807 := by rw [← hnn]; exact HO.out.nl
  have hul : nu ≤ 9223372036854775807 := by rw [← hnu]; exact HO.out.ul
  have hrl : nr ≤ 9223372036854775807 := by rw [← hnr]; exact HO.out.rl
  have HNQ := Lib.hid hnq; have HNN := Lib.hid hnn; have HNU := Lib.hid hnu; have HNR := Lib.hid hnr
  clear hbox hbel hw0 hnq hnn hnu hnr
  cases h0 : inB m.id 65535 with
  | false =>
    obtain rfl : R = false := by rw [← HR.out]; simp [checkB, h0]
    rw [h0] at C0
    clear h0
    go_wp2_with fail
    refine (C0.out _).mono ?_
    rintro e w' ⟨rfl, rfl⟩
    go_wp2_with fail
    go_ret
    exact ⟨rfl, HBEL.out⟩
  | true =>
    rw [h0] at C0
    go_wp2_with fail
    refine (C0.out _).mono ?_
    rintro e w' ⟨rfl, rfl⟩
    cases h1 : inB m.op 15 with
    | false =>
      obtain rfl : R = false := by rw [← HR.out]; simp [checkB, h1]
      rw [h1] at C1
      clear h0 h1
      go_wp2_with fail
      refine (C1.out _).mono ?_
      rintro e w' ⟨rfl, rfl⟩
      go_wp2_with fail
      go_ret
      exact ⟨rfl, HBEL.out⟩
    | true =>
      rw [h1] at C1
      go_wp2_with fail
      refine (C1.out _).mono ?_
      rintro e w' ⟨rfl, rfl⟩
      cases h2 : inB m.rc 15 with
      | false =>
        obtain rfl : R = false := by rw [← HR.out]; simp [checkB, h2]
        rw [h2] at C2
        clear h0 h1 h2
        go_wp2_with fail
        refine (C2.out _).mono ?_
        rintro e w' ⟨rfl, rfl⟩
        go_wp2_with fail
        go_ret
        exact ⟨rfl, HBEL.out⟩
      | true =>
        rw [h2] at C2
        have HS : Hid ((decide (nq ≤ 65535 ∧ nn ≤ 65535 ∧ nu ≤ 65535 ∧ nr ≤ 65535) && (m.qs.all rightQ && (m.an.all rightB && (m.au.all rightB && m.ar.all rightB)))) = R) := Lib.hid (by
          rw [← HR.out, ← HNQ.out, ← HNN.out, ← HNU.out, ← HNR.out]; simp only [checkB, h0, h1, h2, Bool.true_and])
        clear h0 h1 h2
        obtain ⟨M, hM⟩ : ∃ M, max (max (max nq nn) nu) nr = M := ⟨_, rfl⟩
        have hmax := max4 nq nn nu nr
        rw [hM] at hmax
        have hMb : M ≤ 9223372036854775807 := by omega
        by_cases hbig : 65535 < M
        · obtain rfl : R = false := by rw [← HS.out, decide_eq_false (by omega)]; rfl
          have hbi : (65535 : Int) < (M : Int) := by omega
          clear hM hbig HS
          go_wp2_with fail
          refine (C2.out _).mono ?_
          rintro e w' ⟨rfl, rfl⟩
          go_wp2_with fail
          go_ret
          exact ⟨rfl, HBEL.out⟩
        · have HT : Hid ((m.qs.all rightQ && (m.an.all rightB && (m.au.all rightB && m.ar.all rightB))) = R) := Lib.hid (by rw [← HS.out, decide_eq_true (by omega)]; rfl)
          have hbi : (M : Int) ≤ 65535 := by omega
          clear hM hbig HS
          go_wp2_with fail
          refine (C2.out _).mono ?_
          rintro e w' ⟨rfl, rfl⟩
          go_wp2_with fail
          have HB0 := HBEL
          go_loopg [4, 44] (nq + 1) (fun gas _ kv wr => ∃ (k : Nat), kv = .int .i64 (k : Int) ∧ k ≤ nq ∧ k + gas = nq + 1 ∧ Hid ((m.qs.take k).all rightQ = true) ∧ Hid (Below w'.heap.size w' wr))
          case atStart => exact ⟨0, rfl, by omega, by omega, Lib.hid (by simp), Lib.hid (Below.refl _ _)⟩
          case round =>
            obtain ⟨k, rfl, hk, hkg, HA, HBr⟩ := hrel
            have HK := Lib.hid hkg; clear hkg
            by_cases hlt : k < nq
            · obtain ⟨x, hx⟩ : ∃ x, m.qs[k]? = some x := ⟨_, List.getElem?_eq_getElem (by have := HNQ.out; omega)⟩
              obtain ⟨g, o, hqa, hg, hat⟩ := at_q HM.out.q hx
              have HBw := Lib.hid (HBEL.out.trans (HBr.out.mono HBEL.out.size))
              obtain ⟨x0, x1, x2⟩ := hat.below HBw.out hg
              have HB1 := Lib.hid ((Below.refl wr.heap.size wr).alloc (Nat.le_refl _) (.cells #[.string x.n, .int .i64 x.t, .int .i64 x.c] 35))
              have CN := Lib.hid (check_all x.n (wr.alloc (.cells #[.string x.n, .int .i64 x.t, .int .i64 x.c] 35)))
              rw [chkE_isB] at CN
              have Ct := Lib.hid (fun w => in_any x.t 65535 w)
              have Cc := Lib.hid (fun w => in_any x.c 65535 w)
              have NO : rightQ x = false → false = R := fun h => by rw [← HT.out, all_no hx h]; rfl
              have NO := Lib.hid NO
              have YES : rightQ x = true → Hid ((m.qs.take (k + 1)).all rightQ = true) := fun h => Lib.hid (all_step hx h HA.out)
              have YES := Lib.hid YES
              have zl : (k : Int) < (nq : Int) := by omega
              have hpq : qa = some ⟨g, o, none⟩ := hqa
              clear hx hat hqa
              subst hpq
              go_wp2_with fail
              refine CN.out.mono ?_
              rintro e w1 ⟨rfl, hB1⟩
              obtain ⟨k0, k1, k2⟩ := q_cells hB1
              have HW1 := Lib.hid (HBr.out.trans ((HB1.out.trans (hB1.mono HB1.out.size)).mono HBr.out.size))
              clear hB1 HB1 CN x0 x1 x2
              cases hn : isB x.n with
              | false =>
                obtain rfl := NO.out (by simp [rightQ, hn])
                clear hn
                go_wp2_with fail
                go_ret
                exact ⟨rfl, HBEL.out.trans (HW1.out.mono HBEL.out.size)⟩
              | true =>
                cases ht : inB x.t 65535 with
                | false =>
                  obtain rfl := NO.out (by simp [rightQ, ht])
                  rw [ht] at Ct
                  clear hn ht
                  go_wp2_with fail
                  refine (Ct.out _).mono ?_
                  rintro e w2 ⟨rfl, rfl⟩
                  go_wp2_with fail
                  go_ret
                  exact ⟨rfl, HBEL.out.trans (HW1.out.mono HBEL.out.size)⟩
                | true =>
                  rw [ht] at Ct
                  cases hc : inB x.c 65535 with
                  | false =>
                    obtain rfl := NO.out (by simp [rightQ, hc])
                    rw [hc] at Cc
                    clear hn ht hc
                    go_wp2_with fail
                    refine (Ct.out _).mono ?_
                    rintro e w2 ⟨rfl, rfl⟩
                    go_wp2_with fail
                    refine (Cc.out _).mono ?_
                    rintro e w2 ⟨rfl, rfl⟩
                    go_wp2_with fail
                    go_ret
                    exact ⟨rfl, HBEL.out.trans (HW1.out.mono HBEL.out.size)⟩
                  | true =>
                    have HY := YES.out (by simp [rightQ, hn, ht, hc])
                    rw [hc] at Cc
                    clear hn ht hc
                    go_wp2_with fail
                    refine (Ct.out _).mono ?_
                    rintro e w2 ⟨rfl, rfl⟩
                    go_wp2_with fail
                    refine (Cc.out _).mono ?_
                    rintro e w2 ⟨rfl, rfl⟩
                    go_wp2_with fail
                    have hkg := HK.out
                    go_roundg (gk - 1)
                    case rel => exact ⟨k + 1, by go_num, by omega, by omega, HY, HW1⟩
                    case measure => omega
            · have HQ := Lib.hid (all_end (f := rightQ) (L := m.qs) (by have := HNQ.out; omega) HA.out)
              have HU : Hid ((m.an.all rightB && (m.au.all rightB && m.ar.all rightB)) = R) := Lib.hid (by rw [← HT.out, HQ.out]; rfl)
              have HBw := Lib.hid (HBEL.out.trans (HBr.out.mono HBEL.out.size))
              have d11 := (HBOX.out.below HBr.out HBOX.out.lt).c11
              have d12 := (HBOX.out.below HBr.out HBOX.out.lt).c12
              have d13 := (HBOX.out.below HBr.out HBOX.out.lt).c13
              dsimp only at d11 d12 d13
              rw [HNN.out] at d11
              rw [HNU.out] at d12
              rw [HNR.out] at d13
              clear HT HA
              go_wp2_with fail
              go_loopg [6, 8, 72] 4 (fun gas _ _ kv wq => ∃ (s : Nat), kv = .int .i64 (s : Int) ∧ s ≤ 3 ∧ s + gas = 4 ∧ Hid (∀ t, t < s → (secL m t).all rightB = true) ∧ Hid (Below w.heap.size w wq))
              case atStart => exact ⟨0, rfl, by omega, by omega, Lib.hid (fun t h => by omega), HBw⟩
              case round =>
                clear HBr HBw
                obtain ⟨s, rfl, hs, hsg, HA, HBq⟩ := hrel
                obtain ⟨gk', hgk'⟩ : ∃ g, g = gk := ⟨_, rfl⟩
                rw [← hgk'] at hsg
                have HSG := Lib.hid hsg; clear hsg
                by_cases hlt3 : s < 3
                · obtain ⟨a, c, hidx, hrd, hok, hlen⟩ := sec_at HM.out HO.out s hlt3
                  dsimp only at hidx
                  rw [HNN.out, HNU.out, HNR.out] at hidx
                  obtain ⟨L, hL⟩ : ∃ L, secL m s = L := ⟨_, rfl⟩
                  rw [hL] at hidx hrd hok hlen
                  obtain ⟨n, hn⟩ : ∃ n, L.length = n := ⟨_, rfl⟩
                  rw [hn] at hidx hlen
                  unfold maxLen at hlen
                  have HL := Lib.hid hL; have HRD := Lib.hid hrd; have HOK := Lib.hid hok; have HN := Lib.hid hn
                  have zs : (s : Int) < 3 := by omega
                  have NOL : L.all rightB = false → false = R := fun h => by
                    rw [← HU.out]
                    rw [← hL] at h
                    match s, hlt3 with
                    | 0, _ => simp only [secL] at h; rw [h]; rfl
                    | 1, _ => simp only [secL] at h; rw [h]; simp
                    | 2, _ => simp only [secL] at h; rw [h]; simp
                  have NOL := Lib.hid NOL
                  clear hL hrd hok hn hlt3
                  go_wp2_with fail
                  go_loopg [8, 77] (n + 1) (fun gas _ kv wq => ∃ (k : Nat), kv = .int .i64 (k : Int) ∧ k ≤ n ∧ k + gas = n + 1 ∧ Hid ((L.take k).all rightB = true) ∧ Hid (Below w.heap.size w wq))
                  case atStart => exact ⟨0, rfl, by omega, by omega, Lib.hid (by simp), HBq⟩
                  case round =>
                    clear HBq hidx
                    obtain ⟨k, rfl, hk, hkg, HAL, HBr⟩ := hrel
                    have HK := Lib.hid hkg; clear hkg
                    by_cases hlt : k < n
                    · obtain ⟨x, hx⟩ : ∃ x, L[k]? = some x := ⟨_, List.getElem?_eq_getElem (by have := HN.out; omega)⟩
                      obtain ⟨g, o, rfl, hg, hat⟩ := at_r HRD.out hx
                      obtain ⟨x0, x1, x2, x3, x4⟩ := hat.below HBr.out hg
                      have hox := HOK.out x (List.mem_of_getElem? hx)
                      have HB1 := Lib.hid ((Below.refl wr.heap.size wr).alloc (Nat.le_refl _) (.cells #[.string x.o, .int .i64 x.t, .int .i64 x.c, .int .i64 x.l, .string x.d] 43))
                      have CR := Lib.hid (fun w => right_any x w hox)
                      have NO : rightB x = false → false = R := fun h => NOL.out (all_no hx h)
                      have NO := Lib.hid NO
                      have YES : rightB x = true → Hid ((L.take (k + 1)).all rightB = true) := fun h => Lib.hid (all_step hx h HAL.out)
                      have YES := Lib.hid YES
                      have zl : (k : Int) < (n : Int) := by omega
                      clear hx hat hox
                      cases hb : rightB x with
                      | false =>
                        obtain rfl := NO.out hb
                        rw [hb] at CR
                        clear hb
                        go_wp2_with fail
                        refine (CR.out _).mono ?_
                        rintro e w1 ⟨rfl, hB1⟩
                        have HW1 := Lib.hid (HBr.out.trans ((HB1.out.trans (hB1.mono HB1.out.size)).mono HBr.out.size))
                        clear hB1
                        go_wp2_with fail
                        go_ret
                        exact ⟨rfl, HW1.out⟩
                      | true =>
                        have HY := YES.out hb
                        rw [hb] at CR
                        clear hb
                        go_wp2_with fail
                        refine (CR.out _).mono ?_
                        rintro e w1 ⟨rfl, hB1⟩
                        have HW1 := Lib.hid (HBr.out.trans ((HB1.out.trans (hB1.mono HB1.out.size)).mono HBr.out.size))
                        clear hB1
                        go_wp2_with fail
                        have hkg := HK.out
                        go_roundg (gk - 1)
                        case rel => exact ⟨k + 1, by go_num, by omega, by omega, HY, HW1⟩
                        case measure => omega
                    · have HALL := Lib.hid (all_end (f := rightB) (L := L) (by have := HN.out; omega) HAL.out)
                      have HA2 : Hid (∀ t, t < s + 1 → (secL m t).all rightB = true) := Lib.hid (fun t ht => by
                        by_cases h : t < s
                        · exact HA.out t h
                        · have : t = s := by omega
                          rw [this, HL.out]; exact HALL.out)
                      go_wp2_with fail
                      have hsg := HSG.out
                      go_roundg (gk' - 1)
                      case rel => exact ⟨s + 1, by go_num, by omega, by omega, HA2, HBr⟩
                      case measure => omega
                · have hTT : R = true := by
                    have h0 := HA.out 0 (by omega); have h1 := HA.out 1 (by omega); have h2 := HA.out 2 (by omega)
                    simp only [secL] at h0 h1 h2
                    rw [← HU.out, h0, h1, h2]; rfl
                  subst hTT
                  go_wp2_with fail
                  go_ret
                  exact ⟨rfl, HBq.out⟩
end Go.Proofs.YtnamkladeaohoaaGreat.wireC
namespace Go.Proofs.YtnamkladeaohoaaGreat.wpack
open Go.RowKit Go.Maps Go.Proofs.YtnamkladeaohoaaGreat.kit Go.Proofs.YtnamkladeaohoaaGreat.timed Go.Proofs.YtnamkladeaohoaaGreat.takes Go.Proofs.YtnamkladeaohoaaGreat.nspec Go.Proofs.YtnamkladeaohoaaGreat.rsplit Go.Proofs.YtnamkladeaohoaaGreat.check Go.Proofs.YtnamkladeaohoaaGreat.bits Go.Proofs.YtnamkladeaohoaaGreat.bld Go.Proofs.YtnamkladeaohoaaGreat.coded Go.Proofs.YtnamkladeaohoaaGreat.fld Go.Proofs.YtnamkladeaohoaaGreat.wireP Go.Proofs.YtnamkladeaohoaaGreat.wireR Go.Proofs.YtnamkladeaohoaaGreat.wireM Go.Proofs.YtnamkladeaohoaaGreat.wireC Go.Proofs.YtnamkladeaohoaaGreat.packP Go.Proofs.YtnamkladeaohoaaGreat.buf Go.Proofs.YtnamkladeaohoaaGreat.pname Go.Proofs.YtnamkladeaohoaaGreat.psmall Go.Proofs.YtnamkladeaohoaaGreat.fits Go.Proofs.YtnamkladeaohoaaGreat.pdata Go.Proofs.YtnamkladeaohoaaGreat.signs Go.Proofs.YtnamkladeaohoaaGreat.cloneB
set_option linter.unusedVariables false

theorem right_use {x : Rc} (h : rightB x = true) : (∃ ls, IsN x.o.data.toList ls) ∧ 0 ≤ x.l ∧ x.l ≤ 4294967295 ∧ x.d.size ≤ 65535 ∧ (x.d.size ≠ 0 → Fits (fieldsW x.t) x.d.data.toList) := by
  simp only [rightB, Bool.and_eq_true] at h
  obtain ⟨h1, h2, h3, h4, h5⟩ := h
  have hl : 0 ≤ x.l ∧ x.l ≤ 4294967295 := by simpa [inB] using h4
  refine ⟨?_, hl.1, hl.2, ?_, ?_⟩
  · rcases isB_or x.o with h | h
    · exact h
    · rw [isB_no h] at h1; cases h1
  · split at h5
    · simpa using h5
    · rcases Bool.or_eq_true _ _ ▸ h5 with h | h
      · simp only [emptyB, Bool.and_eq_true, decide_eq_true_eq] at h; omega
      · have h := of_decide_eq_true h
        unfold checkS at h
        split at h
        · omega
        split at h
        · omega
        · rw [← size_len]; omega
  · intro hd
    split at h5
    · rename_i h41
      have e : fieldsW x.t = [] := by rw [h41]; rfl
      rw [e]; trivial
    · rcases Bool.or_eq_true _ _ ▸ h5 with h | h
      · simp only [emptyB, Bool.and_eq_true, decide_eq_true_eq] at h; omega
      · exact fits_w (of_decide_eq_true h)
theorem check_use {m : Mg} (h : checkB m = true) : 0 ≤ m.op ∧ m.op ≤ 15 ∧ 0 ≤ m.rc ∧ m.rc ≤ 15 := by
  simp only [checkB, Bool.and_eq_true] at h
  have h1 : 0 ≤ m.op ∧ m.op ≤ 15 := by simpa [inB] using h.2.1
  have h2 : 0 ≤ m.rc ∧ m.rc ≤ 15 := by simpa [inB] using h.2.2.1
  exact ⟨h1.1, h1.2, h2.1, h2.2⟩
theorem check_len {m : Mg} (h : checkB m = true) : m.qs.length ≤ 65535 ∧ m.qs.all rightQ = true ∧ m.an.all rightB = true ∧ m.au.all rightB = true ∧ m.ar.all rightB = true := by
  simp only [checkB, Bool.and_eq_true] at h
  obtain ⟨_, _, _, h1, h2, h3, h4, h5⟩ := h
  exact ⟨(of_decide_eq_true h1).1, h2, h3, h4, h5⟩
theorem q_use {x : Qn} (h : rightQ x = true) : (∃ ls, IsN x.n.data.toList ls) := by
  simp only [rightQ, Bool.and_eq_true] at h
  rcases isB_or x.n with h1 | h1
  · exact h1
  · rw [isB_no h1] at h; cases h.1
theorem is_len {n : ByteArray} {ls : List Bs} (h : IsN n.data.toList ls) : n.size ≤ 255 := by rw [← size_len]; exact h.2.2
theorem nameP_few' {n : Bs} {ls : List Bs} (h : IsN n ls) {p : Pp} (hp : p.N.length ≤ p.out.length) : (nameP n p).N.length ≤ (nameP n p).out.length := by
  rw [h.1]; exact nameP_few ls p h.2.1 hp
theorem Pp.few_out {p : Pp} (l : Bs) (h : p.N.length ≤ p.out.length) : p.N.length ≤ (p.out ++ l).length := by rw [List.length_append]; omega
theorem u16_p (b0 B M : Nat) (v : Value) (p : Pp) (b : Int) (w : World) (h : Paper w b0 B M v p) (hl : p.out.length ≤ 1099511627776) :
    Calls Tryz.prog 114 #[.pointer (some ⟨B, 0, none⟩), .int .i64 b] w fun e w' => e = .returned (.tuple #[]) ∧ ∃ v', Paper w' b0 B M v' ⟨p.out ++ be2 b, p.N⟩ ∧ Eff b0 (Two B M) w w' :=
  (u16_any b0 B v _ p.out b w h.buf hl).mono fun e w' ⟨h1, v', h2, h3⟩ => ⟨h1, v', h.wrote h2 h3 (by simp), h3.wider (fun k hk => .inl hk)⟩
theorem u32_p (b0 B M : Nat) (v : Value) (p : Pp) (b : Int) (w : World) (h : Paper w b0 B M v p) (hl : p.out.length ≤ 549755813888) (hb0 : 0 ≤ b) (hb1 : b ≤ 4294967295) :
    Calls Tryz.prog 117 #[.pointer (some ⟨B, 0, none⟩), .int .i64 b] w fun e w' => e = .returned (.tuple #[]) ∧ ∃ v', Paper w' b0 B M v' ⟨p.out ++ be4 b, p.N⟩ ∧ Eff b0 (Two B M) w w' :=
  (u32_any b0 B v _ p.out b w h.buf hl hb0 hb1).mono fun e w' ⟨h1, v', h2, h3⟩ => ⟨h1, v', h.wrote h2 h3 (by simp), h3.wider (fun k hk => .inl hk)⟩
theorem _root_.Go.Proofs.YtnamkladeaohoaaGreat.pname.Paper.kept {w w1 : World} {b0 B M : Nat} {v : Value} {p : Pp} (h : Paper w b0 B M v p) (hB : Below w.heap.size w w1) : Paper w1 b0 B M v p := by
  obtain ⟨D, ⟨es, clock, hM, hrest⟩, hT⟩ := h.map
  exact ⟨h.buf.kept hB, ⟨D, ⟨es, clock, (hB.block M (Array.getElem?_eq_some_iff.1 hM).1).trans hM, hrest⟩, hT⟩, h.near, h.low, h.ne, h.few⟩
/-- a message's block -/
def MsgAt (w : World) (B : Nat) (p : Pl) (m : Mg) : Prop := w.heap[B]? = some (.cells (cellsM p m) 25 (0, 0))
theorem notU8_msg {c : Array Value} {f : Nat × Nat} : NotU8 (.cells c 25 f) := by
  intro cur f' e; injection e with _ e2 _; exact absurd e2 (by decide)
theorem notU8_sec {c : Array Value} {f : Nat × Nat} : NotU8 (.cells c 139 f) := by
  intro cur f' e; injection e with _ e2 _; exact absurd e2 (by decide)
theorem notU8_q {c : Array Value} {f : Nat × Nat} : NotU8 (.cells c 35 f) := by
  intro cur f' e; injection e with _ e2 _; exact absurd e2 (by decide)
theorem MsgAt.box {w : World} {B : Nat} {p : Pl} {m : Mg} (h : MsgAt w B p m) : BoxM w B p m := by
  have hl := (Array.getElem?_eq_some_iff.1 h).1
  have hb : w.heap[B]? = some (.cells #[.int .i64 m.id, .bool m.rs, .int .i64 m.op, .bool m.aa, .bool m.tc, .bool m.rd, .bool m.ra, .bool m.ad, .bool m.cd, .int .i64 m.rc, .slice p.qa m.qs.length p.qc, .slice p.na m.an.length p.nc, .slice p.ua m.au.length p.uc, .slice p.ra m.ar.length p.rc] 25 (0, 0)) := h
  constructor
  · exact hl
  all_goals (simp only [World.cell?, hb]; rfl)
theorem MsgAt.eff {w w1 : World} {b0 B : Nat} {T : Nat → Prop} {p : Pl} {m : Mg} (h : MsgAt w B p m) (he : Eff b0 T w w1) (hT : ¬ T B) : MsgAt w1 B p m := he.kept _ _ h notU8_msg hT
theorem MsgAt.below {w w1 : World} {B N : Nat} {p : Pl} {m : Mg} (h : MsgAt w B p m) (he : Below N w w1) (hl : B < N) : MsgAt w1 B p m := (he.block B hl).trans h
/-- the three lists' block -/
def SecAt (w : World) (S : Nat) (a b c : Value) : Prop := w.heap[S]? = some (.cells #[a, b, c] 139 (0, 0))
theorem SecAt.eff {w w1 : World} {b0 S : Nat} {T : Nat → Prop} {a b c : Value} (h : SecAt w S a b c) (he : Eff b0 T w w1) (hT : ¬ T S) : SecAt w1 S a b c := he.kept _ _ h notU8_sec hT
theorem SecAt.c {w : World} {S : Nat} {a b c : Value} (h : SecAt w S a b c) : w.cell? ⟨S, 0, none⟩ = some a ∧ w.cell? ⟨S, 1, none⟩ = some b ∧ w.cell? ⟨S, 2, none⟩ = some c := by
  unfold SecAt at h
  refine ⟨?_, ?_, ?_⟩ <;> (simp only [World.cell?, h]; rfl)
/-- the walk under way: paper, message, lists -/
structure Und (w1 wx : World) (b0 B M S : Nat) (p : Pl) (m : Mg) (v : Value) (q : Pp) : Prop where
  paper : Paper wx b0 B M v q
  eff : Eff b0 (Two B M) w1 wx
  msg : MsgAt wx b0 p m
  sec : SecAt wx S (.slice p.na m.an.length p.nc) (.slice p.ua m.au.length p.uc) (.slice p.ra m.ar.length p.rc)
  t0 : ¬ Two B M b0
  t1 : ¬ Two B M S
theorem Und.step {w1 wx wy : World} {b0 B M S : Nat} {p : Pl} {m : Mg} {v v' : Value} {q q' : Pp} (h : Und w1 wx b0 B M S p m v q) (hp : Paper wy b0 B M v' q') (he : Eff b0 (Two B M) wx wy) : Und w1 wy b0 B M S p m v' q' :=
  ⟨hp, h.eff.trans he, h.msg.eff he h.t0, h.sec.eff he h.t1, h.t0, h.t1⟩
theorem Und.low {w1 wx : World} {b0 B M S : Nat} {p : Pl} {m : Mg} {v : Value} {q : Pp} (h : Und w1 wx b0 B M S p m v q) : b0 ≤ wx.heap.size := by
  have := h.paper.buf.low; have := h.paper.buf.lt; omega
theorem Und.alloc {w1 wx : World} {b0 B M S : Nat} {p : Pl} {m : Mg} {v : Value} {q : Pp} (h : Und w1 wx b0 B M S p m v q) (o : Obj) : Und w1 (wx.alloc o) b0 B M S p m v q :=
  h.step (h.paper.alloc o) (Eff.of_below ((Below.refl _ _).alloc (Nat.le_refl _) _) h.low)
def QAt (w : World) (b : Nat) (x : Qn) : Prop := w.heap[b]? = some (.cells #[.string x.n, .int .i64 x.t, .int .i64 x.c] 35 (0, 0))
theorem QAt.eff {w w1 : World} {b0 b : Nat} {T : Nat → Prop} {x : Qn} (h : QAt w b x) (he : Eff b0 T w w1) (hT : ¬ T b) : QAt w1 b x := he.kept _ _ h notU8_q hT
theorem QAt.c {w : World} {b : Nat} {x : Qn} (h : QAt w b x) : w.cell? ⟨b, 0, none⟩ = some (.string x.n) ∧ w.cell? ⟨b, 1, none⟩ = some (.int .i64 x.t) ∧ w.cell? ⟨b, 2, none⟩ = some (.int .i64 x.c) := by
  unfold QAt at h
  refine ⟨?_, ?_, ?_⟩ <;> (simp only [World.cell?, h]; rfl)
def RAt (w : World) (b : Nat) (x : Rc) : Prop := w.heap[b]? = some (.cells #[.string x.o, .int .i64 x.t, .int .i64 x.c, .int .i64 x.l, .string x.d] 43 (0, 0))
theorem RAt.eff {w w1 : World} {b0 b : Nat} {T : Nat → Prop} {x : Rc} (h : RAt w b x) (he : Eff b0 T w w1) (hT : ¬ T b) : RAt w1 b x := he.kept _ _ h notU8_record hT
theorem RAt.c {w : World} {b : Nat} {x : Rc} (h : RAt w b x) : w.cell? ⟨b, 0, none⟩ = some (.string x.o) ∧ w.cell? ⟨b, 1, none⟩ = some (.int .i64 x.t) ∧ w.cell? ⟨b, 2, none⟩ = some (.int .i64 x.c) ∧ w.cell? ⟨b, 3, none⟩ = some (.int .i64 x.l) ∧ w.cell? ⟨b, 4, none⟩ = some (.string x.d) := by
  unfold RAt at h
  refine ⟨?_, ?_, ?_, ?_, ?_⟩ <;> (simp only [World.cell?, h]; rfl)
theorem _root_.Go.Proofs.YtnamkladeaohoaaGreat.pname.Paper.two {w : World} {b0 B M : Nat} {v : Value} {q : Pp} (h : Paper w b0 B M v q) : ¬ Two B M w.heap.size := by
  have h1 := h.buf.lt
  obtain ⟨D, ⟨es, clock, h2, _⟩, _⟩ := h.map
  have := (Array.getElem?_eq_some_iff.1 h2).1
  rintro (h | h) <;> omega
def secH (m : Mg) : Nat → Bs
  | 0 => []
  | s + 1 => secH m s ++ be2 ((secL m s).length : Int)
theorem secH_len (m : Mg) : ∀ s, (secH m s).length = 2 * s
  | 0 => rfl
  | s + 1 => by simp only [secH, List.length_append, secH_len m s, be2, List.length_cons, List.length_nil]; omega
def restL (m : Mg) : Nat → List Rc
  | 0 => m.an ++ m.au ++ m.ar
  | 1 => m.au ++ m.ar
  | 2 => m.ar
  | _ => []
theorem restL_step (m : Mg) (s : Nat) (h : s < 3) : restL m s = secL m s ++ restL m (s + 1) := by
  match s, h with
  | 0, _ => simp [restL, secL]
  | 1, _ => simp [restL, secL]
  | 2, _ => simp [restL, secL]
theorem dataP_few : ∀ (fs : List (Option Nat)) (d : Bs) (p : Pp), Fits fs d → p.N.length ≤ p.out.length → (dataP fs d p).N.length ≤ (dataP fs d p).out.length
  | [], d, p, _, h => by simp only [dataP, List.length_append]; omega
  | none :: fs, d, p, hf, h => by
    obtain ⟨ls, d', h1, h2, h3, h4⟩ := hf
    simp only [dataP]
    have e1 : d.take (nameSz d) = put ls := by rw [h3, nameSz_put ls d' h1, List.take_left]
    have e2 : d.drop (nameSz d) = d' := by rw [h3, nameSz_put ls d' h1, List.drop_left]
    rw [e1, e2]
    exact dataP_few fs d' _ h4 (nameP_few ls p h1 h)
  | some k :: fs, d, p, hf, h => by
    simp only [dataP]
    exact dataP_few fs _ _ hf.2 (by simp only [List.length_append]; omega)
/-- what the walk of a record's data leaves is what recP says -/
theorem recP_eq (x : Rc) (p : Pp) (q1 : Pp) (h : q1 = ⟨(nameP x.o.data.toList p).out ++ (be2 x.t ++ be2 x.c ++ be4 x.l), (nameP x.o.data.toList p).N⟩) :
    (⟨patch (dataP (if x.d.size = 0 then [] else fieldsW x.t) x.d.data.toList ⟨q1.out ++ [0, 0], q1.N⟩).out q1.out.length (((dataP (if x.d.size = 0 then [] else fieldsW x.t) x.d.data.toList ⟨q1.out ++ [0, 0], q1.N⟩).out.length : Int) - q1.out.length - 2), (dataP (if x.d.size = 0 then [] else fieldsW x.t) x.d.data.toList ⟨q1.out ++ [0, 0], q1.N⟩).N⟩ : Pp) = recP x p := by
  subst h
  unfold recP
  by_cases hd : x.d.size = 0
  · simp only [if_pos hd]
  · simp only [if_neg hd]
    rw [data_w]
theorem dataP_up : ∀ (fs : List (Option Nat)) (d : Bs) (p : Pp), (dataP fs d p).out.length ≤ p.out.length + d.length + 2 * fs.length
  | [], d, p => by simp [dataP]
  | none :: fs, d, p => by
    simp only [dataP]
    have h1 := dataP_up fs (d.drop (nameSz d)) (nameP (d.take (nameSz d)) p)
    have h2 := (nameF_len ((d.take (nameSz d)).length + 1) (d.take (nameSz d)) p).1
    rw [List.length_drop] at h1
    simp only [List.length_take] at h2
    unfold nameP at h1 ⊢
    simp only [List.length_take, List.length_cons] at h1 ⊢
    omega
  | some k :: fs, d, p => by
    simp only [dataP]
    have h1 := dataP_up fs (d.drop k) ⟨p.out ++ d.take k, p.N⟩
    simp only [List.length_drop, List.length_append, List.length_take, List.length_cons] at h1 ⊢
    omega
theorem patch_len (o : Bs) (k : Nat) (n : Int) : (patch o k n).length = o.length := by simp [patch]
theorem recP_len (x : Rc) (p : Pp) : p.out.length ≤ (recP x p).out.length := by
  unfold recP
  simp only [patch_len]
  refine Nat.le_trans ?_ (dataP_len _ _ _)
  have := (nameF_len (x.o.data.toList.length + 1) x.o.data.toList p).2
  simp only [List.length_append]
  unfold nameP; omega
def outG : Option Pp → Bs × Int
  | none => ([], 12)
  | some p => (p.out, 0)
theorem pack_out {m : Mg} (hc : checkB m = true) : packS m = outG (recsP (restL m 0) (m.qs.foldl (fun p x => quesP x p) ⟨headP m, []⟩)) := by
  unfold packS
  rw [if_neg (by rw [hc]; simp)]
  unfold packP restL
  cases recsP (m.an ++ m.au ++ m.ar) (m.qs.foldl (fun p x => quesP x p) ⟨headP m, []⟩) <;> rfl
theorem short_len (t : Int) : (shortL t).length ≤ 3 := by
  unfold shortL; (repeat' split) <;> simp
theorem recP_up (x : Rc) (p : Pp) (ho : x.o.size ≤ 255) (hd : x.d.size ≤ 65535) : (recP x p).out.length ≤ p.out.length + 70000 := by
  unfold recP
  simp only [patch_len]
  refine Nat.le_trans (dataP_up _ _ _) ?_
  have h := (nameF_len (x.o.data.toList.length + 1) x.o.data.toList p).1
  have hs : (if x.d.size = 0 then [] else shortL x.t).length ≤ 3 := by
    split
    · simp
    · exact short_len _
  simp only [size_len] at h
  unfold nameP
  simp only [List.length_append, be4, be2, List.length_cons, List.length_nil, size_len]
  omega
theorem recsP_big {q : Pp} (h : 65535 < q.out.length) : ∀ L, recsP L q = none
  | [] => by simp only [recsP, if_pos h]
  | x :: L => by simp only [recsP, if_pos h]
theorem recsP_go {q : Pp} {x : Rc} {L : List Rc} (h : ¬ 65535 < q.out.length) : recsP (x :: L) q = recsP L (recP x q) := by simp only [recsP, if_neg h]
theorem recP_few (x : Rc) (p : Pp) (h : rightB x = true) (hp : p.N.length ≤ p.out.length) : (recP x p).N.length ≤ (recP x p).out.length := by
  obtain ⟨⟨ls, hls⟩, _, _, _, hf⟩ := right_use h
  rw [← recP_eq x p _ rfl]
  simp only [patch_len]
  apply dataP_few
  · split
    · trivial
    · exact hf (by assumption)
  · have := nameP_few' hls hp
    simp only [List.length_append]; omega
theorem quesP_len (x : Qn) (p : Pp) : p.out.length ≤ (quesP x p).out.length ∧ (quesP x p).out.length ≤ p.out.length + x.n.size + 6 := by
  have := nameF_len (x.n.data.toList.length + 1) x.n.data.toList p
  rw [size_len] at this
  unfold quesP
  simp only [List.length_append, be2, List.length_cons, List.length_nil]
  unfold nameP; rw [size_len]; omega
theorem quesP_few (x : Qn) (p : Pp) (h : rightQ x = true) (hp : p.N.length ≤ p.out.length) : (quesP x p).N.length ≤ (quesP x p).out.length := by
  obtain ⟨ls, hls⟩ := q_use h
  have := nameP_few' hls hp
  unfold quesP
  simp only [List.length_append]; omega
theorem own_base {w : World} {b base : Nat} {e : TypeId} {size : Nat} {v : Value} {n : Nat} {xs : List Value} (hb : b ≤ base) (h : w.ownsRow base e size v n xs) : w.ownsRow b e size v n xs := by
  refine ⟨h.1, ?_⟩
  rcases h.2 with h1 | ⟨g, cap, cur, h1, h2, h3, h4⟩
  · exact .inl h1
  · exact .inr ⟨g, cap, cur, h1, by omega, h3, h4⟩
theorem paper_made (w : World) (b0 : Nat) (h : b0 ≤ w.heap.size) : Paper ((w.alloc (.map #[] 0)).alloc (.cells #[.slice none 0 0, .map (some w.heap.size)] 144)) b0 (w.heap.size + 1) w.heap.size (.slice none 0 0) ⟨[], []⟩ := by
  have hsz : (w.alloc (.map #[] 0)).heap.size = w.heap.size + 1 := by simp
  have hb := heap_alloc_new (w.alloc (.map #[] 0)) (.cells #[.slice none 0 0, .map (some w.heap.size)] 144)
  rw [hsz] at hb
  exact ⟨⟨hb, World.ownsRow_nil _ _ _ _, by omega⟩, ⟨.map [], (World.ownsMap_made w _ _ _).alloc _, Tied.nil⟩, Near.nil, h, by omega, by simp⟩

set_option maxRecDepth 100000 in
set_option maxHeartbeats 8000000 in
theorem wpack_any (p : Pl) (m : Mg) (w : World) (hm : RdM w p m) (ho : OkW m) :
    Calls Tryz.prog 33 #[.agg #[.int .i64 m.id, .bool m.rs, .int .i64 m.op, .bool m.aa, .bool m.tc, .bool m.rd, .bool m.ra, .bool m.ad, .bool m.cd, .int .i64 m.rc, .slice p.qa m.qs.length p.qc, .slice p.na m.an.length p.nc, .slice p.ua m.au.length p.uc, .slice p.ra m.ar.length p.rc]] w fun e w' =>
      ∃ v, e = .returned (.tuple #[v, .int .i64 (packS m).2]) ∧ w'.ownsRow w.heap.size 5 1 v (packS m).1.length (Lib.byteCells (packS m).1) ∧ Below w.heap.size w w' := by
  have CK := Lib.hid (fun w hm => wcheck_any p m w hm ho)
  have HM := Lib.hid hm; have HO := Lib.hid ho
  have hbox := BoxM.fresh w 25 _ rfl p m
  obtain ⟨P, hP⟩ : ∃ P, P = p := ⟨_, rfl⟩
  have HPP := Lib.hid hP
  obtain ⟨qa, qc, na, nc, ua, uc, ra, rcc⟩ := p
  dsimp only at hbox CK ⊢
  have hbel := (Below.refl w.heap.size w).alloc (Nat.le_refl _) (.cells #[.int .i64 m.id, .bool m.rs, .int .i64 m.op, .bool m.aa, .bool m.tc, .bool m.rd, .bool m.ra, .bool m.ad, .bool m.cd, .int .i64 m.rc, .slice qa m.qs.length qc, .slice na m.an.length nc, .slice ua m.au.length uc, .slice ra m.ar.length rcc] 25)
  obtain ⟨R, HR⟩ : ∃ R, Hid (packS m = R) := ⟨_, Lib.hid rfl⟩
  rw [HR.out]
  clear hm ho hP
  go_enter Tryz.func33, Tryz.ntmps33
  go_upto_region 1 with (fail)
  have HMSG0 : Hid (MsgAt (w.alloc (.cells #[.int .i64 m.id, .bool m.rs, .int .i64 m.op, .bool m.aa, .bool m.tc, .bool m.rd, .bool m.ra, .bool m.ad, .bool m.cd, .int .i64 m.rc, .slice qa m.qs.length qc, .slice na m.an.length nc, .slice ua m.au.length uc, .slice ra m.ar.length rcc] 25)) w.heap.size ⟨qa, qc, na, nc, ua, uc, ra, rcc⟩ m) := Lib.hid (heap_alloc_new _ _)
  obtain ⟨w0, hw0⟩ : ∃ w0, w.alloc (.cells #[.int .i64 m.id, .bool m.rs, .int .i64 m.op, .bool m.aa, .bool m.tc, .bool m.rd, .bool m.ra, .bool m.ad, .bool m.cd, .int .i64 m.rc, .slice qa m.qs.length qc, .slice na m.an.length nc, .slice ua m.au.length uc, .slice ra m.ar.length rcc] 25) = w0 := ⟨_, rfl⟩
  rw [hw0] at hbox hbel HMSG0 ⊢
  have HBOX := Lib.hid hbox; have HBEL := Lib.hid hbel
  have b0 := hbox.c0; have b1 := hbox.c1; have b2 := hbox.c2; have b3 := hbox.c3; have b4 := hbox.c4; have b5 := hbox.c5; have b6 := hbox.c6; have b7 := hbox.c7; have b8 := hbox.c8; have b9 := hbox.c9; have b10 := hbox.c10; have b11 := hbox.c11; have b12 := hbox.c12; have b13 := hbox.c13
  dsimp only at b10 b11 b12 b13
  have CK1 := Lib.hid (CK.out w0 (HM.out.below hbel rfl))
  clear hbox hbel hw0 CK
  by_cases hc : checkB m = true
  · have hcE : (if checkB m then (0 : Int) else 8) = 0 := by rw [if_pos hc]
    rw [hcE] at CK1
    go_wp2_with fail
    refine CK1.out.mono ?_
    rintro e w1 ⟨rfl, hB1⟩
    have HMSG := Lib.hid (HMSG0.out.below hB1 HBOX.out.lt)
    have HB1 := Lib.hid (HBEL.out.trans (hB1.mono HBEL.out.size))
    clear b0 b1 b2 b3 b4 b5 b6 b7 b8 b9 b10 b11 b12 b13
    have hmm := @run_makeMap Tryz.prog
    have hw01 : w.heap.size < w1.heap.size := Nat.lt_of_lt_of_le HBOX.out.lt hB1.size
    have hpk := paper_made w1 w.heap.size (by omega)
    have HE1 : Hid (Eff w.heap.size (Two (w1.heap.size + 1) w1.heap.size) w1 ((w1.alloc (.map #[] 0)).alloc (.cells #[.slice none 0 0, .map (some w1.heap.size)] 144))) := Lib.hid (Eff.of_below (((Below.refl _ _).alloc (Nat.le_refl _) _).alloc (by simp) _) (by omega))
    clear hB1
    go_upto_region 4 with (fail)
    obtain ⟨w2, hw2⟩ : ∃ w2, (w1.alloc (.map #[] 0)).alloc (.cells #[.slice none 0 0, .map (some w1.heap.size)] 144) = w2 := ⟨_, rfl⟩
    rw [hw2] at hpk HE1 ⊢
    obtain ⟨M, hM⟩ : ∃ M, w1.heap.size = M := ⟨_, rfl⟩
    rw [hM] at hpk HE1 hw01 ⊢
    obtain ⟨B, hB⟩ : ∃ B, M + 1 = B := ⟨_, rfl⟩
    rw [hB] at hpk HE1 ⊢
    have HT : Hid (¬ Two B M w.heap.size) := Lib.hid (by rintro (h | h) <;> omega)
    have HMS := Lib.hid (HMSG.out.eff HE1.out HT.out)
    have hx := HMS.out.box
    have b0 := hx.c0
    have C0 := Lib.hid (u16_p w.heap.size B M _ ⟨[], []⟩ m.id w2 hpk (by simp))
    clear hx hw2 hpk hM
    go_wp2_with fail
    refine C0.out.mono ?_
    rintro e w3 ⟨rfl, v3, hp3, he3⟩
    have HMS3 := Lib.hid (HMS.out.eff he3 HT.out)
    have HE3 := Lib.hid (HE1.out.trans he3)
    have HP3 := Lib.hid hp3
    have hx := HMS3.out.box
    have b0 := hx.c0; have b1 := hx.c1; have b2 := hx.c2; have b3 := hx.c3; have b4 := hx.c4; have b5 := hx.c5; have b6 := hx.c6; have b7 := hx.c7; have b8 := hx.c8; have b9 := hx.c9; have b10 := hx.c10; have b11 := hx.c11; have b12 := hx.c12; have b13 := hx.c13
    dsimp only at b10 b11 b12 b13
    have hck := check_use hc
    have CS := Lib.hid (signs_any P m w3 hck.1 hck.2.1 hck.2.2.1 hck.2.2.2)
    rw [HPP.out] at CS
    clear hx hp3 he3 hck
    go_wp2_with fail
    refine CS.out.mono ?_
    rintro e w4 ⟨rfl, hB4⟩
    have HP4 := Lib.hid (HP3.out.kept hB4)
    have HE4 := Lib.hid (HE3.out.trans (Eff.of_below hB4 (by have := HP3.out.buf.low; have := HP3.out.buf.lt; omega)))
    have HMS4 := Lib.hid (HMS3.out.below hB4 HMS3.out.box.lt)
    have C4 := Lib.hid (u16_p w.heap.size B M _ _ (signsV m) w4 HP4.out (by simp [be2]))
    clear hB4 b0 b1 b2 b3 b4 b5 b6 b7 b8 b9 b10 b11 b12 b13
    go_wp2_with fail
    refine C4.out.mono ?_
    rintro e w5 ⟨rfl, v5, hp5, he5⟩
    have HMS5 := Lib.hid (HMS4.out.eff he5 HT.out)
    have HE5 := Lib.hid (HE4.out.trans he5)
    have HP5 := Lib.hid hp5
    have hx := HMS5.out.box
    have b10 := hx.c10; have b11 := hx.c11; have b12 := hx.c12; have b13 := hx.c13
    dsimp only at b10 b11 b12 b13
    clear hx hp5 he5
    go_upto_region 7 with (fail)
    have HU6 : Hid (Und w1 (w5.alloc (.cells #[.slice na m.an.length nc, .slice ua m.au.length uc, .slice ra m.ar.length rcc] 139)) w.heap.size B M w5.heap.size ⟨qa, qc, na, nc, ua, uc, ra, rcc⟩ m v5 ⟨[] ++ be2 m.id ++ be2 (signsV m), []⟩) := Lib.hid (by
      have h0 := HP5.out.buf.lt
      have h1 := HP5.out.map
      exact ⟨HP5.out.alloc _, HE5.out.alloc _ (by have := HP5.out.buf.low; omega), HMS5.out.below ((Below.refl _ _).alloc (Nat.le_refl _) _) HMS5.out.box.lt, heap_alloc_new _ _, HT.out, by
        rintro (h | h)
        · omega
        · obtain ⟨D, ⟨es, clock, h2, _⟩, _⟩ := h1
          have := (Array.getElem?_eq_some_iff.1 h2).1
          omega⟩)
    obtain ⟨S, hS⟩ : ∃ S, w5.heap.size = S := ⟨_, rfl⟩
    rw [hS] at HU6 ⊢
    obtain ⟨w6, hw6⟩ : ∃ w6, w5.alloc (.cells #[.slice na m.an.length nc, .slice ua m.au.length uc, .slice ra m.ar.length rcc] 139) = w6 := ⟨_, rfl⟩
    rw [hw6] at HU6 ⊢
    clear hw6 hS b10 b11 b12 b13
    have HCL := Lib.hid (check_len hc)
    have HB0 := HB1
    have hx := HU6.out.msg.box
    have b10 := hx.c10
    dsimp only at b10
    have C6 := Lib.hid (u16_p w.heap.size B M _ _ (m.qs.length : Int) w6 HU6.out.paper (by simp [be2]))
    clear hx
    go_wp2_with fail
    refine C6.out.mono ?_
    rintro e w7 ⟨rfl, v7, hp7, he7⟩
    have HU7 := Lib.hid (HU6.out.step hp7 he7)
    obtain ⟨s0, s1, s2⟩ := HU7.out.sec.c
    (try dsimp only at s0 s1 s2)
    clear hp7 he7 b10
    go_wp2_with fail
    obtain ⟨H, hH⟩ : ∃ H, [] ++ be2 m.id ++ be2 (signsV m) ++ be2 (m.qs.length : Int) = H := ⟨_, rfl⟩
    have hHl : H.length = 6 := by rw [← hH]; rfl
    (try dsimp only at HU7)
    rw [hH] at HU7
    go_loopg [7, 40] 4 (fun gas _ kv wr => ∃ (s : Nat) (v : Value), kv = .int .i64 (s : Int) ∧ s ≤ 3 ∧ s + gas = 4 ∧ Hid (Und w1 wr w.heap.size B M S ⟨qa, qc, na, nc, ua, uc, ra, rcc⟩ m v ⟨H ++ secH m s, []⟩))
    case atStart => exact ⟨0, v7, rfl, by omega, by omega, by simp only [secH, List.append_nil]; exact HU7⟩
    case round =>
      obtain ⟨s, v, rfl, hs, hsg, HU⟩ := hrel
      by_cases hlt3 : s < 3
      · obtain ⟨a, c, hidx, _, _, hlen⟩ := sec_at HM.out HO.out s hlt3
        dsimp only at hidx
        have CU := Lib.hid (u16_p w.heap.size B M _ _ ((secL m s).length : Int) wr HU.out.paper (by simp only [List.length_append, secH_len]; omega))
        have HU2 : Hid (∀ wy v', Paper wy w.heap.size B M v' ⟨H ++ secH m s ++ be2 ((secL m s).length : Int), []⟩ → Eff w.heap.size (Two B M) wr wy → Hid (Und w1 wy w.heap.size B M S ⟨qa, qc, na, nc, ua, uc, ra, rcc⟩ m v' ⟨H ++ secH m (s + 1), []⟩)) := Lib.hid (fun wy v' hp he => Lib.hid (HU.out.step (by simp only [secH]; rw [← List.append_assoc]; exact hp) he))
        have zs : (s : Int) < 3 := by omega
        obtain ⟨n, hn⟩ : ∃ n, (secL m s).length = n := ⟨_, rfl⟩
        rw [hn] at hidx CU HU2 hlen
        unfold maxLen at hlen
        clear hn hlt3
        go_wp2_with fail
        refine CU.out.mono ?_
        rintro e w8 ⟨rfl, v8, hp8, he8⟩
        have HU8 := HU2.out w8 v8 hp8 he8
        clear hp8 he8
        go_wp2_with fail
        go_roundg (gk - 1)
        case rel => exact ⟨s + 1, v8, by go_num, by omega, by omega, HU8⟩
        case measure => omega
      · have hs3 : s = 3 := by omega
        subst hs3
        have hhead : H ++ secH m 3 = headP m := by
          rw [← hH]; simp only [secH, secL, headP]; simp only [List.nil_append, List.append_assoc]
        rw [hhead] at HU
        have hx := HU.out.msg.box
        have b10 := hx.c10
        dsimp only at b10
        clear hx hhead hH hHl s0 s1 s2
        obtain ⟨nq, hnq⟩ : ∃ nq, m.qs.length = nq := ⟨_, rfl⟩
        rw [hnq] at b10
        have HNQ := Lib.hid hnq
        have hqb : nq ≤ 65535 := by rw [← hnq]; exact HCL.out.1
        clear hnq
        go_wp2_with fail
        go_loopg [9, 51] (nq + 1) (fun gas _ kv wr => ∃ (k : Nat) (v : Value) (q : Pp), kv = .int .i64 (k : Int) ∧ k ≤ nq ∧ k + gas = nq + 1 ∧ Hid (12 ≤ q.out.length ∧ q.out.length ≤ 12 + 300 * k ∧ q.N.length ≤ q.out.length) ∧ Hid ((m.qs.drop k).foldl (fun p x => quesP x p) q = m.qs.foldl (fun p x => quesP x p) ⟨headP m, []⟩) ∧ Hid (Und w1 wr w.heap.size B M S ⟨qa, qc, na, nc, ua, uc, ra, rcc⟩ m v q))
        case atStart => exact ⟨0, v, ⟨headP m, []⟩, rfl, by omega, by omega, Lib.hid ⟨by simp [headP, be2], by simp [headP, be2], by simp⟩, Lib.hid (by simp), HU⟩
        case round =>
          clear HU
          obtain ⟨k, v, q, rfl, hk, hkg, HQ, HF, HU⟩ := hrel
          have HK := Lib.hid hkg; clear hkg
          by_cases hlt : k < nq
          · obtain ⟨x, hx⟩ : ∃ x, m.qs[k]? = some x := ⟨_, List.getElem?_eq_getElem (by have := HNQ.out; omega)⟩
            obtain ⟨g, o, hqa, hg, hat⟩ := at_q HM.out.q hx
            obtain ⟨x0, x1, x2⟩ := (hat.below HB1.out hg).below HU.out.eff.to_below hg
            have hrx := List.all_eq_true.1 HCL.out.2.1 x (List.mem_of_getElem? hx)
            obtain ⟨ls, hls⟩ := q_use hrx
            have hq := HQ.out
            have HUA := Lib.hid (HU.out.alloc (.cells #[.string x.n, .int .i64 x.t, .int .i64 x.c] 35))
            have CN := Lib.hid (pname_any w.heap.size B M v q x.n ls _ HUA.out.paper hls (by omega) hq.2.2)
            have HX := Lib.hid hx
            have HRX := Lib.hid hrx
            have HLS := Lib.hid hls
            have zl : (k : Int) < (nq : Int) := by omega
            have hpq : qa = some ⟨g, o, none⟩ := hqa
            have HTW := Lib.hid HU.out.paper.two
            have HQA : Hid (QAt (wr.alloc (.cells #[.string x.n, .int .i64 x.t, .int .i64 x.c] 35)) wr.heap.size x) := Lib.hid (heap_alloc_new _ _)
            have HLN : Hid (x.n.size ≤ 255) := Lib.hid (is_len hls)
            have hnl := nameF_len (x.n.data.toList.length + 1) x.n.data.toList q
            rw [size_len] at hnl
            have HNL : Hid ((nameP x.n.data.toList q).out.length ≤ q.out.length + 257) := Lib.hid (by have := HLN.out; unfold nameP; rw [size_len]; omega)
            clear hnl
            clear hx hat hqa hrx hls hq
            subst hpq
            go_wp2_with fail
            refine CN.out.mono ?_
            rintro e w8 ⟨rfl, v8, hp8, he8⟩
            have HU8 := Lib.hid (HUA.out.step hp8 he8)
            have HQ8 := Lib.hid (HQA.out.eff he8 HTW.out)
            obtain ⟨y0, y1, y2⟩ := HQ8.out.c
            have C8 := Lib.hid (u16_p w.heap.size B M _ _ x.t w8 HU8.out.paper (by have := HNL.out; have := HQ.out; omega))
            clear hp8 he8 x0 x1 x2
            go_wp2_with fail
            refine C8.out.mono ?_
            rintro e w9 ⟨rfl, v9, hp9, he9⟩
            have HU9 := Lib.hid (HU8.out.step hp9 he9)
            have HQ9 := Lib.hid (HQ8.out.eff he9 HTW.out)
            obtain ⟨y0, y1, y2⟩ := HQ9.out.c
            have C9 := Lib.hid (u16_p w.heap.size B M _ _ x.c w9 HU9.out.paper (by simp only [List.length_append, be2, List.length_cons, List.length_nil]; have := HNL.out; have := HQ.out; omega))
            clear hp9 he9
            go_wp2_with fail
            refine C9.out.mono ?_
            rintro e w10 ⟨rfl, v10, hp10, he10⟩
            have HU10 := Lib.hid (HU9.out.step hp10 he10)
            clear hp10 he10
            go_wp2_with fail
            have hkg := HK.out
            have hqe : (⟨(nameP x.n.data.toList q).out ++ be2 x.t ++ be2 x.c, (nameP x.n.data.toList q).N⟩ : Pp) = quesP x q := by
              simp only [quesP, List.append_assoc]
            (try dsimp only at HU10)
            rw [hqe] at HU10
            go_roundg (gk - 1)
            case rel => exact ⟨k + 1, v10, quesP x q, by go_num, by omega, by omega, Lib.hid (by have h1 := quesP_len x q; have h2 := HQ.out; have h3 := HLN.out; exact ⟨by omega, by omega, quesP_few x q HRX.out h2.2.2⟩), Lib.hid (by have h := HF.out; rw [List.drop_eq_getElem?_toList_append, HX.out] at h; exact h), HU10⟩
            case measure => omega
          · have hkq : k = nq := by omega
            obtain ⟨G, hG⟩ : ∃ G, recsP (restL m 0) (m.qs.foldl (fun p x => quesP x p) ⟨headP m, []⟩) = G := ⟨_, rfl⟩
            have HG : Hid (recsP (restL m 0) q = G) := Lib.hid (by
              have h := HF.out
              rw [List.drop_of_length_le (by have := HNQ.out; omega)] at h
              simp only [List.foldl_nil] at h
              rw [h]; exact hG)
            have HPS : Hid (R = outG G) := Lib.hid (by rw [← HR.out, ← hG]; exact pack_out hc)
            obtain ⟨s0, s1, s2⟩ := HU.out.sec.c
            (try dsimp only at s0 s1 s2)
            have HQ1 : Hid (12 ≤ q.out.length ∧ q.out.length ≤ 1099511627776 ∧ q.N.length ≤ q.out.length) := Lib.hid (by have := HQ.out; exact ⟨by omega, by omega, this.2.2⟩)
            clear hG HF HQ hlt
            subst hkq
            go_wp2_with fail
            go_loopg [11, 13, 68] 4 (fun gas _ _ kv wr => ∃ (s : Nat) (v : Value) (q : Pp), kv = .int .i64 (s : Int) ∧ s ≤ 3 ∧ s + gas = 4 ∧ Hid (12 ≤ q.out.length ∧ q.out.length ≤ 1099511627776 ∧ q.N.length ≤ q.out.length) ∧ Hid (recsP (restL m s) q = G) ∧ Hid (Und w1 wr w.heap.size B M S ⟨qa, qc, na, nc, ua, uc, ra, rcc⟩ m v q))
            case atStart => exact ⟨0, v, q, rfl, by omega, by omega, HQ1, HG, HU⟩
            case round =>
              clear HU HG HQ1 s0 s1 s2
              obtain ⟨s, v, q, rfl, hs, hsg, HQ, HG, HU⟩ := hrel
              obtain ⟨gk', hgk'⟩ : ∃ g, g = gk := ⟨_, rfl⟩
              rw [← hgk'] at hsg
              have HSG := Lib.hid hsg; clear hsg
              by_cases hlt3 : s < 3
              · obtain ⟨a, c, hidx, hrd, hok, hlen⟩ := sec_at HM.out HO.out s hlt3
                dsimp only at hidx
                have hr := restL_step m s hlt3
                obtain ⟨L, hL⟩ : ∃ L, secL m s = L := ⟨_, rfl⟩
                have hall : L.all rightB = true := by
                  rw [← hL]
                  have h := HCL.out.2.2
                  match s, hlt3 with
                  | 0, _ => exact h.1
                  | 1, _ => exact h.2.1
                  | 2, _ => exact h.2.2
                rw [hL] at hidx hrd hok hlen hr
                obtain ⟨n, hn⟩ : ∃ n, L.length = n := ⟨_, rfl⟩
                rw [hn] at hidx hlen
                unfold maxLen at hlen
                rw [hr] at HG
                have HL := Lib.hid hL; have HRD := Lib.hid hrd; have HN := Lib.hid hn; have HALL := Lib.hid hall
                obtain ⟨T, hT⟩ : ∃ T, restL m (s + 1) = T := ⟨_, rfl⟩
                rw [hT] at HG
                have HTT := Lib.hid hT
                have zs : (s : Int) < 3 := by omega
                clear hL hrd hok hn hlt3 hall hr hT
                go_wp2_with fail
                go_loopg [13, 73] (n + 1) (fun gas _ kv wq => ∃ (k : Nat) (v : Value) (q : Pp), kv = .int .i64 (k : Int) ∧ k ≤ n ∧ k + gas = n + 1 ∧ Hid (12 ≤ q.out.length ∧ q.out.length ≤ 1099511627776 ∧ q.N.length ≤ q.out.length) ∧ Hid (recsP (L.drop k ++ T) q = G) ∧ Hid (Und w1 wq w.heap.size B M S ⟨qa, qc, na, nc, ua, uc, ra, rcc⟩ m v q))
                case atStart => exact ⟨0, v, q, rfl, by omega, by omega, HQ, by rw [List.drop_zero]; exact HG, HU⟩
                case round =>
                  clear HU HG HQ hidx
                  obtain ⟨k, v, q, rfl, hk, hkg, HQ, HG, HU⟩ := hrel
                  have HK := Lib.hid hkg; clear hkg
                  by_cases hlt : k < n
                  · obtain ⟨x, hx⟩ : ∃ x, L[k]? = some x := ⟨_, List.getElem?_eq_getElem (by have := HN.out; omega)⟩
                    obtain ⟨g, o, rfl, hg, hat⟩ := at_r HRD.out hx
                    obtain ⟨x0, x1, x2, x3, x4⟩ := (hat.below HB1.out hg).below HU.out.eff.to_below hg
                    have hrx := List.all_eq_true.1 HALL.out x (List.mem_of_getElem? hx)
                    obtain ⟨⟨ls, hls⟩, hl0, hl1, hds, hfit⟩ := right_use hrx
                    have hq := HQ.out
                    have HUA := Lib.hid (HU.out.alloc (.cells #[.string x.o, .int .i64 x.t, .int .i64 x.c, .int .i64 x.l, .string x.d] 43))
                    have HRA : Hid (RAt (wr.alloc (.cells #[.string x.o, .int .i64 x.t, .int .i64 x.c, .int .i64 x.l, .string x.d] 43)) wr.heap.size x) := Lib.hid (heap_alloc_new _ _)
                    have HTW := Lib.hid HU.out.paper.two
                    obtain ⟨va, vc, rfl⟩ := HU.out.paper.open
                    have hk0 := HUA.out.paper.c0
                    have hg' : recsP (x :: (L.drop (k + 1) ++ T)) q = G := by
                      have h := HG.out
                      rw [List.drop_eq_getElem?_toList_append, hx] at h
                      exact h
                    obtain ⟨O, hO⟩ : ∃ O, q.out.length = O := ⟨_, rfl⟩
                    have zl : (k : Int) < (n : Int) := by omega
                    by_cases hbig : 65535 < O
                    · have hRv : R = ([], 12) := by
                        have h := HPS.out
                        rw [← hg', recsP_big (by rw [hO]; exact hbig)] at h
                        exact h
                      have hbi : (65535 : Int) < (O : Int) := by omega
                      rw [hO] at hk0
                      have HEF := Lib.hid (HB1.out.trans (HUA.out.eff.to_below.mono (Nat.le_refl _)))
                      clear hg' hq hrx hls hfit hx hat hbig HUA HRA
                      subst hRv
                      go_wp2_with fail
                      go_ret2
                      exact ⟨_, rfl, World.ownsRow_nil _ _ _ _, HEF.out⟩
                    · have hbi : (O : Int) ≤ 65535 := by omega
                      have HG2 : Hid (recsP (L.drop (k + 1) ++ T) (recP x q) = G) := Lib.hid (by
                        rw [← hg', recsP_go (by rw [hO]; exact hbig)])
                      have CN := Lib.hid (pname_any w.heap.size B M _ q x.o ls _ HUA.out.paper hls (by omega) hq.2.2)
                      have hnl := nameF_len (x.o.data.toList.length + 1) x.o.data.toList q
                      rw [size_len] at hnl
                      have hol := is_len hls
                      have HNL : Hid ((nameP x.o.data.toList q).out.length ≤ O + 257) := Lib.hid (by unfold nameP; rw [size_len]; omega)
                      have HNF := Lib.hid (nameP_few' hls hq.2.2)
                      have HRF : Hid (12 ≤ (recP x q).out.length ∧ (recP x q).out.length ≤ 1099511627776 ∧ (recP x q).N.length ≤ (recP x q).out.length) := Lib.hid ⟨by have := recP_len x q; omega, by have := recP_up x q hol hds; omega, recP_few x q hrx hq.2.2⟩
                      have HFIT := Lib.hid hfit
                      rw [hO] at hk0
                      have HOO := Lib.hid hO
                      clear hg' hq hrx hls hfit hx hat hbig hnl hO
                      go_wp2_with fail
                      refine CN.out.mono ?_
                      rintro e w8 ⟨rfl, v8, hp8, he8⟩
                      have HU8 := Lib.hid (HUA.out.step hp8 he8)
                      have HR8 := Lib.hid (HRA.out.eff he8 HTW.out)
                      obtain ⟨y0, y1, y2, y3, y4⟩ := HR8.out.c
                      have C8 := Lib.hid (u16_p w.heap.size B M _ _ x.t w8 HU8.out.paper (by have := HNL.out; omega))
                      clear hp8 he8 x0 x1 x2 x3 x4 hk0
                      go_wp2_with fail
                      refine C8.out.mono ?_
                      rintro e w9 ⟨rfl, v9, hp9, he9⟩
                      have HU9 := Lib.hid (HU8.out.step hp9 he9)
                      have HR9 := Lib.hid (HR8.out.eff he9 HTW.out)
                      have C9 := Lib.hid (u16_p w.heap.size B M _ _ x.c w9 HU9.out.paper (by simp only [List.length_append, be2, List.length_cons, List.length_nil]; have := HNL.out; omega))
                      clear hp9 he9 y0 y1 y2 y3 y4
                      obtain ⟨y0, y1, y2, y3, y4⟩ := HR9.out.c
                      go_wp2_with fail
                      refine C9.out.mono ?_
                      rintro e w10 ⟨rfl, v10, hp10, he10⟩
                      have HU10 := Lib.hid (HU9.out.step hp10 he10)
                      have HR10 := Lib.hid (HR9.out.eff he10 HTW.out)
                      have C10 := Lib.hid (u32_p w.heap.size B M _ _ x.l w10 HU10.out.paper (by simp only [List.length_append, be2, List.length_cons, List.length_nil]; have := HNL.out; omega) hl0 hl1)
                      clear hp10 he10 y0 y1 y2 y3 y4
                      obtain ⟨y0, y1, y2, y3, y4⟩ := HR10.out.c
                      go_wp2_with fail
                      refine C10.out.mono ?_
                      rintro e w11 ⟨rfl, v11, hp11, he11⟩
                      have HU11 := Lib.hid (HU10.out.step hp11 he11)
                      have HR11 := Lib.hid (HR10.out.eff he11 HTW.out)
                      have C11 := Lib.hid (pdata_any w.heap.size B M _ _ x w11 HU11.out.paper (by simp only [List.length_append, be2, be4, List.length_cons, List.length_nil]; have := HNL.out; omega) (by simp only [List.length_append]; have := HNF.out; omega) hds HFIT.out)
                      rw [recP_eq x q _ (by simp only [List.append_assoc])] at C11
                      clear hp11 he11 y0 y1 y2 y3 y4
                      obtain ⟨y0, y1, y2, y3, y4⟩ := HR11.out.c
                      go_wp2_with fail
                      refine C11.out.mono ?_
                      rintro e w12 ⟨rfl, v12, hp12, he12⟩
                      have HU12 := Lib.hid (HU11.out.step hp12 he12)
                      clear hp12 he12 y0 y1 y2 y3 y4
                      go_wp2_with fail
                      have hkg := HK.out
                      go_roundg (gk - 1)
                      case rel => exact ⟨k + 1, v12, recP x q, by go_num, by omega, by omega, HRF, HG2, HU12⟩
                      case measure => omega
                  · have HG3 : Hid (recsP T q = G) := Lib.hid (by
                      have h := HG.out
                      rw [List.drop_of_length_le (by have := HN.out; omega), List.nil_append] at h
                      exact h)
                    rw [← HTT.out] at HG3
                    go_wp2_with fail
                    have hsg := HSG.out
                    go_roundg (gk' - 1)
                    case rel => exact ⟨s + 1, v, q, by go_num, by omega, by omega, HQ, HG3, HU⟩
                    case measure => omega
              · have hs3 : s = 3 := by omega
                subst hs3
                obtain ⟨va, vc, rfl⟩ := HU.out.paper.open
                have hk0 := HU.out.paper.c0
                have hq := HQ.out
                have hG := HG.out
                simp only [restL] at hG
                obtain ⟨O, hO⟩ : ∃ O, q.out.length = O := ⟨_, rfl⟩
                rw [hO] at hk0
                have HEF := Lib.hid (HB1.out.trans (HU.out.eff.to_below.mono (Nat.le_refl _)))
                by_cases hbig : 65535 < O
                · have hRv : R = ([], 12) := by
                    rw [HPS.out, ← hG, recsP_big (by rw [hO]; exact hbig)]; rfl
                  have hbi : (65535 : Int) < (O : Int) := by omega
                  clear hG hq hO hbig
                  subst hRv
                  go_wp2_with fail
                  go_ret2
                  exact ⟨_, rfl, World.ownsRow_nil _ _ _ _, HEF.out⟩
                · have hRv : R = (q.out, 0) := by
                    rw [HPS.out, ← hG]; simp only [recsP]; rw [if_neg (by rw [hO]; exact hbig)]; rfl
                  have hbi : (O : Int) ≤ 65535 := by omega
                  have CC := Lib.hid (clone_bytes _ _ _ wr HU.out.paper.buf.own (by omega) (by omega))
                  rw [hO] at CC
                  have HOO := Lib.hid hO
                  have HLW := Lib.hid HU.out.low
                  clear hG hq hO hbig
                  subst hRv
                  go_wp2_with fail
                  refine CC.out.mono ?_
                  rintro e w8 ⟨v8, rfl, hown8, hB8⟩
                  go_wp2_with fail
                  go_ret2
                  have hown := own_base HLW.out hown8
                  rw [← HOO.out] at hown
                  exact ⟨v8, rfl, hown, HEF.out.trans (hB8.mono HLW.out)⟩
  · have hcE : (if checkB m then (0 : Int) else 8) = 8 := by rw [if_neg hc]
    rw [hcE] at CK1
    obtain rfl : R = ([], 8) := by rw [← HR.out]; unfold packS; rw [if_pos (by simpa using hc)]
    go_wp2_with fail
    refine CK1.out.mono ?_
    rintro e w1 ⟨rfl, hB1⟩
    go_wp2_with fail
    go_ret2
    exact ⟨_, rfl, World.ownsRow_nil _ _ _ _, HBEL.out.trans (hB1.mono HBEL.out.size)⟩
end Go.Proofs.YtnamkladeaohoaaGreat.wpack
