/- gazetteerref4.sorted: walk. -/
import Derived.Test.YtflijhodlimjoaaGreatK17
import Derived.Test.YtflijhodlimjoaaGreatK19
import Derived.Deep.AppendLies
import Derived.Laws.OwnMore
namespace Go.Proofs.YtflijhodlimjoaaGreat.sorted
open Go.RowKit Go.Proofs.YtflijhodlimjoaaGreat.kit Go.Proofs.YtflijhodlimjoaaGreat.nspec Go.Proofs.YtflijhodlimjoaaGreat.rsplit Go.Proofs.YtflijhodlimjoaaGreat.rows Go.Proofs.YtflijhodlimjoaaGreat.sortT
set_option linter.unusedVariables false

theorem infoStr : (Tryz.prog.info? 9).map (fun i => (i.zero, i.size, i.bytes)) = some (some (.string ByteArray.empty), 1, 16) := by kernel_rfl
theorem ins_step {x y : Bs} {o : List Bs} {p : Nat} (h : o[p]? = some y) (hl : ltT y x = true) (hI : insT x o = o.take p ++ insT x (o.drop p)) : insT x o = o.take (p + 1) ++ insT x (o.drop (p + 1)) := by
  obtain ⟨h1, h2⟩ := List.getElem?_eq_some_iff.1 h
  rw [List.drop_eq_getElem_cons h1, h2] at hI
  conv at hI => rhs; rhs; unfold insT
  rw [if_pos hl] at hI
  rw [hI, List.take_add_one, h]
  simp
theorem ins_here {x y : Bs} {o : List Bs} {p : Nat} (h : o[p]? = some y) (hl : ltT y x = false) (hI : insT x o = o.take p ++ insT x (o.drop p)) : insT x o = o.take p ++ x :: o.drop p := by
  obtain ⟨h1, h2⟩ := List.getElem?_eq_some_iff.1 h
  rw [hI, List.drop_eq_getElem_cons h1, h2]
  conv => lhs; rhs; unfold insT
  rw [if_neg (by rw [hl]; decide)]
theorem ins_end {x : Bs} {o : List Bs} {p : Nat} (h : o.length ≤ p) (hI : insT x o = o.take p ++ insT x (o.drop p)) : insT x o = o.take p ++ x :: o.drop p := by
  rw [hI, List.drop_of_length_le h]; rfl
theorem str_one (l : List Bs) : ∀ u ∈ l.map strV, u.oneCell' = true := by
  intro u hu
  obtain ⟨x, _, rfl⟩ := List.mem_map.1 hu
  rfl
theorem less_of (y x : Bs) : Op.bytesLess (⟨y.toArray⟩ : ByteArray).toList (⟨x.toArray⟩ : ByteArray).toList = ltT y x := by
  rw [Lib.toList_data, Lib.toList_data, rcmp.less_iff, ltT_neg]
theorem own_open {w : World} {b0 : Nat} {t : TypeId} {z n : Nat} {v : Value} {xs : List Value} (h : w.ownsRow b0 t z v n xs) : (v = .slice none 0 0 ∧ n = 0) ∨ ∃ g c, v = .slice (some ⟨g, 0, none⟩) n c ∧ b0 ≤ g ∧ g < w.heap.size ∧ n ≤ c ∧ c ≤ maxLen := by
  rcases h.2 with h1 | ⟨g, cap, cur, h1, h2, h3, h4, h5, _⟩
  · exact .inl h1
  · exact .inr ⟨g, cap, h1, h2, (Array.getElem?_eq_some_iff.1 h3).1, h4, h5⟩
theorem str_size : (Tryz.prog.info? 9).map (·.size) = some 1 := by kernel_rfl
theorem sl_to (g len cap hi : Nat) (h1 : hi ≤ cap) (h2 : ¬ cap = 0) (w : World) :
    Sem.run Tryz.prog (Instr.slice 47 (.slice (some ⟨g, 0, none⟩) len cap) none (some (.int .i64 (hi : Int))) none) w = .ok (.slice (some ⟨g, 0, none⟩) hi cap) w := by
  have hu := Tryz.underlying47
  obtain ⟨i, hi1, hi2⟩ := Option.map_eq_some_iff.1 str_size
  simp [Instr.slice, Instr.sliceBounds, Instr.sliceBound, asIntOf, run_underlying hu, go_sem, h1]
theorem sl_from (g len cap lo : Nat) (h0 : lo ≤ len) (h1 : len ≤ cap) (h2 : ¬ cap = lo) (w : World) :
    Sem.run Tryz.prog (Instr.slice 47 (.slice (some ⟨g, 0, none⟩) len cap) (some (.int .i64 (lo : Int))) none none) w = .ok (.slice (some ⟨g, lo, none⟩) (len - lo) (cap - lo)) w := by
  have hu := Tryz.underlying47
  obtain ⟨i, hi1, hi2⟩ := Option.map_eq_some_iff.1 str_size
  simp [Instr.slice, Instr.sliceBounds, Instr.sliceBound, asIntOf, run_underlying hu, go_sem, h0, h2]
theorem sl_end (g len cap lo : Nat) (h0 : len = lo) (h2 : cap = lo) (w : World) :
    Sem.run Tryz.prog (Instr.slice 47 (.slice (some ⟨g, 0, none⟩) len cap) (some (.int .i64 (lo : Int))) none none) w = .ok (.slice (some ⟨g, 0, none⟩) 0 0) w := by
  subst h0; subst h2
  have hu := Tryz.underlying47
  obtain ⟨i, hi1, hi2⟩ := Option.map_eq_some_iff.1 str_size
  simp [Instr.slice, Instr.sliceBounds, Instr.sliceBound, asIntOf, run_underlying hu, go_sem]
theorem sl_nil_to (w : World) : Sem.run Tryz.prog (Instr.slice 47 (.slice none 0 0) none (some (.int .i64 0)) none) w = .ok (.slice none 0 0) w := by
  have hu := Tryz.underlying47
  obtain ⟨i, hi1, hi2⟩ := Option.map_eq_some_iff.1 str_size
  simp [Instr.slice, Instr.sliceBounds, Instr.sliceBound, asIntOf, run_underlying hu, go_sem]
theorem sl_nil_from (w : World) : Sem.run Tryz.prog (Instr.slice 47 (.slice none 0 0) (some (.int .i64 0)) none none) w = .ok (.slice none 0 0) w := by
  have hu := Tryz.underlying47
  obtain ⟨i, hi1, hi2⟩ := Option.map_eq_some_iff.1 str_size
  simp [Instr.slice, Instr.sliceBounds, Instr.sliceBound, asIntOf, run_underlying hu, go_sem]
theorem src_str {w : World} {g : Nat} {lo : Nat} {o : List Bs} (h : ∀ (j : Nat) (y : Bs), o[j]? = some y → w.cell? ⟨g, lo + j, none⟩ = some (strV y)) (ad : Addr) (ha : ad = ⟨g, lo, none⟩) : ∀ (j : Nat) (u : Value), (o.map strV)[j]? = some u → w.cell? (ad.add j) = some u := by
  intro j u hu
  rw [List.getElem?_map] at hu
  obtain ⟨y, hy, rfl⟩ := Option.map_eq_some_iff.1 hu
  subst ha
  rw [addr_at]; exact h j y hy
theorem src_take {w : World} {base g n c : Nat} {o : List Bs} (h : w.ownsRow base 9 1 (.slice (some ⟨g, 0, none⟩) n c) n (o.map strV)) (p : Nat) (j : Nat) (u : Value) (hu : ((o.map strV).take p)[j]? = some u) : w.cell? ((⟨g, 0, none⟩ : Addr).add j) = some u := by
  rw [List.getElem?_take] at hu
  split at hu
  · exact h.cells (g := g) rfl j u hu
  · cases hu
theorem src_drop {w w2 : World} {base g n c : Nat} {o : List Bs} (h : w.ownsRow base 9 1 (.slice (some ⟨g, 0, none⟩) n c) n (o.map strV)) (hB : Below w.heap.size w w2) (hg : g < w.heap.size) (p : Nat) (j : Nat) (u : Value) (hu : ((o.map strV).drop p)[j]? = some u) : w2.cell? ((⟨g, p, none⟩ : Addr).add j) = some u := by
  rw [List.getElem?_drop] at hu
  have h1 := h.cells (g := g) rfl (p + j) u hu
  rw [addr_add] at h1
  rw [addr_at]
  exact (hB.cell (p := ⟨g, p + j, none⟩) hg).trans h1
theorem own_monoS {w : World} {base base' : Nat} {e : TypeId} {size : Nat} {v : Value} {n : Nat} {xs : List Value} (h : w.ownsRow base e size v n xs) (hb : base' ≤ base) : w.ownsRow base' e size v n xs := by
  refine ⟨h.1, ?_⟩
  rcases h.2 with h1 | ⟨g, cap, cur, h1, h2, h3⟩
  · exact .inl h1
  · exact .inr ⟨g, cap, cur, h1, Nat.le_trans hb h2, h3⟩
theorem own_cellS {w : World} {base g n c : Nat} {o : List Bs} (h : w.ownsRow base 9 1 (.slice (some ⟨g, 0, none⟩) n c) n (o.map strV)) (j : Nat) (y : Bs) (hy : o[j]? = some y) : w.cell? ⟨g, j, none⟩ = some (strV y) := by
  have := h.cells (g := g) rfl j (strV y) (by rw [List.getElem?_map, hy]; rfl)
  rw [addr_add] at this; exact this
set_option maxRecDepth 100000 in
set_option maxHeartbeats 8000000 in
theorem sorted_any (a : Option Addr) (n c : Nat) (ls : List Bs) (w : World) (hn : n = ls.length) (hr : Rd w a 0 ls) (hbig : n ≤ 1099511627776) :
    Calls Tryz.prog 135 #[.slice a n c] w fun e w' => ∃ v, e = .returned v ∧ w'.ownsRow w.heap.size 9 1 v n ((sortedT ls).map strV) ∧ Below w.heap.size w w' := by
  obtain ⟨i0, hif, hz0, hz1, hz2⟩ := info_parts infoStr
  obtain ⟨R, hR⟩ : ∃ R, sortedT ls = R := ⟨_, rfl⟩
  rw [hR]
  have HN := Lib.hid hn; have HR := Lib.hid hR; have HRD := Lib.hid hr
  clear hn hR hr
  go_enter Tryz.func135, Tryz.ntmps135
  go_wp2_with fail
  go_loopg [3, 10] (n + 1) (fun gas ov kv wr => ∃ (k : Nat) (o : List Bs), kv = .int .i64 (k : Int) ∧ k ≤ n ∧ k + gas = n + 1 ∧ Hid (o.length = k) ∧ Hid ((ls.drop k).foldl (fun o x => insT x o) o = R) ∧ Hid (wr.ownsRow w.heap.size 9 1 ov k (o.map strV)) ∧ Hid (k = 0 → ov = .slice none 0 0) ∧ Hid (Below w.heap.size w wr))
  case atStart => exact ⟨0, [], rfl, by omega, by omega, Lib.hid rfl, Lib.hid (by rw [List.drop_zero]; exact HR.out), Lib.hid (World.ownsRow_nil _ _ _ _), Lib.hid (fun _ => rfl), Lib.hid (Below.refl _ _)⟩
  case round =>
    clear HR
    obtain ⟨k, o, rfl, hk, hkg, HL, HW, HO, HZ, HB⟩ := hrel
    have HK := Lib.hid hkg; clear hkg
    obtain ⟨gk', hgk'⟩ : ∃ g, g = gk := ⟨_, rfl⟩
    rw [← hgk'] at HK
    obtain ⟨ov, hov⟩ : ∃ ov, u3 = ov := ⟨_, rfl⟩
    have hbz : w.heap.size ≤ wr.heap.size := HB.out.size
    by_cases hlt : k < n
    · obtain ⟨x, hx⟩ : ∃ x, ls[k]? = some x := ⟨_, List.getElem?_eq_getElem (by have := HN.out; omega)⟩
      obtain ⟨g1, o1, rfl, _, hg1, hcl⟩ := HRD.out k x hx
      have hcell := (HB.out.cell (p := ⟨g1, o1 + k, none⟩) hg1).trans hcl
      have zk : (0 : Int) ≤ (k : Int) := by omega
      have zl : (k : Int) < (n : Int) := by omega
      have HW2 : Hid ((ls.drop (k + 1)).foldl (fun o x => insT x o) (insT x o) = R) := Lib.hid (by
        rw [← HW.out]
        obtain ⟨h1, h2⟩ := List.getElem?_eq_some_iff.1 hx
        rw [List.drop_eq_getElem_cons h1, h2]; rfl)
      have HI0 : Hid (insT x o = o.take 0 ++ insT x (o.drop 0)) := Lib.hid (by simp)
      unfold strV at hcell
      clear hx hcl HW
      subst hov
      rcases own_open HO.out with ⟨hnil, hk0⟩ | ⟨g, co, hblk, hgb, hgs, hkc, hcm⟩
      · subst hk0
        rw [hnil]
        have ho0 : o = [] := List.eq_nil_of_length_eq_zero HL.out
        subst ho0
        have s1 := sl_nil_to; have s2 := sl_nil_from
        have z0 : (0 : Int) < (n : Int) := by omega
        have hcell0 : wr.cell? ⟨g1, o1, none⟩ = some (.string ⟨x.toArray⟩) := hcell
        trace "n1"
        go_wp2_with fail
        go_loopg [6] 1 (fun gas jv wy => jv = .int .i64 0 ∧ gas = 1 ∧ wr = wy)
        case atStart => exact ⟨rfl, rfl, rfl⟩
        case round =>
          obtain ⟨rfl, hg1', rfl⟩ := hrel
          trace "n2"
          have HI2 : Hid (insT x [] = [x]) := Lib.hid rfl
          go_wp2_with (at_builtin; refine wpList_append_src rfl (.tmp 28) (.tmp 31) 47 rfl wr.heap.size 9 i0 _ 1 16 Tryz.underlying47 hif hz0 hz1 hz2 rfl (by decide) _ 0 [] rfl (World.ownsRow_nil _ _ _ _) none 0 0 ((([] : List Bs)).map strV) rfl ?c0x ?c1x (str_one _) (by unfold maxLen; omega) (by omega) (Nat.le_refl _) ?_)
          try case c0x => rfl
          try case c1x => exact .inl ⟨rfl, rfl, rfl⟩
          intro v1 w1 hown1 hgr1
          have hB1 : Below wr.heap.size wr w1 := below_append' (Below.refl _ _) (Nat.le_refl _) (World.ownsRow_nil _ wr.heap.size 9 1) hgr1
          have ho1 : w1.ownsRow wr.heap.size 9 1 v1 0 ((([] : List Bs)).map strV) := by first | exact hown1 | simpa using hown1
          obtain ⟨a1, c1, rfl⟩ : ∃ a c, v1 = .slice a 0 c := by
            rcases own_open ho1 with ⟨h1, h2⟩ | ⟨g, c, h1, _⟩
            · exact ⟨none, 0, by rw [h1, h2]⟩
            · exact ⟨_, _, h1⟩
          have HO1 := Lib.hid ho1; have HB1 := Lib.hid hB1
          have hbz1 : wr.heap.size ≤ w1.heap.size := hB1.size
          clear hown1 hgr1 ho1 hB1
          trace "t2"
          go_wp2_with (at_builtin; refine wpList_append_lies _ rfl _ _ 47 rfl wr.heap.size 9 i0 _ 1 16 Tryz.underlying47 hif hz0 hz1 hz2 rfl (by decide) (.slice a1 0 c1) 0 ((([] : List Bs)).map strV) rfl (HO1.out.alloc _) ⟨w1.heap.size, 0, none⟩ 1 1 [strV x] rfl rfl ?d1x ?d2x (by decide) ?d3x ?d4x ?d5x _ rfl ?_)
          try case d1x => first | exact World.news_of_block (heap_alloc_new _ _) | exact fun j u hu => hu
          try case d2x => intro u hu; simp only [List.mem_singleton] at hu; subst hu; rfl
          try case d3x => unfold maxLen; omega
          try case d4x => omega
          try case d5x => first | omega | (simp; omega)
          intro g2 cp w2 hown2 hgr2 hat2 hlt2'
          have hB2 : Below wr.heap.size wr w2 := below_append' (HB1.out.alloc hbz1 (.cells #[strV x] 9)) (by simp; omega) (HO1.out.alloc _) hgr2
          have HO2 : Hid (w2.ownsRow wr.heap.size 9 1 (.slice (some ⟨g2, 0, none⟩) (0 + 1) cp) (0 + 1) ((([] : List Bs)).map strV ++ [strV x])) := Lib.hid hown2
          have HB2 := Lib.hid hB2
          have hbz2 : wr.heap.size ≤ w2.heap.size := hB2.size
          clear hown2 hgr2 hat2 hlt2' hB2 HO1 HB1 hbz1
          trace "t3"
          go_wp2_with (at_builtin; refine wpList_append_src rfl (.tmp 37) (.tmp 40) 47 rfl wr.heap.size 9 i0 _ 1 16 Tryz.underlying47 hif hz0 hz1 hz2 rfl (by decide) (.slice (some ⟨g2, 0, none⟩) (0 + 1) cp) (0 + 1) ((([] : List Bs)).map strV ++ [strV x]) rfl HO2.out none 0 0 ((([] : List Bs)).map strV) rfl ?f0x ?f1x (str_one _) (by unfold maxLen; omega) (by omega) hbz2 ?_)
          try case f0x => rfl
          try case f1x => exact .inl ⟨rfl, rfl, rfl⟩
          intro v3 w3 hown3 hgr3
          have HB3 : Hid (Below w.heap.size w w3) := Lib.hid (HB.out.trans ((below_append' HB2.out hbz2 HO2.out hgr3).mono hbz))
          have HO3 : Hid (w3.ownsRow w.heap.size 9 1 v3 (0 + 1) ((insT x []).map strV)) := Lib.hid (by
            have h := own_monoS hown3 hbz
            rw [HI2.out]
            skip
            simpa using h)
          have HL3 : Hid ((insT x []).length = 0 + 1) := Lib.hid (by rw [(insT_perm x []).length_eq, List.length_cons, List.length_nil])
          clear hown3 hgr3 HB2 HO2
          trace "t4"
          go_wp2_with fail
          have hkg := HK.out
          go_roundg (gk' - 1)
          case rel => exact ⟨0 + 1, insT x [], by go_num, by omega, by omega, HL3, HW2, HO3, Lib.hid (fun h => by omega), HB3⟩
          case measure => omega
      · rw [hblk]
        have HOW : Hid (wr.ownsRow w.heap.size 9 1 (.slice (some ⟨g, 0, none⟩) k co) k (o.map strV)) := Lib.hid (by rw [← hblk]; exact HO.out)
        have hkk : k ≤ 1099511627776 := by omega
        have hk1 : 1 ≤ k := by
          rcases Nat.eq_zero_or_pos k with h | h
          · have := HZ.out h; rw [hblk] at this; cases this
          · exact h
        trace "b1"
        go_wp2_with fail
        go_loopg [6] (k + 1) (fun gas jv wy => ∃ p : Nat, jv = .int .i64 (p : Int) ∧ p ≤ k ∧ p + gas = k + 1 ∧ Hid (insT x o = o.take p ++ insT x (o.drop p)) ∧ wr = wy)
        case atStart => exact ⟨0, rfl, by omega, by omega, HI0, rfl⟩
        case round =>
          clear HI0
          obtain ⟨p, rfl, hp, hpg, HI, rfl⟩ := hrel
          have HPG := Lib.hid hpg; clear hpg
          by_cases hpk : p < k
          · obtain ⟨y, hy⟩ : ∃ y, o[p]? = some y := ⟨_, List.getElem?_eq_getElem (by rw [HL.out]; exact hpk)⟩
            have hyc := own_cellS HOW.out p y hy
            have zp : (0 : Int) ≤ (p : Int) := by omega
            have zpk : (p : Int) < (k : Int) := by omega
            have hlo := less_of y x
            unfold strV at hyc
            obtain ⟨YB, hYB⟩ : ∃ YB : ByteArray, (⟨y.toArray⟩ : ByteArray) = YB := ⟨_, rfl⟩
            obtain ⟨XB, hXB⟩ : ∃ XB : ByteArray, (⟨x.toArray⟩ : ByteArray) = XB := ⟨_, rfl⟩
            rw [hYB] at hyc hlo
            rw [hXB] at hlo
            cases hlt2 : ltT y x with
            | true =>
              have HI2 := Lib.hid (ins_step hy hlt2 HI.out)
              rw [hlt2] at hlo
              clear hlt2 hy hYB
              trace "b2"
              rw [hXB]
              go_wp2_with fail
              rw [← hXB]
              have hpg := HPG.out
              go_roundg (gk - 1)
              case rel => exact ⟨p + 1, by go_num, by omega, by omega, HI2, rfl⟩
              case measure => omega
            | false =>
              have HI2 := Lib.hid (ins_here hy hlt2 HI.out)
              rw [hlt2] at hlo
              clear hlt2 hy hYB
              trace "b3"
              have s1 := sl_to g k co p (by omega) (by omega)
              have hpco : p ≤ co := by omega
              have hco0 : ¬ co = 0 := by omega
              have hcop : ¬ co = p := by omega
              have s2 := sl_from g k co p (by omega) hkc (by omega)
              obtain ⟨q, hq⟩ : ∃ q, k - p = q := ⟨_, rfl⟩
              obtain ⟨r, hr⟩ : ∃ r, co - p = r := ⟨_, rfl⟩
              rw [hq, hr] at s2
              have hsx : strV x = Value.string XB := by unfold strV; rw [hXB]
              rw [hXB]
              go_wp2_with (at_builtin; refine wpList_append_src rfl (.tmp 28) (.tmp 31) 47 rfl wr.heap.size 9 i0 _ 1 16 Tryz.underlying47 hif hz0 hz1 hz2 rfl (by decide) _ 0 [] rfl (World.ownsRow_nil _ _ _ _) (some ⟨g, 0, none⟩) p co ((o.take p).map strV) rfl ?c0xx ?c1xx (str_one _) (by unfold maxLen; omega) (by omega) (Nat.le_refl _) ?_)
              case c0xx => first | (rw [List.length_map, List.length_take, HL.out]; omega) | (rw [HL.out]; omega)
              case c1xx => first | exact .inr ⟨_, rfl, fun j u hu => src_take HOW.out p j u (by rw [← List.map_take]; exact hu)⟩ | exact fun j u hu => src_take HOW.out p j u hu | exact fun j u hu => by have h := src_take HOW.out p j u hu; rw [addr_add] at h; exact h
              intro v1 w1 hown1 hgr1
              have hB1 : Below wr.heap.size wr w1 := below_append' (Below.refl _ _) (Nat.le_refl _) (World.ownsRow_nil _ wr.heap.size 9 1) hgr1
              have ho1 : w1.ownsRow wr.heap.size 9 1 v1 p ((o.take p).map strV) := by first | exact hown1 | simpa using hown1
              obtain ⟨a1, c1, rfl⟩ : ∃ a c, v1 = .slice a p c := by
                rcases own_open ho1 with ⟨h1, h2⟩ | ⟨g, c, h1, _⟩
                · exact ⟨none, 0, by rw [h1, h2]⟩
                · exact ⟨_, _, h1⟩
              have HO1 := Lib.hid ho1; have HB1 := Lib.hid hB1
              have hbz1 : wr.heap.size ≤ w1.heap.size := hB1.size
              clear hown1 hgr1 ho1 hB1
              trace "t2"
              go_wp2_with (at_builtin; refine wpList_append_lies _ rfl _ _ 47 rfl wr.heap.size 9 i0 _ 1 16 Tryz.underlying47 hif hz0 hz1 hz2 rfl (by decide) (.slice a1 p c1) p ((o.take p).map strV) rfl (HO1.out.alloc _) ⟨w1.heap.size, 0, none⟩ 1 1 [.string XB] rfl rfl ?d1xx ?d2xx (by decide) ?d3xx ?d4xx ?d5xx _ rfl ?_)
              case d1xx => exact World.news_of_block (heap_alloc_new _ _)
              case d2xx => intro u hu; simp only [List.mem_singleton] at hu; subst hu; rfl
              case d3xx => unfold maxLen; omega
              case d4xx => omega
              case d5xx => first | omega | (simp; omega)
              intro g2 cp w2 hown2 hgr2 hat2 hlt2'
              have hB2 : Below wr.heap.size wr w2 := below_append' (HB1.out.alloc hbz1 (.cells #[.string XB] 9)) (by simp; omega) (HO1.out.alloc _) hgr2
              have HO2 : Hid (w2.ownsRow wr.heap.size 9 1 (.slice (some ⟨g2, 0, none⟩) (p + 1) cp) (p + 1) ((o.take p).map strV ++ [.string XB])) := Lib.hid (by first | exact hown2 | simpa using hown2)
              have HB2 := Lib.hid hB2
              have hbz2 : wr.heap.size ≤ w2.heap.size := hB2.size
              clear hown2 hgr2 hat2 hlt2' hB2 HO1 HB1 hbz1
              trace "t3"
              go_wp2_with (at_builtin; refine wpList_append_src rfl (.tmp 37) (.tmp 40) 47 rfl wr.heap.size 9 i0 _ 1 16 Tryz.underlying47 hif hz0 hz1 hz2 rfl (by decide) (.slice (some ⟨g2, 0, none⟩) (p + 1) cp) (p + 1) ((o.take p).map strV ++ [.string XB]) rfl HO2.out (some ⟨g, p, none⟩) q r ((o.drop p).map strV) rfl ?f0xx ?f1xx (str_one _) (by unfold maxLen; omega) (by omega) hbz2 ?_)
              case f0xx => first | (rw [List.length_map, List.length_drop, HL.out]; omega) | (rw [HL.out]; omega)
              case f1xx => first | exact .inr ⟨_, rfl, fun j u hu => (src_drop HOW.out HB2.out hgs p j u (by rw [← List.map_drop]; exact hu))⟩ | exact fun j u hu => src_drop HOW.out HB2.out hgs p j u hu | exact fun j u hu => by have h := src_drop HOW.out HB2.out hgs p j u hu; rw [addr_at] at h; exact h
              intro v3 w3 hown3 hgr3
              have HB3 : Hid (Below w.heap.size w w3) := Lib.hid (HB.out.trans ((below_append' HB2.out hbz2 HO2.out hgr3).mono hbz))
              have HO3 : Hid (w3.ownsRow w.heap.size 9 1 v3 (k + 1) ((insT x o).map strV)) := Lib.hid (by
                have h := own_monoS hown3 hbz
                rw [HI2.out]
                rw [show p + 1 + q = k + 1 by omega] at h
                first | (simpa using h) | (simpa [hsx] using h))
              have HL3 : Hid ((insT x o).length = k + 1) := Lib.hid (by rw [(insT_perm x o).length_eq, List.length_cons, HL.out])
              clear hown3 hgr3 HB2 HO2
              trace "t4"
              go_wp2_with fail
              have hkg := HK.out
              go_roundg (gk' - 1)
              case rel => exact ⟨k + 1, insT x o, by go_num, by omega, by omega, HL3, HW2, HO3, Lib.hid (fun h => by omega), HB3⟩
              case measure => omega
          · have hpe : p = k := by omega
            subst hpe
            have HI2 := Lib.hid (ins_end (x := x) (by rw [HL.out]; exact Nat.le_refl _) HI.out)
            have hzp : ¬ (p : Int) < (p : Int) := by omega
            trace "b4"
            by_cases hcp : co = p
            · have hcp' := hcp.symm
              subst hcp'
              have s1 := sl_to g p p p (by omega) (by omega)
              have hpco : p ≤ p := by omega
              have hco0 : ¬ p = 0 := by omega
              have s2 := sl_end g p p p rfl rfl
              have hp0 : ¬ p = 0 := by omega
              go_wp2_with (at_builtin; refine wpList_append_src rfl (.tmp 28) (.tmp 31) 47 rfl wr.heap.size 9 i0 _ 1 16 Tryz.underlying47 hif hz0 hz1 hz2 rfl (by decide) _ 0 [] rfl (World.ownsRow_nil _ _ _ _) (some ⟨g, 0, none⟩) p p ((o.take p).map strV) rfl ?c0xxx ?c1xxx (str_one _) (by unfold maxLen; omega) (by omega) (Nat.le_refl _) ?_)
              case c0xxx => first | (rw [List.length_map, List.length_take, HL.out]; omega) | (rw [HL.out]; omega)
              case c1xxx => first | exact .inr ⟨_, rfl, fun j u hu => src_take HOW.out p j u (by rw [← List.map_take]; exact hu)⟩ | exact fun j u hu => src_take HOW.out p j u hu | exact fun j u hu => by have h := src_take HOW.out p j u hu; rw [addr_add] at h; exact h
              intro v1 w1 hown1 hgr1
              have hB1 : Below wr.heap.size wr w1 := below_append' (Below.refl _ _) (Nat.le_refl _) (World.ownsRow_nil _ wr.heap.size 9 1) hgr1
              have ho1 : w1.ownsRow wr.heap.size 9 1 v1 p ((o.take p).map strV) := by first | exact hown1 | simpa using hown1
              obtain ⟨a1, c1, rfl⟩ : ∃ a c, v1 = .slice a p c := by
                rcases own_open ho1 with ⟨h1, h2⟩ | ⟨g, c, h1, _⟩
                · exact ⟨none, 0, by rw [h1, h2]⟩
                · exact ⟨_, _, h1⟩
              have HO1 := Lib.hid ho1; have HB1 := Lib.hid hB1
              have hbz1 : wr.heap.size ≤ w1.heap.size := hB1.size
              clear hown1 hgr1 ho1 hB1
              trace "t2"
              go_wp2_with (at_builtin; refine wpList_append_lies _ rfl _ _ 47 rfl wr.heap.size 9 i0 _ 1 16 Tryz.underlying47 hif hz0 hz1 hz2 rfl (by decide) (.slice a1 p c1) p ((o.take p).map strV) rfl (HO1.out.alloc _) ⟨w1.heap.size, 0, none⟩ 1 1 [strV x] rfl rfl ?d1xxx ?d2xxx (by decide) ?d3xxx ?d4xxx ?d5xxx _ rfl ?_)
              case d1xxx => exact World.news_of_block (heap_alloc_new _ _)
              case d2xxx => intro u hu; simp only [List.mem_singleton] at hu; subst hu; rfl
              case d3xxx => unfold maxLen; omega
              case d4xxx => omega
              case d5xxx => first | omega | (simp; omega)
              intro g2 cp w2 hown2 hgr2 hat2 hlt2'
              have hB2 : Below wr.heap.size wr w2 := below_append' (HB1.out.alloc hbz1 (.cells #[strV x] 9)) (by simp; omega) (HO1.out.alloc _) hgr2
              have HO2 : Hid (w2.ownsRow wr.heap.size 9 1 (.slice (some ⟨g2, 0, none⟩) (p + 1) cp) (p + 1) ((o.take p).map strV ++ [strV x])) := Lib.hid (by first | exact hown2 | simpa using hown2)
              have HB2 := Lib.hid hB2
              have hbz2 : wr.heap.size ≤ w2.heap.size := hB2.size
              clear hown2 hgr2 hat2 hlt2' hB2 HO1 HB1 hbz1
              trace "t3"
              go_wp2_with (at_builtin; refine wpList_append_src rfl (.tmp 37) (.tmp 40) 47 rfl wr.heap.size 9 i0 _ 1 16 Tryz.underlying47 hif hz0 hz1 hz2 rfl (by decide) (.slice (some ⟨g2, 0, none⟩) (p + 1) cp) (p + 1) ((o.take p).map strV ++ [strV x]) rfl HO2.out (some ⟨g, 0, none⟩) 0 0 ((o.drop p).map strV) rfl ?f0xxx ?f1xxx (str_one _) (by unfold maxLen; omega) (by omega) hbz2 ?_)
              case f0xxx => first | (rw [List.length_map, List.length_drop, HL.out]; omega) | (rw [HL.out]; omega)
              case f1xxx => first | exact .inr ⟨_, rfl, fun j u hu => by rw [List.drop_of_length_le (by rw [HL.out]; exact Nat.le_refl _)] at hu; simp at hu⟩ | (intro j u hu; have h1 := (List.getElem?_eq_some_iff.1 hu).1; have h2 := HL.out; omega)
              intro v3 w3 hown3 hgr3
              have HB3 : Hid (Below w.heap.size w w3) := Lib.hid (HB.out.trans ((below_append' HB2.out hbz2 HO2.out hgr3).mono hbz))
              have HO3 : Hid (w3.ownsRow w.heap.size 9 1 v3 (p + 1) ((insT x o).map strV)) := Lib.hid (by
                have h := own_monoS hown3 hbz
                rw [HI2.out]
                rw [show p + 1 + 0 = p + 1 by omega] at h
                first | (simpa using h) | (simpa [hsx] using h))
              have HL3 : Hid ((insT x o).length = p + 1) := Lib.hid (by rw [(insT_perm x o).length_eq, List.length_cons, HL.out])
              clear hown3 hgr3 HB2 HO2
              trace "t4"
              go_wp2_with fail
              have hkg := HK.out
              go_roundg (gk' - 1)
              case rel => exact ⟨p + 1, insT x o, by go_num, by omega, by omega, HL3, HW2, HO3, Lib.hid (fun h => by omega), HB3⟩
              case measure => omega
            · have s1 := sl_to g p co p (by omega) (by omega)
              have hpco : p ≤ co := by omega
              have hco0 : ¬ co = 0 := by omega
              have s2 := sl_from g p co p (by omega) hkc (by omega)
              obtain ⟨q, hq⟩ : ∃ q, p - p = q := ⟨_, rfl⟩
              obtain ⟨r, hr⟩ : ∃ r, co - p = r := ⟨_, rfl⟩
              rw [hq, hr] at s2
              go_wp2_with (at_builtin; refine wpList_append_src rfl (.tmp 28) (.tmp 31) 47 rfl wr.heap.size 9 i0 _ 1 16 Tryz.underlying47 hif hz0 hz1 hz2 rfl (by decide) _ 0 [] rfl (World.ownsRow_nil _ _ _ _) (some ⟨g, 0, none⟩) p co ((o.take p).map strV) rfl ?c0xxxx ?c1xxxx (str_one _) (by unfold maxLen; omega) (by omega) (Nat.le_refl _) ?_)
              case c0xxxx => first | (rw [List.length_map, List.length_take, HL.out]; omega) | (rw [HL.out]; omega)
              case c1xxxx => first | exact .inr ⟨_, rfl, fun j u hu => src_take HOW.out p j u (by rw [← List.map_take]; exact hu)⟩ | exact fun j u hu => src_take HOW.out p j u hu | exact fun j u hu => by have h := src_take HOW.out p j u hu; rw [addr_add] at h; exact h
              intro v1 w1 hown1 hgr1
              have hB1 : Below wr.heap.size wr w1 := below_append' (Below.refl _ _) (Nat.le_refl _) (World.ownsRow_nil _ wr.heap.size 9 1) hgr1
              have ho1 : w1.ownsRow wr.heap.size 9 1 v1 p ((o.take p).map strV) := by first | exact hown1 | simpa using hown1
              obtain ⟨a1, c1, rfl⟩ : ∃ a c, v1 = .slice a p c := by
                rcases own_open ho1 with ⟨h1, h2⟩ | ⟨g, c, h1, _⟩
                · exact ⟨none, 0, by rw [h1, h2]⟩
                · exact ⟨_, _, h1⟩
              have HO1 := Lib.hid ho1; have HB1 := Lib.hid hB1
              have hbz1 : wr.heap.size ≤ w1.heap.size := hB1.size
              clear hown1 hgr1 ho1 hB1
              trace "t2"
              go_wp2_with (at_builtin; refine wpList_append_lies _ rfl _ _ 47 rfl wr.heap.size 9 i0 _ 1 16 Tryz.underlying47 hif hz0 hz1 hz2 rfl (by decide) (.slice a1 p c1) p ((o.take p).map strV) rfl (HO1.out.alloc _) ⟨w1.heap.size, 0, none⟩ 1 1 [strV x] rfl rfl ?d1xxxx ?d2xxxx (by decide) ?d3xxxx ?d4xxxx ?d5xxxx _ rfl ?_)
              case d1xxxx => exact World.news_of_block (heap_alloc_new _ _)
              case d2xxxx => intro u hu; simp only [List.mem_singleton] at hu; subst hu; rfl
              case d3xxxx => unfold maxLen; omega
              case d4xxxx => omega
              case d5xxxx => first | omega | (simp; omega)
              intro g2 cp w2 hown2 hgr2 hat2 hlt2'
              have hB2 : Below wr.heap.size wr w2 := below_append' (HB1.out.alloc hbz1 (.cells #[strV x] 9)) (by simp; omega) (HO1.out.alloc _) hgr2
              have HO2 : Hid (w2.ownsRow wr.heap.size 9 1 (.slice (some ⟨g2, 0, none⟩) (p + 1) cp) (p + 1) ((o.take p).map strV ++ [strV x])) := Lib.hid (by first | exact hown2 | simpa using hown2)
              have HB2 := Lib.hid hB2
              have hbz2 : wr.heap.size ≤ w2.heap.size := hB2.size
              clear hown2 hgr2 hat2 hlt2' hB2 HO1 HB1 hbz1
              trace "t3"
              go_wp2_with (at_builtin; refine wpList_append_src rfl (.tmp 37) (.tmp 40) 47 rfl wr.heap.size 9 i0 _ 1 16 Tryz.underlying47 hif hz0 hz1 hz2 rfl (by decide) (.slice (some ⟨g2, 0, none⟩) (p + 1) cp) (p + 1) ((o.take p).map strV ++ [strV x]) rfl HO2.out (some ⟨g, p, none⟩) q r ((o.drop p).map strV) rfl ?f0xxxx ?f1xxxx (str_one _) (by unfold maxLen; omega) (by omega) hbz2 ?_)
              case f0xxxx => first | (rw [List.length_map, List.length_drop, HL.out]; omega) | (rw [HL.out]; omega)
              case f1xxxx => first | exact .inr ⟨_, rfl, fun j u hu => (src_drop HOW.out HB2.out hgs p j u (by rw [← List.map_drop]; exact hu))⟩ | exact fun j u hu => src_drop HOW.out HB2.out hgs p j u hu | exact fun j u hu => by have h := src_drop HOW.out HB2.out hgs p j u hu; rw [addr_at] at h; exact h
              intro v3 w3 hown3 hgr3
              have HB3 : Hid (Below w.heap.size w w3) := Lib.hid (HB.out.trans ((below_append' HB2.out hbz2 HO2.out hgr3).mono hbz))
              have HO3 : Hid (w3.ownsRow w.heap.size 9 1 v3 (p + 1) ((insT x o).map strV)) := Lib.hid (by
                have h := own_monoS hown3 hbz
                rw [HI2.out]
                rw [show p + 1 + q = p + 1 by omega] at h
                first | (simpa using h) | (simpa [hsx] using h))
              have HL3 : Hid ((insT x o).length = p + 1) := Lib.hid (by rw [(insT_perm x o).length_eq, List.length_cons, HL.out])
              clear hown3 hgr3 HB2 HO2
              trace "t4"
              go_wp2_with fail
              have hkg := HK.out
              go_roundg (gk' - 1)
              case rel => exact ⟨p + 1, insT x o, by go_num, by omega, by omega, HL3, HW2, HO3, Lib.hid (fun h => by omega), HB3⟩
              case measure => omega
    · have hke : k = n := by omega
      subst hke
      have hz : ¬ (k : Int) < (k : Int) := by omega
      have HRE : Hid (o = R) := Lib.hid (by rw [← HW.out, List.drop_of_length_le (by rw [HN.out]; exact Nat.le_refl _)]; rfl)
      clear HW
      subst hov
      go_wp2_with fail
      go_ret
      exact ⟨_, rfl, by rw [← HRE.out]; exact HO.out, HB.out⟩
end Go.Proofs.YtflijhodlimjoaaGreat.sorted
