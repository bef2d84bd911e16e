/- strings.Builder's copyCheck, WriteByte, WriteString: walks (this program's copyCheck has a refused statement, so the shelf does not lay them). name.Join, the reference's Join: walks. Star, IsStar of name and of the reference; sameTexts: walks. Bits: plain lists of noughts and ones; base 2^n. Lists of ints in memory; gazetteerref1.bits: walk. -/
import Derived.Test.YtanoiiodnddkfaaGreatShelf
import Derived.Test.YtanoiiodnddkfaaGreatJ1
import Derived.Test.YtanoiiodnddkfaaGreatJ7
import Derived.Test.YtanoiiodnddkfaaGreatJ4
import Derived.Lib.Builder
import Derived.Lib.AppendStr
import Derived.Lib.UnsafeStr
import Derived.Laws.Externs
import Derived.Deep.QuietTactic
import Derived.BigQuiet
import Derived.Maps.AppendAt
namespace Go.Proofs.YtanoiiodnddkfaaGreat.bld
open Go.RowKit Go.Proofs.YtanoiiodnddkfaaGreat.kit

theorem sizeBuilder : (Tryz.prog.info? 116).map (·.size) = some 2 := by kernel_rfl
theorem liesBuilder : liesAt Tryz.prog Tryz.prog.depth 116 (2 / Tryz.prog.cellsOf 116) 0 116 1 = true := by kernel_rfl
theorem infoByte : (Tryz.prog.info? 5).map (fun i => (i.zero, i.size, i.bytes)) = some (some (.int .u8 0), 1, 1) := by kernel_rfl

abbrev Bld (B b : Nat) (l : List UInt8) (w : World) : Prop := Lib.IsBuilder 116 5 B b (Lib.byteCells l) w

set_option maxHeartbeats 1000000 in
set_option maxRecDepth 100000 in
theorem copyCheck_used (b : Nat) (w : World) (h0 : w.cell? ⟨b, 0, none⟩ = some (.pointer (some ⟨b, 0, none⟩))) :
    Calls Tryz.prog 115 #[.pointer (some ⟨b, 0, none⟩)] w fun e w' => e = .returned (.tuple #[]) ∧ w' = w := by
  obtain ⟨j, hj, _⟩ := Option.map_eq_some_iff.1 sizeBuilder
  go_enter Tryz.func115, Tryz.ntmps115
  go_wp2
  rw [Lib.run_neq_ptr_same w _ Tryz.underlying114 hj]
  go_wp2
  go_end0
  exact ⟨rfl, rfl⟩

set_option maxHeartbeats 1000000 in
set_option maxRecDepth 100000 in
theorem copyCheck_fresh (b : Nat) (w : World) (h0 : w.cell? ⟨b, 0, none⟩ = some (.pointer none)) (hsh : w.shape? b = some (116, 2)) (hfz : w.frozen? ⟨b, 0, none⟩ = false) :
    Calls Tryz.prog 115 #[.pointer (some ⟨b, 0, none⟩)] w fun e w' => e = .returned (.tuple #[]) ∧ w' = w.setCell ⟨b, 0, none⟩ (.pointer (some ⟨b, 0, none⟩)) := by
  obtain ⟨j, hj, hjs⟩ := Option.map_eq_some_iff.1 sizeBuilder
  go_enter Tryz.func115, Tryz.ntmps115
  go_wp2
  rw [Lib.run_to_unsafe w ⟨b, 0, none⟩ Tryz.underlying114 Tryz.underlying151 hj (by rw [hjs]; decide) hsh (Nat.zero_lt_succ 1)]
  simp only [Result.andThen]
  rw [Oper.upon_value]
  go_wp2
  rw [run_callFunc_extern Tryz.func121 (by kernel_rfl) (by kernel_rfl) (by kernel_rfl) (e := Extern.AbiNoEscape.same) (by kernel_rfl)]
  rw [Lib.run_noEscape]
  simp only [Result.andThen]
  rw [Oper.upon_value]
  go_wp2
  rw [Lib.run_from_unsafe w ⟨b, 0, none⟩ Tryz.underlying151 Tryz.underlying114 hj hsh liesBuilder]
  simp only [Result.andThen]
  rw [Oper.upon_value]
  go_wp2
  go_end0
  exact ⟨rfl, rfl⟩

theorem copyCheck_any (B b : Nat) (bs : List Value) (w : World) (h : Lib.IsBuilder 116 5 B b bs w) :
    Calls Tryz.prog 115 #[.pointer (some ⟨b, 0, none⟩)] w fun e w' => e = .returned (.tuple #[]) ∧ (Lib.BuilderAt 116 5 B b (.pointer (some ⟨b, 0, none⟩)) bs w' ∧ Below B w w') := by
  rcases h with h | h
  · refine (copyCheck_fresh b w h.cell0 h.shape h.frozen0).mono ?_
    rintro e w' ⟨rfl, rfl⟩
    exact ⟨rfl, h.used _, (Below.refl B w).setCell (p := ⟨b, 0, none⟩) h.1 _⟩
  · refine (copyCheck_used b w h.cell0).mono ?_
    rintro e w' ⟨rfl, rfl⟩
    exact ⟨rfl, h, Below.refl B _⟩

set_option maxHeartbeats 2000000 in
set_option maxRecDepth 100000 in
theorem writeByte (B b : Nat) (bs : List Value) (c : Int) (w : World) (h : Lib.IsBuilder 116 5 B b bs w) (hlen : bs.length + 1 ≤ 140737488355328) (hBw : B ≤ w.heap.size) :
    Calls Tryz.prog 98 #[.pointer (some ⟨b, 0, none⟩), .int .u8 c] w fun e w' => e = .returned .nilIface ∧ (Lib.BuilderAt 116 5 B b (.pointer (some ⟨b, 0, none⟩)) (bs ++ [.int .u8 c]) w' ∧ Below B w w') := by
  obtain ⟨i0, hi, hz0, hz1, hz2⟩ := info_parts infoByte
  go_enter Tryz.func98, Tryz.ntmps98
  go_wp2_with fail
  refine (copyCheck_any B b bs _ h).mono ?_
  rintro e w1 ⟨rfl, h1, hb1⟩
  obtain ⟨hB, v, hbk, hown, hne⟩ := h1
  have c0 : w1.cell? ⟨b, 0, none⟩ = some (.pointer (some ⟨b, 0, none⟩)) := by rw [Lib.cell_of_heap hbk]; rfl
  have c1 : w1.cell? ⟨b, 1, none⟩ = some v := by rw [Lib.cell_of_heap hbk]; rfl
  go_wp2_with (at_builtin; refine wpList_append_own _ rfl _ _ 102 rfl B 5 i0 (.int .u8 0) 1 1 Tryz.underlying102 hi hz0 hz1 hz2 rfl (by decide) _ _ _ rfl (hown.alloc _) ⟨w1.heap.size, 0, none⟩ 1 1 [.int .u8 c] rfl rfl ?c1 ?c2 ?c3 ?c4 ?c5 ?_)
  case c1 =>
    intro j u hj
    match j, hj with
    | 0, hj => simp at hj; subst hj; simp [Addr.add]
  case c2 => intro u hu; simp at hu; subst hu; rfl
  case c3 => unfold maxLen; omega
  case c4 => omega
  case c5 => have := hb1.size; simp; omega
  intro v' w2 hown' hgrow _
  have hlt : b < w1.heap.size := by
    rcases Nat.lt_or_ge b w1.heap.size with h' | h'
    · exact h'
    · simp [Array.getElem?_eq_none h'] at hbk
  have hb2 : w2.heap[b]? = some (.cells #[.pointer (some ⟨b, 0, none⟩), v] 116 (0, 0)) := by
    rw [hgrow.block b (by simp; omega) (fun e => hne e.symm), Lib.alloc_old w1 _ b hlt]
    exact hbk
  have d0 : w2.cell? ⟨b, 0, none⟩ = some (.pointer (some ⟨b, 0, none⟩)) := by rw [Lib.cell_of_heap hb2]; rfl
  have d1 : w2.cell? ⟨b, 1, none⟩ = some v := by rw [Lib.cell_of_heap hb2]; rfl
  have f1 : w2.frozen? ⟨b, 1, none⟩ = false := Lib.frozen_of_heap hb2 1
  obtain ⟨g, cap, rfl⟩ : ∃ g cap, v' = .slice (some ⟨g, 0, none⟩) (bs.length + 1) cap := by
    rcases hown'.2 with ⟨_, h0⟩ | ⟨g, cap, cur, hv, _⟩
    · omega
    · exact ⟨g, cap, hv⟩
  go_wp2
  go_ret
  refine ⟨rfl, ?_, ?_⟩
  · exact Lib.BuilderAt.put (T := 116) (e := 5) hB hb2 (bs' := bs ++ [.int .u8 c]) (by simpa using hown') (by decide)
  · exact ((hb1.alloc (by have := hb1.size; omega) _).grown hgrow (by have := hb1.size; simp; omega) (fun k hk => (hown.lt k hk).1)).setCell (p := ⟨b, 1, none⟩) hB _

set_option maxHeartbeats 2000000 in
set_option maxRecDepth 100000 in
theorem writeString (B b : Nat) (bs : List Value) (s : ByteArray) (w : World) (h : Lib.IsBuilder 116 5 B b bs w) (hlen : bs.length + s.size ≤ 140737488355328) (hBw : B ≤ w.heap.size) :
    Calls Tryz.prog 119 #[.pointer (some ⟨b, 0, none⟩), .string s] w fun e w' => e = .returned (.tuple #[.int .i64 s.size, .nilIface]) ∧ (Lib.BuilderAt 116 5 B b (.pointer (some ⟨b, 0, none⟩)) (bs ++ Lib.strCells s) w' ∧ Below B w w') := by
  obtain ⟨i0, hi, hz0, hz1, hz2⟩ := info_parts infoByte
  go_enter Tryz.func119, Tryz.ntmps119
  go_wp2_with fail
  refine (copyCheck_any B b bs _ h).mono ?_
  rintro e w1 ⟨rfl, h1, hb1⟩
  obtain ⟨hB, v, hbk, hown, hne⟩ := h1
  have c0 : w1.cell? ⟨b, 0, none⟩ = some (.pointer (some ⟨b, 0, none⟩)) := by rw [Lib.cell_of_heap hbk]; rfl
  have c1 : w1.cell? ⟨b, 1, none⟩ = some v := by rw [Lib.cell_of_heap hbk]; rfl
  go_wp2_with (at_builtin; refine Lib.wpList_append_own_string _ rfl _ _ 102 9 rfl B 5 i0 Tryz.underlying102 Tryz.underlying9 hi hz0 hz1 hz2 _ _ _ rfl hown s rfl ?c3 ?c4 ?c5 ?_)
  case c3 => unfold maxLen; omega
  case c4 => omega
  case c5 => have := hb1.size; omega
  intro v' w2 hown' hgrow _
  have hlt : b < w1.heap.size := by
    rcases Nat.lt_or_ge b w1.heap.size with h' | h'
    · exact h'
    · simp [Array.getElem?_eq_none h'] at hbk
  have hb2 : w2.heap[b]? = some (.cells #[.pointer (some ⟨b, 0, none⟩), v] 116 (0, 0)) := by
    rw [hgrow.block b hlt (fun e => hne e.symm)]
    exact hbk
  have d0 : w2.cell? ⟨b, 0, none⟩ = some (.pointer (some ⟨b, 0, none⟩)) := by rw [Lib.cell_of_heap hb2]; rfl
  have d1 : w2.cell? ⟨b, 1, none⟩ = some v := by rw [Lib.cell_of_heap hb2]; rfl
  have f1 : w2.frozen? ⟨b, 1, none⟩ = false := Lib.frozen_of_heap hb2 1
  obtain ⟨ao, n', cap, rfl⟩ : ∃ ao n' cap, v' = .slice ao n' cap := by
    rcases hown'.2 with ⟨hv, _⟩ | ⟨g, cap, cur, hv, _⟩
    · exact ⟨_, _, _, hv⟩
    · exact ⟨_, _, _, hv⟩
  go_wp2
  go_ret2
  refine ⟨rfl, ?_, ?_⟩
  · exact Lib.BuilderAt.put (T := 116) (e := 5) hB hb2 (bs' := bs ++ Lib.strCells s) (by simpa [Lib.strCells_length] using hown') (by decide)
  · exact (hb1.grown hgrow (by have := hb1.size; omega) (fun k hk => (hown.lt k hk).1)).setCell (p := ⟨b, 1, none⟩) hB _

theorem own_below {w w' : World} {B e size n : Nat} {v : Value} {xs : List Value} (h : w.ownsRow B e size v n xs) (hb : Below w.heap.size w w') : w'.ownsRow B e size v n xs := by
  refine ⟨h.1, h.2.imp id ?_⟩
  rintro ⟨g, cap, cur, h1, h2, h3, h4⟩
  exact ⟨g, cap, cur, h1, h2, (hb.block g (Array.getElem?_eq_some_iff.1 h3).1).trans h3, h4⟩
theorem bld_below {B b : Nat} {l : List UInt8} {w w' : World} (h : Bld B b l w) (hB : Below w.heap.size w w') : Bld B b l w' := by
  have key : ∀ p, Lib.BuilderAt 116 5 B b p (Lib.byteCells l) w → Lib.BuilderAt 116 5 B b p (Lib.byteCells l) w' := by
    intro p h
    have hlt := h.lt
    obtain ⟨h1, v, h2, h3, h4⟩ := h
    exact ⟨h1, v, (hB.block b hlt).trans h2, own_below h3 hB, h4⟩
  rcases h with h | h
  · exact .inl (key _ h)
  · exact .inr (key _ h)
theorem bytes_snoc (l : List UInt8) (c : UInt8) : Lib.byteCells (l ++ [c]) = Lib.byteCells l ++ [.int .u8 (c.toNat : Int)] := by simp [Lib.byteCells]
theorem bytes_app (l : List UInt8) (s : ByteArray) : Lib.byteCells (l ++ s.data.toList) = Lib.byteCells l ++ Lib.strCells s := by simp [Lib.byteCells, Lib.strCells]
theorem wb (B b : Nat) (l : List UInt8) (c : UInt8) (w : World) (h : Bld B b l w) (hlen : l.length + 1 ≤ 140737488355328) (hBw : B ≤ w.heap.size) :
    Calls Tryz.prog 98 #[.pointer (some ⟨b, 0, none⟩), .int .u8 (c.toNat : Int)] w fun e w' => e = .returned .nilIface ∧ Bld B b (l ++ [c]) w' ∧ Below B w w' := by
  refine (writeByte B b _ (c.toNat : Int) w h (by rw [Lib.byteCells_length]; exact hlen) hBw).mono ?_
  rintro e w' ⟨rfl, h1, h2⟩
  exact ⟨rfl, .inr (by rw [bytes_snoc]; exact h1), h2⟩
theorem ws (B b : Nat) (l : List UInt8) (s : ByteArray) (w : World) (h : Bld B b l w) (hlen : l.length + s.size ≤ 140737488355328) (hBw : B ≤ w.heap.size) :
    Calls Tryz.prog 119 #[.pointer (some ⟨b, 0, none⟩), .string s] w fun e w' => e = .returned (.tuple #[.int .i64 s.size, .nilIface]) ∧ Bld B b (l ++ s.data.toList) w' ∧ Below B w w' := by
  refine (writeString B b _ s w h (by rw [Lib.byteCells_length]; exact hlen) hBw).mono ?_
  rintro e w' ⟨rfl, h1, h2⟩
  exact ⟨rfl, .inr (by rw [bytes_app]; exact h1), h2⟩
end Go.Proofs.YtanoiiodnddkfaaGreat.bld
namespace Go.Proofs.YtanoiiodnddkfaaGreat.join
open Go.RowKit Go.Proofs.YtanoiiodnddkfaaGreat.kit Go.Proofs.YtanoiiodnddkfaaGreat.check Go.Proofs.YtanoiiodnddkfaaGreat.nspec Go.Proofs.YtanoiiodnddkfaaGreat.rsplit Go.Proofs.YtanoiiodnddkfaaGreat.refA Go.Proofs.YtanoiiodnddkfaaGreat.bld Go.Proofs.YtanoiiodnddkfaaGreat.rcmp Go.Proofs.YtanoiiodnddkfaaGreat.rput

def badB (x : Bs) : Bool := decide (x.length < 1) || decide (63 < x.length)
theorem badB_no {x : Bs} : badB x = false ↔ 1 ≤ x.length ∧ x.length ≤ 63 := by
  unfold badB; rw [Bool.or_eq_false_iff, decide_eq_false_iff_not, decide_eq_false_iff_not]; omega
theorem badB_yes {x : Bs} (h : x.length < 1 ∨ 63 < x.length) : badB x = true := by
  unfold badB; rw [Bool.or_eq_true, decide_eq_true_eq, decide_eq_true_eq]; exact h
def badL (ls : List Bs) : Bool := ls.any badB
def joinS (ls : List Bs) : Bs × Int := if badL ls then ([], 3) else if 254 < room ls then ([], 4) else (put ls, 0)
theorem bad_ok {ls : List Bs} : badL ls = false ↔ okL ls := by
  unfold badL okL
  rw [List.any_eq_false]
  constructor
  · intro h x hx; exact badB_no.1 (by simpa using h x hx)
  · intro h x hx; rw [badB_no.2 (h x hx)]; simp
theorem bad_at {ls : List Bs} {k : Nat} {x : Bs} (h : ls[k]? = some x) (hx : badB x = true) : badL ls = true := by
  unfold badL; rw [List.any_eq_true]; exact ⟨x, List.mem_of_getElem? h, hx⟩
theorem take_room {ls : List Bs} {k : Nat} {x : Bs} (h : ls[k]? = some x) : room (ls.take (k + 1)) = room (ls.take k) + (x.length + 1) := by
  rw [List.take_add_one, h]; simp [room]
theorem take_bad {ls : List Bs} {k : Nat} {x : Bs} (h : ls[k]? = some x) (hb : badL (ls.take k) = false) (hx : badB x = false) : badL (ls.take (k + 1)) = false := by
  rw [List.take_add_one, h]; unfold badL at *; simp [hb, hx]
theorem join_bad {ls : List Bs} (h : badL ls = true) : joinS ls = ([], 3) := by unfold joinS; rw [if_pos h]
theorem join_long {ls : List Bs} (h : badL ls = false) (h2 : 254 < room ls) : joinS ls = ([], 4) := by unfold joinS; rw [h, if_neg (by simp), if_pos h2]
theorem join_ok {ls : List Bs} (h : badL ls = false) (h2 : ¬ 254 < room ls) : joinS ls = (put ls, 0) := by unfold joinS; rw [h, if_neg (by simp), if_neg h2]
def RetJ (r : Bs × Int) : Ending := .returned (.tuple #[.string ⟨r.1.toArray⟩, .int .i64 r.2])

theorem put_take {ls : List Bs} {k : Nat} {x : Bs} (h : ls[k]? = some x) : flat (ls.take (k + 1)) = flat (ls.take k) ++ (UInt8.ofNat x.length :: x) := by
  rw [List.take_add_one, h]; simp [flat]

end Go.Proofs.YtanoiiodnddkfaaGreat.join
namespace Go.Proofs.YtanoiiodnddkfaaGreat.star
open Go.RowKit Go.Proofs.YtanoiiodnddkfaaGreat.kit Go.Proofs.YtanoiiodnddkfaaGreat.check Go.Proofs.YtanoiiodnddkfaaGreat.nspec Go.Proofs.YtanoiiodnddkfaaGreat.rsplit Go.Proofs.YtanoiiodnddkfaaGreat.rput Go.Proofs.YtanoiiodnddkfaaGreat.refA Go.Proofs.YtanoiiodnddkfaaGreat.refC Go.Proofs.YtanoiiodnddkfaaGreat.rcmp Go.Proofs.YtanoiiodnddkfaaGreat.join

def starS (l : Bs) : Bs := if (split l).isSome && decide (l.length ≤ 253) then 1 :: 42 :: l else []
theorem starS_no {l : Bs} (h : split l = none) : starS l = [] := by unfold starS; rw [h]; rfl
theorem starS_long {l : Bs} (h : 253 < l.length) : starS l = [] := by
  unfold starS; rw [decide_eq_false (by omega), Bool.and_false]; rfl
theorem starS_yes {l : Bs} {ls : List Bs} (h : IsN l ls) (hl : l.length ≤ 253) : starS l = 1 :: 42 :: l := by
  unfold starS; rw [split_iff.2 h, decide_eq_true hl]; rfl

set_option maxRecDepth 100000 in
theorem nstar_any (s : ByteArray) (w : World) (hs : s.size ≤ 1099511627776) :
    Calls Tryz.prog 45 #[.string s] w fun e w' => e = .returned (.string ⟨(starS s.data.toList).toArray⟩) ∧ Below w.heap.size w w' := by
  rcases isB_or s with ⟨ls, h⟩ | h
  · have HK := Lib.hid (chk_yes h)
    by_cases hl : 253 < (s.size : Int)
    · rw [starS_long (by rw [size_len]; omega)]
      clear h
      go_enter Tryz.func45, Tryz.ntmps45
      go_wp2_with fail
      refine (check_any s _ hs).mono ?_
      rintro e w1 ⟨rfl, hB1⟩
      rw [HK.out]
      go_wp2
      go_ret
      exact ⟨rfl, hB1⟩
    · rw [starS_yes h (by rw [size_len]; omega)]
      have hE : (⟨#[1, 42]⟩ : ByteArray) ++ s = ⟨(1 :: 42 :: s.data.toList).toArray⟩ := by apply ba_ext; simp
      have HE := Lib.hid hE
      clear h hE
      go_enter Tryz.func45, Tryz.ntmps45
      go_wp2_with fail
      refine (check_any s _ hs).mono ?_
      rintro e w1 ⟨rfl, hB1⟩
      rw [HK.out]
      go_wp2
      go_ret
      exact ⟨ret_str HE.out, hB1⟩
  · rw [starS_no h]
    have HK := Lib.hid (chk_no h)
    clear h
    go_enter Tryz.func45, Tryz.ntmps45
    go_wp2_with fail
    refine (check_any s _ hs).mono ?_
    rintro e w1 ⟨rfl, hB1⟩
    rw [HK.out]
    go_wp2
    go_ret
    exact ⟨rfl, hB1⟩

set_option maxRecDepth 100000 in
set_option maxHeartbeats 1000000 in
theorem star_any (s : ByteArray) (w : World) (hs : s.size ≤ 1099511627776) :
    Calls Tryz.prog 21 #[.string s] w fun e w' => e = .returned (.string ⟨(starS s.data.toList).toArray⟩) ∧ Below w.heap.size w w' := by
  rcases isB_or s with ⟨ls, h⟩ | h
  · by_cases hl : 253 < (s.size : Int)
    · rw [starS_long (by rw [size_len]; omega)]
      have L := Lib.hid h
      clear h
      go_enter Tryz.func21, Tryz.ntmps21
      go_wp2_with fail
      refine (split_yes s ls _ L.out).mono ?_
      rintro e w1 ⟨v1, rfl, hsv1, hB1⟩
      go_wp2
      go_ret
      exact ⟨rfl, hB1⟩
    · rw [starS_yes h (by rw [size_len]; omega)]
      obtain ⟨i0, hi, hz0, hz1, hz2⟩ := info_parts infoStr
      have hll := split_len h
      have hrm := isN_room h
      have hE : put ([42] :: ls) = 1 :: 42 :: s.data.toList := by rw [put, h.1]; rfl
      have HE := Lib.hid hE
      have L := Lib.hid h
      clear h hE
      go_enter Tryz.func21, Tryz.ntmps21
      go_wp2_with fail
      refine (split_yes s ls _ L.out).mono ?_
      rintro e w1 ⟨v1, rfl, hsv1, hB1⟩
      obtain ⟨A3, C3, rfl, hsrc⟩ : ∃ A3 C3, v1 = .slice A3 ls.length C3 ∧ ((A3 = none ∧ ls.length = 0 ∧ C3 = 0) ∨ ∃ ad, A3 = some ad ∧ ∀ (j : Nat) (u : Value), (ls.map strV)[j]? = some u → (w1.alloc (.cells #[.string ⟨#[42]⟩] 9)).cell? (ad.add j) = some u) := by
        have hBa := (Below.refl w1.heap.size w1).alloc (Nat.le_refl _) (.cells #[.string ⟨#[42]⟩] 9)
        rcases hsv1.below hBa rfl with ⟨rfl, rfl⟩ | ⟨_, g, c, rfl, _, _, _, _, h5⟩
        · exact ⟨none, 0, rfl, .inl ⟨rfl, rfl, rfl⟩⟩
        · exact ⟨_, c, rfl, .inr ⟨_, rfl, by have := SV.src ls.length h5; rwa [List.take_length] at this⟩⟩
      have HSRC := Lib.hid hsrc; clear hsrc hsv1
      have hrow : (w1.alloc (.cells #[.string ⟨#[42]⟩] 9)).ownsRow w1.heap.size 9 1 (.slice (some ⟨w1.heap.size, 0, none⟩) 1 1) 1 [.string ⟨#[42]⟩] :=
        ⟨rfl, .inr ⟨w1.heap.size, 1, #[.string ⟨#[42]⟩], rfl, Nat.le_refl _, Array.getElem?_push_size, Nat.le_refl _, by unfold maxLen; omega, rfl, rfl⟩⟩
      have HROW := Lib.hid hrow; clear hrow
      go_wp2_with (at_builtin; refine wpList_append_src rfl (.tmp 17) (.tmp 18) 74 rfl w1.heap.size 9 i0 (.string ByteArray.empty) 1 16 Tryz.underlying74 hi hz0 hz1 hz2 rfl (by decide) _ 1 _ rfl HROW.out A3 ls.length C3 (ls.map strV) rfl ?b1 HSRC.out (one_str _) ?b3 ?b4 ?b5 ?_)
      case b1 => simp
      case b3 => unfold maxLen; omega
      case b4 => omega
      case b5 => simp
      intro v6 w6 hown6 hgr6
      have hB6 : Below w1.heap.size w1 w6 := below_append' ((Below.refl w1.heap.size w1).alloc (Nat.le_refl _) _) (by simp) HROW.out hgr6
      have hlen : ([42] :: ls : List Bs).length = 1 + ls.length := by simp; omega
      have hown7 : w6.ownsRow w1.heap.size 9 1 v6 ([42] :: ls : List Bs).length (([42] :: ls : List Bs).map strV) := by rw [hlen]; exact hown6
      obtain ⟨a6, c6, rfl, hrd⟩ := Rd.of_own hown7
      have HRD := Lib.hid (hrd.mono (Nat.zero_le _))
      clear hown6 hown7 hgr6 hrd hlen
      go_wp2_with fail
      refine (put_n _ _ _ ([42] :: ls) _ (by simp) HRD.out (by simp [room] at hrm ⊢; omega) (by simp; omega)).mono ?_
      rintro e w7 ⟨rfl, hB7⟩
      rw [HE.out]
      go_wp2
      go_ret
      exact ⟨rfl, hB1.trans ((hB6.trans (hB7.mono hB6.size)).mono hB1.size)⟩
  · rw [starS_no h]
    go_enter Tryz.func21, Tryz.ntmps21
    go_wp2_with fail
    refine (split_no s _ hs h).mono ?_
    rintro e w1 ⟨a1, n1, c1, rfl, hB1⟩
    clear h
    go_wp2
    go_ret
    exact ⟨rfl, hB1⟩

def isStarS (l : Bs) : Bool := match split l with | some (x :: _) => decide (x = [42]) | _ => false
theorem isStar_no {l : Bs} (h : split l = none) : isStarS l = false := by unfold isStarS; rw [h]
theorem isStar_root {l : Bs} (h : IsN l []) : isStarS l = false := by unfold isStarS; rw [split_iff.2 h]
theorem isStar_yes {l x : Bs} {r : List Bs} (h : IsN l (x :: r)) : isStarS l = decide (x = [42]) := by unfold isStarS; rw [split_iff.2 h]
theorem pre_star {l : Bs} {ls : List Bs} (h : IsN l ls) : Lib.hasPrefix l [1, 42] = isStarS l := by
  cases ls with
  | nil => rw [isStar_root h, h.1]; rfl
  | cons x r =>
    rw [isStar_yes h, h.1]
    obtain ⟨⟨h1, h2⟩, _⟩ := okL_cons.1 h.2.1
    unfold Lib.hasPrefix
    cases x with
    | nil => simp at h1
    | cons b y =>
      simp only [put, List.cons_append, List.isPrefixOf, Bool.and_true]
      by_cases hy : y = []
      · subst hy
        simp
        rw [Bool.eq_iff_iff, beq_iff_eq, decide_eq_true_eq]; exact eq_comm
      · have hne : ((1 : UInt8) == UInt8.ofNat (b :: y).length) = false := by
          have hyl : 1 ≤ y.length := by
            cases y with
            | nil => exact absurd rfl hy
            | cons p q => simp
          simp only [beq_eq_false_iff_ne]
          intro e
          have := congrArg UInt8.toNat e
          rw [nat_of (by omega)] at this
          simp at this
          exact hy this
        rw [hne, Bool.false_and]
        simp [hy]

theorem st_go {x y : List Bs} {k : Nat} {p q : Bs} {R : Bool} (h : decide (x.drop k = y.drop k) = R) (hp : x[k]? = some p) (hq : y[k]? = some q) (e : p = q) : decide (x.drop (k + 1) = y.drop (k + 1)) = R := by
  obtain ⟨h1, h2⟩ := List.getElem?_eq_some_iff.1 hp
  obtain ⟨h3, h4⟩ := List.getElem?_eq_some_iff.1 hq
  rw [List.drop_eq_getElem_cons h1, List.drop_eq_getElem_cons h3, h2, h4, e] at h
  rw [← h]; simp
theorem st_ne {x y : List Bs} {k : Nat} {p q : Bs} {R : Bool} (h : decide (x.drop k = y.drop k) = R) (hp : x[k]? = some p) (hq : y[k]? = some q) (e : p ≠ q) : false = R := by
  obtain ⟨h1, h2⟩ := List.getElem?_eq_some_iff.1 hp
  obtain ⟨h3, h4⟩ := List.getElem?_eq_some_iff.1 hq
  rw [List.drop_eq_getElem_cons h1, List.drop_eq_getElem_cons h3, h2, h4] at h
  rw [← h]; simp [e]
end Go.Proofs.YtanoiiodnddkfaaGreat.star
namespace Go.Proofs.YtanoiiodnddkfaaGreat.bits

/-- the n bits of v, the highest first -/
def tob (v : Nat) : Nat → List Nat
  | 0 => []
  | n + 1 => (v / 2 ^ n % 2) :: tob v n
/-- the number of bits, the highest first -/
def ofb (l : List Nat) : Nat := l.foldl (fun a b => 2 * a + b) 0
def bitsL (d : List UInt8) : List Nat := d.flatMap (fun c => tob c.toNat 8)
theorem tob_length (v n : Nat) : (tob v n).length = n := by
  induction n with
  | zero => rfl
  | succ n ih => simp [tob, ih]
theorem foldl_add (l : List Nat) (a : Nat) : l.foldl (fun a b => 2 * a + b) a = a * 2 ^ l.length + l.foldl (fun a b => 2 * a + b) 0 := by
  induction l generalizing a with
  | nil => simp
  | cons b r ih =>
    simp only [List.foldl_cons, List.length_cons]
    rw [ih, ih (2 * 0 + b), Nat.pow_succ]
    have : (2 * a + b) * 2 ^ r.length = a * (2 ^ r.length * 2) + (2 * 0 + b) * 2 ^ r.length := by
      rw [Nat.add_mul, Nat.mul_comm 2 a, Nat.mul_assoc, Nat.mul_comm 2 (2 ^ r.length)]; simp
    omega
theorem ofb_cons (b : Nat) (r : List Nat) : ofb (b :: r) = b * 2 ^ r.length + ofb r := by
  unfold ofb; rw [List.foldl_cons, foldl_add]; simp
theorem ofb_tob (v n : Nat) : ofb (tob v n) = v % 2 ^ n := by
  induction n with
  | zero => simp [tob, ofb, Nat.mod_one]
  | succ n ih =>
    rw [tob, ofb_cons, tob_length, ih, Nat.pow_succ]
    have := Nat.mod_mul (x := v) (a := 2 ^ n) (b := 2)
    rw [this, Nat.mul_comm]; omega
theorem tob_mod (v n m : Nat) (h : n ≤ m) : tob (v % 2 ^ m) n = tob v n := by
  induction n with
  | zero => rfl
  | succ n ih =>
    rw [tob, tob, ih (by omega)]
    congr 1
    obtain ⟨d, rfl⟩ : ∃ d, m = n + 1 + d := ⟨m - (n + 1), by omega⟩
    rw [show n + 1 + d = n + (1 + d) by omega, Nat.pow_add, Nat.mod_mul_right_div_self, Nat.pow_add, Nat.pow_one, Nat.mod_mul_right_mod]
theorem tob_append (v w n m : Nat) (hw : w < 2 ^ m) : tob (v * 2 ^ m + w) (n + m) = tob v n ++ tob w m := by
  induction n with
  | zero =>
    rw [Nat.zero_add, tob, List.nil_append]
    rw [← tob_mod (v * 2 ^ m + w) m m (Nat.le_refl _), Nat.mul_comm, Nat.mul_add_mod, Nat.mod_eq_of_lt hw]
  | succ n ih =>
    rw [show n + 1 + m = (n + m) + 1 by omega, tob, ih, tob, List.cons_append]
    congr 1
    rw [Nat.add_comm n m, Nat.pow_add, ← Nat.div_div_eq_div_mul, Nat.mul_comm v, Nat.mul_add_div (Nat.two_pow_pos m), Nat.div_eq_of_lt hw, Nat.add_zero]

/-- n bits a letter, the last filled up with noughts -/
def encF (n : Nat) (al : List UInt8) : Nat → List Nat → List UInt8
  | 0, _ => []
  | f + 1, l => if l = [] then [] else al.getD (ofb ((l ++ List.replicate n 0).take n)) 0 :: encF n al f (l.drop n)
def enc (n : Nat) (al : List UInt8) (l : List Nat) : List UInt8 := encF n al l.length l
theorem encF_fuel (n : Nat) (al : List UInt8) (hn : 1 ≤ n) : ∀ (f g : Nat) (l : List Nat), l.length ≤ f → l.length ≤ g → encF n al f l = encF n al g l
  | 0, 0, _, _, _ => rfl
  | 0, g + 1, l, h, _ => by
    have : l = [] := List.eq_nil_of_length_eq_zero (by omega)
    subst this; simp [encF]
  | f + 1, 0, l, _, h => by
    have : l = [] := List.eq_nil_of_length_eq_zero (by omega)
    subst this; simp [encF]
  | f + 1, g + 1, l, h1, h2 => by
    simp only [encF]
    by_cases hl : l = []
    · simp [hl]
    · have hp : 0 < l.length := List.length_pos_iff.2 hl
      rw [if_neg hl, if_neg hl, encF_fuel n al hn f g (l.drop n) (by rw [List.length_drop]; omega) (by rw [List.length_drop]; omega)]
theorem enc_nil (n : Nat) (al : List UInt8) : enc n al [] = [] := rfl
theorem enc_step {n : Nat} (al : List UInt8) {l : List Nat} (hn : 1 ≤ n) (hl : l ≠ []) : enc n al l = al.getD (ofb ((l ++ List.replicate n 0).take n)) 0 :: enc n al (l.drop n) := by
  have hp : 0 < l.length := List.length_pos_iff.2 hl
  unfold enc
  obtain ⟨f, hf⟩ : ∃ f, l.length = f + 1 := ⟨l.length - 1, by omega⟩
  rw [hf, encF, if_neg hl, encF_fuel n al hn f (l.drop n).length (l.drop n) (by rw [List.length_drop]; omega) (Nat.le_refl _)]
theorem enc_full {n : Nat} (al : List UInt8) (l t : List Nat) (hn : 1 ≤ n) (hl : l.length = n) : enc n al (l ++ t) = al.getD (ofb l) 0 :: enc n al t := by
  have hne : l ++ t ≠ [] := by
    intro h
    have := congrArg List.length h
    rw [List.length_append, List.length_nil] at this; omega
  rw [enc_step al hn hne, List.append_assoc, List.take_left' hl, List.drop_left' hl]
theorem ofb_zero (k : Nat) : ofb (List.replicate k 0) = 0 := by
  induction k with
  | zero => rfl
  | succ k ih => rw [List.replicate_succ, ofb_cons, ih]; simp
theorem ofb_append (x y : List Nat) : ofb (x ++ y) = ofb x * 2 ^ y.length + ofb y := by
  unfold ofb; rw [List.foldl_append, foldl_add]
theorem enc_last {n : Nat} (al : List UInt8) (l : List Nat) (hl : 0 < l.length) (hn : l.length ≤ n) : enc n al l = [al.getD (ofb l * 2 ^ (n - l.length)) 0] := by
  have hne : l ≠ [] := List.length_pos_iff.1 hl
  rw [enc_step (n := n) al (by omega) hne, List.take_append, List.take_of_length_le hn, List.take_replicate, List.drop_eq_nil_iff.2 hn, enc_nil, ofb_append, ofb_zero, List.length_replicate]
  rw [show min (n - l.length) n = n - l.length by omega, Nat.add_zero]
theorem bits_cons (c : UInt8) (r : List UInt8) : bitsL (c :: r) = tob c.toNat 8 ++ bitsL r := rfl
theorem encF_len (n : Nat) (al : List UInt8) (hn : 1 ≤ n) : ∀ (f : Nat) (l : List Nat), (encF n al f l).length ≤ l.length
  | 0, l => by simp [encF]
  | f + 1, l => by
    simp only [encF]
    by_cases hl : l = []
    · simp [hl]
    · have hp : 0 < l.length := List.length_pos_iff.2 hl
      have := encF_len n al hn f (l.drop n)
      rw [List.length_drop] at this
      rw [if_neg hl, List.length_cons]; omega
theorem enc_len (n : Nat) (al : List UInt8) (hn : 1 ≤ n) (l : List Nat) : (enc n al l).length ≤ l.length := encF_len n al hn _ _
theorem bitsL_len (d : List UInt8) : (bitsL d).length = 8 * d.length := by
  induction d with
  | nil => rfl
  | cons c r ih => rw [bits_cons, List.length_append, tob_length, ih, List.length_cons]; omega
theorem to_step {n : Nat} {al : List UInt8} {A : List UInt8} {h b : Nat} {c : UInt8} {r l : List UInt8} {R : List UInt8} (h1 : A ++ enc n al (tob h b ++ bitsL l) = R) (hl : l = c :: r) (hb : b + 8 ≤ 12) {H : Nat} (hH : (h * 256 + c.toNat) % 4096 = H) :
    A ++ enc n al (tob H (b + 8) ++ bitsL r) = R := by
  subst hl
  have hc := c.toNat_lt
  have e1 : tob H (b + 8) = tob h b ++ tob c.toNat 8 := by
    rw [← hH, show (4096 : Nat) = 2 ^ 12 from rfl, tob_mod _ _ _ hb, show (256 : Nat) = 2 ^ 8 from rfl, tob_append _ _ _ _ (by omega)]
  rw [e1, List.append_assoc, ← bits_cons]
  exact h1
theorem to_letter {n : Nat} {al : List UInt8} {A : List UInt8} {H q : Nat} {l : List Nat} {R : List UInt8} (h1 : A ++ enc n al (tob H (q + n) ++ l) = R) (hn : 1 ≤ n) :
    (A ++ [al.getD (H / 2 ^ q % 2 ^ n) 0]) ++ enc n al (tob H q ++ l) = R := by
  have e : tob H (q + n) = tob (H / 2 ^ q) n ++ tob H q := by
    have h2 := tob_append (H / 2 ^ q) (H % 2 ^ q) n q (Nat.mod_lt _ (Nat.two_pow_pos q))
    rw [Nat.div_add_mod', tob_mod H q q (Nat.le_refl _), Nat.add_comm n q] at h2
    exact h2
  rw [e, List.append_assoc, enc_full al _ _ hn (tob_length _ _), ofb_tob] at h1
  rw [← h1]; simp
theorem to_last {n : Nat} {al : List UInt8} {A : List UInt8} {H b : Nat} {R : List UInt8} (h1 : A ++ enc n al (tob H b ++ bitsL []) = R) (hb : 0 < b) (hn : b ≤ n) :
    A ++ [al.getD (H * 2 ^ (n - b) % 2 ^ n) 0] = R := by
  have e : tob H b ++ bitsL [] = tob H b := by simp [bitsL]
  rw [e, enc_last al _ (by rw [tob_length]; exact hb) (by rw [tob_length]; exact hn), tob_length, ofb_tob] at h1
  rw [← h1]
  obtain ⟨d, rfl⟩ : ∃ d, n = b + d := ⟨n - b, by omega⟩
  rw [Nat.add_sub_cancel_left, Nat.pow_add, Nat.mul_mod_mul_right]
theorem to_end {n : Nat} {al : List UInt8} {A : List UInt8} {H : Nat} {R : List UInt8} (h1 : A ++ enc n al (tob H 0 ++ bitsL []) = R) : A = R := by
  rw [← h1]; simp [tob, bitsL, enc_nil]
end Go.Proofs.YtanoiiodnddkfaaGreat.bits
namespace Go.Proofs.YtanoiiodnddkfaaGreat.ints
open Go.RowKit Go.Proofs.YtanoiiodnddkfaaGreat.kit Go.Proofs.YtanoiiodnddkfaaGreat.bits

theorem infoInt : (Tryz.prog.info? 3).map (fun i => (i.zero, i.size, i.bytes)) = some (some (.int .i64 0), 1, 8) := by kernel_rfl
def bitV (x : Nat) : Value := .int .i64 (x : Int)

/-- a list of numbers can be read from address a on -/
def RdN (w : World) (a : Option Addr) (ls : List Nat) : Prop :=
  ∀ (j : Nat) (x : Nat), ls[j]? = some x → ∃ g o, a = some ⟨g, o, none⟩ ∧ g < w.heap.size ∧ w.cell? ⟨g, o + j, none⟩ = some (bitV x)
theorem RdN.nil (w : World) (a : Option Addr) : RdN w a [] := by intro j x h; simp at h
theorem RdN.below {w w' : World} {a : Option Addr} {B : Nat} {ls : List Nat} (h : RdN w a ls) (hB : Below B w w') (hz : B = w.heap.size) : RdN w' a ls := by
  intro j x hx
  obtain ⟨g, o, h1, h3, h4⟩ := h j x hx
  exact ⟨g, o, h1, Nat.lt_of_lt_of_le h3 hB.size, (hB.cell (p := ⟨g, o + j, none⟩) (by rw [hz]; exact h3)).trans h4⟩
theorem RdN.of_own {w : World} {base : Nat} {v : Value} {ls : List Nat} (h : w.ownsRow base 3 1 v ls.length (ls.map bitV)) : ∃ a c, v = .slice a ls.length c ∧ ls.length ≤ c ∧ c ≤ maxLen ∧ RdN w a ls := by
  rcases h.2 with ⟨rfl, h0⟩ | ⟨g, cap, cur, rfl, hb, hg, h1, h2, _, htake⟩
  · have : ls = [] := List.eq_nil_of_length_eq_zero h0
    subst this
    exact ⟨none, 0, rfl, Nat.le_refl _, Nat.zero_le _, RdN.nil _ _⟩
  · refine ⟨_, cap, rfl, h1, h2, ?_⟩
    intro j x hx
    refine ⟨g, 0, rfl, (Array.getElem?_eq_some_iff.1 hg).1, ?_⟩
    have := h.cells (g := g) rfl j (bitV x) (by rw [List.getElem?_map, hx]; rfl)
    have hadd : (⟨g, 0, none⟩ : Addr).add j = ⟨g, 0 + j, none⟩ := by unfold Addr.add; split <;> simp_all
    rw [hadd] at this
    exact this
theorem RdN.drop {w : World} {g o : Nat} {ls : List Nat} (h : RdN w (some ⟨g, o, none⟩) ls) (k : Nat) : RdN w (some ⟨g, o + k, none⟩) (ls.drop k) := by
  intro j x hx
  rw [List.getElem?_drop] at hx
  obtain ⟨g', o', h1, h2, h3⟩ := h _ x hx
  cases h1
  exact ⟨g, o + k, rfl, h2, by rw [Nat.add_assoc]; exact h3⟩
theorem RdN.addr {w : World} {a : Option Addr} {ls : List Nat} (h : RdN w a ls) (hl : 0 < ls.length) : ∃ g o, a = some ⟨g, o, none⟩ := by
  obtain ⟨g, o, h1, _⟩ := h 0 _ (List.getElem?_eq_getElem hl)
  exact ⟨g, o, h1⟩
theorem own_snocN {w1 : World} {base : Nat} {v' : Value} {acc : List Nat} {d : Nat} (h : w1.ownsRow base 3 1 v' (acc.length + 1) (acc.map bitV ++ [.int .i64 (d : Int)])) : w1.ownsRow base 3 1 v' (acc ++ [d]).length ((acc ++ [d]).map bitV) := by
  simpa [bitV] using h

/-- the mark of the highest of r bits -/
def mOf : Nat → Nat
  | 0 => 0
  | r + 1 => 2 ^ r
theorem mOf_half (r : Nat) : mOf (r + 1) / 2 = mOf r := by
  cases r with
  | zero => rfl
  | succ r => show 2 ^ (r + 1) / 2 = 2 ^ r; rw [Nat.pow_succ]; omega
theorem mOf_pos (r : Nat) : 1 ≤ mOf (r + 1) := Nat.two_pow_pos r
theorem mOf_le (r : Nat) (h : r ≤ 8) : mOf r ≤ 128 := by
  cases r with
  | zero => exact Nat.zero_le _
  | succ r => exact Nat.pow_le_pow_right (n := 2) (by omega) (show r ≤ 7 by omega)
theorem bit_step {v r : Nat} {A l R : List Nat} (h : A ++ (tob v (r + 1) ++ l) = R) : (A ++ [v / mOf (r + 1) % 2]) ++ (tob v r ++ l) = R := by
  rw [← h]; simp [tob, mOf]
theorem bit_done {v : Nat} {A l R : List Nat} (h : A ++ (tob v 0 ++ l) = R) : A ++ l = R := by
  rw [← h]; simp [tob]

set_option maxRecDepth 100000 in
set_option maxHeartbeats 2000000 in
theorem bits_own (s : ByteArray) (w : World) (hs : s.size ≤ 1099511627776) :
    Calls Tryz.prog 104 #[.string s] w fun e w' => ∃ v, e = .returned v ∧ w'.ownsRow w.heap.size 3 1 v (bitsL s.data.toList).length ((bitsL s.data.toList).map bitV) ∧ Below w.heap.size w w' := by
  obtain ⟨i0, hi, hz0, hz1, hz2⟩ := info_parts infoInt
  obtain ⟨R, HR⟩ : ∃ R, Hid (bitsL s.data.toList = R) := ⟨_, Lib.hid rfl⟩
  have hRl : R.length = 8 * s.size := by rw [← HR.out, bitsL_len, size_len]
  have HRL := Lib.hid hRl; clear hRl
  rw [HR.out]
  go_enter Tryz.func104, Tryz.ntmps104
  go_wp2
  go_loopg [3, 4, 5] (s.size + 1) (fun gas ov kv _ wr => ∃ (k : Nat) (A : List Nat), kv = .int .i64 k ∧ k ≤ s.size ∧ k + gas = s.size + 1 ∧ Hid (A ++ bitsL (s.data.toList.drop k) = R) ∧ wr.ownsRow w.heap.size 3 1 ov A.length (A.map bitV) ∧ Below w.heap.size w wr)
  case atStart => exact ⟨0, [], rfl, by omega, by omega, HR, World.ownsRow_nil _ _ _ _, Below.refl _ _⟩
  case round =>
    obtain ⟨k, A, rfl, hk, hkg, HW, hA, hB⟩ := hrel
    obtain ⟨gk', hgk'⟩ : ∃ g, g = gk := ⟨_, rfl⟩
    rw [← hgk'] at hkg
    have HK := Lib.hid hkg; clear hkg
    by_cases hlt : k < s.size
    · have hc256 := byte_lt s[k]
      obtain ⟨C, hC⟩ : ∃ C : Nat, s[k].toNat = C := ⟨_, rfl⟩
      have HSTEP : Hid (A ++ (tob C 8 ++ bitsL (s.data.toList.drop (k + 1))) = R) := Lib.hid (by
        have h1 := HW.out
        rw [drop_cons s k hlt, bits_cons, hC] at h1
        exact h1)
      go_wp2
      go_loopg [3, 5] 9 (fun gas ov mv wq => ∃ (r : Nat) (A : List Nat) (M : Nat), mv = .int .i64 M ∧ Hid (M = mOf r) ∧ r ≤ 8 ∧ r < gas ∧ Hid (A ++ (tob C r ++ bitsL (s.data.toList.drop (k + 1))) = R) ∧ wq.ownsRow w.heap.size 3 1 ov A.length (A.map bitV) ∧ Below w.heap.size w wq)
      case atStart => exact ⟨8, A, 128, rfl, Lib.hid rfl, by omega, by omega, HSTEP, hA, hB⟩
      case round =>
        clear hA hB HW
        obtain ⟨r, A', M, rfl, HM, hr, hrg, HV, hA', hB'⟩ := hrel
        cases r with
        | succ r =>
          have hM1 : (1 : Int) ≤ (M : Int) := by have := mOf_pos r; have := HM.out; omega
          have hMl : (M : Int) ≤ 128 := by have := mOf_le (r + 1) hr; have := HM.out; omega
          obtain ⟨M', hM'⟩ : ∃ M', M / 2 = M' := ⟨_, rfl⟩
          have HM' : Hid (M' = mOf r) := Lib.hid (by rw [← hM', HM.out, mOf_half])
          have hm2 : Value.int .i64 ((M : Int) / 2) = Value.int .i64 (M' : Int) := by congr 1; omega
          have HMM := Lib.hid hM'; clear hM'
          obtain ⟨q, hqq⟩ : ∃ q, C / M = q := ⟨_, rfl⟩
          have hq255 : (q : Int) ≤ 255 := by have := Nat.div_le_self C M; omega
          obtain ⟨d, hd⟩ : ∃ d, q % 2 = d := ⟨_, rfl⟩
          have HD : Hid ((A' ++ [d]) ++ (tob C r ++ bitsL (s.data.toList.drop (k + 1))) = R) := Lib.hid (by
            have h1 := bit_step HV.out
            rw [← HM.out, hqq, hd] at h1; exact h1)
          have hqv : Value.int .i64 (wrap64 ((s[k].toNat : Int) / (M : Int))) = Value.int .i64 (q : Int) := by
            have e : (s[k].toNat : Int) / (M : Int) = (q : Int) := by rw [← hqq, ← hC]; simp
            rw [e, IntWalk.wrap64_in _ (by omega)]
          have hdv : Value.int .i64 ((q : Int) % 2) = Value.int .i64 (d : Int) := by congr 1; omega
          have hAl : A'.length ≤ R.length := by rw [← HV.out]; simp
          have hRl := HRL.out
          have hAs : A'.length + 1 ≤ 8 * 1099511627776 + 1 := by omega
          have hsz := hB'.size
          clear hd hRl hC hqq
          go_wp2_with (at_builtin; refine wpList_append_own _ rfl _ _ 43 rfl w.heap.size 3 i0 (.int .i64 0) 1 8 Tryz.underlying43 hi hz0 hz1 hz2 rfl (by decide) _ _ _ rfl (hA'.alloc _) ⟨wr.heap.size, 0, none⟩ 1 1 [.int .i64 (d : Int)] rfl rfl ?c1 ?c2 ?c3 ?c4 ?c5 ?_)
          case c2 => simp [Value.oneCell']
          case c3 => unfold maxLen; omega
          case c4 => omega
          case c5 => omega
          intro v' w1 hown' hgrow _
          have hown2 := own_snocN hown'
          have hB2 := below_append hB' hsz hA' hgrow
          clear hown' hgrow hA' hqv hdv
          go_wp2
          go_roundg (gk - 1)
          case rel => exact ⟨r, _, _, rfl, HM', by omega, by omega, HD, hown2, hB2⟩
          case measure => omega
        | zero =>
          have hM0 : (M : Int) = 0 := by rw [HM.out]; rfl
          have hMd : decide (0 < (M : Int)) = false := by rw [hM0]; rfl
          have hm0 : M = 0 := by omega
          clear hM0
          subst hm0
          have HN := Lib.hid (bit_done HV.out)
          go_wp2
          have hkg := HK.out
          go_roundg (gk' - 1)
          case rel => exact ⟨k + 1, A', by go_num, by omega, by omega, HN, hA', hB'⟩
          case measure => omega
    · have HN := HW.out
      rw [drop_end s k (by omega)] at HN
      have e : A = R := by rw [← HN]; simp [bitsL]
      rw [e] at hA
      have HE := Lib.hid e
      clear e HN
      go_wp2
      go_ret
      exact ⟨_, rfl, hA, hB⟩
theorem bits_any (s : ByteArray) (w : World) (hs : s.size ≤ 1099511627776) :
    Calls Tryz.prog 104 #[.string s] w fun e w' => ∃ a c, e = .returned (.slice a (bitsL s.data.toList).length c) ∧ (bitsL s.data.toList).length ≤ c ∧ c ≤ maxLen ∧ RdN w' a (bitsL s.data.toList) ∧ Below w.heap.size w w' :=
  (bits_own s w hs).mono fun e w' ⟨v, h1, h2, h3⟩ => by
    obtain ⟨a, c, rfl, hc1, hc2, hrd⟩ := RdN.of_own h2
    exact ⟨a, c, h1, hc1, hc2, hrd, h3⟩
end Go.Proofs.YtanoiiodnddkfaaGreat.ints
