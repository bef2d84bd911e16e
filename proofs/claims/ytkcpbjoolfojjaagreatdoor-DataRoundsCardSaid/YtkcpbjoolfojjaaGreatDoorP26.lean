/- gazetteerref1.Types: walk. How many bytes a field takes: gazetteerref1.size: walk. How many bytes a name, a row of texts take: gazetteerref1.size: walk. The fields of a type: gazetteerref1.Form: walk. The fields' bytes: gazetteerref1.Parts: walk. gazetteerref1.CheckData: walk. data.Read: walk, over a stub of the reader of base 64. data.Read of a type with a form: the walk (shape e; printed by gen_rdw.py). data.Read of a type with a form: the walk (shape q; printed by gen_rdw.py). -/
import Derived.Test.YtkcpbjoolfojjaaGreatDoorP24
import Derived.Test.YtkcpbjoolfojjaaGreatDoorP25
import Derived.Test.YtkcpbjoolfojjaaGreatDoorP22
import Derived.Test.YtkcpbjoolfojjaaGreatDoorP20
import Derived.Test.YtkcpbjoolfojjaaGreatDoorP23
import Derived.BigQuiet
import Derived.Deep.QuietTactic
import Derived.Outline
import Derived.Handy
namespace Go.Proofs.YtkcpbjoolfojjaaGreatDoor.typesR
open Go.RowKit Go.Proofs.YtkcpbjoolfojjaaGreatDoor.kit Go.Proofs.YtkcpbjoolfojjaaGreatDoor.nspec Go.Proofs.YtkcpbjoolfojjaaGreatDoor.bits Go.Proofs.YtkcpbjoolfojjaaGreatDoor.ints Go.Proofs.YtkcpbjoolfojjaaGreatDoor.fld Go.Proofs.YtkcpbjoolfojjaaGreatDoor.typesP Go.Proofs.YtkcpbjoolfojjaaGreatDoor.takes Go.Proofs.YtkcpbjoolfojjaaGreatDoor.typesW Go.Proofs.YtkcpbjoolfojjaaGreatDoor.two
set_option linter.unusedVariables false

theorem below_drewN (B : Nat) (w : World) (n : Nat) : Below B w (w.drewN n) := ⟨rfl, rfl, rfl, Nat.le_refl _, fun _ _ => rfl⟩
theorem ownsRow_below {w w' : World} {base : Nat} {e : TypeId} {size n : Nat} {v : Value} {xs : List Value} (h : w.ownsRow base e size v n xs) (hB : Below w.heap.size w w') : w'.ownsRow base e size v n xs := by
  refine ⟨h.1, ?_⟩
  rcases h.2 with h1 | ⟨g, cap, cur, h1, h2, h3, h4⟩
  · exact .inl h1
  · exact .inr ⟨g, cap, cur, h1, h2, (hB.block g (Array.getElem?_eq_some_iff.1 h3).1).trans h3, h4⟩

end Go.Proofs.YtkcpbjoolfojjaaGreatDoor.typesR
namespace Go.Proofs.YtkcpbjoolfojjaaGreatDoor.rsize
open Go.RowKit Go.Proofs.YtkcpbjoolfojjaaGreatDoor.kit Go.Proofs.YtkcpbjoolfojjaaGreatDoor.nspec Go.Proofs.YtkcpbjoolfojjaaGreatDoor.rsplit Go.Proofs.YtkcpbjoolfojjaaGreatDoor.fld Go.Proofs.YtkcpbjoolfojjaaGreatDoor.takes Go.Proofs.YtkcpbjoolfojjaaGreatDoor.hostP Go.Proofs.YtkcpbjoolfojjaaGreatDoor.hostT Go.Proofs.YtkcpbjoolfojjaaGreatDoor.textsT Go.Proofs.YtkcpbjoolfojjaaGreatDoor.typesW Go.Proofs.YtkcpbjoolfojjaaGreatDoor.typesR
set_option linter.unusedVariables false

end Go.Proofs.YtkcpbjoolfojjaaGreatDoor.rsize
namespace Go.Proofs.YtkcpbjoolfojjaaGreatDoor.rsizeB
open Go.RowKit Go.Proofs.YtkcpbjoolfojjaaGreatDoor.kit Go.Proofs.YtkcpbjoolfojjaaGreatDoor.nspec Go.Proofs.YtkcpbjoolfojjaaGreatDoor.rsplit Go.Proofs.YtkcpbjoolfojjaaGreatDoor.fld Go.Proofs.YtkcpbjoolfojjaaGreatDoor.takes Go.Proofs.YtkcpbjoolfojjaaGreatDoor.hostP Go.Proofs.YtkcpbjoolfojjaaGreatDoor.hostT Go.Proofs.YtkcpbjoolfojjaaGreatDoor.textsT Go.Proofs.YtkcpbjoolfojjaaGreatDoor.rsize
set_option linter.unusedVariables false

end Go.Proofs.YtkcpbjoolfojjaaGreatDoor.rsizeB
namespace Go.Proofs.YtkcpbjoolfojjaaGreatDoor.rform
open Go.RowKit Go.Proofs.YtkcpbjoolfojjaaGreatDoor.kit Go.Proofs.YtkcpbjoolfojjaaGreatDoor.nspec Go.Proofs.YtkcpbjoolfojjaaGreatDoor.fld Go.Proofs.YtkcpbjoolfojjaaGreatDoor.rsize Go.Proofs.YtkcpbjoolfojjaaGreatDoor.dcheck
set_option linter.unusedVariables false

end Go.Proofs.YtkcpbjoolfojjaaGreatDoor.rform
namespace Go.Proofs.YtkcpbjoolfojjaaGreatDoor.parts
open Go.RowKit Go.Proofs.YtkcpbjoolfojjaaGreatDoor.kit Go.Proofs.YtkcpbjoolfojjaaGreatDoor.nspec Go.Proofs.YtkcpbjoolfojjaaGreatDoor.rsplit Go.Proofs.YtkcpbjoolfojjaaGreatDoor.fld Go.Proofs.YtkcpbjoolfojjaaGreatDoor.hostT Go.Proofs.YtkcpbjoolfojjaaGreatDoor.textsT Go.Proofs.YtkcpbjoolfojjaaGreatDoor.splitD Go.Proofs.YtkcpbjoolfojjaaGreatDoor.rsize Go.Proofs.YtkcpbjoolfojjaaGreatDoor.rsizeB Go.Proofs.YtkcpbjoolfojjaaGreatDoor.rform
set_option linter.unusedVariables false

def Fair4 (fs : List Fld) : Prop := fs.length ≤ 20 ∧ ∀ k, Fld.num k ∈ fs → k = 1 ∨ k = 2 ∨ k = 4
end Go.Proofs.YtkcpbjoolfojjaaGreatDoor.parts
namespace Go.Proofs.YtkcpbjoolfojjaaGreatDoor.checkData
open Go.RowKit Go.Proofs.YtkcpbjoolfojjaaGreatDoor.kit Go.Proofs.YtkcpbjoolfojjaaGreatDoor.nspec Go.Proofs.YtkcpbjoolfojjaaGreatDoor.fld Go.Proofs.YtkcpbjoolfojjaaGreatDoor.takes Go.Proofs.YtkcpbjoolfojjaaGreatDoor.splitD Go.Proofs.YtkcpbjoolfojjaaGreatDoor.rsize Go.Proofs.YtkcpbjoolfojjaaGreatDoor.rform Go.Proofs.YtkcpbjoolfojjaaGreatDoor.parts
set_option linter.unusedVariables false

theorem fair4_of {fs gs : List Fld} (h : some gs = some fs) (hl : gs.length ≤ 20) (hk : gs.all (fun f => match f with | .num k => decide (k = 1 ∨ k = 2 ∨ k = 4) | _ => true) = true) : Fair4 fs := by
  have e := Option.some.inj h
  subst e
  refine ⟨hl, fun k hm => ?_⟩
  have := List.all_eq_true.1 hk _ hm
  simpa using this
theorem form_fair4 {t : Int} {fs : List Fld} (h : formS t = some fs) : Fair4 fs := by
  by_cases h1 : t = 1
  · subst h1; exact fair4_of h (by decide) (by decide)
  by_cases h2 : t = 2
  · subst h2; exact fair4_of h (by decide) (by decide)
  by_cases h5 : t = 5
  · subst h5; exact fair4_of h (by decide) (by decide)
  by_cases h12 : t = 12
  · subst h12; exact fair4_of h (by decide) (by decide)
  by_cases h39 : t = 39
  · subst h39; exact fair4_of h (by decide) (by decide)
  by_cases h6 : t = 6
  · subst h6; exact fair4_of h (by decide) (by decide)
  by_cases h13 : t = 13
  · subst h13; exact fair4_of h (by decide) (by decide)
  by_cases h15 : t = 15
  · subst h15; exact fair4_of h (by decide) (by decide)
  by_cases h16 : t = 16
  · subst h16; exact fair4_of h (by decide) (by decide)
  by_cases h28 : t = 28
  · subst h28; exact fair4_of h (by decide) (by decide)
  by_cases h33 : t = 33
  · subst h33; exact fair4_of h (by decide) (by decide)
  by_cases h35 : t = 35
  · subst h35; exact fair4_of h (by decide) (by decide)
  by_cases h43 : t = 43
  · subst h43; exact fair4_of h (by decide) (by decide)
  by_cases h46 : t = 46
  · subst h46; exact fair4_of h (by decide) (by decide)
  by_cases h47 : t = 47
  · subst h47; exact fair4_of h (by decide) (by decide)
  by_cases h48 : t = 48
  · subst h48; exact fair4_of h (by decide) (by decide)
  by_cases h50 : t = 50
  · subst h50; exact fair4_of h (by decide) (by decide)
  by_cases h51 : t = 51
  · subst h51; exact fair4_of h (by decide) (by decide)
  by_cases h257 : t = 257
  · subst h257; exact fair4_of h (by decide) (by decide)
  simp [formS, h1, h2, h5, h12, h39, h6, h13, h15, h16, h28, h33, h35, h43, h46, h47, h48, h50, h51, h257] at h
end Go.Proofs.YtkcpbjoolfojjaaGreatDoor.checkData
namespace Go.Proofs.YtkcpbjoolfojjaaGreatDoor.rdW
open Go.RowKit Go.Proofs.YtkcpbjoolfojjaaGreatDoor.kit Go.Proofs.YtkcpbjoolfojjaaGreatDoor.nspec Go.Proofs.YtkcpbjoolfojjaaGreatDoor.fld Go.Proofs.YtkcpbjoolfojjaaGreatDoor.bits Go.Proofs.YtkcpbjoolfojjaaGreatDoor.bld Go.Proofs.YtkcpbjoolfojjaaGreatDoor.formW Go.Proofs.YtkcpbjoolfojjaaGreatDoor.splitD Go.Proofs.YtkcpbjoolfojjaaGreatDoor.dcheck Go.Proofs.YtkcpbjoolfojjaaGreatDoor.rdP Go.Proofs.YtkcpbjoolfojjaaGreatDoor.rdQ Go.Proofs.YtkcpbjoolfojjaaGreatDoor.wd Go.Proofs.YtkcpbjoolfojjaaGreatDoor.wdB Go.Proofs.YtkcpbjoolfojjaaGreatDoor.wdD Go.Proofs.YtkcpbjoolfojjaaGreatDoor.wdE Go.Proofs.YtkcpbjoolfojjaaGreatDoor.wdF Go.Proofs.YtkcpbjoolfojjaaGreatDoor.wdG Go.Proofs.YtkcpbjoolfojjaaGreatDoor.rdDoor
set_option linter.unusedVariables false

/-- words handed in -/
structure In (w : World) (a : Option Addr) (L : List Wo) (cap : Nat) : Prop where
  rd : ∀ (j : Nat) (x : Wo), L[j]? = some x → ∃ g o, a = some ⟨g, o, none⟩ ∧ g < w.heap.size ∧ w.cell? ⟨g, o + j * 2, none⟩ = some (.string x.s) ∧ w.cell? ⟨g, o + j * 2 + 1, none⟩ = some (.bool x.q)
  few : L.length ≤ 1048576
  sm : ∀ x ∈ L, x.s.size ≤ 1048576
  le : L.length ≤ cap
  cm : cap ≤ maxLen
/-- the method that reads a field, and what it is called of -/
def funOf : Fld → FuncId
  | .num _ => 132
  | .ip4 => 137
  | .ip6 => 159
  | .host => 140
  | .text => 151
  | .texts => 156
  | .tail => 212
  | .hexes => 166
  | .b64 => 173
  | .kind => 170
  | .kinds => 178
  | .salt => 204
  | .hash => 207
def recOf : Fld → Value
  | .num n => .int .i64 (n : Int)
  | _ => .agg #[]
theorem field_read (C : Nat) (a : Option Addr) (L : List Wo) (cap : Nat) (O : ByteArray) (k : Nat) (w : World) (h : AtW w C a L cap O k) (ht : TabW C w) (f : Fld) (hf : ∀ n, f = .num n → n = 1 ∨ n = 2 ∨ n = 4) :
    Calls Tryz.prog (funOf f) #[recOf f, .pointer (some ⟨C, 0, none⟩)] w (Post C a L cap O w (fieldR O.data.toList L k f)) := by
  cases f with
  | num n => exact wdD.number_read C a L cap O k w h _ n (hf n rfl)
  | ip4 => exact wdI.ip4_read C a L cap O k w h _ ht
  | ip6 => exact wdM.ip6_read C a L cap O k w h _ ht
  | host => exact wdH.host_read C a L cap O k w h
  | text => exact wdE.text_read C a L cap O k w h _
  | texts => exact wdG.texts_read C a L cap O k w h _
  | tail => exact wdE.tail_read C a L cap O k w h _
  | hexes => exact wdE.hexes_read C a L cap O k w h _
  | b64 => exact wdK.b64_read C a L cap O k w h _
  | kind => exact wdF.kind_read C a L cap O k w h ht
  | kinds => exact wdG.kinds_read C a L cap O k w h _ ht
  | salt => exact wdF.salt_read C a L cap O k w h
  | hash => exact wdF.hash_read C a L cap O k w h
/-- the three boxes -/
def boxes (w : World) : World := ((w.alloc (.cells #[.string ⟨#[]⟩] 9)).alloc (.cells #[.int .i64 0] 3)).alloc (.cells #[.int .i64 0] 25)
theorem boxes_at (w : World) : St w.heap.size w (boxes w) ⟨#[]⟩ 0 0 ∧ (boxes w).heap.size = w.heap.size + 3 := by
  have s1 : ∀ (w : World) o, (w.alloc o).heap.size = w.heap.size + 1 := fun w o => by simp
  have hB : Below w.heap.size w (boxes w) := (((Below.refl w.heap.size w).alloc (Nat.le_refl _) _).alloc (by rw [s1]; omega) _).alloc (by rw [s1, s1]; omega) _
  have hs : (boxes w).heap.size = w.heap.size + 3 := by unfold boxes; rw [s1, s1, s1]
  refine ⟨⟨?_, ?_, ?_, hB, by rw [hs]; omega⟩, hs⟩
  · exact (heap_alloc_old _ _ (by rw [s1, s1]; omega)).trans ((heap_alloc_old _ _ (by rw [s1]; omega)).trans (heap_alloc_new _ _))
  · have h := heap_alloc_new (w.alloc (.cells #[.string ⟨#[]⟩] 9)) (.cells #[.int .i64 0] 3)
    rw [s1] at h
    exact (heap_alloc_old _ _ (by rw [s1, s1]; omega)).trans h
  · have h := heap_alloc_new ((w.alloc (.cells #[.string ⟨#[]⟩] 9)).alloc (.cells #[.int .i64 0] 3)) (.cells #[.int .i64 0] 25)
    rw [s1, s1] at h
    exact h
theorem set3 {b0 : Nat} {w0 w : World} {dv : ByteArray} {av ev : Int} (h : St b0 w0 w dv av ev) (d : ByteArray) (x y : Int) : St b0 w0 (((w.setCell ⟨b0, 0, none⟩ (.string d)).setCell ⟨b0 + 1, 0, none⟩ (.int .i64 x)).setCell ⟨b0 + 2, 0, none⟩ (.int .i64 y)) d x y := ((h.setD d).setA x).setE y
set_option maxRecDepth 100000 in
set_option maxHeartbeats 2000000 in
/-- no type of data -/
theorem read_type (t : Int) (a : Option Addr) (L : List Wo) (cap : Nat) (O : ByteArray) (w : World) (hb : holdsB t = false) :
    Calls Tryz.prog 5 #[.int .i64 t, .slice a L.length cap, .string O] w (ReadE w.heap.size w (readD t L O.data.toList)) := by
  have hr : readD t L O.data.toList = ([], 0, 6) := by unfold readD; rw [if_pos hb]
  rw [hr]
  have CH := Lib.hid (fun w => holds_any t w)
  rw [hb] at CH
  obtain ⟨n, hn⟩ : ∃ n, L.length = n := ⟨_, rfl⟩
  rw [hn]
  obtain ⟨hS, hz⟩ := boxes_at w
  obtain ⟨W, hW⟩ : ∃ W, boxes w = W := ⟨_, rfl⟩
  obtain ⟨b0, hb0⟩ : ∃ b0, w.heap.size = b0 := ⟨_, rfl⟩
  rw [hW, hb0] at hS
  rw [hb0]
  have HW := Lib.hid hW; have HS := Lib.hid hS
  clear hr hn hS hz hW hb
  go_enter_defers Tryz.func5, Tryz.ntmps5
  go_upto_region 1 with fail
  change Code.wp _ _ _ _ (boxes w)
  rw [HW.out]
  go_wp2_with fail
  refine (CH.out _).mono ?_
  rintro e w2 ⟨rfl, rfl⟩
  have cd := HS.out.cd; have ca := HS.out.ca; have ce := HS.out.ce; have zd := HS.out.zd; have za := HS.out.za; have ze := HS.out.ze
  go_wp2_with fail
  exact door_none (set3 HS.out ⟨#[]⟩ 0 6) _ rfl rfl rfl
set_option maxRecDepth 100000 in
set_option maxHeartbeats 2000000 in
/-- no origin -/
theorem read_name (t : Int) (a : Option Addr) (L : List Wo) (cap : Nat) (O : ByteArray) (w : World) (hb : holdsB t = true) (ho : (nspec.split O.data.toList).isSome = false) :
    Calls Tryz.prog 5 #[.int .i64 t, .slice a L.length cap, .string O] w (ReadE w.heap.size w (readD t L O.data.toList)) := by
  have hr : readD t L O.data.toList = ([], 0, 1) := by unfold readD; rw [if_neg (by rw [hb]; simp), if_pos ho]
  rw [hr]
  have CH := Lib.hid (fun w => holds_any t w)
  rw [hb] at CH
  have CC := Lib.hid (fun w => checkAll.check_all O w)
  rw [show check.chkE O = 1 from by rw [chk_eq, if_neg (by rw [ho]; simp)]] at CC
  obtain ⟨n, hn⟩ : ∃ n, L.length = n := ⟨_, rfl⟩
  rw [hn]
  obtain ⟨hS, hz⟩ := boxes_at w
  obtain ⟨W, hW⟩ : ∃ W, boxes w = W := ⟨_, rfl⟩
  obtain ⟨b0, hb0⟩ : ∃ b0, w.heap.size = b0 := ⟨_, rfl⟩
  rw [hW, hb0] at hS
  rw [hb0]
  have HW := Lib.hid hW; have HS := Lib.hid hS
  clear hr hn hS hz hW hb ho
  go_enter_defers Tryz.func5, Tryz.ntmps5
  go_upto_region 1 with fail
  change Code.wp _ _ _ _ (boxes w)
  rw [HW.out]
  go_wp2_with fail
  refine (CH.out _).mono ?_
  rintro e w2 ⟨rfl, rfl⟩
  go_wp2_with fail
  refine (CC.out _).mono ?_
  rintro e w3 ⟨rfl, hB3⟩
  have HS3 := Lib.hid (HS.out.below hB3)
  clear hB3
  have cd := HS3.out.cd; have ca := HS3.out.ca; have ce := HS3.out.ce; have zd := HS3.out.zd; have za := HS3.out.za; have ze := HS3.out.ze
  go_wp2_with fail
  exact door_none (set3 HS3.out ⟨#[]⟩ 0 1) _ rfl rfl rfl
theorem St.effC {b0 C : Nat} {w0 w w1 : World} {dv : ByteArray} {av ev : Int} (h : St b0 w0 w dv av ev) (he : EffW C w w1) (hC : b0 + 3 ≤ C) : St b0 w0 w1 dv av ev :=
  ⟨(he.kept _ (by have := h.top; omega) (by omega)).trans h.hd, (he.kept _ (by have := h.top; omega) (by omega)).trans h.ha, (he.kept _ (by have := h.top; omega) (by omega)).trans h.he,
    h.bel.trans (he.to_below (by omega) (by have := h.top; omega)), Nat.le_trans h.top he.size⟩
/-- the words' own block -/
abbrev wordsO (a : Option Addr) (n cap : Nat) (O : ByteArray) : Obj := .cells #[.slice a n cap, .int .i64 0, .string O] 44
theorem words_at {w w1 : World} {a : Option Addr} {L : List Wo} {cap : Nat} {O : ByteArray} (h : In w a L cap) (hO : O.size ≤ 1048576) (hB : Below w.heap.size w w1) : AtW (w1.alloc (wordsO a L.length cap O)) w1.heap.size a L cap O 0 := by
  refine ⟨heap_alloc_new w1 _, ?_, h.few, h.sm, hO, h.le, h.cm, Nat.zero_le _⟩
  intro j x hx
  obtain ⟨g, o, h1, h2, h3, h4⟩ := h.rd j x hx
  have hg : g < w1.heap.size := Nat.lt_of_lt_of_le h2 hB.size
  have e := fun i => (World.cell?_alloc_old w1 (wordsO a L.length cap O) ⟨g, i, none⟩ (Nat.ne_of_lt hg)).trans (hB.cell (p := ⟨g, i, none⟩) h2)
  exact ⟨g, o, h1, by rw [World.size_alloc]; omega, by omega, (e _).trans h3, (e _).trans h4⟩
def addF (A : Bs) (x : Got (Bs × Nat)) : Got (Bs × Nat) := match x with
  | .error e => .error e
  | .ok y => .ok (A ++ y.1, y.2)
theorem addF_nil (x : Got (Bs × Nat)) : addF [] x = x := by cases x <;> rfl
theorem fields_bad {org : Bs} {W : List Wo} {fs : List Fld} {j k : Nat} {f : Fld} {A : Bs} {R : Got (Bs × Nat)} {x : Int × Int} (h : addF A (fieldsR org W (fs.drop j) k) = R) (hf : fs[j]? = some f) (hx : fieldR org W k f = .error x) : R = .error x := by
  obtain ⟨hj, rfl⟩ := List.getElem?_eq_some_iff.1 hf
  rw [← h, List.drop_eq_getElem_cons hj, fieldsR, hx]; rfl
theorem fields_go {org : Bs} {W : List Wo} {fs : List Fld} {j k k' : Nat} {f : Fld} {A d : Bs} {R : Got (Bs × Nat)} (h : addF A (fieldsR org W (fs.drop j) k) = R) (hf : fs[j]? = some f) (hx : fieldR org W k f = .ok (d, k')) : addF (A ++ d) (fieldsR org W (fs.drop (j + 1)) k') = R := by
  obtain ⟨hj, rfl⟩ := List.getElem?_eq_some_iff.1 hf
  rw [← h, List.drop_eq_getElem_cons hj, fieldsR, hx]
  cases hq : fieldsR org W (fs.drop (j + 1)) k' with
  | error e => simp only [addF, hq]
  | ok y => simp only [addF, hq, List.append_assoc]
theorem fields_end {org : Bs} {W : List Wo} {fs : List Fld} {j k : Nat} {A : Bs} {R : Got (Bs × Nat)} (h : addF A (fieldsR org W (fs.drop j) k) = R) (hj : fs.length ≤ j) : R = .ok (A, k) := by
  rw [← h, List.drop_eq_nil_of_le hj]; simp [addF, fieldsR]
set_option maxRecDepth 100000 in
set_option maxHeartbeats 4000000 in
/-- any bytes -/
theorem read_sign (t : Int) (a : Option Addr) (L : List Wo) (cap : Nat) (O : ByteArray) (w : World) (hin : In w a L cap) (hO : O.size ≤ 1048576) (ht : TabS w) (hb : holdsB t = true) (ho : (nspec.split O.data.toList).isSome = true) (hsg : isSign L = true) :
    Calls Tryz.prog 5 #[.int .i64 t, .slice a L.length cap, .string O] w (ReadE w.heap.size w (readD t L O.data.toList)) := by
  obtain ⟨x, r, hL⟩ : ∃ x r, L = x :: r := by
    cases L with
    | nil => cases hsg
    | cons x r => exact ⟨x, r, rfl⟩
  have hsx : x.q = false ∧ x.s.data.toList = [92, 35] := by
    rw [hL] at hsg
    simpa [isSign] using hsg
  obtain ⟨hxq, hxs⟩ := hsx
  have hrE : ∀ e, genericR L = .error e → readD t L O.data.toList = ([], e.1, e.2) := fun e h => by
    unfold readD; rw [if_neg (by rw [hb]; simp), if_neg (by rw [ho]; simp), if_pos hsg, h]
  have hrO : ∀ d, genericR L = .ok d → readD t L O.data.toList = if checkS t d = 0 then (d, 0, 0) else ([], 0, 7) := fun d h => by
    unfold readD; rw [if_neg (by rw [hb]; simp), if_neg (by rw [ho]; simp), if_pos hsg, h]
  have hL1 : 1 ≤ L.length := by rw [hL]; simp
  have hfew := hin.few
  have hgl : ∀ d, genericR L = .ok d → d.length ≤ 65535 := fun d e => by
    unfold genericR at e
    cases h1 : L[1]? with
    | none => rw [h1] at e; cases e
    | some y =>
      rw [h1] at e
      simp only at e
      split at e
      · cases e
      · split at e
        · cases e
        · cases h2 : restW (L.drop 2) 2 with
          | error j => rw [h2] at e; cases e
          | ok u =>
            rw [h2] at e
            simp only at e
            cases h3 : unhexS u with
            | none => rw [h3] at e; cases e
            | some v =>
              rw [h3] at e
              simp only at e
              split at e
              · rename_i hl
                cases e
                have := count_le y.s.data.toList 5 65535 (by omega)
                omega
              · cases e
  have CG := Lib.hid (fun C w (h : AtW w C a L cap O 0) => wdH.generic_any C a L cap O 0 w h hL1)
  obtain ⟨G, hG⟩ : ∃ G, genericR L = G := ⟨_, rfl⟩
  obtain ⟨RD, hRD⟩ : ∃ RD, readD t L O.data.toList = RD := ⟨_, rfl⟩
  rw [hG] at hrE hrO hgl CG
  rw [hRD] at hrE hrO ⊢
  have HRE := Lib.hid hrE; have HRO := Lib.hid hrO
  have CF : Hid (∀ w, Calls Tryz.prog 16 #[.int .i64 t] w fun e w' => (∃ v b, e = .returned (.tuple #[v, .bool b])) ∧ Below w.heap.size w w') := Lib.hid (fun w => by
    cases hf : formS t with
    | none =>
      refine (form_no t w hf).mono ?_
      rintro e w' ⟨rfl, rfl⟩
      exact ⟨⟨_, _, rfl⟩, Below.refl _ _⟩
    | some fs =>
      refine (form_yes t fs w hf).mono ?_
      rintro e w' ⟨rfl, rfl⟩
      exact ⟨⟨_, _, rfl⟩, (Below.refl _ _).alloc (Nat.le_refl _) _⟩)
  have CH := Lib.hid (fun w => holds_any t w)
  rw [hb] at CH
  have CC := Lib.hid (fun w => checkAll.check_all O w)
  rw [show check.chkE O = 0 from by rw [chk_eq, if_pos ho]] at CC
  have HIN := Lib.hid (fun w1 hB => words_at (w1 := w1) hin hO hB)
  have HCW := Lib.hid (fun (w1 : World) (hB : Below w.heap.size w w1) (x : Wo) (r : List Wo) (e : L = x :: r) => show ∃ g o, a = some ⟨g, o, none⟩ ∧ g < w1.heap.size ∧ w1.cell? ⟨g, o, none⟩ = some (.string x.s) ∧ w1.cell? ⟨g, o + 1, none⟩ = some (.bool x.q) from by
    obtain ⟨g, o, h1, h2, h3, h4⟩ := hin.rd 0 x (by rw [e]; rfl)
    exact ⟨g, o, h1, Nat.lt_of_lt_of_le h2 hB.size, (hB.cell (p := ⟨g, o, none⟩) h2).trans h3, (hB.cell (p := ⟨g, o + 1, none⟩) h2).trans h4⟩)
  have HT := Lib.hid ht
  obtain ⟨hS, hz⟩ := boxes_at w
  obtain ⟨W, hW⟩ : ∃ W, boxes w = W := ⟨_, rfl⟩
  obtain ⟨b0, hb0⟩ : ∃ b0, w.heap.size = b0 := ⟨_, rfl⟩
  rw [hW, hb0] at hS
  have HB0 := Lib.hid hb0
  rw [hb0]
  have HW := Lib.hid hW; have HS := Lib.hid hS
  have HL := Lib.hid hL; have HXQ := Lib.hid hxq; have HXS := Lib.hid hxs; have HGL := Lib.hid hgl
  have hq92 : (x.s.toList == [92, 35]) = true := by rw [Lib.toList_data, hxs]; rfl
  have hn0 : 0 < (L.length : Int) := by omega
  clear hrE hrO hRD hS hz hW hb ho hL hG hsg hin ht hxs hxq hgl
  go_enter_defers Tryz.func5, Tryz.ntmps5
  go_upto_region 1 with fail
  change Code.wp _ _ _ _ (boxes w)
  rw [HW.out]
  go_wp2_with fail
  refine (CH.out _).mono ?_
  rintro e w2 ⟨rfl, rfl⟩
  go_wp2_with fail
  refine (CC.out _).mono ?_
  rintro e w3 ⟨rfl, hB3⟩
  have HS3 := Lib.hid (HS.out.below hB3)
  clear hB3
  have HBW3 : Hid (Below w.heap.size w w3) := Lib.hid (by have h := HS3.out.bel; rw [← HB0.out] at h; exact h)
  have HA4 := Lib.hid (HIN.out w3 HBW3.out)
  have HS4 := Lib.hid (HS3.out.lay (wordsO a L.length cap O))
  have hC3 : b0 + 3 ≤ w3.heap.size := HS3.out.top
  have HT4 : Hid (TabW w3.heap.size (w3.alloc (wordsO a L.length cap O))) := Lib.hid ⟨w3, Nat.le_refl _, HT.out.below HBW3.out, (Below.refl _ _).alloc (Nat.le_refl _) _⟩
  have HCW4 := Lib.hid (fun x r e => HCW.out (w3.alloc (wordsO a L.length cap O)) (HBW3.out.alloc HBW3.out.size _) x r e)
  obtain ⟨C, hCC⟩ : ∃ C, w3.heap.size = C := ⟨_, rfl⟩
  obtain ⟨w4, hw4⟩ : ∃ w4, w3.alloc (wordsO a L.length cap O) = w4 := ⟨_, rfl⟩
  rw [hCC, hw4] at HA4 HT4
  rw [hw4] at HS4 HCW4
  rw [hCC] at hC3
  have HW4 := Lib.hid hw4; have HCC := Lib.hid hCC
  clear hw4 hCC
  go_upto_region 7 with fail
  change Code.wp _ _ _ _ (w3.alloc (wordsO a _ cap O))
  rw [HW4.out, HCC.out]
  go_wp2_with fail
  refine (CF.out _).mono ?_
  rintro e w5 ⟨⟨v, bv, rfl⟩, hB5⟩
  have HA5 := Lib.hid (HA4.out.below hB5)
  have HS5 := Lib.hid (HS4.out.below hB5)
  obtain ⟨g, o, ha, hg, hcs, hcq⟩ := HCW4.out x r HL.out
  have c5s := (hB5.cell (p := ⟨g, o, none⟩) hg).trans hcs
  have c5q := (hB5.cell (p := ⟨g, o + 1, none⟩) hg).trans hcq
  rw [HXQ.out] at c5q
  have HAE := Lib.hid ha
  clear hB5 hcs hcq hg
  subst ha
  have cd := HS5.out.cd; have zd := HS5.out.zd
  go_wp2_with fail
  refine (CG.out C _ HA5.out).mono ?_
  rintro e w6 ⟨he6, h6⟩
  have HS6 := Lib.hid (St.effC HS5.out he6 hC3)
  clear he6 cd zd c5s c5q
  cases G with
  | error y =>
    have hRD := HRE.out y rfl
    subst hRD
    subst h6
    unfold faultE
    go_wp2_with fail
    exact door_no HS6.out _ rfl rfl rfl
  | ok d =>
    have hRD := HRO.out d rfl
    subst h6
    have hdl := HGL.out d rfl
    obtain ⟨D, hD⟩ : ∃ D : ByteArray, (⟨d.toArray⟩ : ByteArray) = D := ⟨_, rfl⟩
    have hDd : D.data.toList = d := by rw [← hD]
    have CK := Lib.hid (fun w => dcheck_any t D w (by rw [← hD, mk_size]; unfold maxLen; omega))
    rw [hDd] at CK
    rw [hD]
    have HDD := Lib.hid hDd
    have HS7 := Lib.hid (HS6.out.setD D)
    have cd := HS6.out.cd; have zd := HS6.out.zd
    obtain ⟨k, hk⟩ : ∃ k, checkS t d = k := ⟨_, rfl⟩
    rw [hk] at hRD CK
    clear hD hDd hdl hk HRE HRO
    by_cases hk0 : k = 0
    · subst hk0
      rw [if_pos rfl] at hRD
      subst hRD
      go_wp2_with fail
      obtain ⟨w7, hw7⟩ : ∃ w7, w6.setCell ⟨b0, 0, none⟩ (.string D) = w7 := ⟨_, rfl⟩
      rw [hw7] at HS7
      rw [hw7]
      clear cd zd hw7
      refine (CK.out _).mono ?_
      rintro e w8 ⟨rfl, hB8⟩
      have HS8 := Lib.hid (HS7.out.below hB8)
      clear hB8
      have cd := HS8.out.cd; have ca := HS8.out.ca; have ce := HS8.out.ce; have zd := HS8.out.zd; have za := HS8.out.za; have ze := HS8.out.ze
      go_wp2_with fail
      have h9 := door_yes (set3 HS8.out D 0 0)
      rw [HDD.out] at h9
      exact h9 _ rfl rfl rfl
    · have hkb : (k == 0) = false := by rw [beq_eq_false_iff_ne]; exact hk0
      have hkn : (k != 0) = true := by rw [bne, hkb]; rfl
      rw [if_neg hk0] at hRD
      subst hRD
      clear hk0
      go_wp2_with fail
      obtain ⟨w7, hw7⟩ : ∃ w7, w6.setCell ⟨b0, 0, none⟩ (.string D) = w7 := ⟨_, rfl⟩
      rw [hw7] at HS7
      rw [hw7]
      clear cd zd hw7
      refine (CK.out _).mono ?_
      rintro e w8 ⟨rfl, hB8⟩
      have HS8 := Lib.hid (HS7.out.below hB8)
      clear hB8
      have cd := HS8.out.cd; have ca := HS8.out.ca; have ce := HS8.out.ce; have zd := HS8.out.zd; have za := HS8.out.za; have ze := HS8.out.ze
      go_wp2_with fail
      exact door_yes (set3 HS8.out ⟨#[]⟩ 0 7) _ rfl rfl rfl
set_option maxRecDepth 100000 in
set_option maxHeartbeats 4000000 in
/-- a type without a form -/
theorem read_none_e (t : Int) (a : Option Addr) (L : List Wo) (cap : Nat) (O : ByteArray) (w : World) (hin : In w a L cap) (hO : O.size ≤ 1048576) (ht : TabS w) (hb : holdsB t = true) (ho : (nspec.split O.data.toList).isSome = true) (hsg : isSign L = false) (hf : formS t = none) (hsh : L = []) :
    Calls Tryz.prog 5 #[.int .i64 t, .slice a L.length cap, .string O] w (ReadE w.heap.size w (readD t L O.data.toList)) := by
  have hr : readD t L O.data.toList = ([], 0, 2) := by
    unfold readD wholeR; rw [if_neg (by rw [hb]; simp), if_neg (by rw [ho]; simp), if_neg (by rw [hsg]; simp), hf]; rfl
  rw [hr]
  have CF := Lib.hid (fun w => form_no t w hf)
  have CH := Lib.hid (fun w => holds_any t w)
  rw [hb] at CH
  have CC := Lib.hid (fun w => checkAll.check_all O w)
  rw [show check.chkE O = 0 from by rw [chk_eq, if_pos ho]] at CC
  have HIN := Lib.hid (fun w1 hB => words_at (w1 := w1) hin hO hB)
  have HCW := Lib.hid (fun (w1 : World) (hB : Below w.heap.size w w1) (x : Wo) (r : List Wo) (e : L = x :: r) => show ∃ g o, a = some ⟨g, o, none⟩ ∧ g < w1.heap.size ∧ w1.cell? ⟨g, o, none⟩ = some (.string x.s) ∧ w1.cell? ⟨g, o + 1, none⟩ = some (.bool x.q) from by
    obtain ⟨g, o, h1, h2, h3, h4⟩ := hin.rd 0 x (by rw [e]; rfl)
    exact ⟨g, o, h1, Nat.lt_of_lt_of_le h2 hB.size, (hB.cell (p := ⟨g, o, none⟩) h2).trans h3, (hB.cell (p := ⟨g, o + 1, none⟩) h2).trans h4⟩)
  have HT := Lib.hid ht
  obtain ⟨hS, hz⟩ := boxes_at w
  obtain ⟨W, hW⟩ : ∃ W, boxes w = W := ⟨_, rfl⟩
  obtain ⟨b0, hb0⟩ : ∃ b0, w.heap.size = b0 := ⟨_, rfl⟩
  rw [hW, hb0] at hS
  have HB0 := Lib.hid hb0
  rw [hb0]
  have HW := Lib.hid hW; have HS := Lib.hid hS
  have hn0 : (L.length : Int) ≤ 0 := by rw [hsh]; simp
  clear hr hS hz hW hb ho hsg hf hin ht hsh
  go_enter_defers Tryz.func5, Tryz.ntmps5
  go_upto_region 1 with fail
  change Code.wp _ _ _ _ (boxes w)
  rw [HW.out]
  go_wp2_with fail
  refine (CH.out _).mono ?_
  rintro e w2 ⟨rfl, rfl⟩
  go_wp2_with fail
  refine (CC.out _).mono ?_
  rintro e w3 ⟨rfl, hB3⟩
  have HS3 := Lib.hid (HS.out.below hB3)
  clear hB3
  have HBW3 : Hid (Below w.heap.size w w3) := Lib.hid (by have h := HS3.out.bel; rw [← HB0.out] at h; exact h)
  have HA4 := Lib.hid (HIN.out w3 HBW3.out)
  have HS4 := Lib.hid (HS3.out.lay (wordsO a L.length cap O))
  have hC3 : b0 + 3 ≤ w3.heap.size := HS3.out.top
  have HT4 : Hid (TabW w3.heap.size (w3.alloc (wordsO a L.length cap O))) := Lib.hid ⟨w3, Nat.le_refl _, HT.out.below HBW3.out, (Below.refl _ _).alloc (Nat.le_refl _) _⟩
  have HCW4 := Lib.hid (fun x r e => HCW.out (w3.alloc (wordsO a L.length cap O)) (HBW3.out.alloc HBW3.out.size _) x r e)
  obtain ⟨C, hCC⟩ : ∃ C, w3.heap.size = C := ⟨_, rfl⟩
  obtain ⟨w4, hw4⟩ : ∃ w4, w3.alloc (wordsO a L.length cap O) = w4 := ⟨_, rfl⟩
  rw [hCC, hw4] at HA4 HT4
  rw [hw4] at HS4 HCW4
  rw [hCC] at hC3
  have HW4 := Lib.hid hw4; have HCC := Lib.hid hCC
  clear hw4 hCC
  go_upto_region 7 with fail
  change Code.wp _ _ _ _ (w3.alloc (wordsO a _ cap O))
  rw [HW4.out, HCC.out]
  go_wp2_with fail
  refine (CF.out _).mono ?_
  rintro e w5 ⟨rfl, hw5⟩
  subst hw5
  have HB5 := Lib.hid (Below.refl w4.heap.size w4)
  go_wp2_with fail
  exact door_no (x := 0) (y := 2) HS4.out _ rfl rfl rfl

set_option maxRecDepth 100000 in
set_option maxHeartbeats 4000000 in
/-- a type without a form -/
theorem read_none_q (t : Int) (a : Option Addr) (L : List Wo) (cap : Nat) (O : ByteArray) (w : World) (hin : In w a L cap) (hO : O.size ≤ 1048576) (ht : TabS w) (hb : holdsB t = true) (ho : (nspec.split O.data.toList).isSome = true) (hsg : isSign L = false) (hf : formS t = none) (x : Wo) (r : List Wo) (hL : L = x :: r) (hxq : x.q = true) :
    Calls Tryz.prog 5 #[.int .i64 t, .slice a L.length cap, .string O] w (ReadE w.heap.size w (readD t L O.data.toList)) := by
  have hr : readD t L O.data.toList = ([], 0, 2) := by
    unfold readD wholeR; rw [if_neg (by rw [hb]; simp), if_neg (by rw [ho]; simp), if_neg (by rw [hsg]; simp), hf]; rfl
  rw [hr]
  have CF := Lib.hid (fun w => form_no t w hf)
  have CH := Lib.hid (fun w => holds_any t w)
  rw [hb] at CH
  have CC := Lib.hid (fun w => checkAll.check_all O w)
  rw [show check.chkE O = 0 from by rw [chk_eq, if_pos ho]] at CC
  have HIN := Lib.hid (fun w1 hB => words_at (w1 := w1) hin hO hB)
  have HCW := Lib.hid (fun (w1 : World) (hB : Below w.heap.size w w1) (x : Wo) (r : List Wo) (e : L = x :: r) => show ∃ g o, a = some ⟨g, o, none⟩ ∧ g < w1.heap.size ∧ w1.cell? ⟨g, o, none⟩ = some (.string x.s) ∧ w1.cell? ⟨g, o + 1, none⟩ = some (.bool x.q) from by
    obtain ⟨g, o, h1, h2, h3, h4⟩ := hin.rd 0 x (by rw [e]; rfl)
    exact ⟨g, o, h1, Nat.lt_of_lt_of_le h2 hB.size, (hB.cell (p := ⟨g, o, none⟩) h2).trans h3, (hB.cell (p := ⟨g, o + 1, none⟩) h2).trans h4⟩)
  have HT := Lib.hid ht
  obtain ⟨hS, hz⟩ := boxes_at w
  obtain ⟨W, hW⟩ : ∃ W, boxes w = W := ⟨_, rfl⟩
  obtain ⟨b0, hb0⟩ : ∃ b0, w.heap.size = b0 := ⟨_, rfl⟩
  rw [hW, hb0] at hS
  have HB0 := Lib.hid hb0
  rw [hb0]
  have HW := Lib.hid hW; have HS := Lib.hid hS
  have hn0 : 0 < (L.length : Int) := by rw [hL]; simp
  have HL := Lib.hid hL; have HXQ := Lib.hid hxq
  clear hr hS hz hW hb ho hsg hf hin ht hL hxq
  go_enter_defers Tryz.func5, Tryz.ntmps5
  go_upto_region 1 with fail
  change Code.wp _ _ _ _ (boxes w)
  rw [HW.out]
  go_wp2_with fail
  refine (CH.out _).mono ?_
  rintro e w2 ⟨rfl, rfl⟩
  go_wp2_with fail
  refine (CC.out _).mono ?_
  rintro e w3 ⟨rfl, hB3⟩
  have HS3 := Lib.hid (HS.out.below hB3)
  clear hB3
  have HBW3 : Hid (Below w.heap.size w w3) := Lib.hid (by have h := HS3.out.bel; rw [← HB0.out] at h; exact h)
  have HA4 := Lib.hid (HIN.out w3 HBW3.out)
  have HS4 := Lib.hid (HS3.out.lay (wordsO a L.length cap O))
  have hC3 : b0 + 3 ≤ w3.heap.size := HS3.out.top
  have HT4 : Hid (TabW w3.heap.size (w3.alloc (wordsO a L.length cap O))) := Lib.hid ⟨w3, Nat.le_refl _, HT.out.below HBW3.out, (Below.refl _ _).alloc (Nat.le_refl _) _⟩
  have HCW4 := Lib.hid (fun x r e => HCW.out (w3.alloc (wordsO a L.length cap O)) (HBW3.out.alloc HBW3.out.size _) x r e)
  obtain ⟨C, hCC⟩ : ∃ C, w3.heap.size = C := ⟨_, rfl⟩
  obtain ⟨w4, hw4⟩ : ∃ w4, w3.alloc (wordsO a L.length cap O) = w4 := ⟨_, rfl⟩
  rw [hCC, hw4] at HA4 HT4
  rw [hw4] at HS4 HCW4
  rw [hCC] at hC3
  have HW4 := Lib.hid hw4; have HCC := Lib.hid hCC
  clear hw4 hCC
  go_upto_region 7 with fail
  change Code.wp _ _ _ _ (w3.alloc (wordsO a _ cap O))
  rw [HW4.out, HCC.out]
  go_wp2_with fail
  refine (CF.out _).mono ?_
  rintro e w5 ⟨rfl, hw5⟩
  subst hw5
  have HB5 := Lib.hid (Below.refl w4.heap.size w4)
  obtain ⟨g, o, ha, hg, hcs, hcq⟩ := HCW4.out x r HL.out
  have c5s := (HB5.out.cell (p := ⟨g, o, none⟩) hg).trans hcs
  have c5q := (HB5.out.cell (p := ⟨g, o + 1, none⟩) hg).trans hcq
  rw [HXQ.out] at c5q
  clear hcs hcq hg
  subst ha
  go_wp2_with fail
  exact door_no (x := 0) (y := 2) HS4.out _ rfl rfl rfl

set_option maxRecDepth 100000 in
set_option maxHeartbeats 4000000 in
/-- a type without a form -/
theorem read_none_t (t : Int) (a : Option Addr) (L : List Wo) (cap : Nat) (O : ByteArray) (w : World) (hin : In w a L cap) (hO : O.size ≤ 1048576) (ht : TabS w) (hb : holdsB t = true) (ho : (nspec.split O.data.toList).isSome = true) (hsg : isSign L = false) (hf : formS t = none) (x : Wo) (r : List Wo) (hL : L = x :: r) (hxq : x.q = false) (hxs : x.s.data.toList ≠ [92, 35]) :
    Calls Tryz.prog 5 #[.int .i64 t, .slice a L.length cap, .string O] w (ReadE w.heap.size w (readD t L O.data.toList)) := by
  have hr : readD t L O.data.toList = ([], 0, 2) := by
    unfold readD wholeR; rw [if_neg (by rw [hb]; simp), if_neg (by rw [ho]; simp), if_neg (by rw [hsg]; simp), hf]; rfl
  rw [hr]
  have CF := Lib.hid (fun w => form_no t w hf)
  have CH := Lib.hid (fun w => holds_any t w)
  rw [hb] at CH
  have CC := Lib.hid (fun w => checkAll.check_all O w)
  rw [show check.chkE O = 0 from by rw [chk_eq, if_pos ho]] at CC
  have HIN := Lib.hid (fun w1 hB => words_at (w1 := w1) hin hO hB)
  have HCW := Lib.hid (fun (w1 : World) (hB : Below w.heap.size w w1) (x : Wo) (r : List Wo) (e : L = x :: r) => show ∃ g o, a = some ⟨g, o, none⟩ ∧ g < w1.heap.size ∧ w1.cell? ⟨g, o, none⟩ = some (.string x.s) ∧ w1.cell? ⟨g, o + 1, none⟩ = some (.bool x.q) from by
    obtain ⟨g, o, h1, h2, h3, h4⟩ := hin.rd 0 x (by rw [e]; rfl)
    exact ⟨g, o, h1, Nat.lt_of_lt_of_le h2 hB.size, (hB.cell (p := ⟨g, o, none⟩) h2).trans h3, (hB.cell (p := ⟨g, o + 1, none⟩) h2).trans h4⟩)
  have HT := Lib.hid ht
  obtain ⟨hS, hz⟩ := boxes_at w
  obtain ⟨W, hW⟩ : ∃ W, boxes w = W := ⟨_, rfl⟩
  obtain ⟨b0, hb0⟩ : ∃ b0, w.heap.size = b0 := ⟨_, rfl⟩
  rw [hW, hb0] at hS
  have HB0 := Lib.hid hb0
  rw [hb0]
  have HW := Lib.hid hW; have HS := Lib.hid hS
  have hn0 : 0 < (L.length : Int) := by rw [hL]; simp
  have HL := Lib.hid hL; have HXQ := Lib.hid hxq
  have hq92 : (x.s.toList == [92, 35]) = false := by rw [Lib.toList_data]; simpa using hxs
  clear hr hS hz hW hb ho hsg hf hin ht hL hxq hxs
  go_enter_defers Tryz.func5, Tryz.ntmps5
  go_upto_region 1 with fail
  change Code.wp _ _ _ _ (boxes w)
  rw [HW.out]
  go_wp2_with fail
  refine (CH.out _).mono ?_
  rintro e w2 ⟨rfl, rfl⟩
  go_wp2_with fail
  refine (CC.out _).mono ?_
  rintro e w3 ⟨rfl, hB3⟩
  have HS3 := Lib.hid (HS.out.below hB3)
  clear hB3
  have HBW3 : Hid (Below w.heap.size w w3) := Lib.hid (by have h := HS3.out.bel; rw [← HB0.out] at h; exact h)
  have HA4 := Lib.hid (HIN.out w3 HBW3.out)
  have HS4 := Lib.hid (HS3.out.lay (wordsO a L.length cap O))
  have hC3 : b0 + 3 ≤ w3.heap.size := HS3.out.top
  have HT4 : Hid (TabW w3.heap.size (w3.alloc (wordsO a L.length cap O))) := Lib.hid ⟨w3, Nat.le_refl _, HT.out.below HBW3.out, (Below.refl _ _).alloc (Nat.le_refl _) _⟩
  have HCW4 := Lib.hid (fun x r e => HCW.out (w3.alloc (wordsO a L.length cap O)) (HBW3.out.alloc HBW3.out.size _) x r e)
  obtain ⟨C, hCC⟩ : ∃ C, w3.heap.size = C := ⟨_, rfl⟩
  obtain ⟨w4, hw4⟩ : ∃ w4, w3.alloc (wordsO a L.length cap O) = w4 := ⟨_, rfl⟩
  rw [hCC, hw4] at HA4 HT4
  rw [hw4] at HS4 HCW4
  rw [hCC] at hC3
  have HW4 := Lib.hid hw4; have HCC := Lib.hid hCC
  clear hw4 hCC
  go_upto_region 7 with fail
  change Code.wp _ _ _ _ (w3.alloc (wordsO a _ cap O))
  rw [HW4.out, HCC.out]
  go_wp2_with fail
  refine (CF.out _).mono ?_
  rintro e w5 ⟨rfl, hw5⟩
  subst hw5
  have HB5 := Lib.hid (Below.refl w4.heap.size w4)
  obtain ⟨g, o, ha, hg, hcs, hcq⟩ := HCW4.out x r HL.out
  have c5s := (HB5.out.cell (p := ⟨g, o, none⟩) hg).trans hcs
  have c5q := (HB5.out.cell (p := ⟨g, o + 1, none⟩) hg).trans hcq
  rw [HXQ.out] at c5q
  clear hcs hcq hg
  subst ha
  go_wp2_with fail
  exact door_no (x := 0) (y := 2) HS4.out _ rfl rfl rfl
end Go.Proofs.YtkcpbjoolfojjaaGreatDoor.rdW
namespace Go.Proofs.YtkcpbjoolfojjaaGreatDoor.rdW
open Go.RowKit Go.Proofs.YtkcpbjoolfojjaaGreatDoor.kit Go.Proofs.YtkcpbjoolfojjaaGreatDoor.nspec Go.Proofs.YtkcpbjoolfojjaaGreatDoor.fld Go.Proofs.YtkcpbjoolfojjaaGreatDoor.bits Go.Proofs.YtkcpbjoolfojjaaGreatDoor.bld Go.Proofs.YtkcpbjoolfojjaaGreatDoor.formW Go.Proofs.YtkcpbjoolfojjaaGreatDoor.splitD Go.Proofs.YtkcpbjoolfojjaaGreatDoor.dcheck Go.Proofs.YtkcpbjoolfojjaaGreatDoor.rdP Go.Proofs.YtkcpbjoolfojjaaGreatDoor.rdQ Go.Proofs.YtkcpbjoolfojjaaGreatDoor.wd Go.Proofs.YtkcpbjoolfojjaaGreatDoor.wdB Go.Proofs.YtkcpbjoolfojjaaGreatDoor.wdD Go.Proofs.YtkcpbjoolfojjaaGreatDoor.wdE Go.Proofs.YtkcpbjoolfojjaaGreatDoor.wdF Go.Proofs.YtkcpbjoolfojjaaGreatDoor.wdG Go.Proofs.YtkcpbjoolfojjaaGreatDoor.rdDoor
set_option linter.unusedVariables false

set_option maxRecDepth 100000 in
set_option maxHeartbeats 8000000 in
/-- a type with a form -/
theorem read_form_e (t : Int) (a : Option Addr) (L : List Wo) (cap : Nat) (O : ByteArray) (w : World) (hin : In w a L cap) (hO : O.size ≤ 1048576) (ht : TabS w) (hb : holdsB t = true) (ho : (nspec.split O.data.toList).isSome = true) (hsg : isSign L = false) (fs : List Fld) (hf : formS t = some fs) (hsh : L = []) :
    Calls Tryz.prog 5 #[.int .i64 t, .slice a L.length cap, .string O] w (ReadE w.heap.size w (readD t L O.data.toList)) := by
  have hr : readD t L O.data.toList = fin (wholeR t O.data.toList L) := by
    unfold readD; rw [if_neg (by rw [hb]; simp), if_neg (by rw [ho]; simp), if_neg (by rw [hsg]; simp)]
  unfold wholeR at hr
  rw [hf] at hr
  simp only at hr
  have hF4 := Go.Proofs.YtkcpbjoolfojjaaGreatDoor.checkData.form_fair4 hf
  have hnum : ∀ f ∈ fs, ∀ j, f = .num j → j = 1 ∨ j = 2 ∨ j = 4 := fun f h j e => by subst e; exact hF4.2 _ h
  obtain ⟨n, hn⟩ : ∃ n, fs.length = n := ⟨_, rfl⟩
  have hn20 : n ≤ 20 := by rw [← hn]; exact hF4.1
  have CFD := Lib.hid (fun (C k : Nat) (w : World) (h : AtW w C a L cap O k) (ht : TabW C w) (f : Fld) (hm : f ∈ fs) => field_read C a L cap O k w h ht f (hnum f hm))
  have HLEN := Lib.hid (fun (k k' : Nat) (f : Fld) (d : Bs) (hm : f ∈ fs) (h : fieldR O.data.toList L k f = .ok (d, k')) => Go.Proofs.YtkcpbjoolfojjaaGreatDoor.rdLen.field_len h hin.few hin.sm (by rw [size_len]; exact hO) (fun j e => by rcases hnum f hm j e with h | h | h <;> omega))
  have CF := Lib.hid (fun w => form_yes t fs w hf)
  unfold FormPost at CF
  rw [hn] at CF
  have hfew := hin.few
  obtain ⟨R, hR⟩ : ∃ R, fieldsR O.data.toList L fs 0 = R := ⟨_, rfl⟩
  obtain ⟨RD, hRD⟩ : ∃ RD, readD t L O.data.toList = RD := ⟨_, rfl⟩
  rw [hR, hRD] at hr
  rw [hRD]
  have HRE : Hid (∀ y, R = .error y → RD = ([], y.1, y.2)) := Lib.hid (fun y e => by rw [hr, e]; rfl)
  have HRO : Hid (∀ d k, R = .ok (d, k) → RD = if k < L.length then ([], (k : Int), 2) else if 65535 < d.length then ([], 0, 12) else (d, 0, 0)) := Lib.hid (fun d k e => by
    rw [hr, e]
    simp only
    by_cases h1 : k < L.length
    · rw [if_pos h1, if_pos h1]; rfl
    · rw [if_neg h1, if_neg h1]
      by_cases h2 : 65535 < d.length
      · rw [if_pos h2, if_pos h2]; rfl
      · rw [if_neg h2, if_neg h2]; rfl)
  have HR0 : Hid (addF [] (fieldsR O.data.toList L (fs.drop 0) 0) = R) := Lib.hid (by rw [addF_nil]; exact hR)
  have HNN := Lib.hid hn
  have CH := Lib.hid (fun w => holds_any t w)
  rw [hb] at CH
  have CC := Lib.hid (fun w => checkAll.check_all O w)
  rw [show check.chkE O = 0 from by rw [chk_eq, if_pos ho]] at CC
  have HIN := Lib.hid (fun w1 hB => words_at (w1 := w1) hin hO hB)
  have HCW := Lib.hid (fun (w1 : World) (hB : Below w.heap.size w w1) (x : Wo) (r : List Wo) (e : L = x :: r) => show ∃ g o, a = some ⟨g, o, none⟩ ∧ g < w1.heap.size ∧ w1.cell? ⟨g, o, none⟩ = some (.string x.s) ∧ w1.cell? ⟨g, o + 1, none⟩ = some (.bool x.q) from by
    obtain ⟨g, o, h1, h2, h3, h4⟩ := hin.rd 0 x (by rw [e]; rfl)
    exact ⟨g, o, h1, Nat.lt_of_lt_of_le h2 hB.size, (hB.cell (p := ⟨g, o, none⟩) h2).trans h3, (hB.cell (p := ⟨g, o + 1, none⟩) h2).trans h4⟩)
  have HT := Lib.hid ht
  obtain ⟨hS, hz⟩ := boxes_at w
  obtain ⟨W, hW⟩ : ∃ W, boxes w = W := ⟨_, rfl⟩
  obtain ⟨b0, hb0⟩ : ∃ b0, w.heap.size = b0 := ⟨_, rfl⟩
  rw [hW, hb0] at hS
  have HB0 := Lib.hid hb0
  rw [hb0]
  have HW := Lib.hid hW; have HS := Lib.hid hS
  have hn0 : (L.length : Int) ≤ 0 := by rw [hsh]; simp
  clear hr hS hz hW hb ho hsg hf hin ht hF4 hnum hn hR hRD hsh
  go_enter_defers Tryz.func5, Tryz.ntmps5
  go_upto_region 1 with fail
  change Code.wp _ _ _ _ (boxes w)
  rw [HW.out]
  go_wp2_with fail
  refine (CH.out _).mono ?_
  rintro e w2 ⟨rfl, rfl⟩
  go_wp2_with fail
  refine (CC.out _).mono ?_
  rintro e w3 ⟨rfl, hB3⟩
  have HS3 := Lib.hid (HS.out.below hB3)
  clear hB3
  have HBW3 : Hid (Below w.heap.size w w3) := Lib.hid (by have h := HS3.out.bel; rw [← HB0.out] at h; exact h)
  have HA4 := Lib.hid (HIN.out w3 HBW3.out)
  have HS4 := Lib.hid (HS3.out.lay (wordsO a L.length cap O))
  have hC3 : b0 + 3 ≤ w3.heap.size := HS3.out.top
  have HT4 : Hid (TabW w3.heap.size (w3.alloc (wordsO a L.length cap O))) := Lib.hid ⟨w3, Nat.le_refl _, HT.out.below HBW3.out, (Below.refl _ _).alloc (Nat.le_refl _) _⟩
  have HCW4 := Lib.hid (fun x r e => HCW.out (w3.alloc (wordsO a L.length cap O)) (HBW3.out.alloc HBW3.out.size _) x r e)
  obtain ⟨C, hCC⟩ : ∃ C, w3.heap.size = C := ⟨_, rfl⟩
  obtain ⟨w4, hw4⟩ : ∃ w4, w3.alloc (wordsO a L.length cap O) = w4 := ⟨_, rfl⟩
  rw [hCC, hw4] at HA4 HT4
  rw [hw4] at HS4 HCW4
  rw [hCC] at hC3
  have HW4 := Lib.hid hw4; have HCC := Lib.hid hCC
  clear hw4 hCC
  go_upto_region 7 with fail
  change Code.wp _ _ _ _ (w3.alloc (wordsO a _ cap O))
  rw [HW4.out, HCC.out]
  go_wp2_with fail
  refine (CF.out _).mono ?_
  rintro e w5 ⟨rfl, hw5⟩
  have hB5 : Below w4.heap.size w4 w5 := by rw [hw5]; exact (Below.refl w4.heap.size w4).alloc (Nat.le_refl _) _
  have HRF : Hid (RdF w5 w4.heap.size fs) := Lib.hid (by rw [hw5]; exact fields_rd fs w4)
  have hF5 : w4.heap.size < w5.heap.size := by rw [hw5, World.size_alloc]; omega
  have hCF : C < w4.heap.size := HA4.out.lt
  have HB5 := Lib.hid hB5
  have HA5 := Lib.hid (HA4.out.below hB5)
  have HS5 := Lib.hid (HS4.out.below hB5)
  have HT5 := Lib.hid (HT4.out.eff (EffW.of_below (C := C) hB5))
  clear hB5 hw5
  obtain ⟨F, hF⟩ : ∃ F, w4.heap.size = F := ⟨_, rfl⟩
  rw [hF] at HRF hF5 hCF ⊢
  clear hF
  have HFB : Hid (Bld w5.heap.size w5.heap.size [] (w5.alloc (.cells #[.pointer none, .slice none 0 0] 52))) := Lib.hid (Lib.fresh_isBuilder 52 5 w5)
  have hal := (Below.refl w5.heap.size w5).alloc (Nat.le_refl _) (.cells #[.pointer none, .slice none 0 0] 52)
  have HAB := Lib.hid (on_below HA5.out HA5.out (EffW.refl C w5) hal)
  clear hal
  have hC5 : C < w5.heap.size := by omega
  go_wp2_with fail
  go_loopg [14, 61] (n + 1) (fun gas _ kv wr => ∃ (j k : Nat) (A : Bs), kv = .int .i64 (j : Int) ∧ j ≤ n ∧ n + 1 ≤ j + gas ∧ A.length ≤ 6597069766656 * j ∧ Hid (addF A (fieldsR O.data.toList L (fs.drop j) k) = R) ∧ Hid (AtW wr C a L cap O k) ∧ Hid (Bld w5.heap.size w5.heap.size A wr) ∧ Hid (EffW C w5 wr))
  case atStart => exact ⟨0, 0, [], rfl, by omega, by omega, by simp, HR0, Lib.hid HAB.out.1, HFB, Lib.hid HAB.out.2⟩
  case round =>
    clear HFB HAB HR0
    obtain ⟨j, k, A, rfl, hj, hjg, hAl, HW2, HA, HBD, HEE⟩ := hrel
    have HJG := Lib.hid hjg; clear hjg
    have HSS := Lib.hid (St.effC HS5.out HEE.out hC3)
    by_cases hlt : j < n
    · obtain ⟨f, hfj⟩ : ∃ f, fs[j]? = some f := ⟨_, List.getElem?_eq_getElem (by have := HNN.out; omega)⟩
      have hm := List.mem_of_getElem? hfj
      have HJ := Lib.hid hfj
      have CR := Lib.hid (CFD.out C k wr HA.out (HT5.out.eff HEE.out) f hm)
      have HLF := Lib.hid (fun k' d => HLEN.out k k' f d hm)
      have hcF : wr.cell? ⟨F, j, none⟩ = some (fldV f) := by
        have h := HRF.out j f hfj
        simp only [World.cell?] at h ⊢
        rw [HEE.out.kept F hF5 (by omega)]; exact h
      have hj0 : 0 ≤ (j : Int) := by omega
      have hji : (j : Int) < (n : Int) := by omega
      obtain ⟨Q, hQ⟩ : ∃ Q, fieldR O.data.toList L k f = Q := ⟨_, rfl⟩
      rw [hQ] at CR
      have HLQ := Lib.hid (fun k' d (e : Q = .ok (d, k')) => HLF.out k' d (hQ.trans e))
      have HBADQ := Lib.hid (fun y (e : Q = .error y) => HRE.out y (fields_bad HW2.out HJ.out (hQ.trans e)))
      have HGOQ := Lib.hid (fun d k' (e : Q = .ok (d, k')) => fields_go HW2.out HJ.out (hQ.trans e))
      clear hQ hm hfj HJ HLF HW2
      obtain ⟨fv, hfv⟩ : ∃ fv, fldV f = fv := ⟨_, rfl⟩
      rw [hfv] at hcF
      have HFV := Lib.hid hfv
      clear hfv
      go_upto_region 19 with fail
      have hfv := HFV.out
      subst hfv
      clear HFV hcF
      cases f <;> (
        simp only [fldV]
        simp only [funOf, recOf] at CR
        go_wp2_with fail
        refine CR.out.mono ?_
        rintro e w6 ⟨he6, h6⟩
        have HS6 := Lib.hid (St.effC HSS.out he6 hC3)
        cases Q with
        | error y =>
          have hRD := HBADQ.out y rfl
          subst hRD
          simp only at h6
          subst h6
          unfold faultE
          go_wp2_with fail
          exact door_no HS6.out _ rfl rfl rfl
        | ok y =>
          obtain ⟨d, k'⟩ := y
          obtain ⟨rfl, h6a⟩ := h6
          have HWN := Lib.hid (HGOQ.out d k' rfl)
          have hdl := HLQ.out k' d rfl
          obtain ⟨D, hD⟩ : ∃ D : ByteArray, (⟨d.toArray⟩ : ByteArray) = D := ⟨_, rfl⟩
          have hDd : D.data.toList = d := by rw [← hD]
          have hDs : D.size = d.length := by rw [← size_len, hDd]
          have he56 := HEE.out.trans he6
          have hsz6 := he56.size
          have CW := Lib.hid (ws w5.heap.size w5.heap.size A D w6 (bld_eff HBD.out he6 hC5) (by omega) hsz6)
          have HA6 := Lib.hid h6a; have HE6 := Lib.hid he56; have HDD := Lib.hid hDd; have HDL := Lib.hid hdl
          rw [hD]
          clear he6 h6a hD hDd hDs he56 hdl hsz6
          go_wp2_with fail
          refine CW.out.mono ?_
          rintro e w7 ⟨rfl, hb7, hB7⟩
          obtain ⟨hA7, he7⟩ := on_below HA5.out HA6.out HE6.out hB7
          rw [HDD.out] at hb7
          have HB8 := Lib.hid hb7; have HA8 := Lib.hid hA7; have HE8 := Lib.hid he7
          clear hb7 hB7 hA7 he7
          have hl7 : (A ++ d).length ≤ 6597069766656 * (j + 1) := by rw [List.length_append]; have := HDL.out; omega
          go_wp2_with fail
          have hjg := HJG.out
          go_roundg (gk - 1)
          case rel => exact ⟨j + 1, k', A ++ d, by go_num, by omega, by omega, hl7, HWN, HA8, HB8, HE8⟩
          case measure => omega)
    · have hRe := fields_end HW2.out (show fs.length ≤ j by have := HNN.out; omega)
      have hRD := HRO.out A k hRe
      have hji : (n : Int) ≤ (j : Int) := by omega
      have c0 := HA.out.c0; have c1 := HA.out.c1
      by_cases hkL : k < L.length
      · rw [if_pos hkL] at hRD
        subst hRD
        have hki : (k : Int) < (L.length : Int) := by omega
        clear hRe hlt hkL HW2
        go_wp2_with fail
        all_goals exact door_no (x := (k : Int)) (y := 2) HSS.out _ rfl rfl rfl
      · rw [if_neg hkL] at hRD
        have hki : (L.length : Int) ≤ (k : Int) := by omega
        have CL := Lib.hid (Tryz.Builder_Len _ _ _ wr HBD.out)
        rw [Lib.byteCells_length] at CL
        by_cases hlg : 65535 < A.length
        · rw [if_pos hlg] at hRD
          subst hRD
          have hli : (65535 : Int) < (A.length : Int) := by omega
          have cd := HSS.out.cd; have ca := HSS.out.ca; have ce := HSS.out.ce; have zd := HSS.out.zd; have za := HSS.out.za; have ze := HSS.out.ze
          clear hRe hlt hkL HW2 hlg
          go_wp2_with fail
          refine CL.out.mono ?_
          rintro e w6 ⟨rfl, rfl⟩
          go_wp2_with fail
          exact door_yes (set3 HSS.out ⟨#[]⟩ 0 12) _ rfl rfl rfl
        · rw [if_neg hlg] at hRD
          subst hRD
          have hli : (A.length : Int) ≤ 65535 := by omega
          have CSB := Lib.hid (Tryz.Builder_String_any _ _ A _ HBD.out HEE.out.size)
          clear hRe hlt hkL HW2 hlg
          go_wp2_with fail
          refine CL.out.mono ?_
          rintro e w6 ⟨rfl, rfl⟩
          go_wp2_with fail
          refine CSB.out.mono ?_
          rintro e w7 ⟨rfl, hB7⟩
          have HS7 := Lib.hid (St.effC HS5.out (on_below HA5.out HA.out HEE.out hB7).2 hC3)
          clear hB7 c0 c1
          have cd := HS7.out.cd; have ca := HS7.out.ca; have ce := HS7.out.ce; have zd := HS7.out.zd; have za := HS7.out.za; have ze := HS7.out.ze
          go_wp2_with fail
          exact door_yes (set3 HS7.out ⟨A.toArray⟩ 0 0) _ rfl rfl rfl
end Go.Proofs.YtkcpbjoolfojjaaGreatDoor.rdW
namespace Go.Proofs.YtkcpbjoolfojjaaGreatDoor.rdW
open Go.RowKit Go.Proofs.YtkcpbjoolfojjaaGreatDoor.kit Go.Proofs.YtkcpbjoolfojjaaGreatDoor.nspec Go.Proofs.YtkcpbjoolfojjaaGreatDoor.fld Go.Proofs.YtkcpbjoolfojjaaGreatDoor.bits Go.Proofs.YtkcpbjoolfojjaaGreatDoor.bld Go.Proofs.YtkcpbjoolfojjaaGreatDoor.formW Go.Proofs.YtkcpbjoolfojjaaGreatDoor.splitD Go.Proofs.YtkcpbjoolfojjaaGreatDoor.dcheck Go.Proofs.YtkcpbjoolfojjaaGreatDoor.rdP Go.Proofs.YtkcpbjoolfojjaaGreatDoor.rdQ Go.Proofs.YtkcpbjoolfojjaaGreatDoor.wd Go.Proofs.YtkcpbjoolfojjaaGreatDoor.wdB Go.Proofs.YtkcpbjoolfojjaaGreatDoor.wdD Go.Proofs.YtkcpbjoolfojjaaGreatDoor.wdE Go.Proofs.YtkcpbjoolfojjaaGreatDoor.wdF Go.Proofs.YtkcpbjoolfojjaaGreatDoor.wdG Go.Proofs.YtkcpbjoolfojjaaGreatDoor.rdDoor
set_option linter.unusedVariables false

set_option maxRecDepth 100000 in
set_option maxHeartbeats 8000000 in
/-- a type with a form -/
theorem read_form_q (t : Int) (a : Option Addr) (L : List Wo) (cap : Nat) (O : ByteArray) (w : World) (hin : In w a L cap) (hO : O.size ≤ 1048576) (ht : TabS w) (hb : holdsB t = true) (ho : (nspec.split O.data.toList).isSome = true) (hsg : isSign L = false) (fs : List Fld) (hf : formS t = some fs) (x : Wo) (r : List Wo) (hL : L = x :: r) (hxq : x.q = true) :
    Calls Tryz.prog 5 #[.int .i64 t, .slice a L.length cap, .string O] w (ReadE w.heap.size w (readD t L O.data.toList)) := by
  have hr : readD t L O.data.toList = fin (wholeR t O.data.toList L) := by
    unfold readD; rw [if_neg (by rw [hb]; simp), if_neg (by rw [ho]; simp), if_neg (by rw [hsg]; simp)]
  unfold wholeR at hr
  rw [hf] at hr
  simp only at hr
  have hF4 := Go.Proofs.YtkcpbjoolfojjaaGreatDoor.checkData.form_fair4 hf
  have hnum : ∀ f ∈ fs, ∀ j, f = .num j → j = 1 ∨ j = 2 ∨ j = 4 := fun f h j e => by subst e; exact hF4.2 _ h
  obtain ⟨n, hn⟩ : ∃ n, fs.length = n := ⟨_, rfl⟩
  have hn20 : n ≤ 20 := by rw [← hn]; exact hF4.1
  have CFD := Lib.hid (fun (C k : Nat) (w : World) (h : AtW w C a L cap O k) (ht : TabW C w) (f : Fld) (hm : f ∈ fs) => field_read C a L cap O k w h ht f (hnum f hm))
  have HLEN := Lib.hid (fun (k k' : Nat) (f : Fld) (d : Bs) (hm : f ∈ fs) (h : fieldR O.data.toList L k f = .ok (d, k')) => Go.Proofs.YtkcpbjoolfojjaaGreatDoor.rdLen.field_len h hin.few hin.sm (by rw [size_len]; exact hO) (fun j e => by rcases hnum f hm j e with h | h | h <;> omega))
  have CF := Lib.hid (fun w => form_yes t fs w hf)
  unfold FormPost at CF
  rw [hn] at CF
  have hfew := hin.few
  obtain ⟨R, hR⟩ : ∃ R, fieldsR O.data.toList L fs 0 = R := ⟨_, rfl⟩
  obtain ⟨RD, hRD⟩ : ∃ RD, readD t L O.data.toList = RD := ⟨_, rfl⟩
  rw [hR, hRD] at hr
  rw [hRD]
  have HRE : Hid (∀ y, R = .error y → RD = ([], y.1, y.2)) := Lib.hid (fun y e => by rw [hr, e]; rfl)
  have HRO : Hid (∀ d k, R = .ok (d, k) → RD = if k < L.length then ([], (k : Int), 2) else if 65535 < d.length then ([], 0, 12) else (d, 0, 0)) := Lib.hid (fun d k e => by
    rw [hr, e]
    simp only
    by_cases h1 : k < L.length
    · rw [if_pos h1, if_pos h1]; rfl
    · rw [if_neg h1, if_neg h1]
      by_cases h2 : 65535 < d.length
      · rw [if_pos h2, if_pos h2]; rfl
      · rw [if_neg h2, if_neg h2]; rfl)
  have HR0 : Hid (addF [] (fieldsR O.data.toList L (fs.drop 0) 0) = R) := Lib.hid (by rw [addF_nil]; exact hR)
  have HNN := Lib.hid hn
  have CH := Lib.hid (fun w => holds_any t w)
  rw [hb] at CH
  have CC := Lib.hid (fun w => checkAll.check_all O w)
  rw [show check.chkE O = 0 from by rw [chk_eq, if_pos ho]] at CC
  have HIN := Lib.hid (fun w1 hB => words_at (w1 := w1) hin hO hB)
  have HCW := Lib.hid (fun (w1 : World) (hB : Below w.heap.size w w1) (x : Wo) (r : List Wo) (e : L = x :: r) => show ∃ g o, a = some ⟨g, o, none⟩ ∧ g < w1.heap.size ∧ w1.cell? ⟨g, o, none⟩ = some (.string x.s) ∧ w1.cell? ⟨g, o + 1, none⟩ = some (.bool x.q) from by
    obtain ⟨g, o, h1, h2, h3, h4⟩ := hin.rd 0 x (by rw [e]; rfl)
    exact ⟨g, o, h1, Nat.lt_of_lt_of_le h2 hB.size, (hB.cell (p := ⟨g, o, none⟩) h2).trans h3, (hB.cell (p := ⟨g, o + 1, none⟩) h2).trans h4⟩)
  have HT := Lib.hid ht
  obtain ⟨hS, hz⟩ := boxes_at w
  obtain ⟨W, hW⟩ : ∃ W, boxes w = W := ⟨_, rfl⟩
  obtain ⟨b0, hb0⟩ : ∃ b0, w.heap.size = b0 := ⟨_, rfl⟩
  rw [hW, hb0] at hS
  have HB0 := Lib.hid hb0
  rw [hb0]
  have HW := Lib.hid hW; have HS := Lib.hid hS
  have hn0 : 0 < (L.length : Int) := by rw [hL]; simp
  have HL := Lib.hid hL; have HXQ := Lib.hid hxq
  clear hr hS hz hW hb ho hsg hf hin ht hF4 hnum hn hR hRD hL hxq
  go_enter_defers Tryz.func5, Tryz.ntmps5
  go_upto_region 1 with fail
  change Code.wp _ _ _ _ (boxes w)
  rw [HW.out]
  go_wp2_with fail
  refine (CH.out _).mono ?_
  rintro e w2 ⟨rfl, rfl⟩
  go_wp2_with fail
  refine (CC.out _).mono ?_
  rintro e w3 ⟨rfl, hB3⟩
  have HS3 := Lib.hid (HS.out.below hB3)
  clear hB3
  have HBW3 : Hid (Below w.heap.size w w3) := Lib.hid (by have h := HS3.out.bel; rw [← HB0.out] at h; exact h)
  have HA4 := Lib.hid (HIN.out w3 HBW3.out)
  have HS4 := Lib.hid (HS3.out.lay (wordsO a L.length cap O))
  have hC3 : b0 + 3 ≤ w3.heap.size := HS3.out.top
  have HT4 : Hid (TabW w3.heap.size (w3.alloc (wordsO a L.length cap O))) := Lib.hid ⟨w3, Nat.le_refl _, HT.out.below HBW3.out, (Below.refl _ _).alloc (Nat.le_refl _) _⟩
  have HCW4 := Lib.hid (fun x r e => HCW.out (w3.alloc (wordsO a L.length cap O)) (HBW3.out.alloc HBW3.out.size _) x r e)
  obtain ⟨C, hCC⟩ : ∃ C, w3.heap.size = C := ⟨_, rfl⟩
  obtain ⟨w4, hw4⟩ : ∃ w4, w3.alloc (wordsO a L.length cap O) = w4 := ⟨_, rfl⟩
  rw [hCC, hw4] at HA4 HT4
  rw [hw4] at HS4 HCW4
  rw [hCC] at hC3
  have HW4 := Lib.hid hw4; have HCC := Lib.hid hCC
  clear hw4 hCC
  go_upto_region 7 with fail
  change Code.wp _ _ _ _ (w3.alloc (wordsO a _ cap O))
  rw [HW4.out, HCC.out]
  go_wp2_with fail
  refine (CF.out _).mono ?_
  rintro e w5 ⟨rfl, hw5⟩
  have hB5 : Below w4.heap.size w4 w5 := by rw [hw5]; exact (Below.refl w4.heap.size w4).alloc (Nat.le_refl _) _
  have HRF : Hid (RdF w5 w4.heap.size fs) := Lib.hid (by rw [hw5]; exact fields_rd fs w4)
  have hF5 : w4.heap.size < w5.heap.size := by rw [hw5, World.size_alloc]; omega
  have hCF : C < w4.heap.size := HA4.out.lt
  have HB5 := Lib.hid hB5
  have HA5 := Lib.hid (HA4.out.below hB5)
  have HS5 := Lib.hid (HS4.out.below hB5)
  have HT5 := Lib.hid (HT4.out.eff (EffW.of_below (C := C) hB5))
  clear hB5 hw5
  obtain ⟨F, hF⟩ : ∃ F, w4.heap.size = F := ⟨_, rfl⟩
  obtain ⟨g, o, ha, hg, hcs, hcq⟩ := HCW4.out x r HL.out
  have c5s := (HB5.out.cell (p := ⟨g, o, none⟩) hg).trans hcs
  have c5q := (HB5.out.cell (p := ⟨g, o + 1, none⟩) hg).trans hcq
  rw [HXQ.out] at c5q
  clear hcs hcq hg
  subst ha
  rw [hF] at HRF hF5 hCF ⊢
  clear hF
  have HFB : Hid (Bld w5.heap.size w5.heap.size [] (w5.alloc (.cells #[.pointer none, .slice none 0 0] 52))) := Lib.hid (Lib.fresh_isBuilder 52 5 w5)
  have hal := (Below.refl w5.heap.size w5).alloc (Nat.le_refl _) (.cells #[.pointer none, .slice none 0 0] 52)
  have HAB := Lib.hid (on_below HA5.out HA5.out (EffW.refl C w5) hal)
  clear hal
  have hC5 : C < w5.heap.size := by omega
  go_wp2_with fail
  go_loopg [14, 61] (n + 1) (fun gas _ kv wr => ∃ (j k : Nat) (A : Bs), kv = .int .i64 (j : Int) ∧ j ≤ n ∧ n + 1 ≤ j + gas ∧ A.length ≤ 6597069766656 * j ∧ Hid (addF A (fieldsR O.data.toList L (fs.drop j) k) = R) ∧ Hid (AtW wr C (some ⟨g, o, none⟩) L cap O k) ∧ Hid (Bld w5.heap.size w5.heap.size A wr) ∧ Hid (EffW C w5 wr))
  case atStart => exact ⟨0, 0, [], rfl, by omega, by omega, by simp, HR0, Lib.hid HAB.out.1, HFB, Lib.hid HAB.out.2⟩
  case round =>
    clear HFB HAB HR0
    obtain ⟨j, k, A, rfl, hj, hjg, hAl, HW2, HA, HBD, HEE⟩ := hrel
    have HJG := Lib.hid hjg; clear hjg
    have HSS := Lib.hid (St.effC HS5.out HEE.out hC3)
    by_cases hlt : j < n
    · obtain ⟨f, hfj⟩ : ∃ f, fs[j]? = some f := ⟨_, List.getElem?_eq_getElem (by have := HNN.out; omega)⟩
      have hm := List.mem_of_getElem? hfj
      have HJ := Lib.hid hfj
      have CR := Lib.hid (CFD.out C k wr HA.out (HT5.out.eff HEE.out) f hm)
      have HLF := Lib.hid (fun k' d => HLEN.out k k' f d hm)
      have hcF : wr.cell? ⟨F, j, none⟩ = some (fldV f) := by
        have h := HRF.out j f hfj
        simp only [World.cell?] at h ⊢
        rw [HEE.out.kept F hF5 (by omega)]; exact h
      have hj0 : 0 ≤ (j : Int) := by omega
      have hji : (j : Int) < (n : Int) := by omega
      obtain ⟨Q, hQ⟩ : ∃ Q, fieldR O.data.toList L k f = Q := ⟨_, rfl⟩
      rw [hQ] at CR
      have HLQ := Lib.hid (fun k' d (e : Q = .ok (d, k')) => HLF.out k' d (hQ.trans e))
      have HBADQ := Lib.hid (fun y (e : Q = .error y) => HRE.out y (fields_bad HW2.out HJ.out (hQ.trans e)))
      have HGOQ := Lib.hid (fun d k' (e : Q = .ok (d, k')) => fields_go HW2.out HJ.out (hQ.trans e))
      clear hQ hm hfj HJ HLF HW2
      obtain ⟨fv, hfv⟩ : ∃ fv, fldV f = fv := ⟨_, rfl⟩
      rw [hfv] at hcF
      have HFV := Lib.hid hfv
      clear hfv
      go_upto_region 19 with fail
      have hfv := HFV.out
      subst hfv
      clear HFV hcF
      cases f <;> (
        simp only [fldV]
        simp only [funOf, recOf] at CR
        go_wp2_with fail
        refine CR.out.mono ?_
        rintro e w6 ⟨he6, h6⟩
        have HS6 := Lib.hid (St.effC HSS.out he6 hC3)
        cases Q with
        | error y =>
          have hRD := HBADQ.out y rfl
          subst hRD
          simp only at h6
          subst h6
          unfold faultE
          go_wp2_with fail
          exact door_no HS6.out _ rfl rfl rfl
        | ok y =>
          obtain ⟨d, k'⟩ := y
          obtain ⟨rfl, h6a⟩ := h6
          have HWN := Lib.hid (HGOQ.out d k' rfl)
          have hdl := HLQ.out k' d rfl
          obtain ⟨D, hD⟩ : ∃ D : ByteArray, (⟨d.toArray⟩ : ByteArray) = D := ⟨_, rfl⟩
          have hDd : D.data.toList = d := by rw [← hD]
          have hDs : D.size = d.length := by rw [← size_len, hDd]
          have he56 := HEE.out.trans he6
          have hsz6 := he56.size
          have CW := Lib.hid (ws w5.heap.size w5.heap.size A D w6 (bld_eff HBD.out he6 hC5) (by omega) hsz6)
          have HA6 := Lib.hid h6a; have HE6 := Lib.hid he56; have HDD := Lib.hid hDd; have HDL := Lib.hid hdl
          rw [hD]
          clear he6 h6a hD hDd hDs he56 hdl hsz6
          go_wp2_with fail
          refine CW.out.mono ?_
          rintro e w7 ⟨rfl, hb7, hB7⟩
          obtain ⟨hA7, he7⟩ := on_below HA5.out HA6.out HE6.out hB7
          rw [HDD.out] at hb7
          have HB8 := Lib.hid hb7; have HA8 := Lib.hid hA7; have HE8 := Lib.hid he7
          clear hb7 hB7 hA7 he7
          have hl7 : (A ++ d).length ≤ 6597069766656 * (j + 1) := by rw [List.length_append]; have := HDL.out; omega
          go_wp2_with fail
          have hjg := HJG.out
          go_roundg (gk - 1)
          case rel => exact ⟨j + 1, k', A ++ d, by go_num, by omega, by omega, hl7, HWN, HA8, HB8, HE8⟩
          case measure => omega)
    · have hRe := fields_end HW2.out (show fs.length ≤ j by have := HNN.out; omega)
      have hRD := HRO.out A k hRe
      have hji : (n : Int) ≤ (j : Int) := by omega
      have c0 := HA.out.c0; have c1 := HA.out.c1
      by_cases hkL : k < L.length
      · rw [if_pos hkL] at hRD
        subst hRD
        have hki : (k : Int) < (L.length : Int) := by omega
        clear hRe hlt hkL HW2
        go_wp2_with fail
        all_goals exact door_no (x := (k : Int)) (y := 2) HSS.out _ rfl rfl rfl
      · rw [if_neg hkL] at hRD
        have hki : (L.length : Int) ≤ (k : Int) := by omega
        have CL := Lib.hid (Tryz.Builder_Len _ _ _ wr HBD.out)
        rw [Lib.byteCells_length] at CL
        by_cases hlg : 65535 < A.length
        · rw [if_pos hlg] at hRD
          subst hRD
          have hli : (65535 : Int) < (A.length : Int) := by omega
          have cd := HSS.out.cd; have ca := HSS.out.ca; have ce := HSS.out.ce; have zd := HSS.out.zd; have za := HSS.out.za; have ze := HSS.out.ze
          clear hRe hlt hkL HW2 hlg
          go_wp2_with fail
          refine CL.out.mono ?_
          rintro e w6 ⟨rfl, rfl⟩
          go_wp2_with fail
          exact door_yes (set3 HSS.out ⟨#[]⟩ 0 12) _ rfl rfl rfl
        · rw [if_neg hlg] at hRD
          subst hRD
          have hli : (A.length : Int) ≤ 65535 := by omega
          have CSB := Lib.hid (Tryz.Builder_String_any _ _ A _ HBD.out HEE.out.size)
          clear hRe hlt hkL HW2 hlg
          go_wp2_with fail
          refine CL.out.mono ?_
          rintro e w6 ⟨rfl, rfl⟩
          go_wp2_with fail
          refine CSB.out.mono ?_
          rintro e w7 ⟨rfl, hB7⟩
          have HS7 := Lib.hid (St.effC HS5.out (on_below HA5.out HA.out HEE.out hB7).2 hC3)
          clear hB7 c0 c1
          have cd := HS7.out.cd; have ca := HS7.out.ca; have ce := HS7.out.ce; have zd := HS7.out.zd; have za := HS7.out.za; have ze := HS7.out.ze
          go_wp2_with fail
          exact door_yes (set3 HS7.out ⟨A.toArray⟩ 0 0) _ rfl rfl rfl
end Go.Proofs.YtkcpbjoolfojjaaGreatDoor.rdW
