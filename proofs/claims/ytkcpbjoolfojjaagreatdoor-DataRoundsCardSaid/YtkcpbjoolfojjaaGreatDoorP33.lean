/- An append of a list that came in, at a step of a region that draws its order. gazetteerref1.ShowData: walk. data.b64's 'show': walk. data.Fold: walk. -/
import Derived.Test.YtkcpbjoolfojjaaGreatDoorP32
import Derived.Test.YtkcpbjoolfojjaaGreatDoorP31
import Derived.Test.YtkcpbjoolfojjaaGreatDoorP26
import Derived.Test.YtkcpbjoolfojjaaGreatDoorP7
import Derived.Test.YtkcpbjoolfojjaaGreatDoorP4
import Derived.Deep.AppendLies
namespace Go.Proofs.YtkcpbjoolfojjaaGreatDoor.stepA
open Go.RowKit Go.Proofs.YtkcpbjoolfojjaaGreatDoor.kit Go.Proofs.YtkcpbjoolfojjaaGreatDoor.rows
set_option linter.unusedVariables false

theorem run_append_src {P : Program} {w : World} (t ty : TypeId) (base : Nat) (e : TypeId) (i : TypeInfo) (z : Value) (size bytes : Nat) (ht : P.underlying t = some (.slice e)) (hi : P.info? e = some i) (hz : i.zero = some z)
    (hsize : i.size = size) (hby : i.bytes = bytes) (hzs : z.cells.size = size) (hsz : 0 < size)
    (v : Value) (n : Nat) (xs : List Value) (hown : w.ownsRow base e size v n xs)
    (A : Option Addr) (m c : Nat) (news : List Value) (hl : news.length = m * size)
    (hsrc : (A = none ∧ m = 0 ∧ c = 0) ∨ ∃ ad, A = some ad ∧ ∀ (j : Nat) (u : Value), news[j]? = some u → w.cell? (ad.add j) = some u) (h1 : ∀ u ∈ news, u.oneCell' = true)
    (h63 : n + m ≤ maxLen) (hbytes : (n + m) * bytes ≤ 140737488355328) (hbase : base ≤ w.heap.size) :
    ∃ v' w', (Builtin.append_ #[t, t] ty #[v, .slice A m c]).run P w = .ok v' w' ∧ w'.ownsRow base e size v' (n + m) (xs ++ news) ∧ w.grownBy w' v.ownBlock := by
  rcases hsrc with ⟨rfl, rfl, rfl⟩ | ⟨ad, rfl, hc⟩
  · have hn : news = [] := List.eq_nil_of_length_eq_zero (by simpa using hl)
    subst hn
    exact ⟨v, w, run_append_owned_none (P := P) (w := w) base t ty e i size ht hi v n xs hown, by simpa using hown, ⟨rfl, rfl, rfl, Nat.le_refl _, fun _ _ _ => rfl⟩⟩
  · obtain ⟨v', w', h1, h2, h3, _⟩ := run_append_own (P := P) (w := w) base t ty e i z size bytes ht hi hz hsize hby hzs hsz v n xs hown ad m c news hl hc h1 h63 hbytes hbase
    exact ⟨v', w', h1, h2, h3⟩
theorem step_append_src {P : Program} {w : World} {ops : Array Oper} {o : Oper} {a : Act} {K : Act → World → Prop} {Q : Exit → Act → World → Prop} {E : Prop} (hgd : o.guard = none) (s x : Operand) (t : TypeId)
    (ho : o.op = .call { callee := .builtin .append, args := #[s, x], argTypes := #[t, t] })
    (base : Nat) (e : TypeId) (i : TypeInfo) (z : Value) (size bytes : Nat) (ht : P.underlying t = some (.slice e)) (hi : P.info? e = some i) (hz : i.zero = some z)
    (hsize : i.size = size) (hby : i.bytes = bytes) (hzs : z.cells.size = size) (hsz : 0 < size)
    (v : Value) (n : Nat) (xs : List Value) (hs : a.eval s = v) (hown : w.ownsRow base e size v n xs)
    (A : Option Addr) (m c : Nat) (news : List Value) (hx : a.eval x = .slice A m c) (hl : news.length = m * size)
    (hsrc : (A = none ∧ m = 0 ∧ c = 0) ∨ ∃ ad, A = some ad ∧ ∀ (j : Nat) (u : Value), news[j]? = some u → w.cell? (ad.add j) = some u) (h1 : ∀ u ∈ news, u.oneCell' = true)
    (h63 : n + m ≤ maxLen) (hbytes : (n + m) * bytes ≤ 140737488355328) (hbase : base ≤ w.heap.size)
    (h : ∀ v' w', w'.ownsRow base e size v' (n + m) (xs ++ news) → w.grownBy w' v.ownBlock → K (a.put o.dst v') w') :
    if Region.wanted o (yielded ops a.tmps) = true then Oper.wp P o a w K Q else E := by
  have hw : Region.wanted o (yielded ops a.tmps) = true := by simp [Region.wanted, hgd]
  rw [if_pos hw]
  obtain ⟨v', w', hr, h2, h3⟩ := run_append_src (P := P) (w := w) t o.type base e i z size bytes ht hi hz hsize hby hzs hsz v n xs hown A m c news hl hsrc h1 h63 hbytes hbase
  unfold Oper.wp execOp
  simp only [ho, resolve, invoke, builtin, Sem.run_bind, Sem.run_pure, Result.andThen_ok, List.map_toArray, List.map_cons, List.map_nil, hs, hx, hr]
  exact h v' w' h2 h3
end Go.Proofs.YtkcpbjoolfojjaaGreatDoor.stepA
namespace Go.Proofs.YtkcpbjoolfojjaaGreatDoor.rshow
open Go.RowKit Go.Proofs.YtkcpbjoolfojjaaGreatDoor.kit Go.Proofs.YtkcpbjoolfojjaaGreatDoor.nspec Go.Proofs.YtkcpbjoolfojjaaGreatDoor.bld Go.Proofs.YtkcpbjoolfojjaaGreatDoor.dshow Go.Proofs.YtkcpbjoolfojjaaGreatDoor.rsplit Go.Proofs.YtkcpbjoolfojjaaGreatDoor.fld Go.Proofs.YtkcpbjoolfojjaaGreatDoor.splitD Go.Proofs.YtkcpbjoolfojjaaGreatDoor.rsize Go.Proofs.YtkcpbjoolfojjaaGreatDoor.rform Go.Proofs.YtkcpbjoolfojjaaGreatDoor.parts Go.Proofs.YtkcpbjoolfojjaaGreatDoor.checkData Go.Proofs.YtkcpbjoolfojjaaGreatDoor.dnames Go.Proofs.YtkcpbjoolfojjaaGreatDoor.rnames Go.Proofs.YtkcpbjoolfojjaaGreatDoor.dshowB Go.Proofs.YtkcpbjoolfojjaaGreatDoor.rfield Go.Proofs.YtkcpbjoolfojjaaGreatDoor.joinW
set_option linter.unusedVariables false

theorem step_append_lv {w : World} {ops : Array Oper} {o : Oper} {a : Act} {K : Act → World → Prop} {Q : Exit → Act → World → Prop} {E : Prop} (hgd : o.guard = none) (s x : Operand)
    (ho : o.op = .call { callee := .builtin .append, args := #[s, x], argTypes := #[70, 70] })
    (base : Nat) (v : Value) (L : List Bs) (hs : a.eval s = v) (hown : w.ownsRow base 9 1 v L.length (L.map strV)) (bx : Nat) (M : List Bs) (u : Value) (hx : a.eval x = u) (hlv : LV w u bx M)
    (hlen : L.length + M.length ≤ 1000000000) (hbase : base ≤ w.heap.size)
    (h : ∀ v' w', w'.ownsRow base 9 1 v' (L ++ M).length ((L ++ M).map strV) → w.grownBy w' v.ownBlock → K (a.put o.dst v') w') : if Region.wanted o (yielded ops a.tmps) = true then Oper.wp Tryz.prog o a w K Q else E := by
  obtain ⟨i0, hi, hz0, hz1, hz2⟩ := info_parts infoStr
  rcases hlv with ⟨rfl, rfl⟩ | ⟨g, c, rfl, h1, h2, h3, h4, h5⟩
  · refine stepA.step_append_src hgd s x 70 ho base 9 i0 (.string ByteArray.empty) 1 16 Tryz.underlying70 hi hz0 hz1 hz2 rfl (by decide) v L.length (L.map strV) hs hown none 0 0 [] hx rfl (.inl ⟨rfl, rfl, rfl⟩) (by simp) (by unfold maxLen; omega) (by omega) hbase ?_
    intro v' w' h6 h7
    exact h v' w' (by simpa using h6) h7
  · refine stepA.step_append_src hgd s x 70 ho base 9 i0 (.string ByteArray.empty) 1 16 Tryz.underlying70 hi hz0 hz1 hz2 rfl (by decide) v L.length (L.map strV) hs hown (some ⟨g, 0, none⟩) M.length c (M.map strV) hx (by simp) (.inr ⟨_, rfl, ?_⟩) ?_ (by unfold maxLen; omega) (by omega) hbase ?_
    · intro j z hz
      rw [List.getElem?_map] at hz
      obtain ⟨y, hy, rfl⟩ := Option.map_eq_some_iff.1 hz
      rw [addr_add]
      exact h5 j y hy
    · intro z hz
      obtain ⟨y, _, rfl⟩ := List.mem_map.1 hz
      rfl
    · intro v' w' h6 h7
      exact h v' w' (by simpa using h6) h7
theorem own_drew {w : World} {base : Nat} {e : TypeId} {size n : Nat} {v : Value} {xs : List Value} (h : w.ownsRow base e size v n xs) : w.drew.ownsRow base e size v n xs := own_below h ((Below.refl _ _).drew)
theorem ok_num {k : Nat} {x : Bs} (h : OkP (.num k) x) : x.length = k := by
  unfold OkP at h; simp only [takeS] at h; split at h <;> omega
theorem ok_ip4 {x : Bs} (h : OkP .ip4 x) : x.length = 4 := by
  unfold OkP at h; simp only [takeS] at h; split at h <;> omega
theorem ok_ip6 {x : Bs} (h : OkP .ip6 x) : x.length = 16 := by
  unfold OkP at h; simp only [takeS] at h; split at h <;> omega
theorem ok_kind {x : Bs} (h : OkP .kind x) : x.length = 2 := by
  unfold OkP at h; simp only [takeS] at h; split at h <;> omega
theorem ok_textL {x : Bs} (h : OkP .text x) : 1 ≤ x.length := by
  unfold OkP at h
  cases x with
  | nil => simp [takeS, textS] at h
  | cons a b => simp
theorem ok_saltL {x : Bs} (h : OkP .salt x) : 1 ≤ x.length := by
  unfold OkP at h
  cases x with
  | nil => simp [takeS, textS] at h
  | cons a b => simp
theorem ok_hashL {x : Bs} (h : OkP .hash x) : 1 ≤ x.length := by
  unfold OkP at h
  cases x with
  | nil => simp [takeS] at h
  | cons a b => simp
end Go.Proofs.YtkcpbjoolfojjaaGreatDoor.rshow
namespace Go.Proofs.YtkcpbjoolfojjaaGreatDoor.dshowE
open Go.RowKit Go.Proofs.YtkcpbjoolfojjaaGreatDoor.kit Go.Proofs.YtkcpbjoolfojjaaGreatDoor.nspec Go.Proofs.YtkcpbjoolfojjaaGreatDoor.bits Go.Proofs.YtkcpbjoolfojjaaGreatDoor.bld Go.Proofs.YtkcpbjoolfojjaaGreatDoor.dshow Go.Proofs.YtkcpbjoolfojjaaGreatDoor.rsplit Go.Proofs.YtkcpbjoolfojjaaGreatDoor.dshowA Go.Proofs.YtkcpbjoolfojjaaGreatDoor.dshowB Go.Proofs.YtkcpbjoolfojjaaGreatDoor.dshowD Go.Proofs.YtkcpbjoolfojjaaGreatDoor.fld Go.Proofs.YtkcpbjoolfojjaaGreatDoor.small Go.Proofs.YtkcpbjoolfojjaaGreatDoor.val Go.Proofs.YtkcpbjoolfojjaaGreatDoor.textsT
set_option linter.unusedVariables false

def let64 (n v k : Nat) : UInt8 := if n < k then 61 else sext v k
def lets64 (n v : Nat) : Bs := [let64 n v 0, let64 n v 1, let64 n v 2, let64 n v 3]
def tri (u : Bs) (n : Nat) : Bs := (u.take n ++ [0, 0]).take 3
theorem b64_step (u : Bs) (n : Nat) (h : u ≠ []) (hn : n = min u.length 3) : b64S u = lets64 n (valL (tri u n) 0) ++ b64S (u.drop n) := by
  match u, h with
  | [a], _ =>
    have : n = 1 := by simpa using hn
    subst this
    rw [b64_one]; simp [lets64, let64, tri, b64_nil]
  | [a, b], _ =>
    have : n = 2 := by simpa using hn
    subst this
    rw [b64_two]; simp [lets64, let64, tri, b64_nil]
  | a :: b :: c :: r, _ =>
    have : n = 3 := by simp only [List.length_cons] at hn; omega
    subst this
    rw [b64_three]; simp [lets64, let64, tri]
theorem lets_step {A R T : Bs} {n v k : Nat} (hk : k < 4) (h : A ++ ((lets64 n v).drop k ++ T) = R) : (A ++ [let64 n v k]) ++ ((lets64 n v).drop (k + 1) ++ T) = R := by
  rw [← h]
  match k, hk with
  | 0, _ => simp [lets64]
  | 1, _ => simp [lets64]
  | 2, _ => simp [lets64]
  | 3, _ => simp [lets64]
theorem wraps24 (n : Int) (h₀ : 0 ≤ n) (h₁ : n < 2 ^ 62) : IntKind.i64.wrap n = n := by rw [IntKind.wrap_i64]; omega
theorem and63 {x : Int} (h₀ : 0 ≤ x) (h₁ : x < 4294967296) : bits .and .i64 x 63 = x % 64 := bits_mask .i64 62 (by decide) wraps24 6 (by decide) x h₀ (by omega)
theorem idx64 (v : Nat) (h : v < 64) : Value.int .u8 (((⟨#[65, 66, 67, 68, 69, 70, 71, 72, 73, 74, 75, 76, 77, 78, 79, 80, 81, 82, 83, 84, 85, 86, 87, 88, 89, 90, 97, 98, 99, 100, 101, 102, 103, 104, 105, 106, 107, 108, 109, 110, 111, 112, 113, 114, 115, 116, 117, 118, 119, 120, 121, 122, 48, 49, 50, 51, 52, 53, 54, 55, 56, 57, 43, 47]⟩ : ByteArray)[v]'h).toNat : Int) = Value.int .u8 ((set64.getD v 0).toNat : Int) := by
  rw [← getD_at]; rfl
theorem tri_len (u : Bs) (n : Nat) : (tri u n).length ≤ 3 := by unfold tri; rw [List.length_take]; omega
theorem tri_data (u : ByteArray) (n : Nat) (hn : n ≤ u.size) : ((u.extract 0 n ++ ⟨#[0, 0]⟩ : ByteArray).extract 0 3).data.toList = tri u.data.toList n := by
  rw [ext0, ByteArray.data_append, Array.toList_append, ext0]; rfl

set_option maxRecDepth 100000 in
set_option maxHeartbeats 2400000 in
theorem b64_show (s : ByteArray) (w : World) (hs : s.size ≤ 65535) :
    Calls Tryz.prog 174 #[.agg #[], .string s] w (ShowPost w (showF .b64 s.data.toList)) := by
  obtain ⟨B, hBn⟩ : ∃ B, B = w.heap.size + 1 := ⟨_, rfl⟩
  have HBA := Lib.hid ((Below.refl w.heap.size w).alloc (Nat.le_refl _) (.cells #[] 90))
  have hfb := Lib.hid (Lib.fresh_isBuilder 52 5 (w.alloc (.cells #[] 90)))
  obtain ⟨R, HR⟩ : ∃ R, Hid ([] ++ b64S s.data.toList = R) := ⟨_, Lib.hid rfl⟩
  have e0 : showF .b64 s.data.toList = [R] := by rw [showF, ← HR.out]; rfl
  rw [e0]
  clear e0
  go_enter Tryz.func174, Tryz.ntmps174
  go_wp2_with fail
  go_loopg [1, 6, 7, 8, 21] (s.size + 1) (fun gas dv _ _ _ _ wr => ∃ (u : ByteArray) (A : Bs), dv = .string u ∧ u.size < gas ∧ u.size ≤ s.size ∧ A.length + 4 * u.size ≤ 4 * s.size ∧ Hid (A ++ b64S u.data.toList = R) ∧ Hid (Bld (w.heap.size + 1) (w.heap.size + 1) A wr) ∧ Hid (Below w.heap.size w wr))
  case atStart => exact ⟨s, [], rfl, by omega, by omega, by simp, HR, Lib.hid (by have h := hfb.out; rw [World.size_alloc] at h; exact h), Lib.hid (HBA.out.alloc HBA.out.size _)⟩
  case round =>
    clear hfb
    obtain ⟨u, A, rfl, hg, hus, hAu, HW, HA, HB⟩ := hrel
    obtain ⟨gk', hgk'⟩ : ∃ g, g = gk := ⟨_, rfl⟩
    rw [← hgk'] at hg
    have HG := Lib.hid hg; clear hg
    have hsz := HB.out.size
    by_cases h0 : 0 < u.size
    · have hne : u.data.toList ≠ [] := by intro h; rw [← size_len, h] at h0; simp at h0
      obtain ⟨n, hn⟩ : ∃ n, n = min u.size 3 := ⟨_, rfl⟩
      have HST := Lib.hid (b64_step u.data.toList n hne (by rw [size_len]; exact hn))
      have hnu : n ≤ u.size := by omega
      have hn3 : n ≤ 3 := by omega
      have hn1 : 1 ≤ n := by omega
      have hmin : Value.int .i64 (min (u.size : Int) 3) = Value.int .i64 (n : Int) := by congr 1; omega
      have hmin2 : Value.int .i64 (if (3 : Int) < u.size then 3 else (u.size : Int)) = Value.int .i64 (n : Int) := by congr 1; split <;> omega
      have h0i : (0 : Int) < u.size := by omega
      have hsum : (u.extract 0 n).size = n := by rw [ByteArray.size_extract]; omega
      clear hne
      have HN := Lib.hid hn; clear hn
      have hsz3 : (u.extract 0 n ++ (⟨#[0, 0]⟩ : ByteArray)).size = n + 2 := by rw [ByteArray.size_append, hsum]; rfl
      obtain ⟨x, hx⟩ : ∃ x, (u.extract 0 n ++ (⟨#[0, 0]⟩ : ByteArray)).extract 0 3 = x := ⟨_, rfl⟩
      have hxd := Lib.hid (tri_data u n hnu)
      rw [hx] at hxd
      have hxs : x.size ≤ 4 := by have := tri_len u.data.toList n; rw [← hxd.out, size_len] at this; omega
      have CS := Lib.hid (fun w => small_any x w hxs)
      obtain ⟨v, hv⟩ : ∃ v, valL (tri u.data.toList n) 0 = v := ⟨_, rfl⟩
      rw [hxd.out, hv] at CS
      rw [hv] at HST
      have hv24 : v < 4294967296 := by rw [← hv]; exact valL_four (by have := tri_len u.data.toList n; omega)
      clear hv
      go_wp2_with fail
      refine (CS.out _).mono ?_
      rintro e w1 ⟨rfl, rfl⟩
      go_wp2_with fail
      go_loopg [8, 21] 5 (fun gas _ kv wq => ∃ (k : Nat) (A : Bs), kv = .int .i64 k ∧ k ≤ 4 ∧ k + gas = 5 ∧ A.length + 4 * u.size ≤ 4 * s.size + k ∧ Hid (A ++ ((lets64 n v).drop k ++ b64S (u.data.toList.drop n)) = R) ∧ Hid (Bld (w.heap.size + 1) (w.heap.size + 1) A wq) ∧ Hid (Below w.heap.size w wq))
      case atStart => exact ⟨0, A, rfl, by omega, by omega, by omega, Lib.hid (by rw [← HW.out, HST.out]; rfl), HA, HB⟩
      case round =>
        obtain ⟨k, A, rfl, hk, hkg, hAk, HV, HA, HB⟩ := hrel
        have HKG := Lib.hid hkg; clear hkg
        have hsz := HB.out.size
        have hsz1 : w.heap.size + 1 ≤ wr.heap.size := by
          have h := HA.out
          rcases h with h | h
          · have := h.lt; omega
          · have := h.lt; omega
        by_cases hk4 : k < 4
        · have HS2 := Lib.hid (lets_step hk4 HV.out)
          have hAl : A.length + 1 ≤ 140737488355328 := by omega
          by_cases hnk : n < k
          · have e1 : let64 n v k = 61 := by unfold let64; rw [if_pos hnk]
            rw [e1] at HS2
            have HWB := Lib.hid (wbi (w.heap.size + 1) (w.heap.size + 1) A 61 61 rfl wr HA.out hAl hsz1)
            clear e1
            go_wp2_with fail
            refine HWB.out.mono ?_
            rintro e w2 ⟨rfl, hb2, hE2⟩
            have HB2 := Lib.hid (HB.out.trans (hE2.mono (Nat.le_succ _)))
            have HA2 := Lib.hid hb2
            clear hE2 hb2
            go_wp2_with fail
            have hkg := HKG.out
            go_roundg (gk - 1)
            case rel => exact ⟨k + 1, _, by go_num, by omega, by omega, by rw [List.length_append, List.length_singleton]; omega, HS2, HA2, HB2⟩
            case measure => omega
          · have e1 : let64 n v k = sext v k := by unfold let64; rw [if_neg hnk]
            rw [e1] at HS2
            obtain ⟨q, hq⟩ : ∃ q : Nat, 18 - 6 * k = q := ⟨_, rfl⟩
            have hqv : Value.int .i64 (18 - 6 * (k : Int)) = Value.int .i64 (q : Int) := by congr 1; omega
            obtain ⟨z, hz⟩ : ∃ z : Nat, v / 2 ^ q % 64 = z := ⟨_, rfl⟩
            have hz64 : z < 64 := by omega
            have hand : Value.int .i64 (bits .and .i64 ((v : Int) / 2 ^ q) 63) = Value.int .i64 (z : Int) := by
              obtain ⟨Z, hZ⟩ : ∃ Z : Nat, v / 2 ^ q = Z := ⟨_, rfl⟩
              have e1 : (v : Int) / 2 ^ q = (Z : Int) := by rw [← hZ]; simp
              have e2 : Z ≤ v := by rw [← hZ]; exact Nat.div_le_self _ _
              rw [hZ] at hz
              rw [e1, and63 (by omega) (by omega)]; congr 1; omega
            have e2 : sext v k = set64.getD z 0 := by unfold sext; rw [hq, hz]
            rw [e2] at HS2
            have hx1 := idx64 z hz64
            have HWB := Lib.hid (wb (w.heap.size + 1) (w.heap.size + 1) A (set64.getD z 0) wr HA.out hAl hsz1)
            have hq18 : q ≤ 18 := by omega
            clear e1 e2 hz hq
            go_wp2_with fail
            refine HWB.out.mono ?_
            rintro e w2 ⟨rfl, hb2, hE2⟩
            have HB2 := Lib.hid (HB.out.trans (hE2.mono (Nat.le_succ _)))
            have HA2 := Lib.hid hb2
            clear hE2 hb2 hx1 hand hqv
            go_wp2_with fail
            have hkg := HKG.out
            go_roundg (gk - 1)
            case rel => exact ⟨k + 1, _, by go_num, by omega, by omega, by rw [List.length_append, List.length_singleton]; omega, HS2, HA2, HB2⟩
            case measure => omega
        · have hke : k = 4 := by omega
          subst hke
          have HE : Hid (A ++ b64S (u.data.toList.drop n) = R) := Lib.hid HV.out
          obtain ⟨y, hy⟩ : ∃ y, u.extract n u.size = y := ⟨_, rfl⟩
          have hyd : y.data.toList = u.data.toList.drop n := by rw [← hy, ext_end]
          have hys : y.size = u.size - n := by rw [← hy, ByteArray.size_extract]; omega
          rw [← hyd] at HE
          have HYS := Lib.hid hys
          have hnui : (n : Int) ≤ (u.size : Int) := by omega
          clear hyd hys
          go_wp2_with fail
          have hg := HG.out
          have h2 := HYS.out
          go_roundg (gk' - 1)
          case rel => exact ⟨y, A, by first | rfl | (rw [hy]), by omega, by omega, by omega, HE, HA, HB⟩
          case measure => omega
    · have he : u.data.toList = [] := List.eq_nil_of_length_eq_zero (by rw [size_len]; omega)
      have HE : Hid (A = R) := Lib.hid (by have h := HW.out; rw [he, b64_nil, List.append_nil] at h; exact h)
      rw [HE.out] at HA
      have hsz1 : w.heap.size + 1 ≤ wr.heap.size := by
        have h := HA.out
        rcases h with h | h
        · have := h.lt; omega
        · have := h.lt; omega
      clear he
      go_wp2_with fail
      refine (Tryz.Builder_String_any _ _ R _ HA.out hsz1).mono ?_
      rintro e w2 ⟨rfl, hE2⟩
      have HB2 := Lib.hid (HB.out.trans (hE2.mono (Nat.le_succ _)))
      clear hE2
      go_wp2_with fail
      go_ret
      exact show_one HB2.out rfl _
end Go.Proofs.YtkcpbjoolfojjaaGreatDoor.dshowE
namespace Go.Proofs.YtkcpbjoolfojjaaGreatDoor.dfold
open Go.RowKit Go.Proofs.YtkcpbjoolfojjaaGreatDoor.kit Go.Proofs.YtkcpbjoolfojjaaGreatDoor.nspec Go.Proofs.YtkcpbjoolfojjaaGreatDoor.rsplit Go.Proofs.YtkcpbjoolfojjaaGreatDoor.fld Go.Proofs.YtkcpbjoolfojjaaGreatDoor.formW Go.Proofs.YtkcpbjoolfojjaaGreatDoor.splitD Go.Proofs.YtkcpbjoolfojjaaGreatDoor.dcheck Go.Proofs.YtkcpbjoolfojjaaGreatDoor.dnames Go.Proofs.YtkcpbjoolfojjaaGreatDoor.nread Go.Proofs.YtkcpbjoolfojjaaGreatDoor.bld Go.Proofs.YtkcpbjoolfojjaaGreatDoor.refA Go.Proofs.YtkcpbjoolfojjaaGreatDoor.nameB
set_option linter.unusedVariables false

def foldOne (f : Fld) (x : Bs) : Bs := if isHost f then foldS x else x
theorem fold_short (x : Bs) : (foldS x).length ≤ 255 := by
  cases h : split x with
  | none => unfold foldS; rw [h]; simp
  | some ls =>
    have hN := split_iff.1 h
    have hr := isN_room hN
    rw [foldS_yes hN, put_length, room_low]; omega
theorem one_len {f : Fld} {x : Bs} (h : x.length ≤ 65535) : (foldOne f x).length ≤ 65535 := by
  unfold foldOne; split
  · have := fold_short x; omega
  · exact h
end Go.Proofs.YtkcpbjoolfojjaaGreatDoor.dfold
