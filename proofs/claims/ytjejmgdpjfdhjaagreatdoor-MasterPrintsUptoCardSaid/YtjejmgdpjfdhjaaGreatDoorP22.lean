/- An append of a list that came in, at a step of a region that draws its order. gazetteerref1.ShowData: walk. data.b64's 'show': walk. data.Fold: walk. -/
import Derived.Test.YtjejmgdpjfdhjaaGreatDoorP21
import Derived.Test.YtjejmgdpjfdhjaaGreatDoorP15
import Derived.Test.YtjejmgdpjfdhjaaGreatDoorP18
import Derived.Test.YtjejmgdpjfdhjaaGreatDoorP20
import Derived.Test.YtjejmgdpjfdhjaaGreatDoorP2
import Derived.Test.YtjejmgdpjfdhjaaGreatDoorP5
import Derived.Deep.AppendLies
namespace Go.Proofs.YtjejmgdpjfdhjaaGreatDoor.stepA
open Go.RowKit Go.Proofs.YtjejmgdpjfdhjaaGreatDoor.kit Go.Proofs.YtjejmgdpjfdhjaaGreatDoor.rows
set_option linter.unusedVariables false

theorem run_append_src {P : Program} {w : World} (t ty : TypeId) (base : Nat) (e : TypeId) (i : TypeInfo) (z : Value) (size bytes : Nat) (ht : P.underlying t = some (.slice e)) (hi : P.info? e = some i) (hz : i.zero = some z)
    (hsize : i.size = size) (hby : i.bytes = bytes) (hzs : z.cells.size = size) (hsz : 0 < size)
    (v : Value) (n : Nat) (xs : List Value) (hown : w.ownsRow base e size v n xs)
    (A : Option Addr) (m c : Nat) (news : List Value) (hl : news.length = m * size)
    (hsrc : (A = none ∧ m = 0 ∧ c = 0) ∨ ∃ ad, A = some ad ∧ ∀ (j : Nat) (u : Value), news[j]? = some u → w.cell? (ad.add j) = some u) (h1 : ∀ u ∈ news, u.oneCell' = true)
    (h63 : n + m ≤ maxLen) (hbytes : (n + m) * bytes ≤ 140737488355328) (hbase : base ≤ w.heap.size) :
    ∃ v' w', (Builtin.append_ #[t, t] ty #[v, .slice A m c]).run P w = .ok v' w' ∧ w'.ownsRow base e size v' (n + m) (xs ++ news) ∧ w.grownBy w' v.ownBlock := by
  rcases hsrc with ⟨rfl, rfl, rfl⟩ | ⟨ad, rfl, hc⟩
  · have hn : news = [] := List.eq_nil_of_length_eq_zero (by simpa using hl)
    subst hn
    exact ⟨v, w, run_append_owned_none (P := P) (w := w) base t ty e i size ht hi v n xs hown, by simpa using hown, ⟨rfl, rfl, rfl, Nat.le_refl _, fun _ _ _ => rfl⟩⟩
  · obtain ⟨v', w', h1, h2, h3, _⟩ := run_append_own (P := P) (w := w) base t ty e i z size bytes ht hi hz hsize hby hzs hsz v n xs hown ad m c news hl hc h1 h63 hbytes hbase
    exact ⟨v', w', h1, h2, h3⟩
theorem step_append_src {P : Program} {w : World} {ops : Array Oper} {o : Oper} {a : Act} {K : Act → World → Prop} {Q : Exit → Act → World → Prop} {E : Prop} (hgd : o.guard = none) (s x : Operand) (t : TypeId)
    (ho : o.op = .call { callee := .builtin .append, args := #[s, x], argTypes := #[t, t] })
    (base : Nat) (e : TypeId) (i : TypeInfo) (z : Value) (size bytes : Nat) (ht : P.underlying t = some (.slice e)) (hi : P.info? e = some i) (hz : i.zero = some z)
    (hsize : i.size = size) (hby : i.bytes = bytes) (hzs : z.cells.size = size) (hsz : 0 < size)
    (v : Value) (n : Nat) (xs : List Value) (hs : a.eval s = v) (hown : w.ownsRow base e size v n xs)
    (A : Option Addr) (m c : Nat) (news : List Value) (hx : a.eval x = .slice A m c) (hl : news.length = m * size)
    (hsrc : (A = none ∧ m = 0 ∧ c = 0) ∨ ∃ ad, A = some ad ∧ ∀ (j : Nat) (u : Value), news[j]? = some u → w.cell? (ad.add j) = some u) (h1 : ∀ u ∈ news, u.oneCell' = true)
    (h63 : n + m ≤ maxLen) (hbytes : (n + m) * bytes ≤ 140737488355328) (hbase : base ≤ w.heap.size)
    (h : ∀ v' w', w'.ownsRow base e size v' (n + m) (xs ++ news) → w.grownBy w' v.ownBlock → K (a.put o.dst v') w') :
    if Region.wanted o (yielded ops a.tmps) = true then Oper.wp P o a w K Q else E := by
  have hw : Region.wanted o (yielded ops a.tmps) = true := by simp [Region.wanted, hgd]
  rw [if_pos hw]
  obtain ⟨v', w', hr, h2, h3⟩ := run_append_src (P := P) (w := w) t o.type base e i z size bytes ht hi hz hsize hby hzs hsz v n xs hown A m c news hl hsrc h1 h63 hbytes hbase
  unfold Oper.wp execOp
  simp only [ho, resolve, invoke, builtin, Sem.run_bind, Sem.run_pure, Result.andThen_ok, List.map_toArray, List.map_cons, List.map_nil, hs, hx, hr]
  exact h v' w' h2 h3
end Go.Proofs.YtjejmgdpjfdhjaaGreatDoor.stepA
namespace Go.Proofs.YtjejmgdpjfdhjaaGreatDoor.rshow
open Go.RowKit Go.Proofs.YtjejmgdpjfdhjaaGreatDoor.kit Go.Proofs.YtjejmgdpjfdhjaaGreatDoor.nspec Go.Proofs.YtjejmgdpjfdhjaaGreatDoor.bld Go.Proofs.YtjejmgdpjfdhjaaGreatDoor.dshow Go.Proofs.YtjejmgdpjfdhjaaGreatDoor.rsplit Go.Proofs.YtjejmgdpjfdhjaaGreatDoor.fld Go.Proofs.YtjejmgdpjfdhjaaGreatDoor.splitD Go.Proofs.YtjejmgdpjfdhjaaGreatDoor.rsize Go.Proofs.YtjejmgdpjfdhjaaGreatDoor.rform Go.Proofs.YtjejmgdpjfdhjaaGreatDoor.parts Go.Proofs.YtjejmgdpjfdhjaaGreatDoor.checkData Go.Proofs.YtjejmgdpjfdhjaaGreatDoor.dnames Go.Proofs.YtjejmgdpjfdhjaaGreatDoor.rnames Go.Proofs.YtjejmgdpjfdhjaaGreatDoor.dshowB Go.Proofs.YtjejmgdpjfdhjaaGreatDoor.rfield Go.Proofs.YtjejmgdpjfdhjaaGreatDoor.joinW
set_option linter.unusedVariables false

theorem step_append_lv {w : World} {ops : Array Oper} {o : Oper} {a : Act} {K : Act → World → Prop} {Q : Exit → Act → World → Prop} {E : Prop} (hgd : o.guard = none) (s x : Operand)
    (ho : o.op = .call { callee := .builtin .append, args := #[s, x], argTypes := #[37, 37] })
    (base : Nat) (v : Value) (L : List Bs) (hs : a.eval s = v) (hown : w.ownsRow base 9 1 v L.length (L.map strV)) (bx : Nat) (M : List Bs) (u : Value) (hx : a.eval x = u) (hlv : LV w u bx M)
    (hlen : L.length + M.length ≤ 1000000000) (hbase : base ≤ w.heap.size)
    (h : ∀ v' w', w'.ownsRow base 9 1 v' (L ++ M).length ((L ++ M).map strV) → w.grownBy w' v.ownBlock → K (a.put o.dst v') w') : if Region.wanted o (yielded ops a.tmps) = true then Oper.wp Tryz.prog o a w K Q else E := by
  obtain ⟨i0, hi, hz0, hz1, hz2⟩ := info_parts infoStr
  rcases hlv with ⟨rfl, rfl⟩ | ⟨g, c, rfl, h1, h2, h3, h4, h5⟩
  · refine stepA.step_append_src hgd s x 37 ho base 9 i0 (.string ByteArray.empty) 1 16 Tryz.underlying37 hi hz0 hz1 hz2 rfl (by decide) v L.length (L.map strV) hs hown none 0 0 [] hx rfl (.inl ⟨rfl, rfl, rfl⟩) (by simp) (by unfold maxLen; omega) (by omega) hbase ?_
    intro v' w' h6 h7
    exact h v' w' (by simpa using h6) h7
  · refine stepA.step_append_src hgd s x 37 ho base 9 i0 (.string ByteArray.empty) 1 16 Tryz.underlying37 hi hz0 hz1 hz2 rfl (by decide) v L.length (L.map strV) hs hown (some ⟨g, 0, none⟩) M.length c (M.map strV) hx (by simp) (.inr ⟨_, rfl, ?_⟩) ?_ (by unfold maxLen; omega) (by omega) hbase ?_
    · intro j z hz
      rw [List.getElem?_map] at hz
      obtain ⟨y, hy, rfl⟩ := Option.map_eq_some_iff.1 hz
      rw [addr_add]
      exact h5 j y hy
    · intro z hz
      obtain ⟨y, _, rfl⟩ := List.mem_map.1 hz
      rfl
    · intro v' w' h6 h7
      exact h v' w' (by simpa using h6) h7
theorem own_drew {w : World} {base : Nat} {e : TypeId} {size n : Nat} {v : Value} {xs : List Value} (h : w.ownsRow base e size v n xs) : w.drew.ownsRow base e size v n xs := own_below h ((Below.refl _ _).drew)
theorem ok_num {k : Nat} {x : Bs} (h : OkP (.num k) x) : x.length = k := by
  unfold OkP at h; simp only [takeS] at h; split at h <;> omega
theorem ok_ip4 {x : Bs} (h : OkP .ip4 x) : x.length = 4 := by
  unfold OkP at h; simp only [takeS] at h; split at h <;> omega
theorem ok_ip6 {x : Bs} (h : OkP .ip6 x) : x.length = 16 := by
  unfold OkP at h; simp only [takeS] at h; split at h <;> omega
theorem ok_kind {x : Bs} (h : OkP .kind x) : x.length = 2 := by
  unfold OkP at h; simp only [takeS] at h; split at h <;> omega
theorem ok_textL {x : Bs} (h : OkP .text x) : 1 ≤ x.length := by
  unfold OkP at h
  cases x with
  | nil => simp [takeS, textS] at h
  | cons a b => simp
theorem ok_saltL {x : Bs} (h : OkP .salt x) : 1 ≤ x.length := by
  unfold OkP at h
  cases x with
  | nil => simp [takeS, textS] at h
  | cons a b => simp
theorem ok_hashL {x : Bs} (h : OkP .hash x) : 1 ≤ x.length := by
  unfold OkP at h
  cases x with
  | nil => simp [takeS] at h
  | cons a b => simp
theorem rfield_any (f : Fld) (x : ByteArray) (w : World) (hs : x.size ≤ 65535) (hok : OkP f x.data.toList) (hf : ∀ k, f = .num k → k = 1 ∨ k = 2 ∨ k = 4) :
    Calls Tryz.prog 22 #[.int .u8 ((letterOf f : Nat) : Int), .string x] w (ShowPost w (showF f x.data.toList)) := by
  cases f with
  | num k =>
    have hl := ok_num hok
    rw [size_len] at hl
    rcases hf k rfl with h | h | h <;> subst h
    · exact num1_f x w (by omega)
    · exact num2_f x w (by omega)
    · exact num4_f x w (by omega)
  | ip4 => exact ip4_f x w (by have := ok_ip4 hok; rwa [size_len] at this)
  | ip6 => exact ip6_f x w (by have := ok_ip6 hok; rwa [size_len] at this)
  | host => exact host_f x w hs
  | text => exact text_f x w hs (by have := ok_textL hok; rwa [size_len] at this)
  | texts => exact texts_f x w hs hok
  | tail => exact tail_f x w hs
  | hexes => exact hexes_f x w hs
  | b64 => exact b64_f x w hs
  | kind => exact kind_f x w (by have := ok_kind hok; rw [size_len] at this; omega)
  | kinds => exact kinds_f x w hs hok
  | salt => exact salt_f x w hs (by have := ok_saltL hok; rwa [size_len] at this)
  | hash => exact hash_f x w hs (by have := ok_hashL hok; rwa [size_len] at this)
theorem letter_f {fs : List Fld} {F : ByteArray} (hF : F.data.toList = lettersB fs) (h4 : Fair4 fs) {k : Nat} {f : Fld} (hf : fs[k]? = some f) : ∃ (h : k < F.size), ((F[k].toNat : Nat) : Int) = ((letterOf f : Nat) : Int) := by
  have hk : k < F.size := by
    have := (List.getElem?_eq_some_iff.1 hf).1
    rw [← size_len, hF]; simp [lettersB]; exact this
  refine ⟨hk, ?_⟩
  have h1 : F.data.toList[k]? = some (UInt8.ofNat (letterOf f)) := by rw [hF]; simp [lettersB, hf]
  have h2 := hostT.at_some hk (rfl : F[k] = F[k])
  rw [h1] at h2
  have h3 : UInt8.ofNat (letterOf f) = F[k] := by simpa using h2
  rw [← h3]
  cases f with
  | num j => rcases h4.2 j (List.mem_of_getElem? hf) with h | h | h <;> subst h <;> rfl
  | _ => rfl

set_option maxRecDepth 100000 in
set_option maxHeartbeats 8000000 in
theorem rshow_any (t : Int) (s : ByteArray) (w : World) (hs : s.size ≤ maxLen) :
    Calls Tryz.prog 6 #[.int .i64 t, .string s] w fun e w' => e = .returned (.tuple #[.string ⟨(showDS t s.data.toList).toArray⟩, .int .i64 (checkS t s.data.toList)]) ∧ Below w.heap.size w w' := by
  obtain ⟨R, HR⟩ : ∃ R, Hid (showDS t s.data.toList = R) := ⟨_, Lib.hid rfl⟩
  rw [HR.out]
  have CC := Lib.hid (fun w => rdcheck_any t s w hs)
  obtain ⟨C, hC⟩ : ∃ C, checkS t s.data.toList = C := ⟨_, rfl⟩
  rw [hC] at CC ⊢
  by_cases hc0 : C = 0
  · subst hc0
    have hls : s.size ≤ 65535 := by have := check_len hC; rwa [size_len] at this
    have CF := Lib.hid (fun w => rform_any t w)
    unfold FormIs at CF
    obtain ⟨F, hF⟩ : ∃ F : ByteArray, (⟨(formB t).toArray⟩ : ByteArray) = F := ⟨_, rfl⟩
    have hFd : F.data.toList = formB t := by rw [← hF]
    rw [hF] at CF
    cases hf : formS t with
    | none =>
      obtain ⟨D, hD⟩ : ∃ D : ByteArray, (⟨(Lib.decDigits s.size).toArray⟩ : ByteArray) = D := ⟨_, rfl⟩
      obtain ⟨X, hX⟩ : ∃ X : ByteArray, (⟨(hexS s.data.toList).toArray⟩ : ByteArray) = X := ⟨_, rfl⟩
      have HN : Hid (R = [92, 35, 32] ++ D.data.toList ++ (if s.data.toList = [] then [] else 32 :: X.data.toList)) := Lib.hid (by
        rw [← HR.out, showDS, if_pos hC, hf, ← hD, ← hX, size_len])
      have CD := Lib.hid (fun w => dec_any s.size (by omega) w)
      have CX := Lib.hid (fun w => rshowA.rhex_any s w (by omega))
      rw [hD] at CD
      rw [hX] at CX
      have hDs : D.size ≤ 10 := by
        rw [← hD, mk_size]
        exact Nat.le_trans (tname.dec_len 4 s.size (by omega)) (by omega)
      have hXs : X.size ≤ 131070 := by rw [← hX, mk_size, hex_len, size_len]; omega
      have h45 : (F.toList == [45]) = true := by rw [Lib.toList_data, hFd]; unfold formB; rw [hf, check_holds hC]; rfl
      clear hf hC hF hFd hD hX
      by_cases h0 : s.size = 0
      · have hem : s.toList.isEmpty = true := by
          rw [Lib.toList_data, List.eq_nil_of_length_eq_zero (show s.data.toList.length = 0 by rw [size_len]; exact h0)]; rfl
        have HN2 : Hid (R = (⟨#[92, 35, 32]⟩ ++ D : ByteArray).data.toList) := Lib.hid (by
          rw [HN.out, if_pos (List.eq_nil_of_length_eq_zero (by rw [size_len]; exact h0))]; simp)
        clear h0
        go_enter Tryz.func6, Tryz.ntmps6
        go_wp2_with fail
        refine (CC.out _).mono ?_
        rintro e w1 ⟨rfl, hB1⟩
        have HB1 := Lib.hid hB1; clear hB1
        go_wp2_with fail
        refine (CF.out _).mono ?_
        rintro e w2 ⟨rfl, rfl⟩
        go_wp2_with fail
        refine (CD.out _).mono ?_
        rintro e w3 ⟨rfl, hB3⟩
        have HB3 := Lib.hid (HB1.out.trans (hB3.mono HB1.out.size)); clear hB3
        go_wp2_with fail
        go_ret2
        exact ⟨by rw [HN2.out]; rfl, HB3.out⟩
      · have hne : s.data.toList ≠ [] := by intro h; apply h0; rw [← size_len, h]; rfl
        have hem : s.toList.isEmpty = false := by
          rw [Lib.toList_data]
          cases hl : s.data.toList with
          | nil => exact absurd hl hne
          | cons a b => rfl
        have HN2 : Hid (R = (⟨#[92, 35, 32]⟩ ++ D ++ (⟨#[32]⟩ ++ X) : ByteArray).data.toList) := Lib.hid (by
          rw [HN.out, if_neg hne]; simp)
        clear h0 hne
        go_enter Tryz.func6, Tryz.ntmps6
        go_wp2_with fail
        refine (CC.out _).mono ?_
        rintro e w1 ⟨rfl, hB1⟩
        have HB1 := Lib.hid hB1; clear hB1
        go_wp2_with fail
        refine (CF.out _).mono ?_
        rintro e w2 ⟨rfl, rfl⟩
        go_wp2_with fail
        refine (CD.out _).mono ?_
        rintro e w3 ⟨rfl, hB3⟩
        have HB3 := Lib.hid (HB1.out.trans (hB3.mono HB1.out.size)); clear hB3
        go_wp2_with fail
        refine (CX.out _).mono ?_
        rintro e w4 ⟨rfl, hB4⟩
        have HB4 := Lib.hid (HB3.out.trans (hB4.mono HB3.out.size)); clear hB4
        go_wp2_with fail
        go_ret2
        exact ⟨by rw [HN2.out]; rfl, HB4.out⟩
    | some fs =>
      obtain ⟨c1, c2⟩ := form_cons hf
      have hFl : F.data.toList = lettersB fs := by rw [hFd]; unfold formB; rw [hf]
      have h45 : (F.toList == [45]) = false := not45 (by rw [hFl]; exact c2)
      obtain ⟨p, hp1, hp2, hp3⟩ := parts_ok hC hf
      have HN : Hid (R = joinS (wordsL fs p)) := Lib.hid (by rw [← HR.out, showDS, if_pos hC, hf, hp1])
      obtain ⟨n, hn⟩ : ∃ n, fs.length = n := ⟨_, rfl⟩
      obtain ⟨hpl, hpx⟩ := parts_len _ _ _ _ hp2
      have hfa := form_fair4 hf
      have hn20 : n ≤ 20 := by rw [← hn]; exact hfa.1
      have CP := Lib.hid (fun w => parts_any fs F s w hFl hfa hls n hn)
      have HLE := Lib.hid (fun k f (h : fs[k]? = some f) => letter_f hFl hfa h)
      have HOK := Lib.hid (ok_parts _ _ _ _ hp2)
      have HNUM := Lib.hid hfa.2
      have HSP := Lib.hid hp2; have HNN := Lib.hid hn
      have HPL : Hid (p.length = n) := Lib.hid (by rw [hpl, hn])
      have HPX := Lib.hid hpx
      clear hf hC hp1 hp2 hp3 hpl hpx hfa hn hF hFd hFl c1 c2
      go_enter Tryz.func6, Tryz.ntmps6
      go_wp2_with fail
      refine (CC.out _).mono ?_
      rintro e w1 ⟨rfl, hB1⟩
      have HB1 := Lib.hid hB1; clear hB1
      go_wp2_with fail
      refine (CF.out _).mono ?_
      rintro e w2 ⟨rfl, rfl⟩
      go_wp2_with fail
      refine (CP.out _).mono ?_
      rintro e w3 ⟨hB3, ⟨v, p', r', hsp, rfl, hown⟩ | ⟨hsp, _⟩⟩
      case inr => rw [HSP.out] at hsp; simp at hsp
      rw [HSP.out] at hsp
      simp only [Option.some.injEq, Prod.mk.injEq] at hsp
      obtain ⟨rfl, rfl⟩ := hsp
      obtain ⟨a, c, rfl, hrd⟩ := Rd.of_own hown
      rw [HPL.out]
      have HRD := Lib.hid hrd
      have HBW : Hid (Below w.heap.size w w3) := Lib.hid (HB1.out.trans (hB3.mono HB1.out.size))
      clear hB3 hown hrd
      go_wp2_with fail
      go_loopg [11, 12, 43] (n + 1) (fun gas pv _ kv wr => ∃ (k : Nat) (P : List Bs), kv = .int .i64 k ∧ k ≤ n ∧ k + gas = n + 1 ∧ totW P ≤ 6554700 * k ∧ Hid (P ++ wordsL (fs.drop k) (p.drop k) = wordsL fs p) ∧ Hid (wr.ownsRow w3.heap.size 9 1 pv P.length (P.map strV)) ∧ Hid (Below w3.heap.size w3 wr))
      case atStart => exact ⟨0, [], rfl, by omega, by omega, Nat.zero_le _, Lib.hid rfl, Lib.hid (World.ownsRow_nil _ _ _ _), Lib.hid (Below.refl _ _)⟩
      case round =>
        obtain ⟨k, P, rfl, hk, hkg, hA, HW, HOWN, HB⟩ := hrel
        have HKG := Lib.hid hkg; clear hkg
        by_cases hlt : k < n
        · obtain ⟨f, hfk⟩ : ∃ f, fs[k]? = some f := ⟨_, List.getElem?_eq_getElem (by have := HNN.out; omega)⟩
          obtain ⟨x, hxk⟩ : ∃ x, p[k]? = some x := ⟨_, List.getElem?_eq_getElem (by have := HPL.out; omega)⟩
          have hxs := HPX.out x (List.mem_of_getElem? hxk)
          rw [size_len] at hxs
          have hx65 : x.length ≤ 65535 := by omega
          have HST := Lib.hid (words_go HW.out hfk hxk)
          have hok := HOK.out k f x hfk hxk
          have hnum := fun j (e : f = .num j) => HNUM.out j (by rw [← e]; exact List.mem_of_getElem? hfk)
          obtain ⟨hkF, hlet⟩ := HLE.out k f hfk
          have htot := show_tot hok (fun j e => by rcases hnum j e with h | h | h <;> omega)
          have HTOT : Hid (totW (P ++ showF f x) ≤ 6554700 * (k + 1)) := Lib.hid (by rw [totW_append]; omega)
          have HLEN : Hid (P.length + (showF f x).length ≤ 1000000000) := Lib.hid (by
            have h1 := totW_count P; have h2 := totW_count (showF f x); omega)
          obtain ⟨g, o, rfl, _, hg, hcP0⟩ := HRD.out k x hxk
          have hcP := (HB.out.cell (p := ⟨g, o + k, none⟩) hg).trans hcP0
          unfold strV at hcP
          obtain ⟨X, hX⟩ : ∃ X : ByteArray, (⟨x.toArray⟩ : ByteArray) = X := ⟨_, rfl⟩
          have hXd : X.data.toList = x := by rw [← hX]
          have hXs : X.size ≤ 65535 := by rw [← size_len, hXd]; exact hx65
          rw [hX] at hcP
          unfold strV at hcP0
          rw [hX] at hcP0
          have HC3 := Lib.hid hcP0
          have CF := Lib.hid (fun w => rfield_any f X w hXs (by rw [hXd]; exact hok) hnum)
          rw [hXd] at CF
          obtain ⟨lt, hlt2⟩ : ∃ lt, letterOf f = lt := ⟨_, rfl⟩
          rw [hlt2] at CF hlet
          have hgw : g < wr.heap.size := Nat.lt_of_lt_of_le hg HB.out.size
          have hokF : (k : Int) < (F.size : Int) := by omega
          have hok0 : 0 ≤ (k : Int) := by omega
          have HLET := Lib.hid hlet
          clear hcP0 hfk hxk hxs hX hXd hok hnum htot hlt2 hlet
          go_upto_region 15 with fail
          refine heldG.regionG (fun w' => w'.cell? ⟨g, o + k, none⟩ = some (.string X) ∧ Below w3.heap.size w3 w') (fun i => decide (10 ≤ i)) (by kernel_rfl) ?_
          have hS0 : wr.drew.cell? ⟨g, o + k, none⟩ = some (.string X) ∧ Below w3.heap.size w3 wr.drew := ⟨hcP, HB.out.drew⟩
          refine dshowC.isSetTake (i := 0) (d := 46) (v := u11) rfl rfl (by kernel_rfl) (by kernel_rfl) (by kernel_rfl) (fun _ _ _ h => h) (by kernel_rfl) rfl (Or.inl ⟨by kernel_rfl, ?_⟩) hS0 ?_
          · intro wz hSw
            obtain ⟨hcz, hBz⟩ := hSw
            go_simp
          try simp only [Act.put, List.setIfInBounds_toArray, List.set_cons_zero, List.set_cons_succ]
          refine dshowC.isSetTake (i := 1) (d := 47) (v := .string F) rfl rfl (by kernel_rfl) (by kernel_rfl) (by kernel_rfl) (fun _ _ _ h => h) (by kernel_rfl) rfl (Or.inl ⟨by kernel_rfl, ?_⟩) hS0 ?_
          · intro wz hSw
            obtain ⟨hcz, hBz⟩ := hSw
            go_simp
          try simp only [Act.put, List.setIfInBounds_toArray, List.set_cons_zero, List.set_cons_succ]
          refine dshowC.isSetTake (i := 2) (d := 48) (v := .int .i64 (k : Int)) rfl rfl (by kernel_rfl) (by kernel_rfl) (by kernel_rfl) (fun _ _ _ h => h) (by kernel_rfl) rfl (Or.inl ⟨by kernel_rfl, ?_⟩) hS0 ?_
          · intro wz hSw
            obtain ⟨hcz, hBz⟩ := hSw
            go_simp
          try simp only [Act.put, List.setIfInBounds_toArray, List.set_cons_zero, List.set_cons_succ]
          refine dshowC.isSetTake (i := 3) (d := 49) (v := .int .u8 (lt : Int)) rfl rfl (by kernel_rfl) (by kernel_rfl) (by kernel_rfl) (fun _ _ _ h => h) (by kernel_rfl) rfl (Or.inl ⟨by kernel_rfl, ?_⟩) hS0 ?_
          · intro wz hSw
            obtain ⟨hcz, hBz⟩ := hSw
            go_simp; first | done | exact HLET.out
          try simp only [Act.put, List.setIfInBounds_toArray, List.set_cons_zero, List.set_cons_succ]
          refine dshowC.isSetTake (i := 4) (d := 50) (v := .slice (some ⟨g, o, none⟩) n c) rfl rfl (by kernel_rfl) (by kernel_rfl) (by kernel_rfl) (fun _ _ _ h => h) (by kernel_rfl) rfl (Or.inl ⟨by kernel_rfl, ?_⟩) hS0 ?_
          · intro wz hSw
            obtain ⟨hcz, hBz⟩ := hSw
            go_simp
          try simp only [Act.put, List.setIfInBounds_toArray, List.set_cons_zero, List.set_cons_succ]
          refine dshowC.isSetTake (i := 5) (d := 51) (v := .int .i64 (k : Int)) rfl rfl (by kernel_rfl) (by kernel_rfl) (by kernel_rfl) (fun _ _ _ h => h) (by kernel_rfl) rfl (Or.inl ⟨by kernel_rfl, ?_⟩) hS0 ?_
          · intro wz hSw
            obtain ⟨hcz, hBz⟩ := hSw
            go_simp
          try simp only [Act.put, List.setIfInBounds_toArray, List.set_cons_zero, List.set_cons_succ]
          refine dshowC.isSetTake (i := 6) (d := 52) (v := .pointer (some ⟨g, o + k, none⟩)) rfl rfl (by kernel_rfl) (by kernel_rfl) (by kernel_rfl) (fun _ _ _ h => h) (by kernel_rfl) rfl (Or.inl ⟨by kernel_rfl, ?_⟩) hS0 ?_
          · intro wz hSw
            obtain ⟨hcz, hBz⟩ := hSw
            go_simp; try (intro h0; exfalso; omega)
          try simp only [Act.put, List.setIfInBounds_toArray, List.set_cons_zero, List.set_cons_succ]
          refine dshowC.isSetTake (i := 7) (d := 53) (v := .string X) rfl rfl (by kernel_rfl) (by kernel_rfl) (by kernel_rfl) (fun _ _ _ h => h) (by kernel_rfl) rfl (Or.inl ⟨by kernel_rfl, ?_⟩) hS0 ?_
          · intro wz hSw
            obtain ⟨hcz, hBz⟩ := hSw
            go_simp
          try simp only [Act.put, List.setIfInBounds_toArray, List.set_cons_zero, List.set_cons_succ]
          refine heldG.readyG (rs := [8]) (by kernel_rfl) (by simp) ?_
          refine heldG.AllG.cons rfl (fun KK hKK => ?_) heldG.AllG.nil
          go_simp
          refine (CF.out _).mono ?_
          rintro e w5 ⟨hB5, u, rfl, hlv⟩
          have hB5w := HB.out.drew.trans (hB5.mono (by have := HB.out.size; simpa using this))
          have hS1 : w5.cell? ⟨g, o + k, none⟩ = some (.string X) ∧ Below w3.heap.size w3 w5 := ⟨(hB5.cell (p := ⟨g, o + k, none⟩) (by simpa using hgw)).trans hcP, hB5w⟩
          have HO5 := Lib.hid (own_below (w := wr.drew) (own_drew HOWN.out) hB5)
          dsimp only
          refine hKK.out _ _ (fun _ => hS1) ?_; clear hKK KK
          try simp only [Act.put, List.setIfInBounds_toArray, List.set_cons_zero, List.set_cons_succ]
          refine heldG.readyG (rs := [9]) (by kernel_rfl) (by simp) ?_
          refine heldG.AllG.cons rfl (fun KK hKK => ?_) heldG.AllG.nil
          refine step_append_lv (by rfl) (.tmp 46) (.tmp 54) (by rfl) w3.heap.size u11 P (by simp [Act.eval]) HO5.out _ (showF f x) u (by simp [Act.eval]) hlv HLEN.out hB5w.size ?_
          intro v' w6 hown6 hgrow
          have HO6 := Lib.hid hown6
          have HB6 := Lib.hid (hB5w.grown hgrow hB5w.size (fun k hk => (HO5.out.lt k hk).1))
          clear hown6 hgrow
          refine hKK.out _ _ (fun _ => ⟨(HB6.out.cell (p := ⟨g, o + k, none⟩) hg).trans HC3.out, HB6.out⟩) ?_; clear hKK KK
          try simp only [Act.put, List.setIfInBounds_toArray]
          refine heldG.readyG (rs := [10]) (by kernel_rfl) (by simp) ?_
          refine heldG.AllG.cons rfl (fun KK hKK => ?_) heldG.AllG.nil
          go_simp
          refine hKK.out _ _ (fun h => absurd h (by decide)) ?_; clear hKK KK
          try simp only [Act.put, List.setIfInBounds_toArray, List.set_cons_zero, List.set_cons_succ]
          refine heldG.doneG (by kernel_rfl) ?_ _
          go_wp2_with fail
          have hkg := HKG.out
          go_roundg (gk - 1)
          case rel => exact ⟨k + 1, _, by go_num, by omega, by omega, HTOT.out, HST, HO6, HB6⟩
          case measure => omega
        · have hke : k = n := by omega
          have HE : Hid (P = wordsL fs p) := Lib.hid (by
            have h := HW.out
            rw [List.drop_eq_nil_iff.2 (show fs.length ≤ k by have := HNN.out; omega)] at h
            simpa [wordsL] using h)
          have hsz := HB.out.size
          have CJ := Lib.hid (fun wx (h : wx = wr) => join_any P u11 w3.heap.size wx (by rw [h]; exact LV.of_own HOWN.out) (by omega))
          rw [HE.out, ← HN.out] at CJ
          go_wp2_with fail
          refine (CJ.out _ rfl).mono ?_
          rintro e w5 ⟨rfl, hB5⟩
          have HB5 := Lib.hid (HBW.out.trans ((HB.out.trans (hB5.mono hsz)).mono HBW.out.size)) 
          clear hB5
          go_wp2_with fail
          go_ret2
          exact ⟨rfl, HB5.out⟩
  · have HN : Hid (R = []) := Lib.hid (by rw [← HR.out, showDS, if_neg (by rw [hC]; exact hc0)])
    have hb : (C != 0) = true := by rw [bne_iff_ne]; exact hc0
    clear hC hc0
    go_enter Tryz.func6, Tryz.ntmps6
    go_wp2_with fail
    refine (CC.out _).mono ?_
    rintro e w1 ⟨rfl, hB1⟩
    go_wp2_with fail
    go_ret2
    exact ⟨by rw [HN.out]; rfl, hB1⟩
end Go.Proofs.YtjejmgdpjfdhjaaGreatDoor.rshow
namespace Go.Proofs.YtjejmgdpjfdhjaaGreatDoor.dshowE
open Go.RowKit Go.Proofs.YtjejmgdpjfdhjaaGreatDoor.kit Go.Proofs.YtjejmgdpjfdhjaaGreatDoor.nspec Go.Proofs.YtjejmgdpjfdhjaaGreatDoor.bits Go.Proofs.YtjejmgdpjfdhjaaGreatDoor.bld Go.Proofs.YtjejmgdpjfdhjaaGreatDoor.dshow Go.Proofs.YtjejmgdpjfdhjaaGreatDoor.rsplit Go.Proofs.YtjejmgdpjfdhjaaGreatDoor.dshowA Go.Proofs.YtjejmgdpjfdhjaaGreatDoor.dshowB Go.Proofs.YtjejmgdpjfdhjaaGreatDoor.dshowD Go.Proofs.YtjejmgdpjfdhjaaGreatDoor.fld Go.Proofs.YtjejmgdpjfdhjaaGreatDoor.small Go.Proofs.YtjejmgdpjfdhjaaGreatDoor.val Go.Proofs.YtjejmgdpjfdhjaaGreatDoor.textsT
set_option linter.unusedVariables false

def let64 (n v k : Nat) : UInt8 := if n < k then 61 else sext v k
def lets64 (n v : Nat) : Bs := [let64 n v 0, let64 n v 1, let64 n v 2, let64 n v 3]
def tri (u : Bs) (n : Nat) : Bs := (u.take n ++ [0, 0]).take 3
theorem b64_step (u : Bs) (n : Nat) (h : u ≠ []) (hn : n = min u.length 3) : b64S u = lets64 n (valL (tri u n) 0) ++ b64S (u.drop n) := by
  match u, h with
  | [a], _ =>
    have : n = 1 := by simpa using hn
    subst this
    rw [b64_one]; simp [lets64, let64, tri, b64_nil]
  | [a, b], _ =>
    have : n = 2 := by simpa using hn
    subst this
    rw [b64_two]; simp [lets64, let64, tri, b64_nil]
  | a :: b :: c :: r, _ =>
    have : n = 3 := by simp only [List.length_cons] at hn; omega
    subst this
    rw [b64_three]; simp [lets64, let64, tri]
theorem lets_step {A R T : Bs} {n v k : Nat} (hk : k < 4) (h : A ++ ((lets64 n v).drop k ++ T) = R) : (A ++ [let64 n v k]) ++ ((lets64 n v).drop (k + 1) ++ T) = R := by
  rw [← h]
  match k, hk with
  | 0, _ => simp [lets64]
  | 1, _ => simp [lets64]
  | 2, _ => simp [lets64]
  | 3, _ => simp [lets64]
theorem wraps24 (n : Int) (h₀ : 0 ≤ n) (h₁ : n < 2 ^ 62) : IntKind.i64.wrap n = n := by rw [IntKind.wrap_i64]; omega
theorem and63 {x : Int} (h₀ : 0 ≤ x) (h₁ : x < 4294967296) : bits .and .i64 x 63 = x % 64 := bits_mask .i64 62 (by decide) wraps24 6 (by decide) x h₀ (by omega)
theorem idx64 (v : Nat) (h : v < 64) : Value.int .u8 (((⟨#[65, 66, 67, 68, 69, 70, 71, 72, 73, 74, 75, 76, 77, 78, 79, 80, 81, 82, 83, 84, 85, 86, 87, 88, 89, 90, 97, 98, 99, 100, 101, 102, 103, 104, 105, 106, 107, 108, 109, 110, 111, 112, 113, 114, 115, 116, 117, 118, 119, 120, 121, 122, 48, 49, 50, 51, 52, 53, 54, 55, 56, 57, 43, 47]⟩ : ByteArray)[v]'h).toNat : Int) = Value.int .u8 ((set64.getD v 0).toNat : Int) := by
  rw [← getD_at]; rfl
theorem tri_len (u : Bs) (n : Nat) : (tri u n).length ≤ 3 := by unfold tri; rw [List.length_take]; omega
theorem tri_data (u : ByteArray) (n : Nat) (hn : n ≤ u.size) : ((u.extract 0 n ++ ⟨#[0, 0]⟩ : ByteArray).extract 0 3).data.toList = tri u.data.toList n := by
  rw [ext0, ByteArray.data_append, Array.toList_append, ext0]; rfl

set_option maxRecDepth 100000 in
set_option maxHeartbeats 2400000 in
theorem b64_show (s : ByteArray) (w : World) (hs : s.size ≤ 65535) :
    Calls Tryz.prog 127 #[.agg #[], .string s] w (ShowPost w (showF .b64 s.data.toList)) := by
  obtain ⟨B, hBn⟩ : ∃ B, B = w.heap.size + 1 := ⟨_, rfl⟩
  have HBA := Lib.hid ((Below.refl w.heap.size w).alloc (Nat.le_refl _) (.cells #[] 73))
  have hfb := Lib.hid (Lib.fresh_isBuilder 53 5 (w.alloc (.cells #[] 73)))
  obtain ⟨R, HR⟩ : ∃ R, Hid ([] ++ b64S s.data.toList = R) := ⟨_, Lib.hid rfl⟩
  have e0 : showF .b64 s.data.toList = [R] := by rw [showF, ← HR.out]; rfl
  rw [e0]
  clear e0
  go_enter Tryz.func127, Tryz.ntmps127
  go_wp2_with fail
  go_loopg [1, 6, 7, 8, 21] (s.size + 1) (fun gas dv _ _ _ _ wr => ∃ (u : ByteArray) (A : Bs), dv = .string u ∧ u.size < gas ∧ u.size ≤ s.size ∧ A.length + 4 * u.size ≤ 4 * s.size ∧ Hid (A ++ b64S u.data.toList = R) ∧ Hid (Bld (w.heap.size + 1) (w.heap.size + 1) A wr) ∧ Hid (Below w.heap.size w wr))
  case atStart => exact ⟨s, [], rfl, by omega, by omega, by simp, HR, Lib.hid (by have h := hfb.out; rw [World.size_alloc] at h; exact h), Lib.hid (HBA.out.alloc HBA.out.size _)⟩
  case round =>
    clear hfb
    obtain ⟨u, A, rfl, hg, hus, hAu, HW, HA, HB⟩ := hrel
    obtain ⟨gk', hgk'⟩ : ∃ g, g = gk := ⟨_, rfl⟩
    rw [← hgk'] at hg
    have HG := Lib.hid hg; clear hg
    have hsz := HB.out.size
    by_cases h0 : 0 < u.size
    · have hne : u.data.toList ≠ [] := by intro h; rw [← size_len, h] at h0; simp at h0
      obtain ⟨n, hn⟩ : ∃ n, n = min u.size 3 := ⟨_, rfl⟩
      have HST := Lib.hid (b64_step u.data.toList n hne (by rw [size_len]; exact hn))
      have hnu : n ≤ u.size := by omega
      have hn3 : n ≤ 3 := by omega
      have hn1 : 1 ≤ n := by omega
      have hmin : Value.int .i64 (min (u.size : Int) 3) = Value.int .i64 (n : Int) := by congr 1; omega
      have hmin2 : Value.int .i64 (if (3 : Int) < u.size then 3 else (u.size : Int)) = Value.int .i64 (n : Int) := by congr 1; split <;> omega
      have h0i : (0 : Int) < u.size := by omega
      have hsum : (u.extract 0 n).size = n := by rw [ByteArray.size_extract]; omega
      clear hne
      have HN := Lib.hid hn; clear hn
      have hsz3 : (u.extract 0 n ++ (⟨#[0, 0]⟩ : ByteArray)).size = n + 2 := by rw [ByteArray.size_append, hsum]; rfl
      obtain ⟨x, hx⟩ : ∃ x, (u.extract 0 n ++ (⟨#[0, 0]⟩ : ByteArray)).extract 0 3 = x := ⟨_, rfl⟩
      have hxd := Lib.hid (tri_data u n hnu)
      rw [hx] at hxd
      have hxs : x.size ≤ 4 := by have := tri_len u.data.toList n; rw [← hxd.out, size_len] at this; omega
      have CS := Lib.hid (fun w => small_any x w hxs)
      obtain ⟨v, hv⟩ : ∃ v, valL (tri u.data.toList n) 0 = v := ⟨_, rfl⟩
      rw [hxd.out, hv] at CS
      rw [hv] at HST
      have hv24 : v < 4294967296 := by rw [← hv]; exact valL_four (by have := tri_len u.data.toList n; omega)
      clear hv
      go_wp2_with fail
      refine (CS.out _).mono ?_
      rintro e w1 ⟨rfl, rfl⟩
      go_wp2_with fail
      go_loopg [8, 21] 5 (fun gas _ kv wq => ∃ (k : Nat) (A : Bs), kv = .int .i64 k ∧ k ≤ 4 ∧ k + gas = 5 ∧ A.length + 4 * u.size ≤ 4 * s.size + k ∧ Hid (A ++ ((lets64 n v).drop k ++ b64S (u.data.toList.drop n)) = R) ∧ Hid (Bld (w.heap.size + 1) (w.heap.size + 1) A wq) ∧ Hid (Below w.heap.size w wq))
      case atStart => exact ⟨0, A, rfl, by omega, by omega, by omega, Lib.hid (by rw [← HW.out, HST.out]; rfl), HA, HB⟩
      case round =>
        obtain ⟨k, A, rfl, hk, hkg, hAk, HV, HA, HB⟩ := hrel
        have HKG := Lib.hid hkg; clear hkg
        have hsz := HB.out.size
        have hsz1 : w.heap.size + 1 ≤ wr.heap.size := by
          have h := HA.out
          rcases h with h | h
          · have := h.lt; omega
          · have := h.lt; omega
        by_cases hk4 : k < 4
        · have HS2 := Lib.hid (lets_step hk4 HV.out)
          have hAl : A.length + 1 ≤ 140737488355328 := by omega
          by_cases hnk : n < k
          · have e1 : let64 n v k = 61 := by unfold let64; rw [if_pos hnk]
            rw [e1] at HS2
            have HWB := Lib.hid (wbi (w.heap.size + 1) (w.heap.size + 1) A 61 61 rfl wr HA.out hAl hsz1)
            clear e1
            go_wp2_with fail
            refine HWB.out.mono ?_
            rintro e w2 ⟨rfl, hb2, hE2⟩
            have HB2 := Lib.hid (HB.out.trans (hE2.mono (Nat.le_succ _)))
            have HA2 := Lib.hid hb2
            clear hE2 hb2
            go_wp2_with fail
            have hkg := HKG.out
            go_roundg (gk - 1)
            case rel => exact ⟨k + 1, _, by go_num, by omega, by omega, by rw [List.length_append, List.length_singleton]; omega, HS2, HA2, HB2⟩
            case measure => omega
          · have e1 : let64 n v k = sext v k := by unfold let64; rw [if_neg hnk]
            rw [e1] at HS2
            obtain ⟨q, hq⟩ : ∃ q : Nat, 18 - 6 * k = q := ⟨_, rfl⟩
            have hqv : Value.int .i64 (18 - 6 * (k : Int)) = Value.int .i64 (q : Int) := by congr 1; omega
            obtain ⟨z, hz⟩ : ∃ z : Nat, v / 2 ^ q % 64 = z := ⟨_, rfl⟩
            have hz64 : z < 64 := by omega
            have hand : Value.int .i64 (bits .and .i64 ((v : Int) / 2 ^ q) 63) = Value.int .i64 (z : Int) := by
              obtain ⟨Z, hZ⟩ : ∃ Z : Nat, v / 2 ^ q = Z := ⟨_, rfl⟩
              have e1 : (v : Int) / 2 ^ q = (Z : Int) := by rw [← hZ]; simp
              have e2 : Z ≤ v := by rw [← hZ]; exact Nat.div_le_self _ _
              rw [hZ] at hz
              rw [e1, and63 (by omega) (by omega)]; congr 1; omega
            have e2 : sext v k = set64.getD z 0 := by unfold sext; rw [hq, hz]
            rw [e2] at HS2
            have hx1 := idx64 z hz64
            have HWB := Lib.hid (wb (w.heap.size + 1) (w.heap.size + 1) A (set64.getD z 0) wr HA.out hAl hsz1)
            have hq18 : q ≤ 18 := by omega
            clear e1 e2 hz hq
            go_wp2_with fail
            refine HWB.out.mono ?_
            rintro e w2 ⟨rfl, hb2, hE2⟩
            have HB2 := Lib.hid (HB.out.trans (hE2.mono (Nat.le_succ _)))
            have HA2 := Lib.hid hb2
            clear hE2 hb2 hx1 hand hqv
            go_wp2_with fail
            have hkg := HKG.out
            go_roundg (gk - 1)
            case rel => exact ⟨k + 1, _, by go_num, by omega, by omega, by rw [List.length_append, List.length_singleton]; omega, HS2, HA2, HB2⟩
            case measure => omega
        · have hke : k = 4 := by omega
          subst hke
          have HE : Hid (A ++ b64S (u.data.toList.drop n) = R) := Lib.hid HV.out
          obtain ⟨y, hy⟩ : ∃ y, u.extract n u.size = y := ⟨_, rfl⟩
          have hyd : y.data.toList = u.data.toList.drop n := by rw [← hy, ext_end]
          have hys : y.size = u.size - n := by rw [← hy, ByteArray.size_extract]; omega
          rw [← hyd] at HE
          have HYS := Lib.hid hys
          have hnui : (n : Int) ≤ (u.size : Int) := by omega
          clear hyd hys
          go_wp2_with fail
          have hg := HG.out
          have h2 := HYS.out
          go_roundg (gk' - 1)
          case rel => exact ⟨y, A, by first | rfl | (rw [hy]), by omega, by omega, by omega, HE, HA, HB⟩
          case measure => omega
    · have he : u.data.toList = [] := List.eq_nil_of_length_eq_zero (by rw [size_len]; omega)
      have HE : Hid (A = R) := Lib.hid (by have h := HW.out; rw [he, b64_nil, List.append_nil] at h; exact h)
      rw [HE.out] at HA
      have hsz1 : w.heap.size + 1 ≤ wr.heap.size := by
        have h := HA.out
        rcases h with h | h
        · have := h.lt; omega
        · have := h.lt; omega
      clear he
      go_wp2_with fail
      refine (Tryz.Builder_String_any _ _ R _ HA.out hsz1).mono ?_
      rintro e w2 ⟨rfl, hE2⟩
      have HB2 := Lib.hid (HB.out.trans (hE2.mono (Nat.le_succ _)))
      clear hE2
      go_wp2_with fail
      go_ret
      exact show_one HB2.out rfl _
end Go.Proofs.YtjejmgdpjfdhjaaGreatDoor.dshowE
namespace Go.Proofs.YtjejmgdpjfdhjaaGreatDoor.dfold
open Go.RowKit Go.Proofs.YtjejmgdpjfdhjaaGreatDoor.kit Go.Proofs.YtjejmgdpjfdhjaaGreatDoor.nspec Go.Proofs.YtjejmgdpjfdhjaaGreatDoor.rsplit Go.Proofs.YtjejmgdpjfdhjaaGreatDoor.fld Go.Proofs.YtjejmgdpjfdhjaaGreatDoor.formW Go.Proofs.YtjejmgdpjfdhjaaGreatDoor.splitD Go.Proofs.YtjejmgdpjfdhjaaGreatDoor.dcheck Go.Proofs.YtjejmgdpjfdhjaaGreatDoor.dnames Go.Proofs.YtjejmgdpjfdhjaaGreatDoor.nread Go.Proofs.YtjejmgdpjfdhjaaGreatDoor.bld Go.Proofs.YtjejmgdpjfdhjaaGreatDoor.refA Go.Proofs.YtjejmgdpjfdhjaaGreatDoor.nameB
set_option linter.unusedVariables false

def foldOne (f : Fld) (x : Bs) : Bs := if isHost f then foldS x else x
def foldL : List Fld → List Bs → Bs
  | f :: fs, x :: p => foldOne f x ++ foldL fs p
  | _, _ => []
def foldDS (t : Int) (d : Bs) : Bs := if checkS t d = 0 then (match formS t, partsS t d with | some fs, some p => foldL fs p | _, _ => d) else []
theorem fold_short (x : Bs) : (foldS x).length ≤ 255 := by
  cases h : split x with
  | none => unfold foldS; rw [h]; simp
  | some ls =>
    have hN := split_iff.1 h
    have hr := isN_room hN
    rw [foldS_yes hN, put_length, room_low]; omega
theorem one_len {f : Fld} {x : Bs} (h : x.length ≤ 65535) : (foldOne f x).length ≤ 65535 := by
  unfold foldOne; split
  · have := fold_short x; omega
  · exact h
theorem fold_go {A R : Bs} {fs : List Fld} {p : List Bs} {k : Nat} {f : Fld} {x : Bs} (h : A ++ foldL (fs.drop k) (p.drop k) = R) (hf : fs[k]? = some f) (hx : p[k]? = some x) : (A ++ foldOne f x) ++ foldL (fs.drop (k + 1)) (p.drop (k + 1)) = R := by
  obtain ⟨h1, h2⟩ := List.getElem?_eq_some_iff.1 hf
  obtain ⟨h3, h4⟩ := List.getElem?_eq_some_iff.1 hx
  rw [List.drop_eq_getElem_cons h1, h2, List.drop_eq_getElem_cons h3, h4, foldL] at h
  rw [← h]; simp

end Go.Proofs.YtjejmgdpjfdhjaaGreatDoor.dfold
