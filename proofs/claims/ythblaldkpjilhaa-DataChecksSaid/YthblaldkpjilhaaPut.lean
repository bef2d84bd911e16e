/- The reference's Put: walk. -/
import Derived.Test.YthblaldkpjilhaaSplit
import Derived.Test.YthblaldkpjilhaaLow
import Derived.Lib.SmallJoins
namespace Go.Proofs.Ythblaldkpjilhaa.rput
open Go.RowKit Go.Proofs.Ythblaldkpjilhaa.kit Go.Proofs.Ythblaldkpjilhaa.nspec Go.Proofs.Ythblaldkpjilhaa.rsplit

theorem byte_cell (w : World) (c : UInt8) : Bytes (w.alloc (.cells #[.int .u8 (c.toNat : Int)] 5)) w.heap.size [c] := by
  intro j d h
  have hj : j = 0 := by have := (List.getElem?_eq_some_iff.1 h).1; simpa using this
  subst hj
  have hd : d = c := by simpa using h.symm
  subst hd
  exact ⟨by simp [World.cell?_alloc_new], by simp⟩
theorem u8_mod (n : Nat) : ((UInt8.ofNat n).toNat : Int) = (n : Int) % 256 := by
  rw [UInt8.toNat_ofNat']; simp

/-- what stands ahead of the last byte -/
def flat (ls : List Bs) : Bs := ls.flatMap (fun x => UInt8.ofNat x.length :: x)
theorem flat_snoc (ls : List Bs) (x : Bs) : flat (ls ++ [x]) = flat ls ++ (UInt8.ofNat x.length :: x) := by simp [flat]
theorem flat_length (ls : List Bs) : (flat ls).length = room ls := by
  have := put_length ls; rw [put_flat] at this; simpa [flat] using this
theorem room_take (ls : List Bs) (k : Nat) : room (ls.take k) ≤ room ls := by
  have := room_append (ls.take k) (ls.drop k); rw [List.take_append_drop] at this; omega
theorem room_ge {ls : List Bs} {k : Nat} {x : Bs} (h : ls[k]? = some x) : room (ls.take k) + x.length + 1 ≤ room ls := by
  have h1 : ls.take (k + 1) = ls.take k ++ [x] := by
    obtain ⟨hk, rfl⟩ := List.getElem?_eq_some_iff.1 h
    rw [List.take_succ_eq_append_getElem hk]
  have := room_take ls (k + 1)
  rw [h1, room_append] at this
  simp [room] at this ⊢; omega

set_option maxRecDepth 100000 in
set_option maxHeartbeats 1000000 in
theorem put_any (a : Option Addr) (c : Nat) (ls : List Bs) (w : World) (hr : Rd w a 0 ls) (hs : room ls ≤ 1099511627776) (hn : ls.length ≤ 1099511627776) :
    Calls Try.prog 127 #[.slice a ls.length c] w fun e w' => e = .returned (strV (put ls)) ∧ Below w.heap.size w w' := by
  have HR := Lib.hid hr; clear hr
  go_enter Try.func127, Try.ntmps127
  go_wp2
  go_loopg [3, 8] (ls.length) (fun gas sv kv wr => ∃ (k : Nat) (u : ByteArray), kv = .int .i64 k ∧ k + gas = ls.length ∧ sv = .string u ∧ Below w.heap.size w wr ∧ Hid (u.data.toList = flat (ls.take k)))
  case atStart => exact ⟨0, ⟨#[]⟩, rfl, by omega, rfl, Below.refl _ _, Lib.hid (by simp [flat])⟩
  case round =>
    obtain ⟨k, u, rfl, hk, rfl, hB, HU⟩ := hrel
    have hk' : k ≤ ls.length := by omega
    have HK := Lib.hid hk; clear hk
    by_cases hlt : k < ls.length
    · obtain ⟨x, hx⟩ : ∃ x, ls[k]? = some x := ⟨_, List.getElem?_eq_getElem hlt⟩
      obtain ⟨g, o, rfl, _, hg, hcell⟩ := HR.out k x hx
      have hcell2 := (hB.cell (p := ⟨g, o + k, none⟩) hg).trans hcell
      have hrm := room_ge hx
      have HX := Lib.hid hx; clear hx hcell
      unfold strV at hcell2
      obtain ⟨xs, hxs⟩ : ∃ xs : ByteArray, xs = ⟨x.toArray⟩ := ⟨_, rfl⟩
      rw [← hxs] at hcell2
      have hxl : xs.size = x.length := by rw [hxs, mk_size]
      have HXS := Lib.hid hxs; clear hxs
      have hconv := bytes_back (P := Try.prog) (byte_cell wr (UInt8.ofNat xs.size)) 44 9 5 1 1 rfl Try.underlying44 Try.underlying5 Try.underlying9
      rw [u8_mod] at hconv
      have hul : u.size = room (ls.take k) := by rw [← size_len, HU.out, flat_length]
      have HXL := Lib.hid hxl; have HUL := Lib.hid hul
      have hb1 : xs.size ≤ 1099511627776 := by omega
      have hb2 : u.size ≤ 1099511627776 := by omega
      clear hxl hul hrm
      go_wp2
      have hk := HK.out
      go_roundg (gk - 1)
      case rel =>
        refine ⟨k + 1, _, by go_num, by omega, rfl, hB.alloc hB.size _, Lib.hid ?_⟩
        obtain ⟨h1, h2⟩ := List.getElem?_eq_some_iff.1 HX.out
        rw [List.take_succ_eq_append_getElem h1, h2, flat_snoc, Joins.data_append, Joins.data_append, HU.out, HXL.out, HXS.out]
        rfl
      case measure => omega
    · have HE : Hid (ls.take k = ls) := Lib.hid (List.take_of_length_le (by omega))
      have HUL : Hid (u.size = room (ls.take k)) := Lib.hid (by rw [← size_len, HU.out, flat_length])
      have hb2 : u.size ≤ 1099511627776 := by have := HUL.out; have := room_take ls k; omega
      go_wp2
      go_ret
      refine ⟨ret_str (ba_ext ?_), hB⟩
      rw [Joins.data_append, HU.out, HE.out, mk_data, put_flat]; rfl
end Go.Proofs.Ythblaldkpjilhaa.rput
