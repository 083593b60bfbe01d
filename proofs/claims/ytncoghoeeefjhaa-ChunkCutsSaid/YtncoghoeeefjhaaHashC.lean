/- hash.word, hash.row, hash.eight walked. Conditions: a text of at least four bytes; a round below 10, a place below 16. -/
import Derived.Test.YtncoghoeeefjhaaHashB
import Derived.Test.YtncoghoeeefjhaaStr
import Derived.BigGuardPart
import Derived.Test.YtncoghoeeefjhaaShelf
namespace Go.Proofs.Ytncoghoeeefjhaa
open Go.RowKit

def word4 (a b c d : UInt8) : UInt32 := UInt32.ofNat (a.toNat + b.toNat * 256 + c.toNat * 65536 + d.toNat * 16777216)
theorem word4_toNat (a b c d : UInt8) : (word4 a b c d).toNat = a.toNat + b.toNat * 256 + c.toNat * 65536 + d.toNat * 16777216 := by
  have := a.toNat_lt; have := b.toNat_lt; have := c.toNat_lt; have := d.toNat_lt
  unfold word4
  rw [UInt32.toNat_ofNat']
  omega
theorem or_low (a b k : Nat) (h : a < 2 ^ k) : a ||| b * 2 ^ k = a + b * 2 ^ k := by
  have := Nat.two_pow_add_eq_or_of_lt h b
  rw [Nat.mul_comm b, Nat.or_comm, ← this, Nat.add_comm]
theorem bits_or_nat (a b : Nat) (ha : a < 4294967296) (hb : b < 4294967296) : bits .or .u32 (a : Int) (b : Int) = ((a ||| b : Nat) : Int) := by
  have h := u32_bits_or (UInt32.ofNat a) (UInt32.ofNat b)
  rw [UInt32.toNat_or] at h
  have e1 : (UInt32.ofNat a).toNat = a := by rw [UInt32.toNat_ofNat']; omega
  have e2 : (UInt32.ofNat b).toNat = b := by rw [UInt32.toNat_ofNat']; omega
  rw [e1, e2] at h
  exact h
theorem word_bits (a b c d : UInt8) : bits .or .u32 (bits .or .u32 (bits .or .u32 (a.toNat : Int) ((b.toNat : Int) * 256)) ((c.toNat : Int) * 65536)) ((d.toNat : Int) * 16777216) = ((word4 a b c d).toNat : Int) := by
  have ha := a.toNat_lt; have hb := b.toNat_lt; have hc := c.toNat_lt; have hd := d.toNat_lt
  rw [show ((b.toNat : Int) * 256) = ((b.toNat * 2 ^ 8 : Nat) : Int) by omega, show ((c.toNat : Int) * 65536) = ((c.toNat * 2 ^ 16 : Nat) : Int) by omega, show ((d.toNat : Int) * 16777216) = ((d.toNat * 2 ^ 24 : Nat) : Int) by omega]
  rw [bits_or_nat _ _ (by omega) (by omega), or_low _ _ 8 (by omega), bits_or_nat _ _ (by omega) (by omega), or_low _ _ 16 (by omega), bits_or_nat _ _ (by omega) (by omega), or_low _ _ 24 (by omega), word4_toNat]
theorem word_wraps0 (a b c d : UInt8) : bits .or .u32 (bits .or .u32 (bits .or .u32 (a.toNat : Int) (IntKind.u32.wrap ((b.toNat : Int) * 256))) (IntKind.u32.wrap ((c.toNat : Int) * 65536))) (IntKind.u32.wrap ((d.toNat : Int) * 16777216)) = ((word4 a b c d).toNat : Int) := by
  have ha := a.toNat_lt; have hb := b.toNat_lt; have hc := c.toNat_lt; have hd := d.toNat_lt
  rw [u32_wrap, u32_wrap, u32_wrap, Int.emod_eq_of_lt (by omega) (by omega), Int.emod_eq_of_lt (by omega) (by omega), Int.emod_eq_of_lt (by omega) (by omega)]
  exact word_bits a b c d
def at8 (l : List UInt8) (i : Nat) : UInt8 := l.getD i 0
def wordS (l : List UInt8) : UInt32 := word4 (at8 l 0) (at8 l 1) (at8 l 2) (at8 l 3)
theorem at8_get (s : ByteArray) (i : Nat) (h : i < s.size) : s[i] = at8 (bl s) i := by
  have h2 : i < (bl s).length := by rw [bl_len]; exact h
  rw [at8, List.getD_eq_getElem?_getD, List.getElem?_eq_getElem h2]
  rfl

theorem word_wraps {l : List UInt8} (a b c d : UInt8) (ha : a = at8 l 0) (hb : b = at8 l 1) (hc : c = at8 l 2) (hd : d = at8 l 3) :
    bits .or .u32 (bits .or .u32 (bits .or .u32 (a.toNat : Int) (IntKind.u32.wrap ((b.toNat : Int) * 256))) (IntKind.u32.wrap ((c.toNat : Int) * 65536))) (IntKind.u32.wrap ((d.toNat : Int) * 16777216)) = ((wordS l).toNat : Int) := by
  subst ha hb hc hd
  exact word_wraps0 _ _ _ _
theorem w_u8in (x : UInt8) : IntKind.u32.wrap (x.toNat : Int) = (x.toNat : Int) := by have := x.toNat_lt; rw [u32_wrap]; omega
attribute [local go_sem] w_u8in

set_option maxRecDepth 100000 in
set_option maxHeartbeats 2000000 in
theorem word_any (s : ByteArray) (w : World) (hs : 4 ≤ s.size) :
    Calls Try.prog 127 #[.string s] w fun e w' => e = .returned (.int .u32 (wordS (bl s)).toNat) ∧ w' = w.drew := by
  have h0 : 0 < s.size := by omega
  have g0 : (0 : Int) < (s.size : Int) := by omega
  have h1 : 1 < s.size := by omega
  have g1 : (1 : Int) < (s.size : Int) := by omega
  have h2 : 2 < s.size := by omega
  have g2 : (2 : Int) < (s.size : Int) := by omega
  have h3 : 3 < s.size := by omega
  have g3 : (3 : Int) < (s.size : Int) := by omega
  go_enter Try.func127, Try.ntmps127
  go_wp2_with fail
  refine still_all (by kernel_rfl) (by kernel_rfl) ?_
  iterate 19 still_step
  refine wpStill_nil ?_
  go_wp2
  go_ret
  refine ⟨ret_int ?_, rfl⟩
  exact word_wraps s[0] s[1] s[2] s[3] (at8_get s 0 h0) (at8_get s 1 h1) (at8_get s 2 h2) (at8_get s 3 h3)

def permL : List Nat := [0, 1, 2, 3, 4, 5, 6, 7, 8, 9, 10, 11, 12, 13, 14, 15, 14, 10, 4, 8, 9, 15, 13, 6, 1, 12, 0, 2, 11, 7, 5, 3, 11, 8, 12, 0, 5, 2, 15, 13, 10, 14, 3, 6, 7, 1, 9, 4, 7, 9, 3, 1, 13, 12, 11, 14, 2, 6, 5, 10, 4, 0, 15, 8, 9, 0, 5, 7, 2, 4, 10, 15, 14, 1, 11, 12, 6, 8, 3, 13, 2, 12, 6, 10, 0, 11, 8, 3, 4, 13, 7, 5, 15, 14, 1, 9, 12, 5, 1, 15, 14, 13, 4, 10, 0, 7, 6, 3, 9, 2, 8, 11, 13, 11, 7, 14, 12, 1, 3, 9, 5, 0, 15, 4, 8, 6, 2, 10, 6, 15, 14, 9, 11, 3, 0, 8, 12, 2, 13, 7, 1, 4, 10, 5, 10, 2, 8, 4, 7, 6, 1, 5, 15, 11, 9, 14, 3, 12, 13, 0]
def rowsL : List UInt8 := [48, 49, 50, 51, 52, 53, 54, 55, 56, 57, 97, 98, 99, 100, 101, 102, 101, 97, 52, 56, 57, 102, 100, 54, 49, 99, 48, 50, 98, 55, 53, 51, 98, 56, 99, 48, 53, 50, 102, 100, 97, 101, 51, 54, 55, 49, 57, 52, 55, 57, 51, 49, 100, 99, 98, 101, 50, 54, 53, 97, 52, 48, 102, 56, 57, 48, 53, 55, 50, 52, 97, 102, 101, 49, 98, 99, 54, 56, 51, 100, 50, 99, 54, 97, 48, 98, 56, 51, 52, 100, 55, 53, 102, 101, 49, 57, 99, 53, 49, 102, 101, 100, 52, 97, 48, 55, 54, 51, 57, 50, 56, 98, 100, 98, 55, 101, 99, 49, 51, 57, 53, 48, 102, 52, 56, 54, 50, 97, 54, 102, 101, 57, 98, 51, 48, 56, 99, 50, 100, 55, 49, 52, 97, 53, 97, 50, 56, 52, 55, 54, 49, 53, 102, 98, 57, 101, 51, 99, 100, 48]
def digsL : List UInt8 := [48, 49, 50, 51, 52, 53, 54, 55, 56, 57, 97, 98, 99, 100, 101, 102]
theorem rows_ok : ∀ j : Fin 160, Lib.indexByte digsL (at8 rowsL j.val) = (permL.getD j.val 0 : Int) := by decide +kernel
theorem permL_lt : ∀ j : Fin 160, permL.getD j.val 0 < 16 := by decide +kernel
def perm (r i : Nat) : Nat := permL.getD (16 * r + i) 0

set_option maxRecDepth 100000 in
set_option maxHeartbeats 2000000 in
theorem hrow_any (r i : Nat) (w : World) (hr : r < 10) (hi : i < 16) :
    Calls Try.prog 129 #[.int .i64 r, .int .i64 i] w fun e w' => e = .returned (.int .i64 (perm r i)) ∧ w' = w := by
  have hw1 : IntKind.i64.wrap (16 * (r : Int)) = 16 * (r : Int) := IntWalk.i64_in _ (by omega)
  have hw2 : IntKind.i64.wrap (16 * (r : Int) + (i : Int)) = 16 * (r : Int) + (i : Int) := IntWalk.i64_in _ (by omega)
  have h0 : (0 : Int) ≤ 16 * (r : Int) + (i : Int) := by omega
  have h1 : 16 * (r : Int) + (i : Int) < 160 := by omega
  go_enter Try.func129, Try.ntmps129
  go_wp2_with fail
  refine (Try.strings_IndexByte _ _ _).mono ?_
  rintro e w' ⟨rfl, rfl⟩
  go_wp2
  go_ret
  refine ⟨ret_int ?_, rfl⟩
  exact (congrArg (Lib.indexByte digsL) (at8_get _ _ _)).trans (rows_ok ⟨16 * r + i, by omega⟩)
theorem perm_lt (r i : Nat) (hr : r < 10) (hi : i < 16) : perm r i < 16 := permL_lt ⟨16 * r + i, by omega⟩

def eightS : List UInt32 := [0x6a09e667, 0xbb67ae85, 0x3c6ef372, 0xa54ff53a, 0x510e527f, 0x9b05688c, 0x1f83d9ab, 0x5be0cd19]
/-- an array of words as a value -/
def v32 (l : List UInt32) : Value := .agg (c32 l)
theorem eight_val : v32 eightS = .agg #[.int .u32 1779033703, .int .u32 3144134277, .int .u32 1013904242, .int .u32 2773480762, .int .u32 1359893119, .int .u32 2600822924, .int .u32 528734635, .int .u32 1541459225] := by kernel_rfl
theorem eight_any (w : World) : Calls Try.prog 86 #[] w fun e w' => e = .returned (v32 eightS) ∧ Below w.heap.size w w' := by
  go_enter Try.func86, Try.ntmps86
  go_wp2
  refine bodyPost_ret (v := v32 eightS) (by rw [eight_val]; simp [results, Try.results86, go_sem]) rfl ?_
  exact ⟨rfl, (Below.refl _ _).alloc (Nat.le_refl _) _⟩
end Go.Proofs.Ytncoghoeeefjhaa
