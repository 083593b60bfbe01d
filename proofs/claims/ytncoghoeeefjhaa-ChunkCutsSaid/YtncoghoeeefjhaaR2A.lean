/- hibernacleref02: eight, rows, place, turned walked. Conditions: a place among 160; a turn of 1 to 31 bits. -/
import Derived.Test.YtncoghoeeefjhaaTakeS
namespace Go.Proofs.Ytncoghoeeefjhaa
open Go.RowKit

theorem reight_any (w : World) : Calls Try.prog 98 #[] w fun e w' => e = .returned (v32 eightS) ∧ Below w.heap.size w w' := by
  go_enter Try.func98, Try.ntmps98
  go_wp2
  refine bodyPost_ret (v := v32 eightS) (by rw [eight_val]; simp [results, Try.results98, go_sem]) rfl ?_
  exact ⟨rfl, (Below.refl _ _).alloc (Nat.le_refl _) _⟩

def rowStr (r : Nat) : ByteArray := ⟨((rowsL.drop (16 * r)).take 16).toArray⟩
def rowsC : Array Value := #[.string (rowStr 0), .string (rowStr 1), .string (rowStr 2), .string (rowStr 3), .string (rowStr 4), .string (rowStr 5), .string (rowStr 6), .string (rowStr 7), .string (rowStr 8), .string (rowStr 9)]
theorem rowsC_at : ∀ r : Nat, r < 10 → rowsC[r]? = some (.string (rowStr r))
  | 0, _ => rfl | 1, _ => rfl | 2, _ => rfl | 3, _ => rfl | 4, _ => rfl | 5, _ => rfl | 6, _ => rfl | 7, _ => rfl | 8, _ => rfl | 9, _ => rfl
  | n + 10, h => by omega
theorem rowStr_size : ∀ r : Fin 10, (rowStr r.val).size = 16 := by decide +kernel
theorem rowStr_at : ∀ (r : Fin 10) (i : Fin 16), at8 (bl (rowStr r.val)) i.val = at8 rowsL (16 * r.val + i.val) := by decide +kernel

theorem rows_any (w : World) : Calls Try.prog 143 #[] w fun e w' => e = .returned (.slice (some ⟨w.heap.size, 0, none⟩) 10 10) ∧ w' = w.alloc (.cells rowsC 9) := by
  go_enter Try.func143, Try.ntmps143
  go_wp2
  go_ret
  exact ⟨rfl, rfl⟩

def placeI (x : Int) : Int := if 97 ≤ x then x - 97 + 10 else x - 48
theorem place_ok : ∀ j : Fin 160, placeI (at8 rowsL j.val).toNat = (permL.getD j.val 0 : Int) := by decide +kernel
theorem rowsL_lo : ∀ j : Fin 160, 48 ≤ (at8 rowsL j.val).toNat := by decide +kernel
theorem place_any (x : UInt8) (w : World) : Calls Try.prog 144 #[.int .u8 x.toNat] w fun e w' => e = .returned (.int .i64 (placeI x.toNat)) ∧ w' = w := by
  have hx := x.toNat_lt
  have h1 : IntKind.i64.wrap (x.toNat : Int) = (x.toNat : Int) := IntWalk.i64_in _ (by omega)
  have h2 : IntKind.i64.wrap ((x.toNat : Int) - 97) = (x.toNat : Int) - 97 := IntWalk.i64_in _ (by omega)
  have h3 : IntKind.i64.wrap ((x.toNat : Int) - 97 + 10) = (x.toNat : Int) - 97 + 10 := IntWalk.i64_in _ (by omega)
  have h4 : IntKind.i64.wrap ((x.toNat : Int) - 48) = (x.toNat : Int) - 48 := IntWalk.i64_in _ (by omega)
  unfold placeI
  go_enter Try.func144, Try.ntmps144
  by_cases hlt : 97 ≤ x.toNat
  · have g : (97 : Int) ≤ (x.toNat : Int) := by omega
    rw [if_pos g]
    go_wp2
    go_ret
    exact ⟨rfl, rfl⟩
  · have g : ¬ (97 : Int) ≤ (x.toNat : Int) := by omega
    rw [if_neg g]
    go_wp2
    go_ret
    exact ⟨rfl, rfl⟩

theorem bits_or_comm (x y : UInt32) : bits .or .u32 (x.toNat : Int) (y.toNat : Int) = bits .or .u32 (y.toNat : Int) (x.toNat : Int) := by
  rw [u32_bits_or, u32_bits_or, UInt32.or_comm]
theorem turn_nat (x : UInt32) (n : Nat) (s : UInt32) (hs : s.toNat = 32 - n) (h0 : 0 < n) (hn : n < 32) :
    bits .or .u32 ((x.toNat : Int) / 2 ^ n) (((x.toNat : Int) * 2 ^ (32 - n)) % 4294967296) = ((rotl x s).toNat : Int) := by
  have h := rot_nat x s n (by omega) (by omega) (by omega)
  rw [hs] at h
  rw [← h]
  have e1 : (x.toNat : Int) / 2 ^ n = ((UInt32.ofNat (x.toNat / 2 ^ n)).toNat : Int) := by
    have := Nat.div_le_self x.toNat (2 ^ n)
    have := x.toNat_lt
    rw [UInt32.toNat_ofNat', Nat.mod_eq_of_lt (by omega), Int.natCast_ediv, Int.natCast_pow]
    rfl
  have e2 : ((x.toNat : Int) * 2 ^ (32 - n)) % 4294967296 = ((UInt32.ofNat (x.toNat * 2 ^ (32 - n))).toNat : Int) := by
    rw [UInt32.toNat_ofNat', Int.natCast_emod, Int.natCast_mul, Int.natCast_pow]
    rfl
  rw [e1, e2, bits_or_comm]

theorem turned_any (x : UInt32) (n : Nat) (s : UInt32) (w : World) (h0 : 0 < n) (hn : n < 32) (hs : s.toNat = 32 - n) :
    Calls Try.prog 151 #[.int .u32 x.toNat, .int .u64 n] w fun e w' => e = .returned (.int .u32 (rotl x s).toNat) ∧ w' = w := by
  have h1 : IntKind.u64.wrap (32 - (n : Int)) = 32 - (n : Int) := IntWalk.u64_in _ (by omega)
  have h2 : (32 - (n : Int)).toNat = 32 - n := by omega
  have h3 : (n : Int) < 32 := by omega
  have h4 : (0 : Int) ≤ 32 - (n : Int) := by omega
  go_enter Try.func151, Try.ntmps151
  go_wp2
  go_ret
  exact ⟨ret_int (turn_nat x n s hs h0 hn), rfl⟩
end Go.Proofs.Ytncoghoeeefjhaa
