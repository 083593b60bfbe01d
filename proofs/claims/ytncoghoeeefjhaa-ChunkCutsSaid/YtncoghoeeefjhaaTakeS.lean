/- BLAKE2s: a block taken in, as plain functions on lists. No program in sight; no condition. -/
import Derived.Test.YtncoghoeeefjhaaHashC
namespace Go.Proofs.Ytncoghoeeefjhaa
open Go.RowKit

def m16 (b : List UInt8) : List UInt32 := (List.range 16).map fun i => wordS (b.drop (4 * i))
def stepS (m : List UInt32) (r : Nat) (v : List UInt32) (i : Nat) : List UInt32 :=
  if i < 4 then mixS v i (4 + i) (8 + i) (12 + i) (at32 m (perm r (2 * i))) (at32 m (perm r (2 * i + 1)))
  else mixS v (i - 4) (4 + (i - 4 + 1) % 4) (8 + (i - 4 + 2) % 4) (12 + (i - 4 + 3) % 4) (at32 m (perm r (2 * i))) (at32 m (perm r (2 * i + 1)))
def stepsS (m : List UInt32) (r : Nat) (v : List UInt32) : Nat → List UInt32
  | 0 => v
  | n + 1 => stepS m r (stepsS m r v n) n
def roundsS (m v : List UInt32) : Nat → List UInt32
  | 0 => v
  | n + 1 => stepsS m n (roundsS m v n) 8
def lo32 (n : Nat) : UInt32 := UInt32.ofNat (n % 4294967296)
def hi32 (n : Nat) : UInt32 := UInt32.ofNat (n / 4294967296)
def not32 (x : UInt32) : UInt32 := ~~~x
def startS (h : List UInt32) (n : Nat) (last : Bool) : List UInt32 :=
  if last then (((h ++ eightS).set 12 (xor32 (at32 (h ++ eightS) 12) (lo32 n))).set 13 (xor32 (at32 (h ++ eightS) 13) (hi32 n))).set 14 (not32 (at32 (h ++ eightS) 14))
  else ((h ++ eightS).set 12 (xor32 (at32 (h ++ eightS) 12) (lo32 n))).set 13 (xor32 (at32 (h ++ eightS) 13) (hi32 n))
def endS (h v : List UInt32) : List UInt32 := (List.range 8).map fun i => xor32 (at32 h i) (xor32 (at32 v i) (at32 v (i + 8)))
def takeS (h : List UInt32) (b : List UInt8) (n : Nat) (last : Bool) : List UInt32 := endS h (roundsS (m16 b) (startS h n last) 10)

theorem m16_length (b : List UInt8) : (m16 b).length = 16 := by simp [m16]
theorem stepS_length (m : List UInt32) (r : Nat) (v : List UInt32) (i : Nat) : (stepS m r v i).length = v.length := by
  unfold stepS; split <;> rw [mixS_length]
theorem stepsS_length (m : List UInt32) (r : Nat) (v : List UInt32) : ∀ n, (stepsS m r v n).length = v.length
  | 0 => rfl
  | n + 1 => by rw [stepsS, stepS_length, stepsS_length m r v n]
theorem roundsS_length (m v : List UInt32) : ∀ n, (roundsS m v n).length = v.length
  | 0 => rfl
  | n + 1 => by rw [roundsS, stepsS_length, roundsS_length m v n]
theorem startS_length (h : List UInt32) (n : Nat) (last : Bool) (hh : h.length = 8) : (startS h n last).length = 16 := by
  unfold startS
  cases last <;> simp [hh, eightS]
theorem endS_length (h v : List UInt32) : (endS h v).length = 8 := by simp [endS]
theorem takeS_length (h : List UInt32) (b : List UInt8) (n : Nat) (last : Bool) : (takeS h b n last).length = 8 := endS_length _ _

/-- the first k numbers of a list, nothing behind them -/
def partS (l : List UInt32) (n k : Nat) : List UInt32 := l.take k ++ List.replicate (n - k) 0
theorem partS_zero (l : List UInt32) (n : Nat) : partS l n 0 = List.replicate n 0 := by simp [partS]
theorem partS_all (l : List UInt32) (n : Nat) (h : l.length = n) : partS l n n = l := by simp [partS, ← h]
theorem partS_length (l : List UInt32) (n k : Nat) (h : l.length = n) (hk : k ≤ n) : (partS l n k).length = n := by simp [partS, h]; omega
theorem partS_succ (l : List UInt32) (n k : Nat) (h : l.length = n) (hk : k < n) : (partS l n k).set k (at32 l k) = partS l n (k + 1) := by
  unfold partS
  have h1 : (l.take k).length = k := by simp; omega
  rw [List.set_append_right _ _ (by omega), h1, Nat.sub_self, show n - k = (n - (k + 1)) + 1 by omega, List.replicate_succ, List.set_cons_zero, List.take_succ_eq_append_getElem (by omega), List.append_assoc]
  congr 1
  rw [at32, List.getD_eq_getElem?_getD, List.getElem?_eq_getElem (by omega)]
  rfl
/-- h ^= v ^ v', so many places of it -/
def endP (h v : List UInt32) (k : Nat) : List UInt32 := (endS h v).take k ++ h.drop k
theorem endP_zero (h v : List UInt32) : endP h v 0 = h := by simp [endP]
theorem endP_all (h v : List UInt32) (hh : h.length = 8) : endP h v 8 = endS h v := by
  unfold endP
  rw [List.take_of_length_le (by rw [endS_length]; exact Nat.le_refl _), List.drop_of_length_le (by omega), List.append_nil]
theorem endP_length (h v : List UInt32) (k : Nat) (hh : h.length = 8) (hk : k ≤ 8) : (endP h v k).length = 8 := by simp [endP, endS_length, hh]; omega
theorem endP_at (h v : List UInt32) (k : Nat) (_hh : h.length = 8) (hk : k < 8) : at32 (endP h v k) k = at32 h k := by
  unfold endP at32
  rw [List.getD_eq_getElem?_getD, List.getD_eq_getElem?_getD, List.getElem?_append_right (by simp [endS_length]; omega)]
  simp [endS_length, show min k 8 = k by omega]
theorem endP_succ (h v : List UInt32) (k : Nat) (hh : h.length = 8) (hk : k < 8) : (endP h v k).set k (xor32 (at32 h k) (xor32 (at32 v k) (at32 v (k + 8)))) = endP h v (k + 1) := by
  unfold endP
  have h1 : ((endS h v).take k).length = k := by simp [endS_length]; omega
  rw [List.set_append_right _ _ (by omega), h1, Nat.sub_self, List.drop_eq_getElem_cons (by omega), List.set_cons_zero, List.take_succ_eq_append_getElem (by rw [endS_length]; omega), List.append_assoc]
  congr 1
  simp [endS]
end Go.Proofs.Ytncoghoeeefjhaa
