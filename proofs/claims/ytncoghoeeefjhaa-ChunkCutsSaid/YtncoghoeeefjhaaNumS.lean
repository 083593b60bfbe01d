/- Rows of texts as bytes: plain functions on lists. No program in sight; no condition. -/
namespace Go.Proofs.Ytncoghoeeefjhaa

def lenS (n : Nat) : List UInt8 := if n < 128 then [UInt8.ofNat n] else UInt8.ofNat (n % 128 + 128) :: lenS (n / 128)
termination_by n
decreasing_by omega

theorem lenS_lt {n : Nat} (h : n < 128) : lenS n = [UInt8.ofNat n] := by rw [lenS, if_pos h]
theorem lenS_ge {n : Nat} (h : 128 ≤ n) : lenS n = UInt8.ofNat (n % 128 + 128) :: lenS (n / 128) := by rw [lenS, if_neg (by omega)]

theorem lenS_length_pos (n : Nat) : 1 ≤ (lenS n).length := by rw [lenS]; split <;> simp
theorem lenS_length_le : ∀ (k n : Nat), n < 128 ^ (k + 1) → (lenS n).length ≤ k + 1
  | 0, n, h => by rw [lenS_lt (by simpa using h)]; simp
  | k + 1, n, h => by
    rcases Nat.lt_or_ge n 128 with hlt | hge
    · rw [lenS_lt hlt]; simp
    · rw [lenS_ge hge]
      have h' : n / 128 < 128 ^ (k + 1) := by
        rw [Nat.div_lt_iff_lt_mul (by decide)]
        rw [Nat.pow_succ] at h
        exact h
      have := lenS_length_le k (n / 128) h'
      simp; omega
theorem lenS_length (n : Nat) (h : n < 9223372036854775808) : (lenS n).length ≤ 9 := lenS_length_le 8 n (by
  have : (128 : Nat) ^ 9 = 9223372036854775808 := by decide
  show n < 128 ^ 9
  omega)

def rowS (l : List (List UInt8)) : List UInt8 := l.flatMap fun s => lenS s.length ++ s
theorem rowS_nil : rowS [] = [] := rfl
theorem rowS_cons (s : List UInt8) (l : List (List UInt8)) : rowS (s :: l) = lenS s.length ++ s ++ rowS l := by simp [rowS]
theorem rowS_append (l m : List (List UInt8)) : rowS (l ++ m) = rowS l ++ rowS m := by simp [rowS]
theorem rowS_one (s : List UInt8) : rowS [s] = lenS s.length ++ s := by simp [rowS]


/-- a length that bytes begin with: the number, its bytes, the error; k bytes with the number n having been read -/
def readS (k n : Nat) : List UInt8 → Nat × Nat × Int
  | [] => (0, 0, 4)
  | x :: r => if (k = 3 ∧ 128 ≤ x.toNat) ∨ (0 < k ∧ x.toNat = 0) then (0, 0, 3) else if x.toNat < 128 then (n + x.toNat % 128 * 2 ^ (7 * k), k + 1, 0) else readS (k + 1) (n + x.toNat % 128 * 2 ^ (7 * k)) r

theorem readS_size : ∀ (b : List UInt8) (k n : Nat), (readS k n b).2.2 = 0 → k < (readS k n b).2.1 ∧ (readS k n b).2.1 ≤ k + b.length
  | [], k, n, h => by simp [readS] at h
  | x :: r, k, n, h => by
    unfold readS at h ⊢
    by_cases c1 : (k = 3 ∧ 128 ≤ x.toNat) ∨ (0 < k ∧ x.toNat = 0)
    · rw [if_pos c1] at h; simp at h
    · rw [if_neg c1] at h ⊢
      by_cases c2 : x.toNat < 128
      · rw [if_pos c2]; simp
      · rw [if_neg c2] at h ⊢
        have := readS_size r (k + 1) _ h
        simp only [List.length_cons]
        omega
theorem readS_zero : ∀ (b : List UInt8) (k n : Nat), (readS k n b).2.2 ≠ 0 → (readS k n b).1 = 0 ∧ (readS k n b).2.1 = 0
  | [], k, n, h => by simp [readS]
  | x :: r, k, n, h => by
    unfold readS at h ⊢
    by_cases c1 : (k = 3 ∧ 128 ≤ x.toNat) ∨ (0 < k ∧ x.toNat = 0)
    · rw [if_pos c1]; simp
    · rw [if_neg c1] at h ⊢
      by_cases c2 : x.toNat < 128
      · rw [if_pos c2] at h; simp at h
      · rw [if_neg c2] at h ⊢
        exact readS_zero r (k + 1) _ h
theorem readS_err : ∀ (b : List UInt8) (k n : Nat), (readS k n b).2.2 = 0 ∨ (readS k n b).2.2 = 3 ∨ (readS k n b).2.2 = 4
  | [], k, n => by simp [readS]
  | x :: r, k, n => by
    unfold readS
    by_cases c1 : (k = 3 ∧ 128 ≤ x.toNat) ∨ (0 < k ∧ x.toNat = 0)
    · rw [if_pos c1]; simp
    · rw [if_neg c1]
      by_cases c2 : x.toNat < 128
      · rw [if_pos c2]; simp
      · rw [if_neg c2]
        exact readS_err r (k + 1) _
theorem readS_lt : ∀ (b : List UInt8) (k n : Nat), k ≤ 3 → n < 2 ^ (7 * k) → (readS k n b).1 < 268435456
  | [], k, n, _, _ => by simp [readS]
  | x :: r, k, n, hk, hn => by
    unfold readS
    have hx : x.toNat % 128 < 128 := Nat.mod_lt _ (by decide)
    have hb : n + x.toNat % 128 * 2 ^ (7 * k) < 2 ^ (7 * (k + 1)) := by
      have e : 2 ^ (7 * (k + 1)) = 128 * 2 ^ (7 * k) := by rw [show 7 * (k + 1) = 7 + 7 * k by omega, Nat.pow_add]
      rw [e]
      have : x.toNat % 128 * 2 ^ (7 * k) ≤ 127 * 2 ^ (7 * k) := Nat.mul_le_mul_right _ (by omega)
      omega
    have hle : 2 ^ (7 * (k + 1)) ≤ 268435456 := by
      have : 2 ^ (7 * (k + 1)) ≤ 2 ^ 28 := Nat.pow_le_pow_right (by decide) (by omega)
      simpa using this
    by_cases c1 : (k = 3 ∧ 128 ≤ x.toNat) ∨ (0 < k ∧ x.toNat = 0)
    · rw [if_pos c1]; simp
    · rw [if_neg c1]
      by_cases c2 : x.toNat < 128
      · rw [if_pos c2]; exact Nat.lt_of_lt_of_le hb hle
      · rw [if_neg c2]
        exact readS_lt r (k + 1) _ (by omega) hb

/-- the row of bytes, or the error -/
def textsS (b : List UInt8) : List (List UInt8) × Int :=
  if _hb : b = [] then ([], 0) else
  if _he : (readS 0 0 b).2.2 ≠ 0 then ([], (readS 0 0 b).2.2) else
  if b.length - (readS 0 0 b).2.1 < (readS 0 0 b).1 then ([], 4) else
  if (textsS (b.drop ((readS 0 0 b).2.1 + (readS 0 0 b).1))).2 = 0 then
    ((b.drop (readS 0 0 b).2.1).take (readS 0 0 b).1 :: (textsS (b.drop ((readS 0 0 b).2.1 + (readS 0 0 b).1))).1, 0)
  else ([], (textsS (b.drop ((readS 0 0 b).2.1 + (readS 0 0 b).1))).2)
termination_by b.length
decreasing_by
  all_goals
    have h1 := readS_size b 0 0 (by simpa using _he)
    have h2 : 0 < b.length := List.length_pos_iff.2 _hb
    rw [List.length_drop]; omega

/-- what has been read ahead, and what is read from here on -/
def joinS (acc : List (List UInt8)) (r : List (List UInt8) × Int) : List (List UInt8) × Int := if r.2 = 0 then (acc ++ r.1, 0) else ([], r.2)
theorem joinS_nil (b : List UInt8) : joinS [] (textsS b) = textsS b := by
  unfold joinS
  by_cases h : (textsS b).2 = 0
  · rw [if_pos h]; ext1 <;> simp [h]
  · rw [if_neg h]
    ext1
    · rw [textsS] at h ⊢
      repeat' split <;> simp_all
    · rfl
theorem textsS_nil : textsS [] = ([], 0) := by rw [textsS]; simp
theorem textsS_bad {b : List UInt8} (hb : b ≠ []) (he : (readS 0 0 b).2.2 ≠ 0) : textsS b = ([], (readS 0 0 b).2.2) := by rw [textsS, dif_neg hb, dif_pos he]
theorem textsS_short {b : List UInt8} (hb : b ≠ []) (he : (readS 0 0 b).2.2 = 0) (hl : b.length - (readS 0 0 b).2.1 < (readS 0 0 b).1) : textsS b = ([], 4) := by
  rw [textsS, dif_neg hb, dif_neg (by simpa using he), if_pos hl]
theorem textsS_step {b : List UInt8} (hb : b ≠ []) (he : (readS 0 0 b).2.2 = 0) (hl : ¬ b.length - (readS 0 0 b).2.1 < (readS 0 0 b).1) (acc : List (List UInt8)) :
    joinS acc (textsS b) = joinS (acc ++ [(b.drop (readS 0 0 b).2.1).take (readS 0 0 b).1]) (textsS (b.drop ((readS 0 0 b).2.1 + (readS 0 0 b).1))) := by
  rw [textsS, dif_neg hb, dif_neg (by simpa using he), if_neg hl]
  unfold joinS
  split <;> simp_all

end Go.Proofs.Ytncoghoeeefjhaa
