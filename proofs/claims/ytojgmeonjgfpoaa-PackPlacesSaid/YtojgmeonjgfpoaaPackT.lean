/- There and back: the row of texts is read from its bytes; a pack's boxes from its bytes. Plain lists; texts shorter than 2^28 bytes. -/
import Derived.Test.YtojgmeonjgfpoaaPackS
namespace Go.Proofs.Ytojgmeonjgfpoaa

theorem readS_len : ∀ (j k m n : Nat) (r : Bs), k + j = 3 → n < 128 ^ (j + 1) → (k = 0 ∨ n ≠ 0) → readS k m (lenS n ++ r) = (m + n * 2 ^ (7 * k), k + (lenS n).length, 0)
  | j, k, m, n, r, hk, hn, h0 => by
    have hx : ∀ x : Nat, x < 256 → (UInt8.ofNat x).toNat = x := fun x h => by simp; omega
    by_cases hlt : n < 128
    · rw [lenS_lt hlt, List.singleton_append, readS, hx n (by omega), if_neg (by omega), if_pos hlt]
      have : n % 128 = n := Nat.mod_eq_of_lt hlt
      rw [this]
      simp
    · rw [lenS_ge (by omega), List.cons_append, readS, hx (n % 128 + 128) (by omega)]
      cases j with
      | zero => simp at hn; omega
      | succ j =>
        rw [if_neg (by omega), if_neg (by omega)]
        have hd : n / 128 < 128 ^ (j + 1) := by
          rw [Nat.div_lt_iff_lt_mul (by decide)]
          rw [Nat.pow_succ] at hn
          exact hn
        rw [readS_len j (k + 1) _ (n / 128) r (by omega) hd (.inr (by omega))]
        have e1 : 2 ^ (7 * (k + 1)) = 128 * 2 ^ (7 * k) := by rw [show 7 * (k + 1) = 7 + 7 * k by omega, Nat.pow_add]
        have e2 : (n % 128 + 128) % 128 = n % 128 := by omega
        rw [e1, e2, List.length_cons]
        refine Prod.ext ?_ (Prod.ext ?_ rfl)
        · show m + n % 128 * 2 ^ (7 * k) + n / 128 * (128 * 2 ^ (7 * k)) = m + n * 2 ^ (7 * k)
          have : n = n % 128 + n / 128 * 128 := by omega
          conv => rhs; rw [this, Nat.add_mul]
          rw [Nat.mul_assoc]
          omega
        · show k + 1 + _ = k + (_ + 1)
          omega
theorem readS_len0 (n : Nat) (r : Bs) (hn : n < 268435456) : readS 0 0 (lenS n ++ r) = (n, (lenS n).length, 0) := by
  rw [readS_len 3 0 0 n r (by omega) (by simpa using hn) (.inl rfl)]
  simp

def Short (l : List Bs) : Prop := ∀ s ∈ l, s.length < 268435456
theorem textsS_row : ∀ l : List Bs, Short l → textsS (rowS l) = (l, 0)
  | [], _ => by rw [rowS_nil, textsS_nil]
  | s :: l, h => by
    have hs := h s (by simp)
    have hl : Short l := fun t ht => h t (by simp [ht])
    have e : rowS (s :: l) = lenS s.length ++ (s ++ rowS l) := by rw [rowS_cons, List.append_assoc]
    have hr := readS_len0 s.length (s ++ rowS l) hs
    rw [← e] at hr
    have hne : rowS (s :: l) ≠ [] := fun h => by
      have h1 := congrArg List.length h
      rw [e] at h1
      have := lenS_length_pos s.length
      simp only [List.length_append, List.length_nil] at h1
      omega
    have h1 : (readS 0 0 (rowS (s :: l))).2.2 = 0 := by rw [hr]
    have hlen := congrArg List.length e
    simp only [List.length_append] at hlen
    have h2 : ¬ (rowS (s :: l)).length - (readS 0 0 (rowS (s :: l))).2.1 < (readS 0 0 (rowS (s :: l))).1 := by rw [hr]; dsimp only; omega
    have hst := textsS_step hne h1 h2 []
    rw [joinS_nil, hr] at hst
    dsimp only at hst
    have d1 : (rowS (s :: l)).drop (lenS s.length).length = s ++ rowS l := by rw [e, List.drop_left]
    have d2 : (rowS (s :: l)).drop ((lenS s.length).length + s.length) = rowS l := by
      rw [← List.drop_drop, d1, List.drop_left]
    rw [d1, d2, List.take_left, textsS_row l hl] at hst
    rw [hst]
    simp [joinS]
theorem rowS_inj {l m : List Bs} (hl : Short l) (hm : Short m) (h : rowS l = rowS m) : l = m := by
  have := (textsS_row l hl).symm.trans ((congrArg textsS h).trans (textsS_row m hm))
  exact congrArg Prod.fst this

theorem mem_rowS_le : ∀ (l : List Bs) (s : Bs), s ∈ l → s.length ≤ (rowS l).length
  | t :: l, s, h => by
    rw [rowS_length_cons]
    rcases List.mem_cons.1 h with rfl | h
    · omega
    · have := mem_rowS_le l s h; omega
theorem short_of_le {l : List Bs} (h : (rowS l).length < 268435456) : Short l := fun s hs => by have := mem_rowS_le l s hs; omega
theorem pair_flat : ∀ l : List (Bs × Bs), pairS (flatS l) = l
  | [] => rfl
  | x :: l => by rw [flatS_cons, pairS, pair_flat l]
theorem flatS_inj {l m : List (Bs × Bs)} (h : flatS l = flatS m) : l = m := by rw [← pair_flat l, ← pair_flat m, h]
theorem packRow_inj {l m : List (Bs × Bs)} (h : packRow l = packRow m) : l = m := flatS_inj (by unfold packRow at h; injection h)
theorem boxesS_make {l : List (Bs × Bs)} (h : (makeS l).2 = 0) : boxesS (makeS l).1 = some l := by
  obtain ⟨h1, h2, h3, h4⟩ := makeS_ok h
  have ht : textsS (makeS l).1 = (packRow l, 0) := by rw [h4]; exact textsS_row _ (short_of_le (by omega))
  unfold boxesS
  rw [ht, if_neg, if_pos]
  · show some (pairS (flatS l)) = some l
    rw [pair_flat]
  · show (makeS (pairS (flatS l))).2 = 0 ∧ (makeS (pairS (flatS l))).1 = _
    rw [pair_flat]
    exact ⟨h, rfl⟩
  · rintro (h | h | h)
    · exact h rfl
    · have : (packRow l).length = 2 * l.length + 1 := by unfold packRow; rw [List.length_cons, flatS_length]
      simp only at h
      omega
    · exact h rfl
theorem makeS_inj {l m : List (Bs × Bs)} (hl : (makeS l).2 = 0) (hm : (makeS m).2 = 0) (h : (makeS l).1 = (makeS m).1) : l = m := by
  have := (boxesS_make hl).symm.trans ((congrArg boxesS h).trans (boxesS_make hm))
  injection this
end Go.Proofs.Ytojgmeonjgfpoaa
