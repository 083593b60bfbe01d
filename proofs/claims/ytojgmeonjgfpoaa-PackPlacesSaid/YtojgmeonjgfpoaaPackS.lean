/- Packs as bytes: plain functions on lists. No program in sight; no condition. -/
import Derived.Test.YtojgmeonjgfpoaaNumS
namespace Go.Proofs.Ytojgmeonjgfpoaa

abbrev Bs := List UInt8
def hibp : Bs := [104, 105, 98, 112]
/-- the first error of boxes' names, others being there already: 0, 7, 8 -/
def checkS (seen : List Bs) : List (Bs × Bs) → Int
  | [] => 0
  | x :: r => if x.1.length < 1 ∨ 100 < x.1.length then 7 else if x.1 ∈ seen then 8 else checkS (x.1 :: seen) r
def flatS (l : List (Bs × Bs)) : List Bs := l.flatMap fun x => [x.1, x.2]
def packRow (l : List (Bs × Bs)) : List Bs := hibp :: flatS l
def makeS (l : List (Bs × Bs)) : Bs × Int :=
  if l = [] then ([], 1) else if checkS [] l ≠ 0 then ([], checkS [] l) else if 65536 < (rowS (packRow l)).length then ([], 6) else (rowS (packRow l), 0)

theorem flatS_cons (x : Bs × Bs) (l : List (Bs × Bs)) : flatS (x :: l) = x.1 :: x.2 :: flatS l := by simp [flatS]
theorem flatS_append (l m : List (Bs × Bs)) : flatS (l ++ m) = flatS l ++ flatS m := by simp [flatS]
theorem flatS_length (l : List (Bs × Bs)) : (flatS l).length = 2 * l.length := by
  induction l with
  | nil => rfl
  | cons x l ih => rw [flatS_cons]; simp only [List.length_cons, ih]; omega

def pairS {α : Type} : List α → List (α × α)
  | x :: y :: r => (x, y) :: pairS r
  | _ => []
theorem pairS_map {α β : Type} (f : α → β) : ∀ l : List α, pairS (l.map f) = (pairS l).map fun x => (f x.1, f x.2)
  | [] => rfl
  | [_] => rfl
  | x :: y :: r => by simp [pairS, pairS_map f r]
theorem pairS_length {α : Type} : ∀ l : List α, (pairS l).length = l.length / 2
  | [] => by simp [pairS]
  | [_] => by simp [pairS]
  | x :: y :: r => by simp [pairS, pairS_length r]; omega
theorem pairS_get {α : Type} : ∀ (l : List α) (k : Nat) (h : k < (pairS l).length) (h1 : 2 * k < l.length) (h2 : 2 * k + 1 < l.length), (pairS l)[k] = (l[2 * k], l[2 * k + 1])
  | [], k, h, _, _ => by simp [pairS] at h
  | [_], k, h, _, _ => by simp [pairS] at h
  | x :: y :: r, 0, h, _, _ => rfl
  | x :: y :: r, k + 1, h, h1, h2 => by
    have := pairS_get r k (by simpa [pairS] using h) (by simp at h1; omega) (by simp at h2; omega)
    simp only [pairS, List.getElem_cons_succ, this]
    have e1 : 2 * (k + 1) = 2 * k + 1 + 1 := by omega
    have e2 : 2 * (k + 1) + 1 = 2 * k + 1 + 1 + 1 := by omega
    simp only [e1, List.getElem_cons_succ]
theorem flat_pair : ∀ l : List Bs, l.length % 2 = 0 → flatS (pairS l) = l
  | [], _ => rfl
  | [_], h => by simp at h
  | x :: y :: r, h => by rw [pairS, flatS_cons, flat_pair r (by simp at h; omega)]

/-- the boxes of a pack's bytes -/
def boxesS (b : Bs) : Option (List (Bs × Bs)) :=
  if (textsS b).2 ≠ 0 ∨ (textsS b).1.length % 2 = 0 ∨ (textsS b).1.head? ≠ some hibp then none
  else if (makeS (pairS (textsS b).1.tail)).2 = 0 ∧ (makeS (pairS (textsS b).1.tail)).1 = b then some (pairS (textsS b).1.tail) else none

theorem rowS_length_cons (s : Bs) (l : List Bs) : (rowS (s :: l)).length = (lenS s.length).length + s.length + (rowS l).length := by
  rw [rowS_cons]; simp only [List.length_append]
theorem texts_le : ∀ (n : Nat) (b : Bs), b.length ≤ n → b.length < 9223372036854775808 → (rowS (textsS b).1).length ≤ 10 * b.length
  | 0, b, h, _ => by
    have : b = [] := List.eq_nil_of_length_eq_zero (by omega)
    subst this
    rw [textsS_nil]; simp [rowS]
  | n + 1, b, h, h63 => by
    by_cases hb : b = []
    · subst hb; rw [textsS_nil]; simp [rowS]
    · by_cases he : (readS 0 0 b).2.2 = 0
      · by_cases hl : b.length - (readS 0 0 b).2.1 < (readS 0 0 b).1
        · rw [textsS_short hb he hl]; simp [rowS]
        · rw [← joinS_nil, textsS_step hb he hl, joinS]
          have hs := readS_size b 0 0 he
          by_cases hr : (textsS (b.drop ((readS 0 0 b).2.1 + (readS 0 0 b).1))).2 = 0
          · rw [if_pos hr]
            have hd : (b.drop ((readS 0 0 b).2.1 + (readS 0 0 b).1)).length = b.length - ((readS 0 0 b).2.1 + (readS 0 0 b).1) := by simp
            have ih := texts_le n (b.drop ((readS 0 0 b).2.1 + (readS 0 0 b).1)) (by omega) (by omega)
            rw [List.nil_append, List.cons_append, List.nil_append, rowS_length_cons]
            have ht : ((b.drop (readS 0 0 b).2.1).take (readS 0 0 b).1).length ≤ (readS 0 0 b).1 := by simp; omega
            have hl9 := lenS_length ((b.drop (readS 0 0 b).2.1).take (readS 0 0 b).1).length (by omega)
            omega
          · rw [if_neg hr]; simp [rowS]
      · rw [textsS_bad hb he]; simp [rowS]

theorem makeS_ok {l : List (Bs × Bs)} (h : (makeS l).2 = 0) : l ≠ [] ∧ checkS [] l = 0 ∧ (rowS (packRow l)).length ≤ 65536 ∧ makeS l = (rowS (packRow l), 0) := by
  unfold makeS at h ⊢
  by_cases h1 : l = []
  · rw [if_pos h1] at h; cases h
  · rw [if_neg h1] at h ⊢
    by_cases h2 : checkS [] l ≠ 0
    · rw [if_pos h2] at h; exact absurd h h2
    · rw [if_neg h2] at h ⊢
      by_cases h3 : 65536 < (rowS (packRow l)).length
      · rw [if_pos h3] at h; cases h
      · rw [if_neg h3]
        exact ⟨h1, by simpa using h2, by omega, rfl⟩
theorem boxesS_some {b : Bs} {l : List (Bs × Bs)} (h : boxesS b = some l) : makeS l = (b, 0) ∧ rowS (packRow l) = b := by
  unfold boxesS at h
  split at h
  · cases h
  · split at h
    · rename_i h1 h2
      injection h with h
      subst h
      have h3 := makeS_ok h2.1
      have e : rowS (packRow (pairS (textsS b).1.tail)) = b := by
        have := h2.2
        rw [h3.2.2.2] at this
        exact this
      exact ⟨by rw [h3.2.2.2, e], e⟩
    · cases h
theorem packRow_len (l : List (Bs × Bs)) : (rowS (packRow l)).length = 5 + (rowS (flatS l)).length := by
  unfold packRow
  rw [rowS_length_cons, show hibp.length = 4 from rfl, lenS_lt (by decide)]
  rfl

end Go.Proofs.Ytojgmeonjgfpoaa
