/- Rolling cuts: plain functions on lists. No program in sight; no condition. -/
namespace Go.Proofs.Ytncoghoeeefjhaa

/-- a window's sum -/
def rsumS (l : List UInt8) : UInt32 := l.foldl (fun n b => n * 69069 + b.toUInt32 + 1) 0
theorem rsumS_from (l : List UInt8) : ∀ n : UInt32, l.foldl (fun n b => n * 69069 + b.toUInt32 + 1) n = n * 69069 ^ l.length + rsumS l := by
  induction l with
  | nil => intro n; simp [rsumS]
  | cons x l ih =>
    intro n
    have h1 := ih (n * 69069 + x.toUInt32 + 1)
    have h2 := ih (0 * 69069 + x.toUInt32 + 1)
    simp only [rsumS, List.foldl_cons, List.length_cons] at h1 h2 ⊢
    rw [h1, h2]
    grind
theorem rsumS_cons (x : UInt8) (l : List UInt8) : rsumS (x :: l) = (x.toUInt32 + 1) * 69069 ^ l.length + rsumS l := by
  have := rsumS_from l (0 * 69069 + x.toUInt32 + 1)
  rw [rsumS, List.foldl_cons, this]
  grind
theorem rsumS_snoc (l : List UInt8) (y : UInt8) : rsumS (l ++ [y]) = rsumS l * 69069 + y.toUInt32 + 1 := by
  simp [rsumS]
/-- a byte further on -/
theorem rsumS_roll (x y : UInt8) (l : List UInt8) : rsumS (l ++ [y]) = rsumS (x :: l) * 69069 + y.toUInt32 + 1 - 69069 ^ (l.length + 1) * (x.toUInt32 + 1) := by
  rw [rsumS_snoc, rsumS_cons]
  grind
/-- the sum of the sixteen bytes ahead of a place -/
def winS (d : List UInt8) (i : Nat) : UInt32 := rsumS ((d.drop (i - 16)).take 16)
theorem winS_next (d : List UInt8) (i : Nat) (h : 16 ≤ i) (hi : i < d.length) :
    winS d (i + 1) = winS d i * 69069 + (d.getD i 0).toUInt32 + 1 - 69069 ^ 16 * ((d.getD (i - 16) 0).toUInt32 + 1) := by
  have e1 : d.drop (i - 16) = d[i - 16] :: d.drop (i - 16 + 1) := List.drop_eq_getElem_cons (by omega)
  have e2 : ((d.drop (i - 16 + 1)).take 16) = ((d.drop (i - 16 + 1)).take 15) ++ [d[i]] := by
    have hl : 15 < (d.drop (i - 16 + 1)).length := by rw [List.length_drop]; omega
    rw [List.take_succ_eq_append_getElem hl, List.getElem_drop]
    congr 2
    have : i - 16 + 1 + 15 = i := by omega
    simp only [this]
  unfold winS
  rw [show i + 1 - 16 = i - 16 + 1 by omega, e2, e1, List.take_succ_cons, rsumS_roll d[i - 16]]
  have hl : (List.take 15 (List.drop (i - 16 + 1) d)).length = 15 := by rw [List.length_take, List.length_drop]; omega
  rw [hl, List.getD_eq_getElem?_getD, List.getD_eq_getElem?_getD, List.getElem?_eq_getElem hi, List.getElem?_eq_getElem (by omega : i - 16 < d.length)]
  rfl
def hitS (d : List UInt8) (i : Nat) : Bool := winS d i &&& 255 == 255
/-- the first place from i on at which bytes are cut -/
def fromS (d : List UInt8) (i : Nat) : Nat := if hitS d i = true ∨ 1024 ≤ i ∨ d.length ≤ i then i else fromS d (i + 1)
termination_by 1024 - i
theorem fromS_stop {d : List UInt8} {i : Nat} (h : hitS d i = true ∨ 1024 ≤ i ∨ d.length ≤ i) : fromS d i = i := by rw [fromS, if_pos h]
theorem fromS_go {d : List UInt8} {i : Nat} (h : ¬ (hitS d i = true ∨ 1024 ≤ i ∨ d.length ≤ i)) : fromS d i = fromS d (i + 1) := by rw [fromS, if_neg h]
theorem fromS_bounds (d : List UInt8) : ∀ k i, 1024 - i = k → i ≤ d.length → i ≤ 1024 → i ≤ fromS d i ∧ fromS d i ≤ d.length ∧ fromS d i ≤ 1024
  | 0, i, hk, h1, h2 => by rw [fromS_stop (by omega)]; omega
  | k + 1, i, hk, h1, h2 => by
    by_cases h : hitS d i = true ∨ 1024 ≤ i ∨ d.length ≤ i
    · rw [fromS_stop h]; omega
    · rw [fromS_go h]
      have := fromS_bounds d k (i + 1) (by omega) (by omega) (by omega)
      omega
/-- how many bytes the first chunk has -/
def firstS (d : List UInt8) : Nat := if d.length ≤ 64 then d.length else fromS d 64
theorem firstS_le (d : List UInt8) : firstS d ≤ d.length := by
  unfold firstS
  split
  · omega
  · exact (fromS_bounds d _ 64 rfl (by omega) (by omega)).2.1
theorem firstS_max (d : List UInt8) : firstS d ≤ 1024 := by
  unfold firstS
  split
  · omega
  · exact (fromS_bounds d _ 64 rfl (by omega) (by omega)).2.2
theorem firstS_min (d : List UInt8) (h : firstS d < d.length) : 64 ≤ firstS d := by
  unfold firstS at h ⊢
  split at h
  · omega
  · rename_i h1
    rw [if_neg h1]
    exact (fromS_bounds d _ 64 rfl (by omega) (by omega)).1
theorem firstS_pos (d : List UInt8) (h : d ≠ []) : 0 < firstS d := by
  have h0 : 0 < d.length := List.length_pos_iff.2 h
  rcases Nat.lt_or_ge (firstS d) d.length with h1 | h1
  · have := firstS_min d h1; omega
  · omega
/-- chunks -/
def cutS (d : List UInt8) : List (List UInt8) := if _h : d = [] then [] else d.take (firstS d) :: cutS (d.drop (firstS d))
termination_by d.length
decreasing_by
  have := firstS_pos d _h
  have h0 : 0 < d.length := List.length_pos_iff.2 _h
  rw [List.length_drop]; omega
theorem cutS_nil : cutS [] = [] := by rw [cutS, dif_pos rfl]
theorem cutS_step {d : List UInt8} (h : d ≠ []) : cutS d = d.take (firstS d) :: cutS (d.drop (firstS d)) := by rw [cutS, dif_neg h]
theorem drop_lt {d : List UInt8} (h : d ≠ []) : (d.drop (firstS d)).length < d.length := by
  have := firstS_pos d h
  have h0 : 0 < d.length := List.length_pos_iff.2 h
  rw [List.length_drop]; omega
theorem cutS_flat (d : List UInt8) : (cutS d).flatten = d := by
  by_cases h : d = []
  · rw [h, cutS_nil]; rfl
  · rw [cutS_step h, List.flatten_cons, cutS_flat (d.drop (firstS d)), List.take_append_drop]
termination_by d.length
decreasing_by exact drop_lt h
theorem cutS_sizes (d : List UInt8) (i : Nat) (s : List UInt8) (hs : (cutS d)[i]? = some s) : 1 ≤ s.length ∧ s.length ≤ 1024 ∧ (i + 1 < (cutS d).length → 64 ≤ s.length) := by
  by_cases h : d = []
  · rw [h, cutS_nil] at hs; simp at hs
  · rw [cutS_step h] at hs ⊢
    have hl : (d.take (firstS d)).length = firstS d := by rw [List.length_take]; have := firstS_le d; omega
    cases i with
    | zero =>
      simp only [List.getElem?_cons_zero, Option.some.injEq] at hs
      subst hs
      refine ⟨by rw [hl]; exact firstS_pos d h, by rw [hl]; exact firstS_max d, fun hk => ?_⟩
      rw [hl]
      refine firstS_min d ?_
      rcases Nat.lt_or_ge (firstS d) d.length with h1 | h1
      · exact h1
      · rw [List.drop_eq_nil_of_le h1, cutS_nil] at hk
        simp at hk
    | succ i =>
      simp only [List.getElem?_cons_succ] at hs
      have := cutS_sizes (d.drop (firstS d)) i s hs
      refine ⟨this.1, this.2.1, fun hk => this.2.2 ?_⟩
      simp only [List.length_cons] at hk
      omega
termination_by d.length
decreasing_by exact drop_lt h
theorem cutS_length (d : List UInt8) : (cutS d).length ≤ d.length := by
  by_cases h : d = []
  · rw [h, cutS_nil]
    exact Nat.le_refl _
  · rw [cutS_step h, List.length_cons]
    have h1 := cutS_length (d.drop (firstS d))
    have h2 := drop_lt h
    omega
termination_by d.length
decreasing_by exact drop_lt h

/-! how many bytes are behind each place at which bytes are cut, as far as these are at most so many -/
def endsS (m : Nat) : List (List UInt8) → Nat → List Nat
  | [], _ => []
  | s :: l, n => (if n - s.length ≤ m then [n - s.length] else []) ++ endsS m l (n - s.length)
/-- what is left of bytes: the last n -/
def leftS (d : List UInt8) (n : Nat) : List UInt8 := d.drop (d.length - n)
theorem leftS_drop (d : List UInt8) (k n : Nat) (h : n ≤ (d.drop k).length) : leftS (d.drop k) n = leftS d n := by
  unfold leftS
  rw [List.drop_drop, List.length_drop]
  rw [List.length_drop] at h
  rcases Nat.lt_or_ge k d.length with h1 | h1
  · congr 1; omega
  · rw [List.drop_eq_nil_of_le (by omega), List.drop_eq_nil_of_le (by omega)]
theorem leftS_append (a t : List UInt8) (n : Nat) (h : n ≤ t.length) : leftS (a ++ t) n = leftS t n := by
  unfold leftS
  rw [List.length_append, show a.length + t.length - n = a.length + (t.length - n) by omega, List.drop_append]
  simp
theorem leftS_all (d : List UInt8) : leftS d d.length = d := by simp [leftS]
theorem take_len (d : List UInt8) : d.length - (d.take (firstS d)).length = (d.drop (firstS d)).length := by
  have := firstS_le d
  rw [List.length_take, List.length_drop]; omega
/-- behind a place at which bytes are cut all hangs on what is left -/
theorem endsS_tail (m : Nat) (d : List UInt8) (i n : Nat) (h : (endsS m (cutS d) d.length)[i]? = some n) :
    n ≤ m ∧ n ≤ d.length ∧ (endsS m (cutS d) d.length).drop i = n :: endsS m (cutS (leftS d n)) n := by
  by_cases hd : d = []
  · rw [hd, cutS_nil] at h; simp [endsS] at h
  · rw [cutS_step hd, endsS, take_len] at h ⊢
    have ih := fun j => endsS_tail m (d.drop (firstS d)) j n
    have hl : (d.drop (firstS d)).length ≤ d.length := Nat.le_of_lt (drop_lt hd)
    by_cases hm : (d.drop (firstS d)).length ≤ m
    · rw [if_pos hm] at h ⊢
      cases i with
      | zero =>
        simp only [List.singleton_append, List.getElem?_cons_zero, Option.some.injEq] at h
        subst h
        refine ⟨hm, hl, ?_⟩
        have e := leftS_drop d (firstS d) (d.drop (firstS d)).length (Nat.le_refl _)
        rw [leftS_all] at e
        rw [← e]
        rfl
      | succ j =>
        simp only [List.singleton_append, List.getElem?_cons_succ] at h
        obtain ⟨h1, h2, h3⟩ := ih j h
        refine ⟨h1, by omega, ?_⟩
        rw [List.singleton_append, List.drop_succ_cons, h3, leftS_drop d _ n h2]
    · rw [if_neg hm] at h ⊢
      rw [List.nil_append] at h ⊢
      obtain ⟨h1, h2, h3⟩ := ih i h
      exact ⟨h1, by omega, by rw [h3, leftS_drop d _ n h2]⟩
termination_by d.length
decreasing_by exact drop_lt hd
/-- two texts that end alike: from the first common place on all places are common -/
theorem ends_alike (a b t : List UInt8) (i k n : Nat) (hx : (endsS t.length (cutS (a ++ t)) (a ++ t).length)[i]? = some n) (hy : (endsS t.length (cutS (b ++ t)) (b ++ t).length)[k]? = some n) :
    (endsS t.length (cutS (a ++ t)) (a ++ t).length).drop i = (endsS t.length (cutS (b ++ t)) (b ++ t).length).drop k := by
  obtain ⟨h1, _, h2⟩ := endsS_tail _ _ _ _ hx
  obtain ⟨_, _, h3⟩ := endsS_tail _ _ _ _ hy
  rw [h2, h3, leftS_append a t n h1, leftS_append b t n h1]
theorem endsS_length (m : Nat) : ∀ (l : List (List UInt8)) (n : Nat), (endsS m l n).length ≤ l.length
  | [], _ => by simp [endsS]
  | s :: l, n => by
    have := endsS_length m l (n - s.length)
    rw [endsS, List.length_append]
    split <;> simp <;> omega
end Go.Proofs.Ytncoghoeeefjhaa
