/- Arguments opened: a slice of boxes as a list. No condition. -/
import Derived.Test.YtojgmeonjgfpoaaPackA
import Derived.ProofKit
import Derived.Deep.Slices
namespace Go.Proofs.Ytojgmeonjgfpoaa
open Go.ChangeShapes Go.WideShapes Go.ChangeAt Go.RowKit Go.Deep

theorem row_own : ownKnob Try.prog.godebug = none := by kernel_rfl
theorem row_laidOut : laidOutB Try.prog = true := by kernel_rfl

theorem list_two {α : Type} {l : List α} (h : l.length = 2) : ∃ a b, l = [a, b] := by
  match l, h with
  | [a, b], _ => exact ⟨a, b, rfl⟩
theorem reads_of_list {w : World} {ad : Addr} {n m : Nat} {sz : Nat} {xs : List Value} (hl : xs.length = n * sz) (hsz : 0 < sz) (hc : ∀ j u, xs[j]? = some u → w.cell? (ad.add j) = some u) (_hm : n ≤ m) : Reads w w.heap.size sz (some ad) n xs := by
  refine ⟨hl, fun hn => ?_⟩
  have h0 : 0 < xs.length := by rw [hl]; exact Nat.mul_pos hn hsz
  have hb := World.block_lt_of_cell? w _ (hc 0 xs[0] (List.getElem?_eq_getElem h0))
  rw [block_add] at hb
  exact ⟨ad, rfl, hb, hc⟩

set_option maxRecDepth 100000 in
theorem open_boxes {H : Type} {enc : TypeId × Value → H} {W : World} {sp : Nat → Bool} {held : Bool} {fuel : Nat} {a : Option Addr} {len cap : Nat} {x : DataW H × List MemPlace}
    (h : DataW.trod enc Try.prog W 0 sp held fuel 22 (Value.slice a len cap).cells.toList = some x) :
    ∃ l : List BB, len = l.length ∧ Reads W W.heap.size 2 a l.length (bx l) ∧ l.length ≤ 9223372036854775807 := by
  rcases open_slice Try.underlying22 h with ⟨hcs, _⟩ | ⟨ad, len', cap', m, n, D, Pl, hcs, _, hlc, hcm, hm, _, hel⟩
  · simp [Value.cells] at hcs
    obtain ⟨rfl, rfl, rfl⟩ := hcs
    exact ⟨[], rfl, Reads.nil_, by simp⟩
  · simp [Value.cells] at hcs
    obtain ⟨rfl, rfl, rfl⟩ := hcs
    have hml : len ≤ m := by rw [hm]; split <;> omega
    have cells2 : Try.prog.cellsOf 29 = 2 := by kernel_rfl
    have hone : ∀ i, i < len → ∃ b : BB, W.cell? (ad.add (i * 2)) = some (.string b.1) ∧ W.cell? (ad.add (i * 2 + 1)) = some (.string b.2) := by
      intro i hi
      obtain ⟨cs', hc, ht⟩ := hel i (by omega)
      rw [cells2] at hc
      obtain ⟨_, hcl, hat⟩ := World.cells?_some hc
      obtain ⟨y0, y1, n', _, _, h0, h1⟩ := trod_struct2 Try.underlying29 ht
      have c9 : Try.prog.cellsOf 9 = 1 := by kernel_rfl
      obtain ⟨u0, u1, rfl⟩ := list_two hcl
      · simp only [c9] at h0 h1
        obtain ⟨s0, e0, _⟩ := DataW.trod_string Try.underlying9 h0
        obtain ⟨s1, e1, _⟩ := DataW.trod_string Try.underlying9 h1
        simp at e0 e1
        subst e0
        subst e1
        have a0 := hat 0 (by omega)
        have a1 := hat 1 (by omega)
        rw [add_add'] at a0 a1
        exact ⟨(s0, s1), by simpa using a0, by simpa using a1⟩
    have hlist : ∀ k, k ≤ len → ∃ l : List BB, l.length = k ∧ ∀ i (hi : i < l.length), W.cell? (ad.add (i * 2)) = some (.string l[i].1) ∧ W.cell? (ad.add (i * 2 + 1)) = some (.string l[i].2) := by
      intro k
      induction k with
      | zero => exact fun _ => ⟨[], rfl, fun i hi => by simp at hi⟩
      | succ k ih =>
        intro hk
        obtain ⟨l, hl, hc⟩ := ih (by omega)
        obtain ⟨b, hb⟩ := hone k (by omega)
        refine ⟨l ++ [b], by simp [hl], fun i hi => ?_⟩
        by_cases hik : i < l.length
        · rw [List.getElem_append_left hik]; exact hc i hik
        · have : i = l.length := by simp at hi; omega
          subst this
          rw [List.getElem_append_right (by omega)]
          simp only [Nat.sub_self, List.getElem_cons_zero, hl]
          exact hb
    obtain ⟨l, hl, hc⟩ := hlist len (Nat.le_refl _)
    refine ⟨l, hl.symm, ?_, by unfold maxLen at hcm; omega⟩
    refine reads_of_list (m := l.length) (bx_length l) (by omega) ?_ (Nat.le_refl _)
    intro j u hj
    have hjl : j < l.length * 2 := by
      rcases Nat.lt_or_ge j (bx l).length with h' | h'
      · rw [bx_length] at h'; exact h'
      · rw [List.getElem?_eq_none h'] at hj; cases hj
    have hb := bx_at l (j / 2) (by omega)
    have hcc := hc (j / 2) (by omega)
    rcases (by omega : j = j / 2 * 2 ∨ j = j / 2 * 2 + 1) with e | e
    · rw [e, hb.1] at hj
      have hj := Option.some.inj hj
      rw [e, hcc.1, hj]
    · rw [e, hb.2] at hj
      have hj := Option.some.inj hj
      rw [e, hcc.2, hj]
end Go.Proofs.Ytojgmeonjgfpoaa
