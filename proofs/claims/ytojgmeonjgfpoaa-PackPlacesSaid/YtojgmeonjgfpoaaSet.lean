/- A set of texts that the call itself made: map[string]bool, true for each text that is in it. Condition: texts and their number within the model's greatest length. -/
import Derived.Test.YtojgmeonjgfpoaaProg
import Derived.Test.YtojgmeonjgfpoaaMem
import Derived.Maps.Own
import Derived.StringKeys
import Derived.Maps.OwnOps
import Derived.Maps.Views
namespace Go.Proofs.Ytojgmeonjgfpoaa
open Go.RowKit
open Go.Maps Go.WideMaps

abbrev DU := DataW Unit
theorem strKey : Keyed Try.prog 9 := string_keyed Try.underlying9

/-- block M is a set of just these texts -/
def SetAt (w : World) (M : Nat) (seen : List (List UInt8)) : Prop :=
  ∃ (D : DU) (n : Nat), w.ownsMap Try.prog 9 (plainElem Try.prog 4) M n D ∧ n ≤ seen.length ∧ IsMap D ∧
    ∀ s : ByteArray, D.atKey (.string s.data.toList) (.lit (.bool false)) = .lit (.bool (decide (s.data.toList ∈ seen)))

theorem set_made (w : World) : SetAt (w.alloc (.map #[] 0)) w.heap.size [] :=
  ⟨.map [], 0, World.ownsMap_made w _ _ _, Nat.le_refl _, ⟨_, rfl⟩, fun s => by simp [DataW.atKey]⟩

theorem set_kept {w w' : World} {M : Nat} {seen : List (List UInt8)} {row : Option Nat} (h : SetAt w M seen) (hg : w.grownBy w' row) (hne : some M ≠ row) : SetAt w' M seen := by
  obtain ⟨D, n, hown, hn, hm, hat⟩ := h
  exact ⟨D, n, hown.kept hg hne, hn, hm, hat⟩
theorem set_lt {w : World} {M : Nat} {seen : List (List UInt8)} (h : SetAt w M seen) : M < w.heap.size := by
  obtain ⟨D, n, hown, _⟩ := h
  exact hown.lt

theorem own_ne_set {w : World} {M : Nat} {seen : List (List UInt8)} (h : SetAt w M seen) {base : Nat} {e : TypeId} {size n : Nat} {v : Value} {xs : List Value} (ho : w.ownsRow base e size v n xs) : v.ownBlock ≠ some M := by
  obtain ⟨D, m, ⟨es, clock, hb, _⟩, _⟩ := h
  rcases ho.2 with ⟨rfl, _⟩ | ⟨g, cap, cur, rfl, _, hh, _⟩
  · simp [Value.ownBlock]
  · intro he
    have : g = M := by simpa [Value.ownBlock] using he
    subst this
    rw [hb] at hh
    cases hh

theorem zeroBool (w : World) : (zeroValue 4).run Try.prog w = .ok (.bool false) w := by kernel_rfl

set_option maxRecDepth 100000 in
/-- is a text in it? -/
theorem set_look {w : World} {M : Nat} {seen : List (List UInt8)} (h : SetAt w M seen) (s : ByteArray) (hs : s.size ≤ maxLen) :
    (Instr.lookup 57 (.map (some M)) (.string s) false).run Try.prog w = .ok (.bool (decide (s.data.toList ∈ seen))) w := by
  obtain ⟨D, n, hown, hn, hm, hat⟩ := h
  obtain ⟨v, ps, hrun, hv⟩ := hown.lookup strKey Try.underlying57 (zeroBool w) (plainElem_bool Try.underlying4 false) (keyOf_string_mk (s := s) Try.underlying9 hs)
  rw [hat s] at hv
  rw [hrun]
  have hb : v = .bool (decide (s.data.toList ∈ seen)) := by
    unfold plainElem at hv
    rw [Try.underlying4] at hv
    cases v <;> simp at hv
    obtain ⟨rfl, _⟩ := hv
    rfl
  rw [hb]

set_option maxRecDepth 100000 in
theorem wpList_set_look (w : World) {ops : Array Oper} {rest : List Oper} {o : Oper} {a : Act} {Q : Exit → Act → World → Prop}
    (hg : o.guard = none) (m x : Operand) (hop : o.op = Op.lookup 57 m x false) {M : Nat} {seen : List (List UInt8)} (h : SetAt w M seen) (s : ByteArray) (hs : s.size ≤ maxLen)
    (hm : a.eval m = .map (some M)) (hx : a.eval x = .string s)
    (hK : wpList Try.prog ops Q rest (a.put o.dst (.bool (decide (s.data.toList ∈ seen)))) w) :
    wpList Try.prog ops Q (o :: rest) a w := by
  refine wpList_plain hg fun K' hK' => ?_
  unfold Oper.wp
  simp [execOp, hop, hm, hx, set_look h s hs, Result.andThen]
  exact hK' _ _ hK

/-- a text more -/
theorem wpList_set_put (w : World) {ops : Array Oper} {rest : List Oper} {o : Oper} {a : Act} {Q : Exit → Act → World → Prop}
    (hg : o.guard = none) (m x v : Operand) (hop : o.op = Op.mapUpdate 57 m x v) {M : Nat} {seen : List (List UInt8)} (h : SetAt w M seen) (s : ByteArray) (hs : s.size ≤ maxLen) (hl : seen.length < maxLen)
    (hm : a.eval m = .map (some M)) (hx : a.eval x = .string s) (hv : a.eval v = .bool true)
    (hK : ∀ w', SetAt w' M (s.data.toList :: seen) → w.grownBy w' (some M) → wpList Try.prog ops Q rest (a.put o.dst undef) w') :
    wpList Try.prog ops Q (o :: rest) a w := by
  obtain ⟨D, n, hown, hn, hmap, hat⟩ := h
  refine wpList_mapUpdate_own w hg m x v 57 hop 9 4 strKey Try.underlying57 _ M n D hm hown (by omega) _ _ _ hx hv (keyOf_string_mk (s := s) Try.underlying9 hs) _ [] (plainElem_bool Try.underlying4 true) ?_
  intro w' hown' hgrow
  refine hK w' ⟨_, n + 1, hown', by simp; omega, ?_, ?_⟩ hgrow
  · obtain ⟨es, rfl⟩ := hmap
    exact ⟨_, rfl⟩
  · intro t
    by_cases ht : t.data.toList = s.data.toList
    · rw [ht, atKey_put_same hmap (by trivial)]
      simp
    · rw [atKey_put_other (fun e => ht (by injection e)), hat t]
      simp [ht]
end Go.Proofs.Ytojgmeonjgfpoaa
