/- A text's bytes: small facts. No condition. -/
import Derived.WalkKit
import Derived.Lib.Strings
import Derived.Lib.IndexBytes
import Derived.Lib.AppendStr
import Derived.Lib.UnsafeStr
namespace Go.Proofs.Ytncoghoeeefjhaa
open Go.RowKit

/-- a text's bytes -/
abbrev bl (s : ByteArray) : List UInt8 := s.data.toList
theorem strCells_eq (s : ByteArray) : Lib.strCells s = Lib.byteCells (bl s) := by simp [Lib.strCells, Lib.byteCells]
theorem bl_len (s : ByteArray) : (bl s).length = s.size := by simp [bl]
theorem str_ne_true {r : ByteArray} {l : List UInt8} (h : bl r ≠ l) : (!r.toList == l) = true := by
  rw [ByteArray.toList_eq]; simpa using h
theorem str_ne_false {r : ByteArray} {l : List UInt8} (h : bl r = l) : (!r.toList == l) = false := by
  rw [ByteArray.toList_eq]; simpa using h
theorem str_eq_true {r : ByteArray} {l : List UInt8} (h : bl r = l) : (r.toList == l) = true := by
  rw [ByteArray.toList_eq]; simpa using h
theorem str_eq_false {r : ByteArray} {l : List UInt8} (h : bl r ≠ l) : (r.toList == l) = false := by
  rw [ByteArray.toList_eq]; simpa using h
theorem drop_at (s : ByteArray) (k : Nat) (h : k < s.size) : (bl s).drop k = s[k] :: (bl s).drop (k + 1) := by
  rw [List.drop_eq_getElem_cons (by simpa [bl] using h)]
  rfl

theorem bl_extract (s : ByteArray) (i j : Nat) : bl (s.extract i j) = ((bl s).drop i).take (j - i) := by
  exact Lib.extract_data s i j
theorem bl_of (l : List UInt8) : bl ⟨l.toArray⟩ = l := by simp [bl]
def strLen : Value → Nat | .string x => x.size | _ => 0
theorem nonempty_false (s : ByteArray) (h : s.size = 0) : (!s.toList.isEmpty) = false := by
  have : s.data.toList = [] := (List.length_eq_zero_iff).1 (by simpa using h)
  simp [ByteArray.toList_eq, this]
theorem nonempty_true (s : ByteArray) (h : s.size ≠ 0) : (!s.toList.isEmpty) = true := by
  have : s.data.toList ≠ [] := fun e => h (by have := congrArg List.length e; simpa using this)
  simp only [ByteArray.toList_eq, Bool.not_eq_true', List.isEmpty_eq_false_iff]; exact this
theorem bl_nil (s : ByteArray) : bl s = [] ↔ s.size = 0 := by rw [← List.length_eq_zero_iff, bl_len]
end Go.Proofs.Ytncoghoeeefjhaa
