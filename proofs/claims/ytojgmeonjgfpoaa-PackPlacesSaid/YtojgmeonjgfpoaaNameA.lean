/- pack.Name walked. Condition: a text of less than 2^46 bytes. -/
import Derived.Test.YtojgmeonjgfpoaaSumA
import Derived.Test.YtojgmeonjgfpoaaHexA
import Derived.Test.YtojgmeonjgfpoaaRefB
namespace Go.Proofs.Ytojgmeonjgfpoaa
open Go.RowKit

def packB : List UInt8 := [112, 97, 99, 107, 47]
def nameS (b : List UInt8) : List UInt8 := packB ++ hexS (sumS b)
theorem join_one (b : List UInt8) : Lib.join [b] [] = b := by simp [Lib.join]
theorem cat_name (l : List UInt8) : (⟨#[112, 97, 99, 107, 47]⟩ : ByteArray) ++ ⟨l.toArray⟩ = ⟨(packB ++ l).toArray⟩ := str_ext (by rw [str_cat]; rfl)

set_option maxRecDepth 100000 in
set_option maxHeartbeats 4000000 in
theorem name_any (b : ByteArray) (w : World) (hb : b.size ≤ 70368744177664) :
    Calls Try.prog 16 #[.string b] w fun e w' => e = .returned (.string ⟨(nameS (bl b)).toArray⟩) ∧ Below w.heap.size w w' := by
  have HS : Hid (∀ w : World, Calls Try.prog 28 #[.slice (some ⟨w.heap.size, 0, none⟩) 1 1] (w.alloc (.cells #[.string b] 9)) fun e w' => e = .returned (.agg (c8 (sumS (bl b)))) ∧ Below (w.alloc (.cells #[.string b] 9)).heap.size (w.alloc (.cells #[.string b] 9)) w') := Lib.hid fun w => by
    have h := hsum_any w.heap.size 0 1 [b] (w.alloc (.cells #[.string b] 9)) (fun j x hj => by
      match j, hj with
      | 0, hj => 
        injection hj with hj
        subst hj
        exact (Blk.new w 9 #[.string b]).cell 0) (by simp) (by show 1 ≤ _; omega) (Nat.le_refl _) (by rw [List.map_cons, List.map_nil, join_one, Array.length_toList]; exact hb)
    rw [List.map_cons, List.map_nil, join_one] at h
    exact h
  have hl : (hexS (sumS (bl b))).length = 64 := by rw [hexS_length, sumS, digestS_length]
  have HN : Hid (nameS (bl b) = packB ++ hexS (sumS (bl b))) := Lib.hid rfl
  have hH := fun w => hhex_any (sumS (bl b)) w (digestS_length _ _)
  generalize hexS (sumS (bl b)) = X at *
  generalize sumS (bl b) = S at *
  have HH := Lib.hid hH
  clear hH
  go_enter Try.func16, Try.ntmps16
  go_wp2_with fail
  refine (HS.out _).mono ?_
  rintro e w1 ⟨rfl, hb1⟩
  have hc : ¬ 9223372036854775807 < 5 + (⟨X.toArray⟩ : ByteArray).size := by rw [size_of, hl]; decide
  go_wp2_with fail
  refine (HH.out _).mono ?_
  rintro e w2 ⟨rfl, hb2⟩
  go_wp2
  go_ret
  refine ⟨?_, (((Below.refl w.heap.size w).alloc (Nat.le_refl _) _).trans (hb1.mono (by simp))).trans (hb2.mono (by have := hb1.size; simp at this; omega))⟩
  rw [HN.out, cat_name]
  rfl
end Go.Proofs.Ytojgmeonjgfpoaa
