/- hibernacleref02.joined walked. Condition: at most 2^46 bytes in all. -/
import Derived.Test.YtncoghoeeefjhaaRefB
import Derived.Lib.Join
namespace Go.Proofs.Ytncoghoeeefjhaa
open Go.RowKit

theorem join_flat : ∀ xs : List (List UInt8), Lib.join xs [] = xs.flatten
  | [] => rfl
  | [x] => by simp [Lib.join, List.intercalate]
  | x :: y :: r => by
    have := join_flat (y :: r)
    simp only [Lib.join, List.intercalate] at this ⊢
    simp [List.intersperse] at this ⊢
    exact this
theorem cat_take (ss : List ByteArray) (k : Nat) (h : k < ss.length) : ((ss.take (k + 1)).map bl).flatten = ((ss.take k).map bl).flatten ++ bl ss[k] := by
  rw [List.take_succ_eq_append_getElem h, List.map_append, List.flatten_append]
  simp
theorem cat_take_le (ss : List ByteArray) (k : Nat) : ((ss.take k).map bl).flatten.length ≤ ((ss.map bl).flatten).length := by
  have h : (ss.map bl).flatten = ((ss.take k).map bl).flatten ++ ((ss.drop k).map bl).flatten := by
    rw [← List.flatten_append, ← List.map_append, List.take_append_drop]
  rw [h, List.length_append]; omega

set_option maxRecDepth 100000 in
set_option maxHeartbeats 1000000 in
theorem joined_any (A : Option Addr) (c : Nat) (ss : List ByteArray) (w : World) (hr : Reads w w.heap.size 1 A ss.length (ss.map Value.string)) (hlen : ((ss.map bl).flatten).length ≤ 140737488355328) (hn : ss.length ≤ 140737488355328) :
    Calls Try.prog 100 #[.slice A ss.length c] w fun e w' => e = .returned (.string ⟨((ss.map bl).flatten).toArray⟩) ∧ w' = w := by
  go_enter Try.func100, Try.ntmps100
  go_wp2
  go_loopw [3, 4] (fun b i wr => ∃ k : Nat, i = .int .i64 k ∧ k ≤ ss.length ∧ Hid (b = .string ⟨(((ss.take k).map bl).flatten).toArray⟩) ∧ wr = w)
    (fun _ i _ => ss.length - (intOf i).toNat)
  case atStart => exact ⟨0, rfl, Nat.zero_le _, Lib.hid rfl, rfl⟩
  case round =>
    obtain ⟨k, rfl, hk, hB, rfl⟩ := hrel
    have hB' := hB.out
    by_cases hlt : k < ss.length
    · obtain ⟨ad, u, rfl, hadB, hu, hcell⟩ := hr.at_ hlt
      have hu' : u = .string ss[k] := by
        rw [List.getElem?_map, List.getElem?_eq_getElem hlt] at hu
        injection hu with hu; exact hu.symm
      subst hu'
      have hle := cat_take_le ss (k + 1)
      have hst := cat_take ss k hlt
      have hlen2 := congrArg List.length hst
      simp only [List.length_append, bl_len] at hlen2
      have HST := Lib.hid hst
      clear hst
      have wk : IntKind.i64.wrap ((k : Int) + 1) = (k : Int) + 1 := IntWalk.i64_in _ (by omega)
      generalize hs : ss[k] = s at *
      generalize hacc : ((ss.take k).map bl).flatten = acc at *
      have hc2 : ¬ 9223372036854775807 < acc.length + s.size := by omega
      subst hB'
      clear hlen2 hle hlen hB hs hacc
      go_wp2_with fail
      go_roundw
      case rel =>
        refine ⟨k + 1, by go_num, by omega, Lib.hid ?_, by first | trivial | rfl⟩
        rw [HST.out]
        exact congrArg Value.string (str_of _ _ (by rw [str_cat]))
      case measure => simp [intOf]; omega
    · have hkk : k = ss.length := by omega
      rw [hkk, List.take_length] at hB'
      subst hB'
      clear hB hkk hlen
      go_wp2
      go_ret
      exact ⟨rfl, rfl⟩
end Go.Proofs.Ytncoghoeeefjhaa
