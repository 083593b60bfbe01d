/- num.length walked: the bytes of a length. Condition: the length is from 0 on and below 2^63. -/
import Derived.Test.YtncoghoeeefjhaaBuild
import Derived.Test.YtncoghoeeefjhaaNumS
import Derived.Maps.AppendAt
namespace Go.Proofs.Ytncoghoeeefjhaa
open Go.RowKit

theorem byteCells_app (l m : List UInt8) : Lib.byteCells (l ++ m) = Lib.byteCells l ++ Lib.byteCells m := by simp [Lib.byteCells]
theorem byteCells_one (b : UInt8) : Lib.byteCells [b] = [Value.int .u8 b.toNat] := by simp [Lib.byteCells]
theorem byteCells_len (l : List UInt8) : (Lib.byteCells l).length = l.length := by simp [Lib.byteCells]
theorem u8_of (n : Nat) (h : n < 256) : ((UInt8.ofNat n).toNat : Int) = (n : Int) := by simp; omega

set_option maxRecDepth 100000 in
set_option maxHeartbeats 1000000 in
theorem length_any (n : Nat) (w : World) (hn : n < 9223372036854775808) :
    Calls Try.prog 135 #[.int .i64 n] w fun e w' => ∃ v, e = .returned v ∧ w'.ownsRow w.heap.size 5 1 v (lenS n).length (Lib.byteCells (lenS n)) ∧ Below w.heap.size w w' := by
  obtain ⟨i0, hi, hz0, hz1, hz2⟩ := info_parts info8
  have hlen := lenS_length n hn
  go_enter Try.func135, Try.ntmps135
  go_wp2
  go_loopw [0, 3] (fun i v wr => ∃ (k : Nat) (acc : List UInt8), i = .int .i64 k ∧ k ≤ n ∧ Hid (lenS n = acc ++ lenS k) ∧ wr.ownsRow w.heap.size 5 1 v acc.length (Lib.byteCells acc) ∧ Below w.heap.size w wr)
    (fun i _ _ => (intOf i).toNat)
  case atStart => exact ⟨n, [], rfl, Nat.le_refl _, Lib.hid rfl, World.ownsRow_nil _ _ _ _, Below.refl _ _⟩
  case round =>
    obtain ⟨k, acc, rfl, hk, hacc, hown, hb⟩ := hrel
    have hk63 : (k : Int) < 9223372036854775808 := by omega
    have hal : acc.length + 1 ≤ 9 := by
      have h1 : (lenS n).length = acc.length + (lenS k).length := by rw [hacc.out]; simp
      have := lenS_length_pos k
      omega
    have hsz := hb.size
    by_cases hge : 128 ≤ k
    · have hge' : (128 : Int) ≤ (k : Int) := by omega
      go_wp2_with (at_builtin; refine wpList_append_own _ rfl _ _ 61 rfl w.heap.size 5 i0 (.int .u8 0) 1 1 Try.underlying61 hi hz0 hz1 hz2 rfl (by decide) _ _ _ rfl (hown.alloc _) ⟨wr.heap.size, 0, none⟩ 1 1 _ rfl rfl (cell_one_new _ _ _) (by simp [Value.oneCell']) (by unfold maxLen; omega) (by omega) (by simp; omega) ?_)
      intro v' w2 hown' hgrow _
      have hb2 : Below w.heap.size w w2 := (hb.alloc (by omega) _).grown hgrow (by simp; omega) (fun k hk => (hown.lt k hk).1)
      go_wp2
      go_roundw
      case rel =>
        refine ⟨k / 128, acc ++ [UInt8.ofNat (k % 128 + 128)], by go_num, by omega, ?_, ?_, hb2⟩
        · exact Lib.hid (by rw [hacc.out, lenS_ge hge]; simp)
        · rw [byteCells_app, byteCells_one, u8_of _ (by omega), List.length_append]
          have e : (((k : Int) % 128 + 128) % 256) = ((k % 128 + 128 : Nat) : Int) := by omega
          simpa [e] using hown'
      case measure => simp [intOf]; omega
    · have hge' : (k : Int) < 128 := by omega
      clear hk63 hn hk
      go_wp2_with (at_builtin; refine wpList_append_own _ rfl _ _ 61 rfl w.heap.size 5 i0 (.int .u8 0) 1 1 Try.underlying61 hi hz0 hz1 hz2 rfl (by decide) _ _ _ rfl (hown.alloc _) ⟨wr.heap.size, 0, none⟩ 1 1 _ rfl rfl (cell_one_new _ _ _) (by simp [Value.oneCell']) (by unfold maxLen; omega) (by omega) (by simp; omega) ?_)
      intro v' w2 hown' hgrow _
      have hb2 : Below w.heap.size w w2 := (hb.alloc (by omega) _).grown hgrow (by simp; omega) (fun k hk => (hown.lt k hk).1)
      go_wp2
      go_ret
      refine ⟨_, rfl, ?_, hb2⟩
      rw [hacc.out, lenS_lt (by omega), byteCells_app, byteCells_one, u8_of _ (by omega), List.length_append]
      have e : ((k : Int) % 256) = (k : Int) := by omega
      simpa [e] using hown'
end Go.Proofs.Ytncoghoeeefjhaa
