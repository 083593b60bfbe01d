/- hibernacleref01.Row walked. Condition: the row has at most 2^47 bytes. -/
import Derived.Test.YtncoghoeeefjhaaRefA
namespace Go.Proofs.Ytncoghoeeefjhaa
open Go.RowKit

theorem str_ext {a b : ByteArray} (h : bl a = bl b) : a = b := by
  cases a; cases b
  simp only [bl] at h
  rw [Array.toList_inj.1 h]
theorem str_cat (a b : ByteArray) : bl (a ++ b) = bl a ++ bl b := by simp [bl]
theorem str_of (s : ByteArray) (l : List UInt8) (h : bl s = l) : s = ⟨l.toArray⟩ := str_ext (by rw [h])
theorem size_of (l : List UInt8) : (⟨l.toArray⟩ : ByteArray).size = l.length := by simp [ByteArray.size]

set_option maxRecDepth 100000 in
set_option maxHeartbeats 1000000 in
theorem refrow_any (A : Option Addr) (c : Nat) (ss : List ByteArray) (w : World) (hr : Reads w w.heap.size 1 A ss.length (ss.map Value.string)) (hlen : (rowS (ss.map bl)).length ≤ 140737488355328) (hn : ss.length ≤ 140737488355328) :
    Calls Try.prog 121 #[.slice A ss.length c] w fun e w' => e = .returned (.string ⟨(rowS (ss.map bl)).toArray⟩) ∧ Below w.heap.size w w' := by
  go_enter Try.func121, Try.ntmps121
  go_wp2
  go_loopw [3, 8] (fun b i wr => ∃ k : Nat, i = .int .i64 k ∧ k ≤ ss.length ∧ Hid (b = .string ⟨(rowS ((ss.take k).map bl)).toArray⟩) ∧ Below w.heap.size w wr)
    (fun _ i _ => ss.length - (intOf i).toNat)
  case atStart => exact ⟨0, rfl, Nat.zero_le _, Lib.hid rfl, Below.refl _ _⟩
  case round =>
    obtain ⟨k, rfl, hk, hB, hb⟩ := hrel
    have hB' := hB.out
    have hsz := hb.size
    by_cases hlt : k < ss.length
    · obtain ⟨ad, u, rfl, hadB, hu, hcell⟩ := hr.at_ hlt
      have hu' : u = .string ss[k] := by
        rw [List.getElem?_map, List.getElem?_eq_getElem hlt] at hu
        injection hu with hu; exact hu.symm
      subst hu'
      have hcell' := (hb.cell (p := ad.add k) (by rw [block_add]; exact hadB)).trans hcell
      clear hcell hr
      have hle := rowS_take_le ss (k + 1)
      have hst := rowS_take ss k hlt
      have hlen2 := congrArg List.length hst
      simp only [List.length_append, bl_len] at hlen2
      have HST := Lib.hid hst
      have hsk : ss[k].size ≤ 140737488355328 := by omega
      clear hst
      generalize hs : ss[k] = s at *
      have HS := Lib.hid hs
      clear hs
      generalize hacc : rowS ((ss.take k).map bl) = acc at *
      have HA := Lib.hid hacc
      clear hacc
      have hb63 : (acc.length + (lenS s.size).length + s.size) ≤ 140737488355328 := by omega
      have hc1 : ¬ 9223372036854775807 < (lenS s.size).length + s.size := by omega
      have hc2 : ¬ 9223372036854775807 < acc.length + ((lenS s.size).length + s.size) := by omega
      subst hB'
      clear hlen2 hle hlen hB
      go_wp2_with fail
      refine (reflen_any s.size _ (by omega)).mono ?_
      rintro e w1 ⟨rfl, hb1⟩
      have hbb1 : Below w.heap.size w w1 := hb.trans (hb1.mono hsz)
      go_wp2
      go_roundw
      case rel =>
        refine ⟨k + 1, by go_num, by omega, Lib.hid ?_, hbb1⟩
        rw [HST.out]
        congr 1
        apply str_of
        rw [str_cat, str_cat, bl_of, bl_of, List.append_assoc]
      case measure => simp [intOf]; omega
    · have hkk : k = ss.length := by omega
      rw [hkk, List.take_length] at hB'
      subst hB'
      clear hB hkk hlen
      go_wp2
      go_ret
      exact ⟨rfl, hb⟩
end Go.Proofs.Ytncoghoeeefjhaa
