/- num.Row walked. Condition: the row has at most 2^47 bytes. -/
import Derived.Test.YtncoghoeeefjhaaNumA
import Derived.Test.YtncoghoeeefjhaaStr
import Derived.Test.YtncoghoeeefjhaaShelf
namespace Go.Proofs.Ytncoghoeeefjhaa
open Go.RowKit


theorem rowS_take (ss : List ByteArray) (k : Nat) (h : k < ss.length) :
    rowS ((ss.take (k + 1)).map bl) = rowS ((ss.take k).map bl) ++ lenS ss[k].size ++ bl ss[k] := by
  rw [List.take_succ_eq_append_getElem h, List.map_append, rowS_append, List.map_cons, List.map_nil, rowS_one, bl_len, List.append_assoc]
theorem rowS_take_le (ss : List ByteArray) (k : Nat) : (rowS ((ss.take k).map bl)).length ≤ (rowS (ss.map bl)).length := by
  conv => rhs; rw [← List.take_append_drop k ss, List.map_append, rowS_append, List.length_append]
  omega

set_option maxRecDepth 100000 in
set_option maxHeartbeats 1000000 in
theorem row_any (A : Option Addr) (c : Nat) (ss : List ByteArray) (w : World) (hr : Reads w w.heap.size 1 A ss.length (ss.map Value.string)) (hlen : (rowS (ss.map bl)).length ≤ 140737488355328) (hn : ss.length ≤ 140737488355328) :
    Calls Try.prog 119 #[.slice A ss.length c] w fun e w' => e = .returned (.string ⟨(rowS (ss.map bl)).toArray⟩) ∧ Below w.heap.size w w' := by
  go_enter Try.func119, Try.ntmps119
  go_wp2
  have hB0 : IsB w.heap.size w.heap.size (Lib.byteCells (rowS ((ss.take 0).map bl))) (w.alloc (.cells #[.pointer none, .slice none 0 0] 121)) := by
    simpa [rowS_nil, Lib.byteCells] using Lib.fresh_isBuilder 121 5 w
  go_loopw [8] (fun i wr => ∃ k : Nat, i = .int .i64 k ∧ k ≤ ss.length ∧ IsB w.heap.size w.heap.size (Lib.byteCells (rowS ((ss.take k).map bl))) wr ∧ Below w.heap.size w wr)
    (fun i _ => ss.length - (intOf i).toNat)
  case atStart => exact ⟨0, rfl, Nat.zero_le _, hB0, (Below.refl _ _).alloc (Nat.le_refl _) _⟩
  case round =>
    obtain ⟨k, rfl, hk, hB, hb⟩ := hrel
    have hsz := hb.size
    by_cases hlt : k < ss.length
    · obtain ⟨ad, u, rfl, hadB, hu, hcell⟩ := hr.at_ hlt
      have hu' : u = .string ss[k] := by
        rw [List.getElem?_map, List.getElem?_eq_getElem hlt] at hu
        injection hu with hu; exact hu.symm
      subst hu'
      have hcell' := (hb.cell (p := ad.add k) (by rw [block_add]; exact hadB)).trans hcell
      clear hcell hr
      have hle := rowS_take_le ss (k + 1)
      have hst := rowS_take ss k hlt
      have hlen2 := congrArg List.length hst
      simp only [List.length_append, bl_len] at hlen2
      have HST := Lib.hid hst
      have hsk : ss[k].size ≤ 140737488355328 := by omega
      clear hst
      generalize hs : ss[k] = s at *
      have HS := Lib.hid hs
      clear hs
      generalize hacc : rowS ((ss.take k).map bl) = acc at *
      have HA := Lib.hid hacc
      clear hacc
      have hb63 : (acc.length + (lenS s.size).length + s.size) ≤ 140737488355328 := by omega
      clear hlen2 hle hlen
      go_wp2_with fail
      refine (length_any s.size _ (by omega)).mono ?_
      rintro e w1 ⟨v, rfl, hown, hb1⟩
      obtain ⟨g, cv, rfl, _, hg1, hg2, hcells⟩ := own_addr hown (by have := lenS_length_pos s.size; omega)
      have hlt1 := isB_lt hB
      have hB1 : IsB w.heap.size w.heap.size (Lib.byteCells acc) w1 := isB_kept hB (only_of_below hb1 none)
      have hbb1 : Below w.heap.size w w1 := hb.trans (hb1.mono hsz)
      clear hown hB
      go_wp2_with fail
      refine (write_any w.heap.size w.heap.size _ _ _ _ _ w1 hB1 (byteCells_len _) hcells (by simp; omega) hg2 (by intro u hu; simp [Lib.byteCells] at hu; obtain ⟨_, _, rfl⟩ := hu; rfl) (by rw [byteCells_len]; omega) (by omega)).mono ?_
      rintro e w2 ⟨rfl, hB2, hb2⟩
      rw [← byteCells_app] at hB2
      have hbb2 : Below w.heap.size w w2 := hbb1.trans hb2
      clear hB1 hcells
      have hsz2 := hbb2.size
      go_wp2_with fail
      refine (writeString_any w.heap.size w.heap.size _ s w2 (.inr hB2) (by rw [byteCells_len, List.length_append]; omega) (by omega)).mono ?_
      rintro e w3 ⟨rfl, hB3, hb3⟩
      rw [strCells_eq, ← byteCells_app] at hB3
      have hbb3 : Below w.heap.size w w3 := hbb2.trans hb3
      clear hB2
      go_wp2_with fail
      go_roundw
      case rel =>
        refine ⟨k + 1, by go_num, by omega, ?_, hbb3⟩
        rw [HST.out]
        exact .inr hB3
      case measure => simp [intOf]; omega
    · have hkk : k = ss.length := by omega
      have hB' : IsB w.heap.size w.heap.size (Lib.byteCells (rowS (ss.map bl))) wr := by rw [hkk, List.take_length] at hB; exact hB
      clear hB hkk
      have hF : Lib.IsBuilderF 121 5 w.heap.size w.heap.size (Lib.byteCells (rowS (ss.map bl))) wr := Lib.IsBuilderF.of hB'
      go_wp2_with fail
      refine (Try.Builder_String_any_f w.heap.size w.heap.size (rowS (ss.map bl)) wr hF hsz).mono ?_
      rintro e w1 ⟨rfl, _, hb1⟩
      go_wp2
      go_ret
      exact ⟨rfl, hb.trans hb1⟩
end Go.Proofs.Ytncoghoeeefjhaa
