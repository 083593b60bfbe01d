/- Three shares in one row (the program's '[]api.Share{x, y, z}'). Condition: each share has its 33 bytes. -/
import Derived.Test.YtojgmeonjgfpoaaShB
namespace Go.Proofs.Ytojgmeonjgfpoaa
open Go.RowKit

theorem fold_put : ∀ (S : List Value) (n o : Nat) (cs : List Value), o + n + S.length ≤ cs.length →
    (S.zipIdx n).foldl (fun (A : Array Value) (x : Value × Nat) => A.setIfInBounds (o + x.2) x.1) cs.toArray = (cs.take (o + n) ++ S ++ cs.drop (o + n + S.length)).toArray
  | [], n, o, cs, _ => by simp
  | v :: S, n, o, cs, h => by
    simp only [List.length_cons] at h
    rw [List.zipIdx_cons, List.foldl_cons, List.setIfInBounds_toArray, fold_put S (n + 1) o _ (by rw [List.length_set]; omega)]
    congr 1
    have h1 : (cs.set (o + n) v).take (o + (n + 1)) = cs.take (o + n) ++ [v] := by
      rw [show o + (n + 1) = (o + n) + 1 by omega, List.take_succ_eq_append_getElem (by rw [List.length_set]; omega), List.take_set_of_le (by omega), List.getElem_set_self]
    have h2 : (cs.set (o + n) v).drop (o + (n + 1) + S.length) = cs.drop (o + n + (v :: S).length) := by
      rw [List.drop_set_of_lt (by omega), List.length_cons]
      congr 1
      omega
    rw [h1, h2]
    simp
theorem c8_list (l : List UInt8) : c8 l = (l.map fun b => Value.int .u8 b.toNat).toArray := rfl
theorem fill_step (T : List Value) (v : Value) (hv : v.cells = T.toArray) (hT : T.length = 33) (i : Nat) (cs : List Value) (hc : i * 33 + 33 ≤ cs.length) (rest : List (Nat × Value)) :
    Instr.fill (fun i => some (i * 33, 33)) cs.toArray ((i, v) :: rest) = Instr.fill (fun i => some (i * 33, 33)) (cs.take (i * 33) ++ T ++ cs.drop (i * 33 + 33)).toArray rest := by
  have f := fold_put T 0 (i * 33) cs (by omega)
  rw [Nat.add_zero, hT] at f
  have g : T.toArray.zipIdx.foldl (fun (cs : Array Value) (x : Value × Nat) => cs.setIfInBounds (i * 33 + x.2) x.1) cs.toArray = (cs.take (i * 33) ++ T ++ cs.drop (i * 33 + 33)).toArray := by
    rw [← f]; simp
  rw [Instr.fill]
  simp only [hv, List.size_toArray, hT]
  rw [if_neg (by simp; omega)]
  rw [← g]
theorem fill_three (S1 S2 S3 : List UInt8) (Z : List Value) (h1 : S1.length = 33) (h2 : S2.length = 33) (h3 : S3.length = 33) (hZ : Z.length = 99) :
    Instr.fill (fun i => some (i * 33, 33)) Z.toArray [(0, .agg (c8 S1)), (1, .agg (c8 S2)), (2, .agg (c8 S3))] = some (c8 (S1 ++ S2 ++ S3)) := by
  obtain ⟨T1, e1⟩ : ∃ T, (S1.map fun b => Value.int .u8 b.toNat) = T := ⟨_, rfl⟩
  obtain ⟨T2, e2⟩ : ∃ T, (S2.map fun b => Value.int .u8 b.toNat) = T := ⟨_, rfl⟩
  obtain ⟨T3, e3⟩ : ∃ T, (S3.map fun b => Value.int .u8 b.toNat) = T := ⟨_, rfl⟩
  have l1 : T1.length = 33 := by rw [← e1, List.length_map, h1]
  have l2 : T2.length = 33 := by rw [← e2, List.length_map, h2]
  have l3 : T3.length = 33 := by rw [← e3, List.length_map, h3]
  have c1 : ((Value.agg (c8 S1)).cells) = T1.toArray := by rw [← e1]; rfl
  have c2 : ((Value.agg (c8 S2)).cells) = T2.toArray := by rw [← e2]; rfl
  have c3 : ((Value.agg (c8 S3)).cells) = T3.toArray := by rw [← e3]; rfl
  have r : c8 (S1 ++ S2 ++ S3) = (T1 ++ T2 ++ T3).toArray := by rw [c8_list, List.map_append, List.map_append, e1, e2, e3]
  rw [r, fill_step T1 _ c1 l1 0 Z (by omega), fill_step T2 _ c2 l2 1 _ (by simp [l1]; omega), fill_step T3 _ c3 l3 2 _ (by simp [l1, l2]; omega)]
  rw [Instr.fill]
  congr 2
  simp [List.take_append, List.drop_append, l1, l2]
  rw [List.take_of_length_le (show T1.length ≤ 66 by omega), List.drop_of_length_le (show T1.length ≤ 99 by omega), List.drop_of_length_le (show T2.length ≤ 66 by omega), List.drop_of_length_le (show Z.length ≤ 99 by omega)]
  simp
/-- three shares in one row -/
theorem build_three (S1 S2 S3 : List UInt8) (h1 : S1.length = 33) (h2 : S2.length = 33) (h3 : S3.length = 33) (w : World) :
    (Instr.buildSlice 47 3 #[(0, .agg (c8 S1)), (1, .agg (c8 S2)), (2, .agg (c8 S3))]).run Try.prog w = .ok (.slice (some ⟨w.heap.size, 0, none⟩) 3 3) (w.alloc (.cells (c8 (S1 ++ S2 ++ S3)) 52)) := by
  obtain ⟨i0, hi, hz0, hz1, hz2⟩ := info_parts infoShare
  refine run_buildSlice (P := Try.prog) w 47 52 3 _ _ i0 _ Try.underlying47 hi hz0 (by rw [hz1]; decide) (by rw [hz1]; decide) ?_
  rw [hz1]
  have hl := fill_three S1 S2 S3 ((Array.range (3 * 33)).map ((Value.agg (c8 (List.replicate 33 0))).cells[· % (Value.agg (c8 (List.replicate 33 0))).cells.size]!)).toList h1 h2 h3 (by simp)
  rw [Array.toArray_toList] at hl
  exact hl
end Go.Proofs.Ytojgmeonjgfpoaa
