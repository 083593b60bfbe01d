/- hash.Hex walked. Condition: none but the digest's 32 bytes. -/
import Derived.Test.YtncoghoeeefjhaaBuildB
import Derived.Test.YtncoghoeeefjhaaDigS
import Derived.Test.YtncoghoeeefjhaaShelf
import Derived.Laws.Rows
namespace Go.Proofs.Ytncoghoeeefjhaa
open Go.RowKit

def hexS (l : List UInt8) : List UInt8 := l.flatMap fun b => [at8 digsL (b.toNat / 16), at8 digsL (b.toNat % 16)]
theorem hexS_length (l : List UInt8) : (hexS l).length = 2 * l.length := by
  induction l with
  | nil => rfl
  | cons a l ih => simp only [hexS, List.flatMap_cons, List.length_append, List.length_cons, List.length_nil] at ih ⊢; omega
theorem hexS_take (l : List UInt8) (k : Nat) (h : k < l.length) : hexS (l.take (k + 1)) = hexS (l.take k) ++ [at8 digsL ((at8 l k).toNat / 16), at8 digsL ((at8 l k).toNat % 16)] := by
  unfold hexS
  rw [List.take_succ_eq_append_getElem h, List.flatMap_append]
  congr 1
  simp [at8, List.getD_eq_getElem?_getD, List.getElem?_eq_getElem h]
theorem index_byte (L : List UInt8) (k : Nat) (hk : k < 32) (hL : L.length = 32) (w : World) : (Instr.index 85 (.agg (c8 L)) (.int .i64 (k : Int))).run Try.prog w = .ok (.int .u8 (at8 L k).toNat) w := by
  have h1 := c8_at L k (by omega)
  simp [Instr.index, asIntOf, go_sem, part, hk, h1]

theorem and15 (x : UInt8) : bits .and .u8 (x.toNat : Int) 15 = ((x.toNat % 16 : Nat) : Int) := by
  have h : ∀ y : Fin 256, bits .and .u8 (y.val : Int) 15 = ((y.val % 16 : Nat) : Int) := by decide +kernel
  exact h ⟨x.toNat, x.toNat_lt⟩

set_option maxRecDepth 100000 in
set_option maxHeartbeats 4000000 in
theorem hhex_any (d : List UInt8) (w : World) (hd : d.length = 32) :
    Calls Try.prog 46 #[.agg (c8 d)] w fun e w' => e = .returned (.string ⟨(hexS d).toArray⟩) ∧ Below w.heap.size w w' := by
  go_enter Try.func46, Try.ntmps46
  have hid : (Try.prog.info? 85).map (·.size) = some (c8 d).size := by rw [c8_size, hd]; kernel_rfl
  have hD := (Blk.new w 85 (c8 d)).alloc (.cells #[.pointer none, .slice none 0 0] 121)
  have hI : IsB w.heap.size (w.heap.size + 1) [] ((w.alloc (.cells (c8 d) 85)).alloc (.cells #[.pointer none, .slice none 0 0] 121)) := by
    have := isB_fresh w.heap.size (w.alloc (.cells (c8 d) 85)) (by simp)
    rw [World.size_alloc] at this
    exact this
  have hb := ((Below.refl w.heap.size w).alloc (Nat.le_refl _) (.cells (c8 d) 85)).alloc (by simp) (.cells #[.pointer none, .slice none 0 0] 121)
  go_wp2_with (refine wpList_load_row rfl 85 _ rfl w.heap.size rfl 85 (c8 d) (0, 0) _ hD Try.underlying85 rfl hid ?_)
  go_loopw [7] (fun i wr => ∃ k : Nat, i = .int .i64 k ∧ k ≤ 32 ∧ IsB w.heap.size (w.heap.size + 1) (Lib.byteCells (hexS (d.take k))) wr ∧ Below w.heap.size w wr)
    (fun i _ => 32 - (intOf i).toNat)
  case atStart => exact ⟨0, rfl, by omega, hI, hb⟩
  case round =>
    clear hD hI hb
    obtain ⟨k, rfl, hk, hI, hb⟩ := hrel
    by_cases hlt : k < 32
    · have i1 : (0 : Int) ≤ (k : Int) := by omega
      have i2 : (k : Int) < 32 := by omega
      have hix := index_byte d k hlt hd
      obtain ⟨x, hx⟩ : ∃ x, at8 d k = x := ⟨_, rfl⟩
      rw [hx] at hix
      have hxl := x.toNat_lt
      have x1 : (0 : Int) ≤ (x.toNat : Int) / 16 := by omega
      have x2 : (x.toNat : Int) / 16 < 16 := by omega
      have hl : (Lib.byteCells (hexS (d.take k))).length ≤ 64 := by
        simp [Lib.byteCells, hexS_length]; omega
      go_wp2_with fail
      refine (writeByte_any w.heap.size (w.heap.size + 1) _ _ _ hI (by omega) hb.size).mono ?_
      rintro e w2 ⟨rfl, hA, hb2⟩
      have hbb := hb.trans hb2
      have x3 : bits .and .u8 (x.toNat : Int) 15 = ((x.toNat % 16 : Nat) : Int) := and15 x
      go_wp2_with fail
      refine (writeByte_any w.heap.size (w.heap.size + 1) _ _ _ (.inr hA) (by simp; omega) hbb.size).mono ?_
      rintro e w3 ⟨rfl, hC, hb3⟩
      have hbc := hbb.trans hb3
      rw [at8_get, at8_get] at hC
      have hN : IsB w.heap.size (w.heap.size + 1) (Lib.byteCells (hexS (d.take (k + 1)))) w3 := by
        refine .inr ?_
        rw [hexS_take d k (by omega), hx]
        have e : Lib.byteCells (hexS (d.take k) ++ [at8 digsL (x.toNat / 16), at8 digsL (x.toNat % 16)]) = Lib.byteCells (hexS (d.take k)) ++ [.int .u8 (at8 digsL (x.toNat / 16)).toNat] ++ [.int .u8 (at8 digsL (x.toNat % 16)).toNat] := by
          simp [Lib.byteCells]
        rw [e]
        exact hC
      clear hC hA hI hb hbb hb2 hb3
      go_wp2_with fail
      go_roundw
      case rel => exact ⟨k + 1, by go_num, by omega, hN, hbc⟩
      case measure => simp [intOf]; omega
    · have hk8 : k = 32 := by omega
      have hk9 : ¬ (k : Int) < 32 := by omega
      rw [hk8, List.take_of_length_le (by omega)] at hI
      clear hk8 hlt hk
      go_wp2_with fail
      refine (Try.Builder_String_any w.heap.size (w.heap.size + 1) (hexS d) _ hI hb.size).mono ?_
      rintro e w2 ⟨rfl, hb2⟩
      go_wp2
      go_ret
      exact ⟨rfl, hb.trans hb2⟩
end Go.Proofs.Ytncoghoeeefjhaa
