/- hibernacleref02.Sum walked. Condition: texts of less than 2^46 bytes in all. -/
import Derived.Test.YtojgmeonjgfpoaaR2D
import Derived.Test.YtojgmeonjgfpoaaR2J
import Derived.Test.YtojgmeonjgfpoaaSumA
namespace Go.Proofs.Ytojgmeonjgfpoaa
open Go.RowKit

set_option maxRecDepth 100000 in
set_option maxHeartbeats 4000000 in
theorem rsum_any (A : Option Addr) (c : Nat) (xs : List ByteArray) (w : World) (hr : Reads w w.heap.size 1 A xs.length (xs.map Value.string)) (hN : xs.length ≤ 1000000000)
    (hlen : ((xs.map bl).flatten).length ≤ 70368744177664) :
    Calls Try.prog 30 #[.slice A xs.length c] w fun e w' => e = .returned (.agg (c8 (sumS ((xs.map bl).flatten)))) ∧ Below w.heap.size w w' := by
  have HJ : Hid (∀ wx : World, w.heap.size ≤ wx.heap.size → (∀ i, i < w.heap.size → wx.heap[i]? = w.heap[i]?) → Calls Try.prog 46 #[.slice A xs.length c] wx fun e w' => e = .returned (.string ⟨((xs.map bl).flatten).toArray⟩) ∧ w' = wx) := Lib.hid fun wx hsz hk =>
    joined_any A c xs wx ((hr.keep (fun p hp => World.cell?_of_block (hk p.block hp))).more hsz) (by omega) (by omega)
  have HD : Hid (∀ wx : World, Calls Try.prog 45 #[.agg (c32 sum8), .string ⟨((xs.map bl).flatten).toArray⟩] wx fun e w' => e = .returned (.agg (c8 (sumS ((xs.map bl).flatten)))) ∧ Below wx.heap.size wx w') := Lib.hid fun wx => by
    have := rdigest_any sum8 ⟨((xs.map bl).flatten).toArray⟩ wx rfl (by show (Array.size _) ≤ _; rw [List.size_toArray]; exact hlen)
    exact this
  generalize hS : sumS ((xs.map bl).flatten) = S at *
  generalize hJ : (⟨((xs.map bl).flatten).toArray⟩ : ByteArray) = J at *
  have hSl : S.length = 32 := by rw [← hS]; exact digestS_length _ _
  clear hS hJ hlen hr
  go_enter Try.func30, Try.ntmps30
  have gR := Blk.new w 66 (c8 (List.replicate 32 0))
  have gb := (Below.refl w.heap.size w).alloc (Nat.le_refl _) (.cells (c8 (List.replicate 32 0)) 66)
  go_wp2_with fail
  refine (reight_any _).mono ?_
  rintro e w1 ⟨rfl, hb1⟩
  rw [eight_val]
  have hsz1 : w.heap.size < w1.heap.size := Nat.lt_of_lt_of_le gR.lt hb1.size
  have hx : bits .xor .u32 1779033703 16842784 = 1795745351 := by decide
  go_wp2_with fail
  rw [← sum8_val]
  have hR := ((gR.below hb1 gR.lt).alloc (.cells (c32 sum8) 89)).drew
  have hb := ((gb.trans (hb1.mono (by simp))).alloc (by omega) (.cells (c32 sum8) 89)).drew
  have hH := (Blk.new w1 89 (c32 sum8)).drew
  have hgs : w1.heap.size < (w1.alloc (.cells (c32 sum8) 89)).drew.heap.size := hH.lt
  have HJ2 := Lib.hid (HJ.out (w1.alloc (.cells (c32 sum8) 89)).drew hb.size hb.block)
  refine hand_start (by kernel_rfl) ?_
  generalize (w1.alloc (.cells (c32 sum8) 89)).drew = W at *
  clear gR gb hb1 HJ hx
  have hi8 : (Try.prog.info? 89).map (·.size) = some (c32 sum8).size := by kernel_rfl
  have hi9 : (Try.prog.info? 66).map (·.size) = some (c8 S).size := by rw [c8_size, hSl]; kernel_rfl
  refine hand_take (i := 1) (.slice A xs.length c) rfl rfl (by kernel_rfl) (by kernel_rfl) (by kernel_rfl) (fun _ _ _ h => h) (by intro w; go_simp) ?_
  refine hand_two (i := 0) (j := 2) (by kernel_rfl) rfl rfl rfl rfl (fun K hK => wp_load_row 89 _ rfl w1.heap.size rfl 89 (c32 sum8) (0, 0) _ hH Try.underlying89 rfl hi8 (hK _ _ ?_)) (fun K hK => ?_)
  rotate_left
  · go_simp
    refine HJ2.out.mono ?_
    rintro e w2 ⟨rfl, rfl⟩
    refine hK _ _ ?_
    clear hK K
    refine hand_one (i := 0) (by kernel_rfl) rfl rfl (fun K hK => wp_load_row 89 _ rfl w1.heap.size rfl 89 (c32 sum8) (0, 0) _ hH Try.underlying89 rfl hi8 (hK _ _ ?_))
    refine hand_one (i := 3) (by kernel_rfl) rfl rfl (fun K hK => ?_)
    go_simp
    refine (HD.out _).mono ?_
    rintro e w3 ⟨rfl, hb3⟩
    refine hK _ _ ?_
    clear hK K
    have jR := hR.below hb3 hR.lt
    have jb := hb.trans (hb3.mono (by omega))
    refine hand_one (i := 4) (by kernel_rfl) rfl rfl (fun K hK => wp_store_row 66 _ _ rfl w.heap.size (c8 S) rfl rfl 66 (c8 (List.replicate 32 0)) jR hi9 (by rw [c8_size, c8_size, hSl]; rfl) (c8_one _) (hK _ _ ?_))
    refine wpAny_done (by kernel_rfl) ?_ _
    have nR := jR.row (c8 S)
    go_wp2_with fail
    refine bodyPost_ret (v := .agg (c8 S)) ?_ rfl ?_
    · exact results_cell_row Try.results30 _ _ w.heap.size 66 (c8 S) (0, 0) _ rfl nR Try.underlying66 rfl hi9
    exact ⟨rfl, below_setRow jb (Nat.le_refl _) _⟩
  · refine hand_one (i := 2) (by kernel_rfl) rfl rfl (fun K hK => ?_)
    go_simp
    refine HJ2.out.mono ?_
    rintro e w2 ⟨rfl, rfl⟩
    refine hK _ _ ?_
    clear hK K
    refine hand_one (i := 3) (by kernel_rfl) rfl rfl (fun K hK => ?_)
    go_simp
    refine (HD.out _).mono ?_
    rintro e w3 ⟨rfl, hb3⟩
    refine hK _ _ ?_
    clear hK K
    have jR := hR.below hb3 hR.lt
    have jb := hb.trans (hb3.mono (by omega))
    refine hand_one (i := 4) (by kernel_rfl) rfl rfl (fun K hK => wp_store_row 66 _ _ rfl w.heap.size (c8 S) rfl rfl 66 (c8 (List.replicate 32 0)) jR hi9 (by rw [c8_size, c8_size, hSl]; rfl) (c8_one _) (hK _ _ ?_))
    refine wpAny_done (by kernel_rfl) ?_ _
    have nR := jR.row (c8 S)
    go_wp2_with fail
    refine bodyPost_ret (v := .agg (c8 S)) ?_ rfl ?_
    · exact results_cell_row Try.results30 _ _ w.heap.size 66 (c8 S) (0, 0) _ rfl nR Try.underlying66 rfl hi9
    exact ⟨rfl, below_setRow jb (Nat.le_refl _) _⟩
end Go.Proofs.Ytojgmeonjgfpoaa
