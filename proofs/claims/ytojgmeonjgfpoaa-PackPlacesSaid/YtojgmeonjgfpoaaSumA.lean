/- hash.Sum walked. Condition: texts of less than 2^46 bytes in all. -/
import Derived.Test.YtojgmeonjgfpoaaDigA
namespace Go.Proofs.Ytojgmeonjgfpoaa
open Go.RowKit
attribute [local go_sem] w_xor32

def sum8 : List UInt32 := [0x6b08e647, 0xbb67ae85, 0x3c6ef372, 0xa54ff53a, 0x510e527f, 0x9b05688c, 0x1f83d9ab, 0x5be0cd19]
def sumS (s : List UInt8) : List UInt8 := digestS sum8 s

theorem sum8_val : c32 sum8 = #[.int .u32 1795745351, .int .u32 3144134277, .int .u32 1013904242, .int .u32 2773480762, .int .u32 1359893119, .int .u32 2600822924, .int .u32 528734635, .int .u32 1541459225] := by kernel_rfl

set_option maxRecDepth 100000 in
set_option maxHeartbeats 4000000 in
theorem hsum_any (bk o c : Nat) (xs : List ByteArray) (w : World) (hcells : ∀ (j : Nat) x, xs[j]? = some x → w.cell? ⟨bk, o + j, none⟩ = some (.string x)) (hbk : bk < w.heap.size) (hN : xs.length ≤ 1000000000) (hcap : xs.length ≤ c)
    (hlen : (Lib.join (xs.map bl) []).length ≤ 70368744177664) :
    Calls Try.prog 28 #[.slice (some ⟨bk, o, none⟩) xs.length c] w fun e w' => e = .returned (.agg (c8 (sumS (Lib.join (xs.map bl) [])))) ∧ Below w.heap.size w w' := by
  have HJ : Hid (∀ wx : World, w.heap.size ≤ wx.heap.size → (∀ i, i < w.heap.size → wx.heap[i]? = w.heap[i]?) → Calls Try.prog 43 #[.slice (some ⟨bk, o, none⟩) xs.length c, .string ⟨#[]⟩] wx fun e w' => e = .returned (.string ⟨(Lib.join (xs.map bl) []).toArray⟩) ∧ Below wx.heap.size wx w') := Lib.hid fun wx hsz hk =>
    Try.strings_Join bk o c xs ⟨#[]⟩ wx (fun j x hj => (World.cell?_of_block (w := w) (a := ⟨bk, o + j, none⟩) (hk bk hbk)).trans (hcells j x hj)) (by omega) (by omega) hcap (by show (Lib.join (xs.map bl) []).length ≤ _; omega)
  have HD : Hid (∀ wx : World, Calls Try.prog 42 #[.agg (c32 sum8), .string ⟨(Lib.join (xs.map bl) []).toArray⟩] wx fun e w' => e = .returned (.agg (c8 (sumS (Lib.join (xs.map bl) [])))) ∧ Below wx.heap.size wx w') := Lib.hid fun wx => by
    have := hdigest_any sum8 ⟨(Lib.join (xs.map bl) []).toArray⟩ wx rfl (by show (Array.size _) ≤ _; rw [List.size_toArray]; exact hlen)
    exact this
  generalize hS : sumS (Lib.join (xs.map bl) []) = S at *
  generalize hJ : (⟨(Lib.join (xs.map bl) []).toArray⟩ : ByteArray) = J at *
  have hSl : S.length = 32 := by rw [← hS]; exact digestS_length _ _
  clear hS hJ hcells hlen
  go_enter Try.func28, Try.ntmps28
  have gR := Blk.new w 66 (c8 (List.replicate 32 0))
  have gb := (Below.refl w.heap.size w).alloc (Nat.le_refl _) (.cells (c8 (List.replicate 32 0)) 66)
  go_wp2_with fail
  refine (eight_any _).mono ?_
  rintro e w1 ⟨rfl, hb1⟩
  rw [eight_val]
  have hR := (gR.below hb1 gR.lt).alloc (.cells (c32 eightS) 89)
  have hsz1 : w.heap.size < w1.heap.size := Nat.lt_of_lt_of_le gR.lt hb1.size
  have hb := (gb.trans (hb1.mono (by simp))).alloc (by omega) (.cells (c32 eightS) 89)
  have hH := Blk.new w1 89 (c32 eightS)
  have hx : bits .xor .u32 1779033703 16842784 = 1795745351 := by decide
  clear hR hb hH
  go_wp2_with fail
  rw [← sum8_val]
  have hR := ((gR.below hb1 gR.lt).alloc (.cells (c32 sum8) 89)).drew
  have hb := ((gb.trans (hb1.mono (by simp))).alloc (by omega) (.cells (c32 sum8) 89)).drew
  have hH := (Blk.new w1 89 (c32 sum8)).drew
  have hgs : w1.heap.size < (w1.alloc (.cells (c32 sum8) 89)).drew.heap.size := hH.lt
  have HJ2 := Lib.hid (HJ.out (w1.alloc (.cells (c32 sum8) 89)).drew hb.size hb.block)
  refine hand_start (by kernel_rfl) ?_
  generalize (w1.alloc (.cells (c32 sum8) 89)).drew = W at *
  clear gR gb hb1 HJ hx
  have hi8 : (Try.prog.info? 89).map (·.size) = some (c32 sum8).size := by kernel_rfl
  have hi9 : (Try.prog.info? 66).map (·.size) = some (c8 S).size := by rw [c8_size, hSl]; kernel_rfl
  refine hand_take (i := 1) (.slice (some ⟨bk, o, none⟩) xs.length c) rfl rfl (by kernel_rfl) (by kernel_rfl) (by kernel_rfl) (fun _ _ _ h => h) (by intro w; go_simp) ?_
  refine hand_two (i := 0) (j := 2) (by kernel_rfl) rfl rfl rfl rfl (fun K hK => wp_load_row 89 _ rfl w1.heap.size rfl 89 (c32 sum8) (0, 0) _ hH Try.underlying89 rfl hi8 (hK _ _ ?_)) (fun K hK => ?_)
  rotate_left
  · go_simp
    refine HJ2.out.mono ?_
    rintro e w2 ⟨rfl, hb2⟩
    refine hK _ _ ?_
    clear hK K
    refine hand_one (i := 0) (by kernel_rfl) rfl rfl (fun K hK => wp_load_row 89 _ rfl w1.heap.size rfl 89 (c32 sum8) (0, 0) _ (hH.below hb2 hH.lt) Try.underlying89 rfl hi8 (hK _ _ ?_))
    refine hand_one (i := 3) (by kernel_rfl) rfl rfl (fun K hK => ?_)
    go_simp
    refine (HD.out _).mono ?_
    rintro e w3 ⟨rfl, hb3⟩
    refine hK _ _ ?_
    clear hK K
    have jR := (hR.below hb2 hR.lt).below hb3 (Nat.lt_of_lt_of_le hR.lt hb2.size)
    have jb := (hb.trans (hb2.mono (by omega))).trans (hb3.mono (by have := hb2.size; omega))
    refine hand_one (i := 4) (by kernel_rfl) rfl rfl (fun K hK => wp_store_row 66 _ _ rfl w.heap.size (c8 S) rfl rfl 66 (c8 (List.replicate 32 0)) jR hi9 (by rw [c8_size, c8_size, hSl]; rfl) (c8_one _) (hK _ _ ?_))
    refine wpAny_done (by kernel_rfl) ?_ _
    have nR := jR.row (c8 S)
    go_wp2_with fail
    refine bodyPost_ret (v := .agg (c8 S)) ?_ rfl ?_
    · exact results_cell_row Try.results28 _ _ w.heap.size 66 (c8 S) (0, 0) _ rfl nR Try.underlying66 rfl hi9
    exact ⟨rfl, below_setRow jb (Nat.le_refl _) _⟩
  · refine hand_one (i := 2) (by kernel_rfl) rfl rfl (fun K hK => ?_)
    go_simp
    refine HJ2.out.mono ?_
    rintro e w2 ⟨rfl, hb2⟩
    refine hK _ _ ?_
    clear hK K
    refine hand_one (i := 3) (by kernel_rfl) rfl rfl (fun K hK => ?_)
    go_simp
    refine (HD.out _).mono ?_
    rintro e w3 ⟨rfl, hb3⟩
    refine hK _ _ ?_
    clear hK K
    have jR := (hR.below hb2 hR.lt).below hb3 (Nat.lt_of_lt_of_le hR.lt hb2.size)
    have jb := (hb.trans (hb2.mono (by omega))).trans (hb3.mono (by have := hb2.size; omega))
    refine hand_one (i := 4) (by kernel_rfl) rfl rfl (fun K hK => wp_store_row 66 _ _ rfl w.heap.size (c8 S) rfl rfl 66 (c8 (List.replicate 32 0)) jR hi9 (by rw [c8_size, c8_size, hSl]; rfl) (c8_one _) (hK _ _ ?_))
    refine wpAny_done (by kernel_rfl) ?_ _
    have nR := jR.row (c8 S)
    go_wp2_with fail
    refine bodyPost_ret (v := .agg (c8 S)) ?_ rfl ?_
    · exact results_cell_row Try.results28 _ _ w.heap.size 66 (c8 S) (0, 0) _ rfl nR Try.underlying66 rfl hi9
    exact ⟨rfl, below_setRow jb (Nat.le_refl _) _⟩
end Go.Proofs.Ytojgmeonjgfpoaa
