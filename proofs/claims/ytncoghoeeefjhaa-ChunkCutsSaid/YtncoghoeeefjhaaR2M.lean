/- hibernacleref02.mix walked: the array by its value. Conditions: four unlike places below 16. -/
import Derived.Test.YtncoghoeeefjhaaR2A
import Derived.Test.YtncoghoeeefjhaaTakeA
import Derived.Test.YtncoghoeeefjhaaWalk
import Derived.Great.BuildSlice
import Derived.Lib.Hide
namespace Go.Proofs.Ytncoghoeeefjhaa
open Go.RowKit
attribute [local go_sem] w_xor32 w_add32 m_add32

theorem at32_same (l : List UInt32) (i : Nat) (x : UInt32) (h : i < l.length) : at32 (l.set i x) i = x := by
  simp [at32, h]
theorem at32_other (l : List UInt32) (i j : Nat) (x : UInt32) (h : ¬ i = j) : at32 (l.set i x) j = at32 l j := by
  simp [at32, List.getD_eq_getElem?_getD, List.getElem?_set_ne h]
theorem add32_assoc (x y z : UInt32) : add32 (add32 x y) z = add32 x (add32 y z) := UInt32.add_assoc x y z
/-- an array of sixteen numbers, four of them told -/
def Four (l : List UInt32) (a b c d : Nat) (xa xb xc xd : UInt32) : Prop := l.length = 16 ∧ at32 l a = xa ∧ at32 l b = xb ∧ at32 l c = xc ∧ at32 l d = xd
section
variable {l : List UInt32} {a b c d : Nat} {xa xb xc xd : UInt32}
theorem Four.cells (h : Four l a b c d xa xb xc xd) {W : World} {V T : Nat} (hV : Blk W V T (c32 l)) (la : a < 16) (lb : b < 16) (lc : c < 16) (ld : d < 16) :
    W.cell? ⟨V, a, none⟩ = some (.int .u32 xa.toNat) ∧ W.cell? ⟨V, b, none⟩ = some (.int .u32 xb.toNat) ∧ W.cell? ⟨V, c, none⟩ = some (.int .u32 xc.toNat) ∧ W.cell? ⟨V, d, none⟩ = some (.int .u32 xd.toNat) := by
  obtain ⟨hl, rfl, rfl, rfl, rfl⟩ := h
  exact ⟨(hV.cell a).trans (c32_at l a (by omega)), (hV.cell b).trans (c32_at l b (by omega)), (hV.cell c).trans (c32_at l c (by omega)), (hV.cell d).trans (c32_at l d (by omega))⟩
theorem Four.setA (h : Four l a b c d xa xb xc xd) (x : UInt32) (la : a < 16) (ab : ¬ a = b) (ac : ¬ a = c) (ad : ¬ a = d) : Four (l.set a x) a b c d x xb xc xd := by
  obtain ⟨hl, rfl, rfl, rfl, rfl⟩ := h
  exact ⟨by simpa using hl, at32_same _ _ _ (by omega), at32_other _ _ _ _ ab, at32_other _ _ _ _ ac, at32_other _ _ _ _ ad⟩
theorem Four.setB (h : Four l a b c d xa xb xc xd) (x : UInt32) (lb : b < 16) (ab : ¬ a = b) (bc : ¬ b = c) (bd : ¬ b = d) : Four (l.set b x) a b c d xa x xc xd := by
  obtain ⟨hl, rfl, rfl, rfl, rfl⟩ := h
  exact ⟨by simpa using hl, at32_other _ _ _ _ (fun e => ab e.symm), at32_same _ _ _ (by omega), at32_other _ _ _ _ bc, at32_other _ _ _ _ bd⟩
theorem Four.setC (h : Four l a b c d xa xb xc xd) (x : UInt32) (lc : c < 16) (ac : ¬ a = c) (bc : ¬ b = c) (cd : ¬ c = d) : Four (l.set c x) a b c d xa xb x xd := by
  obtain ⟨hl, rfl, rfl, rfl, rfl⟩ := h
  exact ⟨by simpa using hl, at32_other _ _ _ _ (fun e => ac e.symm), at32_other _ _ _ _ (fun e => bc e.symm), at32_same _ _ _ (by omega), at32_other _ _ _ _ cd⟩
theorem Four.setD (h : Four l a b c d xa xb xc xd) (x : UInt32) (ld : d < 16) (ad : ¬ a = d) (bd : ¬ b = d) (cd : ¬ c = d) : Four (l.set d x) a b c d xa xb xc x := by
  obtain ⟨hl, rfl, rfl, rfl, rfl⟩ := h
  exact ⟨by simpa using hl, at32_other _ _ _ _ (fun e => ad e.symm), at32_other _ _ _ _ (fun e => bd e.symm), at32_other _ _ _ _ (fun e => cd e.symm), at32_same _ _ _ (by omega)⟩
end

theorem half_eq {l : List UInt32} {a b c d : Nat} {xa xb xc xd : UInt32} (h : Four l a b c d xa xb xc xd) (n s t : UInt32) (A D C B : UInt32)
    (hA : A = add32 (add32 xa xb) n) (hD : D = rotl (xor32 xd A) s) (hC : C = add32 xc D) (hB : B = rotl (xor32 xb C) t) :
    (((l.set a A).set d D).set c C).set b B = halfS l a b c d n s t := by
  obtain ⟨_, rfl, rfl, rfl, rfl⟩ := h
  subst hB hC hD hA
  rw [add32_assoc]
  rfl

theorem zero16 : (#[.int .u32 0, .int .u32 0, .int .u32 0, .int .u32 0, .int .u32 0, .int .u32 0, .int .u32 0, .int .u32 0, .int .u32 0, .int .u32 0, .int .u32 0, .int .u32 0, .int .u32 0, .int .u32 0, .int .u32 0, .int .u32 0] : Array Value) = c32 (List.replicate 16 0) := by kernel_rfl

set_option maxRecDepth 100000 in
set_option maxHeartbeats 8000000 in
theorem rmix_any (vs : List UInt32) (a b c d : Nat) (x y : UInt32) (w : World)
    (ab : ¬ a = b) (ac : ¬ a = c) (ad : ¬ a = d) (bc : ¬ b = c) (bd : ¬ b = d) (cd : ¬ c = d)
    (la : a < 16) (lb : b < 16) (lc : c < 16) (ld : d < 16) (hl : vs.length = 16) :
    Calls Try.prog 145 #[.agg (c32 vs), .int .i64 a, .int .i64 b, .int .i64 c, .int .i64 d, .int .u32 x.toNat, .int .u32 y.toNat] w
      fun e w' => e = .returned (.agg (c32 (mixS vs a b c d x y))) ∧ Below w.heap.size w w' := by
  obtain ⟨xa, hxa⟩ : ∃ z, at32 vs a = z := ⟨_, rfl⟩
  obtain ⟨xb, hxb⟩ : ∃ z, at32 vs b = z := ⟨_, rfl⟩
  obtain ⟨xc, hxc⟩ : ∃ z, at32 vs c = z := ⟨_, rfl⟩
  obtain ⟨xd, hxd⟩ : ∃ z, at32 vs d = z := ⟨_, rfl⟩
  have F0 : Four vs a b c d xa xb xc xd := ⟨hl, hxa, hxb, hxc, hxd⟩
  clear hxa hxb hxc hxd
  have ia : (a : Int) < 16 := by omega
  have ib : (b : Int) < 16 := by omega
  have ic : (c : Int) < 16 := by omega
  have id' : (d : Int) < 16 := by omega
  go_enter Try.func145, Try.ntmps145
  have V0 := (Blk.new w 168 (c32 vs)).alloc (.cells (c32 (List.replicate 16 0)) 168)
  have R0 : Blk ((w.alloc (.cells (c32 vs) 168)).alloc (.cells (c32 (List.replicate 16 0)) 168)) (w.heap.size + 1) 168 (c32 (List.replicate 16 0)) := by
    have := Blk.new (w.alloc (.cells (c32 vs) 168)) 168 (c32 (List.replicate 16 0))
    rw [World.size_alloc] at this
    exact this
  have b0 := ((Below.refl w.heap.size w).alloc (Nat.le_refl _) (.cells (c32 vs) 168)).alloc (by simp) (.cells (c32 (List.replicate 16 0)) 168)
  go_wp2_with fail
  rw [zero16]
  generalize ((w.alloc (.cells (c32 vs) 168)).alloc (.cells (c32 (List.replicate 16 0)) 168)) = W0 at *
  obtain ⟨pa, pb, pc, pd⟩ := F0.cells V0.drew la lb lc ld
  have pf := V0.drew.frozen a
  refine still_tail 11 (by kernel_rfl) (by kernel_rfl) ?_
  simp only [List.take_succ_cons, List.take_zero, List.drop_succ_cons, List.drop_zero]
  iterate 11 still_step
  refine wpStill_nil ?_
  go_wp2_with fail
  obtain ⟨x1, e1⟩ : ∃ z, z = add32 (add32 xa xb) x := ⟨_, rfl⟩
  rw [← e1]
  have E1 := Lib.hid e1
  clear e1
  have V1 := (V0.put a (.int .u32 x1.toNat)).drew
  rw [c32_set] at V1
  have R1 := (R0.far (p := ⟨w.heap.size, a, none⟩) (by simp) (.int .u32 x1.toNat)).drew
  have b1 := (b0.setCell (p := ⟨w.heap.size, a, none⟩) (Nat.le_refl _) (.int .u32 x1.toNat)).drew
  have F1 := F0.setA x1 la ab ac ad
  clear V0 R0 b0 pa pb pc pd pf
  generalize (W0.setCell ⟨w.heap.size, a, none⟩ (.int .u32 x1.toNat)).drew = W1 at *
  obtain ⟨pa, pb, pc, pd⟩ := F1.cells V1.drew la lb lc ld
  have pf := V1.drew.frozen d
  refine still_tail 10 (by kernel_rfl) (by kernel_rfl) ?_
  simp only [List.take_succ_cons, List.take_zero, List.drop_succ_cons, List.drop_zero]
  iterate 8 still_step
  refine wpStill_step (fun K hK => ?_)
  go_simp
  refine ⟨_, turned_any _ 16 16 _ (by decide) (by decide) (by decide), hK _ ?_⟩
  clear hK K
  iterate 1 still_step
  refine wpStill_nil ?_
  go_wp2_with fail
  obtain ⟨x2, e2⟩ : ∃ z, z = rotl (xor32 xd x1) 16 := ⟨_, rfl⟩
  rw [← e2]
  have E2 := Lib.hid e2
  clear e2
  have V2 := (V1.put d (.int .u32 x2.toNat)).drew
  rw [c32_set] at V2
  have R2 := (R1.far (p := ⟨w.heap.size, d, none⟩) (by simp) (.int .u32 x2.toNat)).drew
  have b2 := (b1.setCell (p := ⟨w.heap.size, d, none⟩) (Nat.le_refl _) (.int .u32 x2.toNat)).drew
  have F2 := F1.setD x2 ld ad bd cd
  clear V1 R1 b1 pa pb pc pd pf
  generalize (W1.setCell ⟨w.heap.size, d, none⟩ (.int .u32 x2.toNat)).drew = W2 at *
  obtain ⟨pa, pb, pc, pd⟩ := F2.cells V2.drew la lb lc ld
  have pf := V2.drew.frozen c
  refine still_tail 9 (by kernel_rfl) (by kernel_rfl) ?_
  simp only [List.take_succ_cons, List.take_zero, List.drop_succ_cons, List.drop_zero]
  iterate 9 still_step
  refine wpStill_nil ?_
  go_wp2_with fail
  obtain ⟨x3, e3⟩ : ∃ z, z = add32 xc x2 := ⟨_, rfl⟩
  rw [← e3]
  have E3 := Lib.hid e3
  clear e3
  have V3 := (V2.put c (.int .u32 x3.toNat)).drew
  rw [c32_set] at V3
  have R3 := (R2.far (p := ⟨w.heap.size, c, none⟩) (by simp) (.int .u32 x3.toNat)).drew
  have b3 := (b2.setCell (p := ⟨w.heap.size, c, none⟩) (Nat.le_refl _) (.int .u32 x3.toNat)).drew
  have F3 := F2.setC x3 lc ac bc cd
  clear V2 R2 b2 pa pb pc pd pf
  generalize (W2.setCell ⟨w.heap.size, c, none⟩ (.int .u32 x3.toNat)).drew = W3 at *
  obtain ⟨pa, pb, pc, pd⟩ := F3.cells V3.drew la lb lc ld
  have pf := V3.drew.frozen b
  refine still_tail 10 (by kernel_rfl) (by kernel_rfl) ?_
  simp only [List.take_succ_cons, List.take_zero, List.drop_succ_cons, List.drop_zero]
  iterate 8 still_step
  refine wpStill_step (fun K hK => ?_)
  go_simp
  refine ⟨_, turned_any _ 12 20 _ (by decide) (by decide) (by decide), hK _ ?_⟩
  clear hK K
  iterate 1 still_step
  refine wpStill_nil ?_
  go_wp2_with fail
  obtain ⟨x4, e4⟩ : ∃ z, z = rotl (xor32 xb x3) 20 := ⟨_, rfl⟩
  rw [← e4]
  have E4 := Lib.hid e4
  clear e4
  have V4 := (V3.put b (.int .u32 x4.toNat)).drew
  rw [c32_set] at V4
  have R4 := (R3.far (p := ⟨w.heap.size, b, none⟩) (by simp) (.int .u32 x4.toNat)).drew
  have b4 := (b3.setCell (p := ⟨w.heap.size, b, none⟩) (Nat.le_refl _) (.int .u32 x4.toNat)).drew
  have F4 := F3.setB x4 lb ab bc bd
  clear V3 R3 b3 pa pb pc pd pf
  generalize (W3.setCell ⟨w.heap.size, b, none⟩ (.int .u32 x4.toNat)).drew = W4 at *
  obtain ⟨pa, pb, pc, pd⟩ := F4.cells V4.drew la lb lc ld
  have pf := V4.drew.frozen a
  refine still_tail 11 (by kernel_rfl) (by kernel_rfl) ?_
  simp only [List.take_succ_cons, List.take_zero, List.drop_succ_cons, List.drop_zero]
  iterate 11 still_step
  refine wpStill_nil ?_
  go_wp2_with fail
  obtain ⟨x5, e5⟩ : ∃ z, z = add32 (add32 x1 x4) y := ⟨_, rfl⟩
  rw [← e5]
  have E5 := Lib.hid e5
  clear e5
  have V5 := (V4.put a (.int .u32 x5.toNat)).drew
  rw [c32_set] at V5
  have R5 := (R4.far (p := ⟨w.heap.size, a, none⟩) (by simp) (.int .u32 x5.toNat)).drew
  have b5 := (b4.setCell (p := ⟨w.heap.size, a, none⟩) (Nat.le_refl _) (.int .u32 x5.toNat)).drew
  have F5 := F4.setA x5 la ab ac ad
  clear V4 R4 b4 pa pb pc pd pf
  generalize (W4.setCell ⟨w.heap.size, a, none⟩ (.int .u32 x5.toNat)).drew = W5 at *
  obtain ⟨pa, pb, pc, pd⟩ := F5.cells V5.drew la lb lc ld
  have pf := V5.drew.frozen d
  refine still_tail 10 (by kernel_rfl) (by kernel_rfl) ?_
  simp only [List.take_succ_cons, List.take_zero, List.drop_succ_cons, List.drop_zero]
  iterate 8 still_step
  refine wpStill_step (fun K hK => ?_)
  go_simp
  refine ⟨_, turned_any _ 8 24 _ (by decide) (by decide) (by decide), hK _ ?_⟩
  clear hK K
  iterate 1 still_step
  refine wpStill_nil ?_
  go_wp2_with fail
  obtain ⟨x6, e6⟩ : ∃ z, z = rotl (xor32 x2 x5) 24 := ⟨_, rfl⟩
  rw [← e6]
  have E6 := Lib.hid e6
  clear e6
  have V6 := (V5.put d (.int .u32 x6.toNat)).drew
  rw [c32_set] at V6
  have R6 := (R5.far (p := ⟨w.heap.size, d, none⟩) (by simp) (.int .u32 x6.toNat)).drew
  have b6 := (b5.setCell (p := ⟨w.heap.size, d, none⟩) (Nat.le_refl _) (.int .u32 x6.toNat)).drew
  have F6 := F5.setD x6 ld ad bd cd
  clear V5 R5 b5 pa pb pc pd pf
  generalize (W5.setCell ⟨w.heap.size, d, none⟩ (.int .u32 x6.toNat)).drew = W6 at *
  obtain ⟨pa, pb, pc, pd⟩ := F6.cells V6.drew la lb lc ld
  have pf := V6.drew.frozen c
  refine still_tail 9 (by kernel_rfl) (by kernel_rfl) ?_
  simp only [List.take_succ_cons, List.take_zero, List.drop_succ_cons, List.drop_zero]
  iterate 9 still_step
  refine wpStill_nil ?_
  go_wp2_with fail
  obtain ⟨x7, e7⟩ : ∃ z, z = add32 x3 x6 := ⟨_, rfl⟩
  rw [← e7]
  have E7 := Lib.hid e7
  clear e7
  have V7 := (V6.put c (.int .u32 x7.toNat)).drew
  rw [c32_set] at V7
  have R7 := (R6.far (p := ⟨w.heap.size, c, none⟩) (by simp) (.int .u32 x7.toNat)).drew
  have b7 := (b6.setCell (p := ⟨w.heap.size, c, none⟩) (Nat.le_refl _) (.int .u32 x7.toNat)).drew
  have F7 := F6.setC x7 lc ac bc cd
  clear V6 R6 b6 pa pb pc pd pf
  generalize (W6.setCell ⟨w.heap.size, c, none⟩ (.int .u32 x7.toNat)).drew = W7 at *
  obtain ⟨pa, pb, pc, pd⟩ := F7.cells V7.drew la lb lc ld
  have pf := V7.drew.frozen b
  refine still_tail 10 (by kernel_rfl) (by kernel_rfl) ?_
  simp only [List.take_succ_cons, List.take_zero, List.drop_succ_cons, List.drop_zero]
  iterate 8 still_step
  refine wpStill_step (fun K hK => ?_)
  go_simp
  refine ⟨_, turned_any _ 7 25 _ (by decide) (by decide) (by decide), hK _ ?_⟩
  clear hK K
  iterate 1 still_step
  refine wpStill_nil ?_
  have V8 := (V7.put b (.int .u32 (rotl (xor32 x4 x7) 25).toNat)).drew
  rw [c32_set] at V8
  have R8 := (R7.far (p := ⟨w.heap.size, b, none⟩) (by simp) (.int .u32 (rotl (xor32 x4 x7) 25).toNat)).drew
  have b8 := (b7.setCell (p := ⟨w.heap.size, b, none⟩) (Nat.le_refl _) (.int .u32 (rotl (xor32 x4 x7) 25).toNat)).drew
  clear V7 R7 b7
  have hm : (((((((vs.set a x1).set d x2).set c x3).set b x4).set a x5).set d x6).set c x7).set b (rotl (xor32 x4 x7) 25) = mixS vs a b c d x y := by
    have h1 := half_eq F0 x 16 20 x1 x2 x3 x4 E1.out E2.out E3.out E4.out
    rw [h1] at F4
    have h2 := half_eq F4 y 24 25 x5 x6 x7 (rotl (xor32 x4 x7) 25) E5.out E6.out E7.out rfl
    rw [h1, h2]
    rfl
  rw [hm] at V8
  have hi : (Try.prog.info? 168).map (·.size) = some (c32 (mixS vs a b c d x y)).size := by rw [c32_size, mixS_length, hl]; kernel_rfl
  clear hm E1 E2 E3 E4 E5 E6 E7 F0 F1 F2 F3 F4 F5 F6 F7
  have nR := R8.row (c32 (mixS vs a b c d x y))
  go_wp2_with (first
    | refine wpList_load_row rfl 168 _ rfl w.heap.size rfl 168 (c32 (mixS vs a b c d x y)) (0, 0) _ V8 Try.underlying168 rfl hi ?_
    | refine wpList_store_rowTo rfl 168 _ _ rfl rfl (w.heap.size + 1) (c32 (mixS vs a b c d x y)) rfl rfl 168 (c32 (List.replicate 16 0)) R8 hi (by rw [c32_size, c32_size, mixS_length, hl]; rfl) (by simp [c32, Value.oneCell']) ?_)
  refine bodyPost_ret (v := .agg (c32 (mixS vs a b c d x y))) ?_ rfl ?_
  · exact results_cell_row Try.results145 _ _ (w.heap.size + 1) 168 (c32 (mixS vs a b c d x y)) (0, 0) _ rfl nR Try.underlying168 rfl hi
  exact ⟨rfl, below_setRow b8 (by omega) _⟩
end Go.Proofs.Ytncoghoeeefjhaa
