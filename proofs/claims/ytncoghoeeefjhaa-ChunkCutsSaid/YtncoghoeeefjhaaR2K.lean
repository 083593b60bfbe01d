/- hibernacleref02.Keyed walked. Conditions: a key of 32 bytes; one text of less than 2^45 bytes. -/
import Derived.Test.YtncoghoeeefjhaaKeyA
import Derived.Test.YtncoghoeeefjhaaR2D
import Derived.Test.YtncoghoeeefjhaaR2J
namespace Go.Proofs.Ytncoghoeeefjhaa
open Go.RowKit
attribute [local go_sem] w_xor32


def nul64 : List UInt8 := List.replicate 64 0
set_option maxRecDepth 100000 in
set_option maxHeartbeats 8000000 in
theorem rkeyed_any (k : List UInt8) (g : Nat) (x : ByteArray) (w : World) (hk : k.length = 32) (hg : g < w.heap.size) (hc : w.cell? ⟨g, 0, none⟩ = some (.string x)) (hlen' : x.size ≤ 35184372088832) :
    Calls Try.prog 66 #[.agg (c8 k), .slice (some ⟨g, 0, none⟩) 1 1] w fun e w' => e = .returned (.agg (c8 (keyedS k (bl x)))) ∧ Below w.heap.size w w' := by
  obtain ⟨J, hJ⟩ : ∃ J, bl x = J := ⟨_, rfl⟩
  have hlen : J.length ≤ 35184372088832 := by rw [← hJ, bl_len]; exact hlen'
  have HJ : Hid (∀ wx : World, w.heap.size ≤ wx.heap.size → (∀ i, i < w.heap.size → wx.heap[i]? = w.heap[i]?) → Calls Try.prog 100 #[.slice (some ⟨g, 0, none⟩) 1 1] wx fun e w' => e = .returned (.string ⟨J.toArray⟩) ∧ w' = wx) := Lib.hid fun wx hsz hkp => by
    have e1 : ([x].map bl).flatten = J := by simp [hJ]
    have h := joined_any (some ⟨g, 0, none⟩) 1 [x] wx ⟨rfl, fun _ => ⟨_, rfl, by show g < _; omega, fun j u hu => by
      match j, hu with
      | 0, hu =>
        have hu' : u = .string x := by injection hu with hu; exact hu.symm
        subst hu'
        rw [show (⟨g, 0, none⟩ : Addr).add 0 = ⟨g, 0, none⟩ by simp [Addr.add]]
        exact (World.cell?_of_block (w := w) (a := ⟨g, 0, none⟩) (hkp g hg)).trans hc⟩⟩ (by rw [e1]; omega) (by show 1 ≤ _; omega)
    rw [e1] at h
    exact h
  rw [hJ]
  have hD : ∀ wx, Calls Try.prog 99 #[.agg (c32 key8), .string ⟨(k ++ List.replicate 32 0 ++ J).toArray⟩] wx fun e w' => e = .returned (.agg (c8 (keyedS k J))) ∧ Below wx.heap.size wx w' := fun wx => by
    have hz : (⟨(k ++ List.replicate 32 0 ++ J).toArray⟩ : ByteArray).size ≤ 70368744177664 := by
      show (Array.size _) ≤ _
      rw [List.size_toArray, List.length_append, List.length_append, List.length_replicate]; omega
    have h := rdigest_any key8 ⟨(k ++ List.replicate 32 0 ++ J).toArray⟩ wx rfl hz
    rw [bl_of] at h
    unfold keyedS
    exact h
  have hSl := keyedS_length k J
  generalize keyedS k J = S at *
  have HD := Lib.hid hD
  clear hD hJ hc hlen'
  have kK := (Blk.new w 36 (c8 k)).alloc (.cells (c8 (List.replicate 32 0)) 85)
  have gR := Blk.new (w.alloc (.cells (c8 k) 36)) 85 (c8 (List.replicate 32 0))
  rw [World.size_alloc] at gR
  have gb := ((Below.refl w.heap.size w).alloc (Nat.le_refl _) (.cells (c8 k) 36)).alloc (by simp) (.cells (c8 (List.replicate 32 0)) 85)
  go_enter Try.func66, Try.ntmps66
  go_wp2_with fail
  refine (reight_any _).mono ?_
  rintro e w1 ⟨rfl, hb1⟩
  rw [eight_val]
  have hx : bits .xor .u32 1779033703 16842784 = 1795745351 := by decide
  have hx2 : bits .xor .u32 1795745351 8192 = 1795737159 := by decide
  have hs01 : w.heap.size + 2 ≤ w1.heap.size := by have := hb1.size; simpa using this
  go_wp2_with fail
  obtain ⟨F, hF⟩ : ∃ F, k ++ List.replicate 32 0 = F := ⟨_, rfl⟩
  have hFl : F.length = 64 := by rw [← hF, List.length_append, hk]; rfl
  have hFa : ∀ i, i < 32 → at8 F i = at8 k i := fun i hi => by rw [← hF]; simp only [at8, List.getD_eq_getElem?_getD]; rw [List.getElem?_append_left (by omega)]
  have hF32 : part8 F 64 32 = F := by rw [← hF, part8, List.take_left' hk]
  rw [hF] at HD
  change Code.wp _ _ _ _ ((w1.alloc (.cells (c32 key8) 130)).alloc (.cells (c8 nul64) 55))
  have hH := (Blk.new w1 130 (c32 key8)).alloc (.cells (c8 nul64) 55)
  have hZ := Blk.new (w1.alloc (.cells (c32 key8) 130)) 55 (c8 nul64)
  rw [World.size_alloc] at hZ
  have hZ0 : nul64 = part8 F 64 0 := (part8_zero F 64).symm
  rw [hZ0] at hZ hH ⊢
  have hK := ((kK.below hb1 kK.lt).alloc (.cells (c32 key8) 130)).alloc (.cells (c8 (part8 F 64 0)) 55)
  have hR := ((gR.below hb1 gR.lt).alloc (.cells (c32 key8) 130)).alloc (.cells (c8 (part8 F 64 0)) 55)
  have hb := ((gb.trans (hb1.mono (by simp; omega))).alloc (by omega) (.cells (c32 key8) 130)).alloc (by simp; omega) (.cells (c8 (part8 F 64 0)) 55)
  generalize (w1.alloc (.cells (c32 key8) 130)).alloc (.cells (c8 (part8 F 64 0)) 55) = W0 at *
  clear hb1 gb gR kK hx hx2 hZ0
  go_loopw [7] (fun iv wr => ∃ i : Nat, iv = .int .i64 i ∧ i ≤ 32 ∧ Blk wr w1.heap.size 130 (c32 key8) ∧ Blk wr (w1.heap.size + 1) 55 (c8 (part8 F 64 i)) ∧ Blk wr w.heap.size 36 (c8 k) ∧ Blk wr (w.heap.size + 1) 85 (c8 (List.replicate 32 0)) ∧ Below w.heap.size w wr)
    (fun iv _ => 32 - (intOf iv).toNat)
  case atStart => exact ⟨0, rfl, by omega, hH, hZ, hK, hR, hb⟩
  case round =>
    clear hH hZ hK hR hb
    obtain ⟨i, rfl, hi, hH, hZ, hK, hR, hb⟩ := hrel
    by_cases hlt : i < 32
    · have i0 : (0 : Int) ≤ (i : Int) := by omega
      have i1 : (i : Int) < 32 := by omega
      have i2 : (i : Int) < 64 := by omega
      have hc := (hK.cell i).trans (c8_at k i (by omega))
      have hc2 := (hZ.cell i).trans (c8_at _ i (by rw [part8_length F 64 i hFl (by omega)]; omega))
      have hfz := hZ.frozen i
      have hZ2 := hZ.put i (.int .u8 (at8 k i).toNat)
      have hps := part8_succ F 64 i hFl (by omega)
      rw [hFa i hlt] at hps
      rw [c8_set, hps] at hZ2
      have hw1 : IntKind.i64.wrap ((i : Int) + 1) = (i : Int) + 1 := IntWalk.i64_in _ (by omega)
      obtain ⟨x, hx⟩ : ∃ x, at8 k i = x := ⟨_, rfl⟩
      rw [hx] at hc hZ2
      clear hps hx
      go_wp2
      go_roundw
      case rel => exact ⟨i + 1, by go_num, by omega, hH.far (by simp) _, hZ2, hK.far (by simp; omega) _, hR.far (by simp; omega) _, hb.setCell (by simp; omega) _⟩
      case measure => simp [intOf]; omega
    · obtain rfl : i = 32 := by omega
      rw [hF32] at hZ
      clear hlt hF32 hFa hi
      have hi8 : (Try.prog.info? 130).map (·.size) = some (c32 key8).size := by kernel_rfl
      have hi9 : (Try.prog.info? 85).map (·.size) = some (c8 S).size := by rw [c8_size, hSl]; kernel_rfl
      obtain ⟨K0, hK0⟩ : ∃ K0 : ByteArray, ⟨F.toArray⟩ = K0 := ⟨_, rfl⟩
      obtain ⟨J0, hJ0⟩ : ∃ J0 : ByteArray, ⟨J.toArray⟩ = J0 := ⟨_, rfl⟩
      have zK : K0.size = 64 := by rw [← hK0]; show Array.size _ = 64; rw [List.size_toArray]; exact hFl
      have zJ : J0.size ≤ 35184372088832 := by rw [← hJ0]; show Array.size _ ≤ _; rw [List.size_toArray]; exact hlen
      have hcat : (⟨(F ++ J).toArray⟩ : ByteArray) = K0 ++ J0 := by
        rw [← hK0, ← hJ0]
        apply ByteArray.ext
        simp [ByteArray.data_append]
      rw [hcat] at HD
      rw [hJ0] at HJ
      have n2 : ¬ 9223372036854775807 < K0.size + J0.size := by omega
      have n4 : 64 + J0.size ≤ 9223372036854775807 := by omega
      clear hcat hJ0
      go_wp2_with fail
      refine held_start (KeyS w w1.heap.size (w1.heap.size + 1) (w.heap.size + 1) 130 55 85 (c32 key8) (c8 F)) (by kernel_rfl) ?_
      have hS0 : KeyS w w1.heap.size (w1.heap.size + 1) (w.heap.size + 1) 130 55 85 (c32 key8) (c8 F) wr.drew := ⟨hH.drew, hZ.drew, ⟨_, rfl, hR.drew⟩, hb.drew⟩
      refine held_take (i := 0) (.agg (c32 key8)) hS0 rfl rfl (by kernel_rfl) (by kernel_rfl) (by kernel_rfl) (fun _ _ _ h => h) (fun W hW => load_row_y 130 _ rfl w1.heap.size rfl 130 (c32 key8) _ _ hW.1 Try.underlying130 hi8) ?_
      refine held_take (i := 1) (.slice (some ⟨w1.heap.size + 1, 0, none⟩) 64 64) hS0 rfl rfl (by kernel_rfl) (by kernel_rfl) (by kernel_rfl) (fun _ _ _ h => h) (by intro W _; go_simp) ?_
      go_simp
      refine held_take (i := 2) (.string K0) hS0 rfl rfl (by kernel_rfl) (by kernel_rfl) (by kernel_rfl) (fun _ _ _ h => h) (by intro W hW; have hcv := conv_key (w1.heap.size + 1) _ F W hW.2.1 64 hFl; rw [hK0] at hcv; go_simp) ?_
      go_simp
      refine held_take (i := 3) (.slice (some ⟨g, 0, none⟩) 1 1) hS0 rfl rfl (by kernel_rfl) (by kernel_rfl) (by kernel_rfl) (fun _ _ _ h => h) (by intro W _; go_simp) ?_
      go_simp
      refine held_one (i := 4) (by kernel_rfl) rfl rfl (fun K hK => ?_)
      go_simp
      refine (HJ.out _ hS0.2.2.2.size hS0.2.2.2.block).mono ?_
      rintro e w3 ⟨rfl, rfl⟩
      refine hK _ _ ⟨hS0, ?_⟩
      clear hK K HJ
      refine held_take (i := 5) (.string (K0 ++ J0)) hS0 rfl rfl (by kernel_rfl) (by kernel_rfl) (by kernel_rfl) (fun _ _ _ h => h) (by intro W _; go_simp) ?_
      go_simp
      refine held_one (i := 6) (by kernel_rfl) rfl rfl (fun K hK => ?_)
      go_simp
      refine (HD.out _).mono ?_
      rintro e w4 ⟨rfl, hb4⟩
      have hS4 := key_keep hS0 hb4
      refine hK _ _ ⟨hS4, ?_⟩
      clear hK K
      go_simp
      obtain ⟨s1, s2, ⟨ds, hds, s3⟩, s4⟩ := hS4
      refine held_one (i := 7) (by kernel_rfl) rfl rfl (fun K hK => wp_store_row 85 _ _ rfl (w.heap.size + 1) (c8 S) rfl rfl 85 ds s3 hi9 (by rw [c8_size, hSl]; exact hds) (c8_one _) (hK _ _ ⟨?_, ?_⟩))
      · exact ⟨s1.rowedFar (by omega) _, s2.rowedFar (by omega) _, ⟨_, by rw [c8_size, hSl], s3.rowed _⟩, below_setRow s4 (by omega) _⟩
      refine wpAnyH_done (by kernel_rfl) ?_ _
      have nR := s3.rowed (c8 S)
      go_wp2_with fail
      refine bodyPost_ret (v := .agg (c8 S)) ?_ rfl ?_
      · exact results_cell_row Try.results66 _ _ (w.heap.size + 1) 85 (c8 S) (0, 0) _ rfl nR Try.underlying85 rfl hi9
      exact ⟨rfl, below_setRow s4 (by omega) _⟩
end Go.Proofs.Ytncoghoeeefjhaa
