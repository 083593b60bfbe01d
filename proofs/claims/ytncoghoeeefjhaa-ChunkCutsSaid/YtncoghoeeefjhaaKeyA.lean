/- hash.Keyed walked. Conditions: a key of 32 bytes; texts of less than 2^45 bytes in all. -/
import Derived.Test.YtncoghoeeefjhaaDigA
import Derived.Test.YtncoghoeeefjhaaHandH
import Derived.Test.YtncoghoeeefjhaaShB
import Derived.Laws.IdiomStrings
namespace Go.Proofs.Ytncoghoeeefjhaa
open Go.RowKit
attribute [local go_sem] w_xor32

def key8 : List UInt32 := [0x6b08c647, 0xbb67ae85, 0x3c6ef372, 0xa54ff53a, 0x510e527f, 0x9b05688c, 0x1f83d9ab, 0x5be0cd19]
/-- the digest of a text under a key -/
def keyedS (k s : List UInt8) : List UInt8 := digestS key8 (k ++ List.replicate 32 0 ++ s)
theorem keyedS_length (k s : List UInt8) : (keyedS k s).length = 32 := digestS_length _ _
theorem key8_val : c32 key8 = #[.int .u32 1795737159, .int .u32 3144134277, .int .u32 1013904242, .int .u32 2773480762, .int .u32 1359893119, .int .u32 2600822924, .int .u32 528734635, .int .u32 1541459225] := by kernel_rfl
theorem conv_key (g : Nat) (T : TypeId) (l : List UInt8) (w : World) (h : Blk w g T (c8 l)) (n : Nat) (hl : l.length = n) : (convert 61 9 (.slice (some ⟨g, 0, none⟩) n n)).run Try.prog w = .ok (.string ⟨l.toArray⟩) w := by
  subst hl
  exact run_convert_bytes_back (P := Try.prog) w 61 9 5 ⟨g, 0, none⟩ l.length l Try.underlying61 Try.underlying5 Try.underlying9 (fun j hj => by
    rw [Addr.add_mid, Nat.zero_add, h.cell j, c8_at l j hj, at8, List.getD_eq_getElem?_getD, List.getElem?_eq_getElem hj]
    rfl)

def KeyS (w : World) (g1 g2 g3 : Nat) (t1 t2 t3 : TypeId) (c1 c2 : Array Value) (W : World) : Prop := Blk W g1 t1 c1 ∧ Blk W g2 t2 c2 ∧ (∃ ds : Array Value, ds.size = 32 ∧ Blk W g3 t3 ds) ∧ Below w.heap.size w W
theorem key_keep {w W W' : World} {g1 g2 g3 : Nat} {t1 t2 t3 : TypeId} {c1 c2 : Array Value} (h : KeyS w g1 g2 g3 t1 t2 t3 c1 c2 W) (hb : Below W.heap.size W W') : KeyS w g1 g2 g3 t1 t2 t3 c1 c2 W' := by
  obtain ⟨h1, h2, ⟨ds, hd, h3⟩, h4⟩ := h
  exact ⟨h1.below hb h1.lt, h2.below hb h2.lt, ⟨ds, hd, h3.below hb h3.lt⟩, h4.trans (hb.mono h4.size)⟩
theorem load_row_y {P : Program} {o : Oper} {a : Act} {w : World} (ty : TypeId) (x : Operand) (ho : o.op = .load ty x) (g : Nat) (hx : a.eval x = .pointer (some ⟨g, 0, none⟩)) (t : TypeId) (cs : Array Value) (n : Nat) (e : TypeId)
    (hg : Blk w g t cs) (hu : P.underlying ty = some (.array n e)) (hi : (P.info? ty).map (·.size) = some cs.size) : (execOp a.eval o).run P w = .ok (.value (.agg cs)) w := by
  unfold execOp
  simp only [ho, hx, Instr.loadAt, Instr.sureAddr, Sem.run_bind, Sem.run_pure, Result.andThen_ok, run_loadVar_row w g t ty cs (0, 0) (.array n e) hg hu rfl hi]

set_option maxRecDepth 100000 in
set_option maxHeartbeats 8000000 in
theorem hkeyed_any (k : List UInt8) (g : Nat) (x : ByteArray) (w : World) (hk : k.length = 32) (hg : g < w.heap.size) (hc : w.cell? ⟨g, 0, none⟩ = some (.string x)) (hlen' : x.size ≤ 35184372088832) :
    Calls Try.prog 59 #[.agg (c8 k), .slice (some ⟨g, 0, none⟩) 1 1] w fun e w' => e = .returned (.agg (c8 (keyedS k (bl x)))) ∧ Below w.heap.size w w' := by
  obtain ⟨J, hJ⟩ : ∃ J, bl x = J := ⟨_, rfl⟩
  have hlen : J.length ≤ 35184372088832 := by rw [← hJ, bl_len]; exact hlen'
  have HJ : Hid (∀ wx : World, w.heap.size ≤ wx.heap.size → (∀ i, i < w.heap.size → wx.heap[i]? = w.heap[i]?) → Calls Try.prog 89 #[.slice (some ⟨g, 0, none⟩) 1 1, .string ⟨#[]⟩] wx fun e w' => e = .returned (.string ⟨J.toArray⟩) ∧ Below wx.heap.size wx w') := Lib.hid fun wx hsz hkp => by
    have hj1 : Lib.join (List.map bl [x]) [] = J := by simp [Lib.join, hJ]
    have h := Try.strings_Join g 0 1 [x] ⟨#[]⟩ wx (fun j y hj => by
      match j, hj with
      | 0, hj =>
        injection hj with hj
        subst hj
        exact (World.cell?_of_block (w := w) (a := ⟨g, 0, none⟩) (hkp g hg)).trans hc) (by omega) (by show 1 ≤ _; omega) (Nat.le_refl _) (by show (Lib.join (List.map bl [x]) []).length ≤ _; rw [hj1]; omega)
    have e : (Lib.join (List.map (fun s : ByteArray => s.data.toList) [x]) (ByteArray.mk #[]).data.toList) = J := hj1
    rw [e] at h
    exact h
  rw [hJ]
  have hD : ∀ wx, Calls Try.prog 87 #[.agg (c32 key8), .string ⟨(k ++ List.replicate 32 0 ++ J).toArray⟩] wx fun e w' => e = .returned (.agg (c8 (keyedS k J))) ∧ Below wx.heap.size wx w' := fun wx => by
    have hz : (⟨(k ++ List.replicate 32 0 ++ J).toArray⟩ : ByteArray).size ≤ 70368744177664 := by
      show (Array.size _) ≤ _
      rw [List.size_toArray, List.length_append, List.length_append, List.length_replicate]; omega
    have h := hdigest_any key8 ⟨(k ++ List.replicate 32 0 ++ J).toArray⟩ wx rfl hz
    rw [bl_of] at h
    unfold keyedS
    exact h
  have hSl := keyedS_length k J
  generalize keyedS k J = S at *
  have HD := Lib.hid hD
  clear hD hJ hc hlen'
  have kK := (Blk.new w 36 (c8 k)).alloc (.cells (c8 (List.replicate 32 0)) 85)
  have gR := Blk.new (w.alloc (.cells (c8 k) 36)) 85 (c8 (List.replicate 32 0))
  rw [World.size_alloc] at gR
  have gb := ((Below.refl w.heap.size w).alloc (Nat.le_refl _) (.cells (c8 k) 36)).alloc (by simp) (.cells (c8 (List.replicate 32 0)) 85)
  go_enter Try.func59, Try.ntmps59
  go_wp2_with fail
  refine (eight_any _).mono ?_
  rintro e w1 ⟨rfl, hb1⟩
  rw [eight_val]
  have hx : bits .xor .u32 1779033703 16850976 = 1795737159 := by decide
  have hK1 := (kK.below hb1 kK.lt).alloc (.cells (c32 eightS) 130)
  have hs01 : w.heap.size + 2 ≤ w1.heap.size := by have := hb1.size; simpa using this
  go_wp2_with fail
  rw [← key8_val]
  have hH := Blk.new w1 130 (c32 key8)
  have hK := (kK.below hb1 kK.lt).alloc (.cells (c32 key8) 130)
  have hR := (gR.below hb1 gR.lt).alloc (.cells (c32 key8) 130)
  have hb := (gb.trans (hb1.mono (by simp; omega))).alloc (by omega) (.cells (c32 key8) 130)
  generalize w1.alloc (.cells (c32 key8) 130) = W0 at *
  clear hb1 gb gR kK hx hK1
  have hi8 : (Try.prog.info? 130).map (·.size) = some (c32 key8).size := by kernel_rfl
  have hi9 : (Try.prog.info? 85).map (·.size) = some (c8 S).size := by rw [c8_size, hSl]; kernel_rfl
  obtain ⟨K0, hK0⟩ : ∃ K0 : ByteArray, ⟨k.toArray⟩ = K0 := ⟨_, rfl⟩
  obtain ⟨J0, hJ0⟩ : ∃ J0 : ByteArray, ⟨J.toArray⟩ = J0 := ⟨_, rfl⟩
  have zK : K0.size = 32 := by rw [← hK0]; show Array.size _ = 32; rw [List.size_toArray]; exact hk
  have zJ : J0.size ≤ 35184372088832 := by rw [← hJ0]; show Array.size _ ≤ _; rw [List.size_toArray]; exact hlen
  have hcat : (⟨(k ++ List.replicate 32 0 ++ J).toArray⟩ : ByteArray) = K0 ++ zeros 32 ++ J0 := by
    rw [← hK0, ← hJ0]
    apply ByteArray.ext
    simp [zeros, ByteArray.data_append]
  rw [hcat] at HD
  have zZ : (zeros 32).size = 32 := rfl
  have hrep := fun w => repeat_zeros 32 w (by decide)
  generalize zeros 32 = Z0 at *
  have HREP := Lib.hid hrep
  rw [hJ0] at HJ
  have n1 : ¬ 9223372036854775807 < K0.size + Z0.size := by omega
  have n2 : ¬ 9223372036854775807 < (K0 ++ Z0).size + J0.size := by rw [ByteArray.size_append]; omega
  have n4 : 64 + J0.size ≤ 9223372036854775807 := by omega
  have n3 : ¬ 9223372036854775807 < K0.size + Z0.size + J0.size := by omega
  clear hrep hcat hJ0
  refine held_start (KeyS w w1.heap.size w.heap.size (w.heap.size + 1) 130 36 85 (c32 key8) (c8 k)) (by kernel_rfl) ?_
  have hS0 : KeyS w w1.heap.size w.heap.size (w.heap.size + 1) 130 36 85 (c32 key8) (c8 k) W0.drew := ⟨hH.drew, hK.drew, ⟨_, rfl, hR.drew⟩, hb.drew⟩
  refine held_take (i := 0) (.agg (c32 key8)) hS0 rfl rfl (by kernel_rfl) (by kernel_rfl) (by kernel_rfl) (fun _ _ _ h => h) (fun W hW => load_row_y 130 _ rfl w1.heap.size rfl 130 (c32 key8) _ _ hW.1 Try.underlying130 hi8) ?_
  refine held_take (i := 1) (.slice (some ⟨w.heap.size, 0, none⟩) 32 32) hS0 rfl rfl (by kernel_rfl) (by kernel_rfl) (by kernel_rfl) (fun _ _ _ h => h) (by intro W _; go_simp) ?_
  go_simp
  refine held_take (i := 2) (.string K0) hS0 rfl rfl (by kernel_rfl) (by kernel_rfl) (by kernel_rfl) (fun _ _ _ h => h) (by intro W hW; have hcv := conv_key w.heap.size _ k W hW.2.1 32 hk; rw [hK0] at hcv; go_simp) ?_
  go_simp
  refine held_take (i := 5) (.slice (some ⟨g, 0, none⟩) 1 1) hS0 rfl rfl (by kernel_rfl) (by kernel_rfl) (by kernel_rfl) (fun _ _ _ h => h) (by intro W _; go_simp) ?_
  go_simp
  refine held_one (i := 3) (by kernel_rfl) rfl rfl (fun K hK => ?_)
  go_simp
  refine (HREP.out _).mono ?_
  rintro e w2 ⟨rfl, hb2⟩
  have hS2 := key_keep hS0 hb2
  refine hK _ _ ⟨hS2, ?_⟩
  clear hK K HREP
  refine held_take (i := 4) (.string (K0 ++ Z0)) hS2 rfl rfl (by kernel_rfl) (by kernel_rfl) (by kernel_rfl) (fun _ _ _ h => h) (by intro W _; go_simp) ?_
  go_simp
  refine held_one (i := 6) (by kernel_rfl) rfl rfl (fun K hK => ?_)
  go_simp
  refine (HJ.out _ hS2.2.2.2.size hS2.2.2.2.block).mono ?_
  rintro e w3 ⟨rfl, hb3⟩
  have hS3 := key_keep hS2 hb3
  refine hK _ _ ⟨hS3, ?_⟩
  clear hK K HJ
  refine held_take (i := 7) (.string (K0 ++ Z0 ++ J0)) hS3 rfl rfl (by kernel_rfl) (by kernel_rfl) (by kernel_rfl) (fun _ _ _ h => h) (by intro W _; go_simp) ?_
  go_simp
  refine held_one (i := 8) (by kernel_rfl) rfl rfl (fun K hK => ?_)
  go_simp
  refine (HD.out _).mono ?_
  rintro e w4 ⟨rfl, hb4⟩
  have hS4 := key_keep hS3 hb4
  refine hK _ _ ⟨hS4, ?_⟩
  clear hK K
  go_simp
  have hw10 : w1.heap.size ≠ w.heap.size + 1 := by omega
  obtain ⟨s1, s2, ⟨ds, hds, s3⟩, s4⟩ := hS4
  refine held_one (i := 9) (by kernel_rfl) rfl rfl (fun K hK => wp_store_row 85 _ _ rfl (w.heap.size + 1) (c8 S) rfl rfl 85 ds s3 hi9 (by rw [c8_size, hSl]; exact hds) (c8_one _) (hK _ _ ⟨?_, ?_⟩))
  · exact ⟨s1.rowedFar hw10 _, s2.rowedFar (by omega) _, ⟨_, by rw [c8_size, hSl], s3.rowed _⟩, below_setRow s4 (by omega) _⟩
  refine wpAnyH_done (by kernel_rfl) ?_ _
  have nR := s3.rowed (c8 S)
  go_wp2_with fail
  refine bodyPost_ret (v := .agg (c8 S)) ?_ rfl ?_
  · exact results_cell_row Try.results59 _ _ (w.heap.size + 1) 85 (c8 S) (0, 0) _ rfl nR Try.underlying85 rfl hi9
  exact ⟨rfl, below_setRow s4 (by omega) _⟩
end Go.Proofs.Ytncoghoeeefjhaa
