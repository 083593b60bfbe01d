/- hibernacleref02.take walked. Conditions: eight numbers, a block of at least 64 bytes. -/
import Derived.Test.YtncoghoeeefjhaaR2M
import Derived.Lib.Strings
import Derived.Lib.IndexBytes
namespace Go.Proofs.Ytncoghoeeefjhaa
open Go.RowKit
attribute [local go_sem] w_xor32

theorem partS_at_succ (l : List UInt32) (k : Nat) (hk : k < 16) (hl : l.length = 16) {w : World} {g T : Nat} (h : Blk w g T (c32 (partS l 16 k))) :
    w.cell? ⟨g, k, none⟩ = some (.int .u32 (at32 (partS l 16 k) k).toNat) ∧ w.frozen? ⟨g, k, none⟩ = false ∧ Blk (w.setCell ⟨g, k, none⟩ (.int .u32 (at32 l k).toNat)) g T (c32 (partS l 16 (k + 1))) := by
  refine ⟨(h.cell k).trans (c32_at _ k (by rw [partS_length _ _ _ hl (by omega)]; exact hk)), h.frozen k, ?_⟩
  have h2 := h.put k (.int .u32 (at32 l k).toNat)
  rw [c32_set, partS_succ _ 16 k hl hk] at h2
  exact h2
/-- what the first loop's round needs to know of k -/
theorem load_facts (n k : Nat) (hk : k < 16) (hn : 64 ≤ n) :
    (0 : Int) ≤ (k : Int) ∧ (k : Int) < 16 ∧ IntKind.i64.wrap (4 * (k : Int)) = 4 * (k : Int) ∧ IntKind.i64.wrap (4 * (k : Int) + 1) = 4 * (k : Int) + 1 ∧ IntKind.i64.wrap (4 * (k : Int) + 2) = 4 * (k : Int) + 2 ∧ IntKind.i64.wrap (4 * (k : Int) + 3) = 4 * (k : Int) + 3 ∧
      (0 : Int) ≤ 4 * (k : Int) ∧ 4 * (k : Int) < (n : Int) ∧ (0 : Int) ≤ 4 * (k : Int) + 1 ∧ 4 * (k : Int) + 1 < (n : Int) ∧ (0 : Int) ≤ 4 * (k : Int) + 2 ∧ 4 * (k : Int) + 2 < (n : Int) ∧ (0 : Int) ≤ 4 * (k : Int) + 3 ∧ 4 * (k : Int) + 3 < (n : Int) ∧
      (4 * (k : Int)).toNat = 4 * k ∧ (4 * (k : Int) + 1).toNat = 4 * k + 1 ∧ (4 * (k : Int) + 2).toNat = 4 * k + 2 ∧ (4 * (k : Int) + 3).toNat = 4 * k + 3 ∧ IntKind.i64.wrap ((k : Int) + 1) = (k : Int) + 1 := by
  refine ⟨by omega, by omega, IntWalk.i64_in _ (by omega), IntWalk.i64_in _ (by omega), IntWalk.i64_in _ (by omega), IntWalk.i64_in _ (by omega), by omega, by omega, by omega, by omega, by omega, by omega, by omega, by omega, by omega, by omega, by omega, by omega, IntWalk.i64_in _ (by omega)⟩

theorem w_sub_not (x : UInt32) : IntKind.u32.wrap (4294967295 - (x.toNat : Int)) = ((not32 x).toNat : Int) := by
  have hx := x.toNat_lt
  rw [u32_wrap, not32, UInt32.toNat_not]
  show _ = ((4294967296 - 1 - x.toNat : Nat) : Int)
  omega
theorem m_sub_not (x : UInt32) : (4294967295 - (x.toNat : Int)) % 4294967296 = ((not32 x).toNat : Int) := by rw [← w_sub_not, u32_wrap]
attribute [local go_sem] w_sub_not m_sub_not
theorem xor32_assoc (x y z : UInt32) : xor32 (xor32 x y) z = xor32 x (xor32 y z) := UInt32.xor_assoc x y z

/-- what a step of a round needs to know, but for the places -/
theorem rstep_facts (m : List UInt32) (r k : Nat) (hr : r < 10) (hk : k < 8) (hm : m.length = 16) :
    ∃ P1 P2 : Nat, Hid (P1 = perm r (2 * k)) ∧ Hid (P2 = perm r (2 * k + 1)) ∧ (0 : Int) ≤ (P1 : Int) ∧ (P1 : Int) < 16 ∧ (0 : Int) ≤ (P2 : Int) ∧ (P2 : Int) < 16 ∧ (0 : Int) ≤ (k : Int) ∧ (k : Int) < 8 ∧
      IntKind.i64.wrap (2 * (k : Int)) = 2 * (k : Int) ∧ IntKind.i64.wrap (2 * (k : Int) + 1) = 2 * (k : Int) + 1 ∧ (0 : Int) ≤ 2 * (k : Int) ∧ 2 * (k : Int) < 16 ∧ (0 : Int) ≤ 2 * (k : Int) + 1 ∧ 2 * (k : Int) + 1 < 16 ∧
      (2 * (k : Int)).toNat = 2 * k ∧ (2 * (k : Int) + 1).toNat = 2 * k + 1 ∧ IntKind.i64.wrap ((k : Int) + 1) = (k : Int) + 1 ∧
      Hid (∀ (x : UInt8) (w : World), x = at8 (bl (rowStr r)) (2 * k) → Calls Try.prog 144 #[.int .u8 x.toNat] w fun e w' => e = .returned (.int .i64 P1) ∧ w' = w) ∧
      Hid (∀ (x : UInt8) (w : World), x = at8 (bl (rowStr r)) (2 * k + 1) → Calls Try.prog 144 #[.int .u8 x.toNat] w fun e w' => e = .returned (.int .i64 P2) ∧ w' = w) ∧
      Hid (∀ (w : World) g T, Blk w g T (c32 m) → w.cell? ⟨g, P1, none⟩ = some (.int .u32 (at32 m P1).toNat)) ∧
      Hid (∀ (w : World) g T, Blk w g T (c32 m) → w.cell? ⟨g, P2, none⟩ = some (.int .u32 (at32 m P2).toNat)) := by
  have p1 := perm_lt r (2 * k) hr (by omega)
  have p2 := perm_lt r (2 * k + 1) hr (by omega)
  have pl : ∀ i, i < 16 → ∀ (x : UInt8) (w : World), x = at8 (bl (rowStr r)) i → Calls Try.prog 144 #[.int .u8 x.toNat] w fun e w' => e = .returned (.int .i64 (perm r i)) ∧ w' = w := fun i hi x w hx => by
    have h := place_any x w
    have e : placeI x.toNat = (perm r i : Int) := by
      rw [hx, rowStr_at ⟨r, hr⟩ ⟨i, hi⟩]
      exact place_ok ⟨16 * r + i, by omega⟩
    rw [e] at h
    exact h
  exact ⟨_, _, Lib.hid rfl, Lib.hid rfl, by omega, by omega, by omega, by omega, by omega, by omega, IntWalk.i64_in _ (by omega), IntWalk.i64_in _ (by omega), by omega, by omega, by omega, by omega, by omega, by omega, IntWalk.i64_in _ (by omega),
    Lib.hid (pl _ (by omega)), Lib.hid (pl _ (by omega)), Lib.hid fun w g T h => (h.cell _).trans (c32_at _ _ (by omega)), Lib.hid fun w g T h => (h.cell _).trans (c32_at _ _ (by omega))⟩
/-- .. on the columns -/
theorem rcol_facts (m v : List UInt32) (r k P1 P2 : Nat) (hk : k < 4) (_hm : m.length = 16) (hv : v.length = 16) (h1 : P1 = perm r (2 * k)) (h2 : P2 = perm r (2 * k + 1)) :
    (k : Int) < 4 ∧ IntKind.i64.wrap ((k : Int) + 4) = (k : Int) + 4 ∧ IntKind.i64.wrap ((k : Int) + 8) = (k : Int) + 8 ∧ IntKind.i64.wrap ((k : Int) + 12) = (k : Int) + 12 ∧
      Hid (∀ (w : World), Calls Try.prog 145 #[.agg (c32 (stepsS m r v k)), .int .i64 (k : Int), .int .i64 ((k : Int) + 4), .int .i64 ((k : Int) + 8), .int .i64 ((k : Int) + 12), .int .u32 (at32 m P1).toNat, .int .u32 (at32 m P2).toNat] w
        fun e w' => e = .returned (.agg (c32 (stepsS m r v (k + 1)))) ∧ Below w.heap.size w w') := by
  refine ⟨by omega, IntWalk.i64_in _ (by omega), IntWalk.i64_in _ (by omega), IntWalk.i64_in _ (by omega), Lib.hid fun w => ?_⟩
  have hst : stepsS m r v (k + 1) = mixS (stepsS m r v k) k (k + 4) (k + 8) (k + 12) (at32 m P1) (at32 m P2) := by
    rw [stepsS, stepS, if_pos hk, h1, h2, Nat.add_comm 4 k, Nat.add_comm 8 k, Nat.add_comm 12 k]
  rw [hst]
  exact rmix_any (stepsS m r v k) k (k + 4) (k + 8) (k + 12) _ _ w (by omega) (by omega) (by omega) (by omega) (by omega) (by omega) (by omega) (by omega) (by omega) (by omega) (by rw [stepsS_length]; exact hv)
/-- .. on the diagonals -/
theorem rdiag_facts (m v : List UInt32) (r k P1 P2 : Nat) (hk : ¬ k < 4) (hk8 : k < 8) (_hm : m.length = 16) (hv : v.length = 16) (h1 : P1 = perm r (2 * k)) (h2 : P2 = perm r (2 * k + 1)) :
    ∃ j bb cc dd : Nat, ¬ (k : Int) < 4 ∧ IntKind.i64.wrap ((k : Int) - 4) = (j : Int) ∧ (0 : Int) ≤ (j : Int) ∧ (j : Int) < 4 ∧
      IntKind.i64.wrap ((j : Int) + 1) = (j : Int) + 1 ∧ IntKind.i64.wrap ((j : Int) + 2) = (j : Int) + 2 ∧ IntKind.i64.wrap ((j : Int) + 3) = (j : Int) + 3 ∧
      ((j : Int) + 1).tmod 4 = (bb : Int) ∧ ((j : Int) + 2).tmod 4 = (cc : Int) ∧ ((j : Int) + 3).tmod 4 = (dd : Int) ∧
      ((j : Int) + 1) % 4 = (bb : Int) ∧ ((j : Int) + 2) % 4 = (cc : Int) ∧ ((j : Int) + 3) % 4 = (dd : Int) ∧
      IntKind.i64.wrap (bb : Int) = (bb : Int) ∧ IntKind.i64.wrap (cc : Int) = (cc : Int) ∧ IntKind.i64.wrap (dd : Int) = (dd : Int) ∧
      IntKind.i64.wrap (4 + (bb : Int)) = 4 + (bb : Int) ∧ IntKind.i64.wrap (8 + (cc : Int)) = 8 + (cc : Int) ∧ IntKind.i64.wrap (12 + (dd : Int)) = 12 + (dd : Int) ∧
      Hid (∀ (w : World), Calls Try.prog 145 #[.agg (c32 (stepsS m r v k)), .int .i64 (j : Int), .int .i64 (4 + (bb : Int)), .int .i64 (8 + (cc : Int)), .int .i64 (12 + (dd : Int)), .int .u32 (at32 m P1).toNat, .int .u32 (at32 m P2).toNat] w
        fun e w' => e = .returned (.agg (c32 (stepsS m r v (k + 1)))) ∧ Below w.heap.size w w') := by
  refine ⟨k - 4, (k - 4 + 1) % 4, (k - 4 + 2) % 4, (k - 4 + 3) % 4, by omega, ?_, by omega, by omega, IntWalk.i64_in _ (by omega), IntWalk.i64_in _ (by omega), IntWalk.i64_in _ (by omega),
    by rw [Int.tmod_eq_emod_of_nonneg (by omega)]; omega, by rw [Int.tmod_eq_emod_of_nonneg (by omega)]; omega, by rw [Int.tmod_eq_emod_of_nonneg (by omega)]; omega, by omega, by omega, by omega,
    IntWalk.i64_in _ (by omega), IntWalk.i64_in _ (by omega), IntWalk.i64_in _ (by omega), IntWalk.i64_in _ (by omega), IntWalk.i64_in _ (by omega), IntWalk.i64_in _ (by omega), Lib.hid fun w => ?_⟩
  · rw [show ((k : Int) - 4) = ((k - 4 : Nat) : Int) by omega]; exact IntWalk.i64_in _ (by omega)
  have hst : stepsS m r v (k + 1) = mixS (stepsS m r v k) (k - 4) (4 + (k - 4 + 1) % 4) (8 + (k - 4 + 2) % 4) (12 + (k - 4 + 3) % 4) (at32 m P1) (at32 m P2) := by
    rw [stepsS, stepS, if_neg hk, h1, h2]
  rw [hst]
  exact rmix_any (stepsS m r v k) (k - 4) (4 + (k - 4 + 1) % 4) (8 + (k - 4 + 2) % 4) (12 + (k - 4 + 3) % 4) _ _ w (by omega) (by omega) (by omega) (by omega) (by omega) (by omega) (by omega) (by omega) (by omega) (by omega) (by rw [stepsS_length]; exact hv)

/-- four bytes' number, by sums -/
theorem word_sum (b : ByteArray) (m : List UInt32) (k : Nat) (hk : k < 16) (hm : m16 (bl b) = m) (h0 : 4 * k < b.size) (h1 : 4 * k + 1 < b.size) (h2 : 4 * k + 2 < b.size) (h3 : 4 * k + 3 < b.size) :
    ((b[4 * k].toNat : Int) + (b[4 * k + 1].toNat : Int) % 4294967296 * 256 + (b[4 * k + 2].toNat : Int) % 4294967296 * 65536 + (b[4 * k + 3].toNat : Int) % 4294967296 * 16777216) % 4294967296 = ((at32 m k).toNat : Int) := by
  rw [← hm, m16_at _ _ hk, wordS, at8_get, at8_get, at8_get, at8_get]
  have e : ∀ j, at8 ((bl b).drop (4 * k)) j = at8 (bl b) (4 * k + j) := fun j => by simp [at8, List.getD_eq_getElem?_getD]
  rw [e, e, e, e]
  simp only [Nat.add_zero]
  have ha := (at8 (bl b) (4 * k)).toNat_lt
  have hb := (at8 (bl b) (4 * k + 1)).toNat_lt
  have hc := (at8 (bl b) (4 * k + 2)).toNat_lt
  have hd := (at8 (bl b) (4 * k + 3)).toNat_lt
  rw [word4_toNat]
  omega

set_option maxRecDepth 100000 in
set_option maxHeartbeats 16000000 in
theorem rtake_any (q8 : List UInt32) (b : ByteArray) (n : Nat) (last : Bool) (w : World) (hh : q8.length = 8) (hb : 64 ≤ b.size) (hn : n < 18446744073709551616) :
    Calls Try.prog 124 #[.agg (c32 q8), .string b, .int .u64 n, .bool last] w fun e w' => e = .returned (v32 (takeS q8 (bl b) n last)) ∧ Below w.heap.size w w' := by
  obtain ⟨m, hm⟩ : ∃ m, m16 (bl b) = m := ⟨_, rfl⟩
  obtain ⟨V0, hV0⟩ : ∃ V0, startS q8 n last = V0 := ⟨_, rfl⟩
  obtain ⟨I0, hI0⟩ : ∃ I0, q8 ++ eightS = I0 := ⟨_, rfl⟩
  have hIl : I0.length = 16 := by rw [← hI0]; simp [hh, eightS]
  have hml : m.length = 16 := by rw [← hm, m16_length]
  have HVL : Hid (V0.length = 16) := Lib.hid (by rw [← hV0, startS_length _ _ _ hh])
  have HT : Hid (∀ V, roundsS m V0 10 = V → takeS q8 (bl b) n last = endS q8 V) := Lib.hid (fun V hv => by rw [takeS, hm, hV0, hv])
  have HM := Lib.hid hm
  have HV0 := Lib.hid hV0
  have HI0 := Lib.hid hI0
  clear hm hV0 hI0
  go_enter Try.func124, Try.ntmps124
  have gH := (((Blk.new w 130 (c32 q8)).alloc (.cells (c32 (List.replicate 8 0)) 130)).alloc (.cells (c32 (List.replicate 16 0)) 168)).alloc (.cells (c32 (List.replicate 16 0)) 168)
  have gR := ((Blk.new (w.alloc (.cells (c32 q8) 130)) 130 (c32 (List.replicate 8 0))).alloc (.cells (c32 (List.replicate 16 0)) 168)).alloc (.cells (c32 (List.replicate 16 0)) 168)
  have gV := (Blk.new ((w.alloc (.cells (c32 q8) 130)).alloc (.cells (c32 (List.replicate 8 0)) 130)) 168 (c32 (List.replicate 16 0))).alloc (.cells (c32 (List.replicate 16 0)) 168)
  have gM := Blk.new (((w.alloc (.cells (c32 q8) 130)).alloc (.cells (c32 (List.replicate 8 0)) 130)).alloc (.cells (c32 (List.replicate 16 0)) 168)) 168 (c32 (List.replicate 16 0))
  rw [World.size_alloc] at gR
  rw [World.size_alloc, World.size_alloc] at gV
  rw [World.size_alloc, World.size_alloc, World.size_alloc] at gM
  have gb := ((((Below.refl w.heap.size w).alloc (Nat.le_refl _) (.cells (c32 q8) 130)).alloc (by simp) (.cells (c32 (List.replicate 8 0)) 130)).alloc (by simp; omega) (.cells (c32 (List.replicate 16 0)) 168)).alloc (by simp; omega) (.cells (c32 (List.replicate 16 0)) 168)
  go_wp2_with fail
  refine (reight_any _).mono ?_
  rintro e w1 ⟨rfl, hb1⟩
  rw [eight_val]
  have hs1 : w.heap.size + 3 < w1.heap.size := Nat.lt_of_lt_of_le gM.lt hb1.size
  have hH := (gH.below hb1 gH.lt).alloc (.cells (c32 eightS) 130)
  have hR := (gR.below hb1 gR.lt).alloc (.cells (c32 eightS) 130)
  have hV := (gV.below hb1 gV.lt).alloc (.cells (c32 eightS) 130)
  have hM := (gM.below hb1 gM.lt).alloc (.cells (c32 eightS) 130)
  have hF := Blk.new w1 130 (c32 eightS)
  have hbel := (gb.trans (hb1.mono gb.size)).alloc (by omega) (.cells (c32 eightS) 130)
  clear gH gR gV gM gb hb1
  go_wp2_with fail
  go_loopw [12] (fun i wr => ∃ k : Nat, i = .int .i64 k ∧ k ≤ 16 ∧ Blk wr w.heap.size 130 (c32 q8) ∧ Blk wr (w.heap.size + 1) 130 (c32 (List.replicate 8 0)) ∧
      Blk wr (w.heap.size + 1 + 1) 168 (c32 (partS I0 16 k)) ∧ Blk wr (w.heap.size + 1 + 1 + 1) 168 (c32 (partS m 16 k)) ∧ Blk wr w1.heap.size 130 (c32 eightS) ∧ Below w.heap.size w wr)
    (fun i _ => 16 - (intOf i).toNat)
  case atStart => exact ⟨0, rfl, by omega, hH, hR, by rw [partS_zero]; exact hV, by rw [partS_zero]; exact hM, hF, hbel⟩
  case round =>
    clear hH hR hV hM hF hbel
    obtain ⟨k, rfl, hk, hH, hR, hV, hM, hF, hbel⟩ := hrel
    by_cases hlt : k < 16
    · as_aux_lemma =>
      obtain ⟨i1, i2, w0, w1', w2, w3, z0, y0, z1, y1, z2, y2, z3, y3, n0, n1, n2, n3, wk⟩ := load_facts b.size k hlt hb
      obtain ⟨cM, fM, pM⟩ := partS_at_succ m k hlt hml hM
      obtain ⟨cV, fV, pV⟩ := partS_at_succ I0 k hlt hIl (hV.far (p := ⟨w.heap.size + 1 + 1 + 1, k, none⟩) (by simp) (.int .u32 (at32 m k).toNat))
      have PM := Lib.hid (pM.far (p := ⟨w.heap.size + 1 + 1, k, none⟩) (by simp) (.int .u32 (at32 I0 k).toNat))
      have PV := Lib.hid pV
      clear pM pV
      have hval := word_sum b m k hlt HM.out
      have nH := hH.far (p := ⟨w.heap.size + 1 + 1 + 1, k, none⟩) (show w.heap.size ≠ w.heap.size + 1 + 1 + 1 by omega) (.int .u32 (at32 m k).toNat)
      have nR := hR.far (p := ⟨w.heap.size + 1 + 1 + 1, k, none⟩) (by simp) (.int .u32 (at32 m k).toNat)
      have nF := hF.far (p := ⟨w.heap.size + 1 + 1 + 1, k, none⟩) (by simp; omega) (.int .u32 (at32 m k).toNat)
      have nb := hbel.setCell (p := ⟨w.heap.size + 1 + 1 + 1, k, none⟩) (by simp; omega) (.int .u32 (at32 m k).toNat)
      by_cases hk8 : k < 8
      · have t1 : (k : Int) < 8 := by omega
        have cH := (nH.cell k).trans (c32_at q8 k (by omega))
        have hi : at32 q8 k = at32 I0 k := by rw [← HI0.out]; simp [at32, List.getD_eq_getElem?_getD, List.getElem?_append_left (show k < q8.length by omega)]
        rw [hi] at cH
        clear hi
        go_wp2_with fail
        refine still_tail 31 (by kernel_rfl) (by kernel_rfl) ?_
        simp only [List.take_succ_cons, List.take_zero, List.drop_succ_cons, List.drop_zero]
        iterate 31 still_step
        refine wpStill_nil ?_
        go_wp2_with fail
        go_roundw
        case rel => exact ⟨k + 1, by go_num, by omega, (nH.far (by simp; omega) _).drew, (nR.far (by simp) _).drew, PV.out.drew, PM.out.drew, (nF.far (by simp; omega) _).drew, (nb.setCell (by simp; omega) _).drew⟩
        case measure => simp [intOf]; omega
      · have t1 : ¬ (k : Int) < 8 := by omega
        have t2 : IntKind.i64.wrap ((k : Int) - 8) = (k : Int) - 8 := IntWalk.i64_in _ (by omega)
        have t3 : (0 : Int) ≤ (k : Int) - 8 := by omega
        have t4 : (k : Int) - 8 < 8 := by omega
        have t5 : ((k : Int) - 8).toNat = k - 8 := by omega
        have cF := (nF.cell (k - 8)).trans (c32_at eightS (k - 8) (by show k - 8 < 8; omega))
        have hi : at32 eightS (k - 8) = at32 I0 k := by rw [← HI0.out]; simp [at32, List.getD_eq_getElem?_getD, List.getElem?_append_right (show q8.length ≤ k by omega), hh]
        rw [hi] at cF
        clear hi
        go_wp2_with fail
        refine still_tail 31 (by kernel_rfl) (by kernel_rfl) ?_
        simp only [List.take_succ_cons, List.take_zero, List.drop_succ_cons, List.drop_zero]
        iterate 31 still_step
        refine wpStill_nil ?_
        go_wp2_with fail
        go_roundw
        case rel => exact ⟨k + 1, by go_num, by omega, (nH.far (by simp; omega) _).drew, (nR.far (by simp) _).drew, PV.out.drew, PM.out.drew, (nF.far (by simp; omega) _).drew, (nb.setCell (by simp; omega) _).drew⟩
        case measure => simp [intOf]; omega
    · have hk16 : k = 16 := by omega
      have hk17 : ¬ (k : Int) < 16 := by omega
      rw [hk16, partS_all _ 16 hml] at hM
      rw [hk16, partS_all _ 16 hIl] at hV
      clear hk16 hlt hk hF
      have c12 := (hV.cell 12).trans (c32_at _ 12 (by omega))
      have c13 := (hV.cell 13).trans (c32_at _ 13 (by omega))
      have c14 := (hV.cell 14).trans (c32_at _ 14 (by omega))
      have f12 := hV.frozen 12
      have f13 := hV.frozen 13
      have f14 := hV.frozen 14
      have hlo : (n : Int) % 4294967296 = ((lo32 n).toNat : Int) := by rw [lo32, UInt32.toNat_ofNat']; omega
      have hlt' : (n : Int).tmod 4294967296 = ((lo32 n).toNat : Int) := by rw [Int.tmod_eq_emod_of_nonneg (by omega)]; exact hlo
      have hhi : (n : Int) / 4294967296 = ((hi32 n).toNat : Int) := by rw [hi32, UInt32.toNat_ofNat']; omega
      have hhi' : (n : Int).tdiv 4294967296 = ((hi32 n).toNat : Int) := by rw [Int.tdiv_eq_ediv_of_nonneg (by omega)]; exact hhi
      have hx1 : IntKind.u32.wrap ((lo32 n).toNat : Int) = ((lo32 n).toNat : Int) := by have := (lo32 n).toNat_lt; rw [u32_wrap]; omega
      have hx2 : IntKind.u32.wrap ((hi32 n).toNat : Int) = ((hi32 n).toNat : Int) := by have := (hi32 n).toNat_lt; rw [u32_wrap]; omega
      have hx3 : IntKind.u64.wrap ((lo32 n).toNat : Int) = ((lo32 n).toNat : Int) := IntWalk.u64_in _ (by have := (lo32 n).toNat_lt; omega)
      have hx4 : IntKind.u64.wrap ((hi32 n).toNat : Int) = ((hi32 n).toNat : Int) := IntWalk.u64_in _ (by have := (hi32 n).toNat_lt; omega)
      cases last with
      | true =>
        as_aux_lemma =>
        go_wp2_with fail
        go_loopw [13] (fun i wr => ∃ r : Nat, i = .int .i64 r ∧ r ≤ 10 ∧ Blk wr w.heap.size 130 (c32 q8) ∧ Blk wr (w.heap.size + 1) 130 (c32 (List.replicate 8 0)) ∧
            Blk wr (w.heap.size + 1 + 1 + 1) 168 (c32 m) ∧ Blk wr (w.heap.size + 1 + 1) 168 (c32 (roundsS m V0 r)) ∧ Below w.heap.size w wr)
          (fun i _ => 10 - (intOf i).toNat)
        case atStart =>
          refine ⟨0, rfl, by omega, ?_, ?_, ?_, ?_, ?_⟩
          · exact ((hH.far (show w.heap.size ≠ w.heap.size + 1 + 1 by omega) _).far (show w.heap.size ≠ w.heap.size + 1 + 1 by omega) _).far (show w.heap.size ≠ w.heap.size + 1 + 1 by omega) _
          · exact ((hR.far (show w.heap.size + 1 ≠ w.heap.size + 1 + 1 by omega) _).far (show w.heap.size + 1 ≠ w.heap.size + 1 + 1 by omega) _).far (show w.heap.size + 1 ≠ w.heap.size + 1 + 1 by omega) _
          · exact ((hM.far (show w.heap.size + 1 + 1 + 1 ≠ w.heap.size + 1 + 1 by omega) _).far (show w.heap.size + 1 + 1 + 1 ≠ w.heap.size + 1 + 1 by omega) _).far (show w.heap.size + 1 + 1 + 1 ≠ w.heap.size + 1 + 1 by omega) _
          · rw [roundsS, ← HV0.out, startS, if_pos rfl, HI0.out]
            have h1 := ((hV.put 12 (.int .u32 (xor32 (at32 I0 12) (lo32 n)).toNat)).put 13 (.int .u32 (xor32 (at32 I0 13) (hi32 n)).toNat)).put 14 (.int .u32 (not32 (at32 I0 14)).toNat)
            rw [c32_set, c32_set, c32_set] at h1
            exact h1
          · exact ((hbel.setCell (by simp; omega) _).setCell (by simp; omega) _).setCell (by simp; omega) _
        case round =>
          clear hH hR hM hV hbel c12 c13 c14 f12 f13 f14 hlo hlt' hhi hhi' hx1 hx2 hx3 hx4 HV0 HM HI0
          obtain ⟨r, rfl, hr, hH, hR, hM, hV, hbel⟩ := hrel
          by_cases hrlt : r < 10
          · have hri : (r : Int) < 10 := by omega
            have hr0 : (0 : Int) ≤ (r : Int) := by omega
            have hrw : IntKind.i64.wrap ((r : Int) + 1) = (r : Int) + 1 := IntWalk.i64_in _ (by omega)
            have cR := ((Blk.new wr 9 rowsC).cell r).trans (rowsC_at r hrlt)
            have kH := hH.alloc (.cells rowsC 9)
            have kR := hR.alloc (.cells rowsC 9)
            have kM := hM.alloc (.cells rowsC 9)
            have kV := hV.alloc (.cells rowsC 9)
            have kb := hbel.alloc (by have := hH.lt; omega) (.cells rowsC 9)
            clear hH hR hM hV hbel
            go_wp2_with fail
            refine (rows_any _).mono ?_
            rintro e w2 ⟨rfl, rfl⟩
            go_wp2_with fail
            go_loopw [15] (fun i wr => ∃ k : Nat, i = .int .i64 k ∧ k ≤ 8 ∧ Blk wr w.heap.size 130 (c32 q8) ∧ Blk wr (w.heap.size + 1) 130 (c32 (List.replicate 8 0)) ∧
                Blk wr (w.heap.size + 1 + 1 + 1) 168 (c32 m) ∧ Blk wr (w.heap.size + 1 + 1) 168 (c32 (stepsS m r (roundsS m V0 r) k)) ∧ Below w.heap.size w wr)
              (fun i _ => 8 - (intOf i).toNat)
            case atStart => exact ⟨0, rfl, by omega, kH, kR, kM, kV, kb⟩
            case round =>
              clear kH kR kM kV kb cR
              obtain ⟨k, rfl, hk, iH, iR, iM, iV, ibel⟩ := hrel
              have hSs := rowStr_size ⟨r, hrlt⟩
              by_cases hlt : k < 8
              · as_aux_lemma =>
                obtain ⟨P1, P2, E1, E2, i1, i2, i3, i4, i5, i6, w1', w2', s1, s2, s3, s4, n1, n2, wk, PL1, PL2, C1, C2⟩ := rstep_facts m r k hrlt hlt hml
                have hvl : (roundsS m V0 r).length = 16 := by rw [roundsS_length]; exact HVL.out
                have hsl : ∀ j, (stepsS m r (roundsS m V0 r) j).length = 16 := fun j => by rw [stepsS_length]; exact hvl
                have hi16 : ∀ j, (Try.prog.info? 168).map (·.size) = some (c32 (stepsS m r (roundsS m V0 r) j)).size := fun j => by rw [c32_size, hsl]; kernel_rfl
                have cp1 := C1.out _ _ _ iM
                have cp2 := C2.out _ _ _ iM
                clear C1 C2
                have hSs' : (rowStr r).size = 16 := hSs
                by_cases hk4 : k < 4
                · obtain ⟨t1, x1, x2, x3, MX⟩ := rcol_facts m (roundsS m V0 r) r k P1 P2 hk4 hml hvl E1.out E2.out
                  clear E1 E2
                  go_wp2_with fail
                  refine still_all (by kernel_rfl) (by kernel_rfl) ?_
                  iterate 4 still_step
                  refine wpStill_step (fun K hK => ?_)
                  go_simp
                  refine ⟨_, PL1.out _ _ (at8_get _ _ _), hK _ ?_⟩
                  clear hK K
                  iterate 7 still_step
                  refine wpStill_step (fun K hK => ?_)
                  go_simp
                  refine ⟨_, PL2.out _ _ (at8_get _ _ _), hK _ ?_⟩
                  clear hK K
                  iterate 4 still_step
                  refine wpStill_nil ?_
                  go_wp2_with (refine wpList_load_row rfl 168 _ rfl (w.heap.size + 1 + 1) rfl 168 (c32 (stepsS m r (roundsS m V0 r) k)) (0, 0) _ iV.drew Try.underlying168 rfl (hi16 k) ?_)
                  refine (MX.out _).mono ?_
                  rintro e w5 ⟨rfl, hb5⟩
                  have jH := iH.drew.below hb5 iH.lt
                  have jR := iR.drew.below hb5 iR.lt
                  have jM := iM.drew.below hb5 iM.lt
                  have jV := iV.drew.below hb5 iV.lt
                  have jb := ibel.drew.trans (hb5.mono (by have := iH.lt; simp; omega))
                  have nH := jH.rowOf (k := w.heap.size + 1 + 1) (show w.heap.size ≠ w.heap.size + 1 + 1 by omega) (c32 (stepsS m r (roundsS m V0 r) (k + 1)))
                  have nR := jR.rowOf (k := w.heap.size + 1 + 1) (show w.heap.size + 1 ≠ w.heap.size + 1 + 1 by omega) (c32 (stepsS m r (roundsS m V0 r) (k + 1)))
                  have nM := jM.rowOf (k := w.heap.size + 1 + 1) (show w.heap.size + 1 + 1 + 1 ≠ w.heap.size + 1 + 1 by omega) (c32 (stepsS m r (roundsS m V0 r) (k + 1)))
                  have nV := jV.row (c32 (stepsS m r (roundsS m V0 r) (k + 1)))
                  have nb := below_setRow jb (show w.heap.size ≤ w.heap.size + 1 + 1 by omega) (c32 (stepsS m r (roundsS m V0 r) (k + 1)))
                  clear MX PL1 PL2 iH iR iM iV ibel cp1 cp2 jH jR jM jb hb5
                  go_wp2_with (refine wpList_store_rowTo rfl 168 _ _ rfl rfl (w.heap.size + 1 + 1) (c32 (stepsS m r (roundsS m V0 r) (k + 1))) rfl rfl 168 (c32 (stepsS m r (roundsS m V0 r) k)) jV (hi16 (k + 1)) (by rw [c32_size, c32_size, hsl, hsl]) (by simp [c32, Value.oneCell']) ?_)
                  go_roundw
                  case rel => exact ⟨k + 1, by go_num, by omega, nH, nR, nM, nV, nb⟩
                  case measure => simp [intOf]; omega
                · obtain ⟨j, bb, cc, dd, t1, x1, x2, x3, x4, x5, x6, x7, x8, x9, y1, y2, y3, y4, y5, y6, y7, y8, y9, MX⟩ := rdiag_facts m (roundsS m V0 r) r k P1 P2 hk4 hlt hml hvl E1.out E2.out
                  clear E1 E2
                  go_wp2_with fail
                  refine still_all (by kernel_rfl) (by kernel_rfl) ?_
                  iterate 4 still_step
                  refine wpStill_step (fun K hK => ?_)
                  go_simp
                  refine ⟨_, PL1.out _ _ (at8_get _ _ _), hK _ ?_⟩
                  clear hK K
                  iterate 7 still_step
                  refine wpStill_step (fun K hK => ?_)
                  go_simp
                  refine ⟨_, PL2.out _ _ (at8_get _ _ _), hK _ ?_⟩
                  clear hK K
                  iterate 4 still_step
                  refine wpStill_nil ?_
                  go_wp2_with (refine wpList_load_row rfl 168 _ rfl (w.heap.size + 1 + 1) rfl 168 (c32 (stepsS m r (roundsS m V0 r) k)) (0, 0) _ iV.drew Try.underlying168 rfl (hi16 k) ?_)
                  refine (MX.out _).mono ?_
                  rintro e w5 ⟨rfl, hb5⟩
                  have jH := iH.drew.below hb5 iH.lt
                  have jR := iR.drew.below hb5 iR.lt
                  have jM := iM.drew.below hb5 iM.lt
                  have jV := iV.drew.below hb5 iV.lt
                  have jb := ibel.drew.trans (hb5.mono (by have := iH.lt; simp; omega))
                  have nH := jH.rowOf (k := w.heap.size + 1 + 1) (show w.heap.size ≠ w.heap.size + 1 + 1 by omega) (c32 (stepsS m r (roundsS m V0 r) (k + 1)))
                  have nR := jR.rowOf (k := w.heap.size + 1 + 1) (show w.heap.size + 1 ≠ w.heap.size + 1 + 1 by omega) (c32 (stepsS m r (roundsS m V0 r) (k + 1)))
                  have nM := jM.rowOf (k := w.heap.size + 1 + 1) (show w.heap.size + 1 + 1 + 1 ≠ w.heap.size + 1 + 1 by omega) (c32 (stepsS m r (roundsS m V0 r) (k + 1)))
                  have nV := jV.row (c32 (stepsS m r (roundsS m V0 r) (k + 1)))
                  have nb := below_setRow jb (show w.heap.size ≤ w.heap.size + 1 + 1 by omega) (c32 (stepsS m r (roundsS m V0 r) (k + 1)))
                  clear MX PL1 PL2 iH iR iM iV ibel cp1 cp2 jH jR jM jb hb5
                  go_wp2_with (refine wpList_store_rowTo rfl 168 _ _ rfl rfl (w.heap.size + 1 + 1) (c32 (stepsS m r (roundsS m V0 r) (k + 1))) rfl rfl 168 (c32 (stepsS m r (roundsS m V0 r) k)) jV (hi16 (k + 1)) (by rw [c32_size, c32_size, hsl, hsl]) (by simp [c32, Value.oneCell']) ?_)
                  go_roundw
                  case rel => exact ⟨k + 1, by go_num, by omega, nH, nR, nM, nV, nb⟩
                  case measure => simp [intOf]; omega
              · have hk4 : k = 8 := by omega
                have hk5 : ¬ (k : Int) < 8 := by omega
                rw [hk4] at iV
                clear hk4 hlt hk
                go_wp2_with fail
                go_roundw
                case rel => exact ⟨r + 1, by go_num, by omega, iH, iR, iM, iV, ibel⟩
                case measure => simp [intOf]; omega
          · have hr10 : r = 10 := by omega
            have hr11 : ¬ (r : Int) < 10 := by omega
            rw [hr10] at hV
            clear hr10 hrlt hr
            obtain ⟨V, hv⟩ : ∃ V, roundsS m V0 10 = V := ⟨_, rfl⟩
            rw [hv] at hV
            have hVl : V.length = 16 := by rw [← hv, roundsS_length]; exact HVL.out
            have HT2 := Lib.hid (HT.out V hv)
            clear HT HVL hv
            go_wp2_with fail
            go_loopw [19] (fun i wr => ∃ k : Nat, i = .int .i64 k ∧ k ≤ 8 ∧ Blk wr w.heap.size 130 (c32 (endP q8 V k)) ∧ Blk wr (w.heap.size + 1) 130 (c32 (List.replicate 8 0)) ∧
                Blk wr (w.heap.size + 1 + 1) 168 (c32 V) ∧ Below w.heap.size w wr)
              (fun i _ => 8 - (intOf i).toNat)
            case atStart => exact ⟨0, rfl, by omega, by rw [endP_zero]; exact hH, hR, hV, hbel⟩
            case round =>
              clear hH hR hM hV hbel
              obtain ⟨k, rfl, hk, iH, iR, iV, ibel⟩ := hrel
              by_cases hlt : k < 8
              · as_aux_lemma =>
                obtain ⟨i1, i2, i3, i4, i5, w1', i6, CH, CV⟩ := end_facts q8 V k hlt hh hVl
                have wk : IntKind.i64.wrap ((k : Int) + 1) = (k : Int) + 1 := IntWalk.i64_in _ (by omega)
                have cp1 := (CH.out _ _ _ iH.drew).1
                have nH := Lib.hid (CH.out _ _ _ iH.drew).2
                have cp2 := (CV.out _ _ _ iV.drew).1
                have cp3 := (CV.out _ _ _ iV.drew).2
                have hf := iH.drew.frozen k
                have hxa := xor32_assoc (at32 q8 k) (at32 V k) (at32 V (k + 8))
                clear CH CV
                go_wp2_with fail
                refine still_tail 14 (by kernel_rfl) (by kernel_rfl) ?_
                simp only [List.take_succ_cons, List.take_zero, List.drop_succ_cons, List.drop_zero]
                iterate 14 still_step
                refine wpStill_nil ?_
                go_wp2
                go_roundw
                case rel => exact ⟨k + 1, by go_num, by omega, nH.out, iR.drew.far (show w.heap.size + 1 ≠ w.heap.size by omega) _, iV.drew.far (show w.heap.size + 1 + 1 ≠ w.heap.size by omega) _, ibel.drew.setCell (Nat.le_refl _) _⟩
                case measure => simp [intOf]; omega
              · as_aux_lemma =>
                have hk8 : k = 8 := by omega
                have hk9 : ¬ (k : Int) < 8 := by omega
                rw [hk8, endP_all _ _ hh] at iH
                clear hk8 hlt hk
                obtain ⟨T8, ht⟩ : ∃ T8, endS q8 V = T8 := ⟨_, rfl⟩
                have hTl : T8.length = 8 := by rw [← ht, endS_length]
                rw [ht] at iH
                rw [ht] at HT2
                clear ht
                have hi8 : (Try.prog.info? 130).map (·.size) = some (c32 T8).size := by rw [c32_size, hTl]; kernel_rfl
                have h1 : (c32 T8).all (·.oneCell') = true := by simp [c32, Value.oneCell']
                have nR := (iR.row (c32 T8))
                go_wp2_with (first
                  | refine wpList_load_row rfl 130 _ rfl w.heap.size rfl 130 (c32 T8) (0, 0) _ iH Try.underlying130 rfl hi8 ?_
                  | refine wpList_store_rowTo rfl 130 _ _ rfl rfl (w.heap.size + 1) (c32 T8) rfl rfl 130 (c32 (List.replicate 8 0)) iR hi8 (by rw [c32_size, c32_size, hTl]; rfl) h1 ?_)
                refine bodyPost_ret (v := .agg (c32 T8)) ?_ rfl ?_
                · exact results_cell_row Try.results124 _ _ (w.heap.size + 1) 130 (c32 T8) (0, 0) _ rfl nR Try.underlying130 rfl hi8
                exact ⟨by rw [HT2.out]; rfl, below_setRow ibel (by omega) _⟩
      | false =>
        as_aux_lemma =>
        go_wp2_with fail
        go_loopw [13] (fun i wr => ∃ r : Nat, i = .int .i64 r ∧ r ≤ 10 ∧ Blk wr w.heap.size 130 (c32 q8) ∧ Blk wr (w.heap.size + 1) 130 (c32 (List.replicate 8 0)) ∧
            Blk wr (w.heap.size + 1 + 1 + 1) 168 (c32 m) ∧ Blk wr (w.heap.size + 1 + 1) 168 (c32 (roundsS m V0 r)) ∧ Below w.heap.size w wr)
          (fun i _ => 10 - (intOf i).toNat)
        case atStart =>
          refine ⟨0, rfl, by omega, ?_, ?_, ?_, ?_, ?_⟩
          · exact (hH.far (show w.heap.size ≠ w.heap.size + 1 + 1 by omega) _).far (show w.heap.size ≠ w.heap.size + 1 + 1 by omega) _
          · exact (hR.far (show w.heap.size + 1 ≠ w.heap.size + 1 + 1 by omega) _).far (show w.heap.size + 1 ≠ w.heap.size + 1 + 1 by omega) _
          · exact (hM.far (show w.heap.size + 1 + 1 + 1 ≠ w.heap.size + 1 + 1 by omega) _).far (show w.heap.size + 1 + 1 + 1 ≠ w.heap.size + 1 + 1 by omega) _
          · rw [roundsS, ← HV0.out, startS, if_neg (by decide), HI0.out]
            have h1 := (hV.put 12 (.int .u32 (xor32 (at32 I0 12) (lo32 n)).toNat)).put 13 (.int .u32 (xor32 (at32 I0 13) (hi32 n)).toNat)
            rw [c32_set, c32_set] at h1
            exact h1
          · exact (hbel.setCell (by simp; omega) _).setCell (by simp; omega) _
        case round =>
          clear hH hR hM hV hbel c12 c13 c14 f12 f13 f14 hlo hlt' hhi hhi' hx1 hx2 hx3 hx4 HV0 HM HI0
          obtain ⟨r, rfl, hr, hH, hR, hM, hV, hbel⟩ := hrel
          by_cases hrlt : r < 10
          · have hri : (r : Int) < 10 := by omega
            have hr0 : (0 : Int) ≤ (r : Int) := by omega
            have hrw : IntKind.i64.wrap ((r : Int) + 1) = (r : Int) + 1 := IntWalk.i64_in _ (by omega)
            have cR := ((Blk.new wr 9 rowsC).cell r).trans (rowsC_at r hrlt)
            have kH := hH.alloc (.cells rowsC 9)
            have kR := hR.alloc (.cells rowsC 9)
            have kM := hM.alloc (.cells rowsC 9)
            have kV := hV.alloc (.cells rowsC 9)
            have kb := hbel.alloc (by have := hH.lt; omega) (.cells rowsC 9)
            clear hH hR hM hV hbel
            go_wp2_with fail
            refine (rows_any _).mono ?_
            rintro e w2 ⟨rfl, rfl⟩
            go_wp2_with fail
            go_loopw [15] (fun i wr => ∃ k : Nat, i = .int .i64 k ∧ k ≤ 8 ∧ Blk wr w.heap.size 130 (c32 q8) ∧ Blk wr (w.heap.size + 1) 130 (c32 (List.replicate 8 0)) ∧
                Blk wr (w.heap.size + 1 + 1 + 1) 168 (c32 m) ∧ Blk wr (w.heap.size + 1 + 1) 168 (c32 (stepsS m r (roundsS m V0 r) k)) ∧ Below w.heap.size w wr)
              (fun i _ => 8 - (intOf i).toNat)
            case atStart => exact ⟨0, rfl, by omega, kH, kR, kM, kV, kb⟩
            case round =>
              clear kH kR kM kV kb cR
              obtain ⟨k, rfl, hk, iH, iR, iM, iV, ibel⟩ := hrel
              have hSs := rowStr_size ⟨r, hrlt⟩
              by_cases hlt : k < 8
              · as_aux_lemma =>
                obtain ⟨P1, P2, E1, E2, i1, i2, i3, i4, i5, i6, w1', w2', s1, s2, s3, s4, n1, n2, wk, PL1, PL2, C1, C2⟩ := rstep_facts m r k hrlt hlt hml
                have hvl : (roundsS m V0 r).length = 16 := by rw [roundsS_length]; exact HVL.out
                have hsl : ∀ j, (stepsS m r (roundsS m V0 r) j).length = 16 := fun j => by rw [stepsS_length]; exact hvl
                have hi16 : ∀ j, (Try.prog.info? 168).map (·.size) = some (c32 (stepsS m r (roundsS m V0 r) j)).size := fun j => by rw [c32_size, hsl]; kernel_rfl
                have cp1 := C1.out _ _ _ iM
                have cp2 := C2.out _ _ _ iM
                clear C1 C2
                have hSs' : (rowStr r).size = 16 := hSs
                by_cases hk4 : k < 4
                · obtain ⟨t1, x1, x2, x3, MX⟩ := rcol_facts m (roundsS m V0 r) r k P1 P2 hk4 hml hvl E1.out E2.out
                  clear E1 E2
                  go_wp2_with fail
                  refine still_all (by kernel_rfl) (by kernel_rfl) ?_
                  iterate 4 still_step
                  refine wpStill_step (fun K hK => ?_)
                  go_simp
                  refine ⟨_, PL1.out _ _ (at8_get _ _ _), hK _ ?_⟩
                  clear hK K
                  iterate 7 still_step
                  refine wpStill_step (fun K hK => ?_)
                  go_simp
                  refine ⟨_, PL2.out _ _ (at8_get _ _ _), hK _ ?_⟩
                  clear hK K
                  iterate 4 still_step
                  refine wpStill_nil ?_
                  go_wp2_with (refine wpList_load_row rfl 168 _ rfl (w.heap.size + 1 + 1) rfl 168 (c32 (stepsS m r (roundsS m V0 r) k)) (0, 0) _ iV.drew Try.underlying168 rfl (hi16 k) ?_)
                  refine (MX.out _).mono ?_
                  rintro e w5 ⟨rfl, hb5⟩
                  have jH := iH.drew.below hb5 iH.lt
                  have jR := iR.drew.below hb5 iR.lt
                  have jM := iM.drew.below hb5 iM.lt
                  have jV := iV.drew.below hb5 iV.lt
                  have jb := ibel.drew.trans (hb5.mono (by have := iH.lt; simp; omega))
                  have nH := jH.rowOf (k := w.heap.size + 1 + 1) (show w.heap.size ≠ w.heap.size + 1 + 1 by omega) (c32 (stepsS m r (roundsS m V0 r) (k + 1)))
                  have nR := jR.rowOf (k := w.heap.size + 1 + 1) (show w.heap.size + 1 ≠ w.heap.size + 1 + 1 by omega) (c32 (stepsS m r (roundsS m V0 r) (k + 1)))
                  have nM := jM.rowOf (k := w.heap.size + 1 + 1) (show w.heap.size + 1 + 1 + 1 ≠ w.heap.size + 1 + 1 by omega) (c32 (stepsS m r (roundsS m V0 r) (k + 1)))
                  have nV := jV.row (c32 (stepsS m r (roundsS m V0 r) (k + 1)))
                  have nb := below_setRow jb (show w.heap.size ≤ w.heap.size + 1 + 1 by omega) (c32 (stepsS m r (roundsS m V0 r) (k + 1)))
                  clear MX PL1 PL2 iH iR iM iV ibel cp1 cp2 jH jR jM jb hb5
                  go_wp2_with (refine wpList_store_rowTo rfl 168 _ _ rfl rfl (w.heap.size + 1 + 1) (c32 (stepsS m r (roundsS m V0 r) (k + 1))) rfl rfl 168 (c32 (stepsS m r (roundsS m V0 r) k)) jV (hi16 (k + 1)) (by rw [c32_size, c32_size, hsl, hsl]) (by simp [c32, Value.oneCell']) ?_)
                  go_roundw
                  case rel => exact ⟨k + 1, by go_num, by omega, nH, nR, nM, nV, nb⟩
                  case measure => simp [intOf]; omega
                · obtain ⟨j, bb, cc, dd, t1, x1, x2, x3, x4, x5, x6, x7, x8, x9, y1, y2, y3, y4, y5, y6, y7, y8, y9, MX⟩ := rdiag_facts m (roundsS m V0 r) r k P1 P2 hk4 hlt hml hvl E1.out E2.out
                  clear E1 E2
                  go_wp2_with fail
                  refine still_all (by kernel_rfl) (by kernel_rfl) ?_
                  iterate 4 still_step
                  refine wpStill_step (fun K hK => ?_)
                  go_simp
                  refine ⟨_, PL1.out _ _ (at8_get _ _ _), hK _ ?_⟩
                  clear hK K
                  iterate 7 still_step
                  refine wpStill_step (fun K hK => ?_)
                  go_simp
                  refine ⟨_, PL2.out _ _ (at8_get _ _ _), hK _ ?_⟩
                  clear hK K
                  iterate 4 still_step
                  refine wpStill_nil ?_
                  go_wp2_with (refine wpList_load_row rfl 168 _ rfl (w.heap.size + 1 + 1) rfl 168 (c32 (stepsS m r (roundsS m V0 r) k)) (0, 0) _ iV.drew Try.underlying168 rfl (hi16 k) ?_)
                  refine (MX.out _).mono ?_
                  rintro e w5 ⟨rfl, hb5⟩
                  have jH := iH.drew.below hb5 iH.lt
                  have jR := iR.drew.below hb5 iR.lt
                  have jM := iM.drew.below hb5 iM.lt
                  have jV := iV.drew.below hb5 iV.lt
                  have jb := ibel.drew.trans (hb5.mono (by have := iH.lt; simp; omega))
                  have nH := jH.rowOf (k := w.heap.size + 1 + 1) (show w.heap.size ≠ w.heap.size + 1 + 1 by omega) (c32 (stepsS m r (roundsS m V0 r) (k + 1)))
                  have nR := jR.rowOf (k := w.heap.size + 1 + 1) (show w.heap.size + 1 ≠ w.heap.size + 1 + 1 by omega) (c32 (stepsS m r (roundsS m V0 r) (k + 1)))
                  have nM := jM.rowOf (k := w.heap.size + 1 + 1) (show w.heap.size + 1 + 1 + 1 ≠ w.heap.size + 1 + 1 by omega) (c32 (stepsS m r (roundsS m V0 r) (k + 1)))
                  have nV := jV.row (c32 (stepsS m r (roundsS m V0 r) (k + 1)))
                  have nb := below_setRow jb (show w.heap.size ≤ w.heap.size + 1 + 1 by omega) (c32 (stepsS m r (roundsS m V0 r) (k + 1)))
                  clear MX PL1 PL2 iH iR iM iV ibel cp1 cp2 jH jR jM jb hb5
                  go_wp2_with (refine wpList_store_rowTo rfl 168 _ _ rfl rfl (w.heap.size + 1 + 1) (c32 (stepsS m r (roundsS m V0 r) (k + 1))) rfl rfl 168 (c32 (stepsS m r (roundsS m V0 r) k)) jV (hi16 (k + 1)) (by rw [c32_size, c32_size, hsl, hsl]) (by simp [c32, Value.oneCell']) ?_)
                  go_roundw
                  case rel => exact ⟨k + 1, by go_num, by omega, nH, nR, nM, nV, nb⟩
                  case measure => simp [intOf]; omega
              · have hk4 : k = 8 := by omega
                have hk5 : ¬ (k : Int) < 8 := by omega
                rw [hk4] at iV
                clear hk4 hlt hk
                go_wp2_with fail
                go_roundw
                case rel => exact ⟨r + 1, by go_num, by omega, iH, iR, iM, iV, ibel⟩
                case measure => simp [intOf]; omega
          · have hr10 : r = 10 := by omega
            have hr11 : ¬ (r : Int) < 10 := by omega
            rw [hr10] at hV
            clear hr10 hrlt hr
            obtain ⟨V, hv⟩ : ∃ V, roundsS m V0 10 = V := ⟨_, rfl⟩
            rw [hv] at hV
            have hVl : V.length = 16 := by rw [← hv, roundsS_length]; exact HVL.out
            have HT2 := Lib.hid (HT.out V hv)
            clear HT HVL hv
            go_wp2_with fail
            go_loopw [19] (fun i wr => ∃ k : Nat, i = .int .i64 k ∧ k ≤ 8 ∧ Blk wr w.heap.size 130 (c32 (endP q8 V k)) ∧ Blk wr (w.heap.size + 1) 130 (c32 (List.replicate 8 0)) ∧
                Blk wr (w.heap.size + 1 + 1) 168 (c32 V) ∧ Below w.heap.size w wr)
              (fun i _ => 8 - (intOf i).toNat)
            case atStart => exact ⟨0, rfl, by omega, by rw [endP_zero]; exact hH, hR, hV, hbel⟩
            case round =>
              clear hH hR hM hV hbel
              obtain ⟨k, rfl, hk, iH, iR, iV, ibel⟩ := hrel
              by_cases hlt : k < 8
              · as_aux_lemma =>
                obtain ⟨i1, i2, i3, i4, i5, w1', i6, CH, CV⟩ := end_facts q8 V k hlt hh hVl
                have wk : IntKind.i64.wrap ((k : Int) + 1) = (k : Int) + 1 := IntWalk.i64_in _ (by omega)
                have cp1 := (CH.out _ _ _ iH.drew).1
                have nH := Lib.hid (CH.out _ _ _ iH.drew).2
                have cp2 := (CV.out _ _ _ iV.drew).1
                have cp3 := (CV.out _ _ _ iV.drew).2
                have hf := iH.drew.frozen k
                have hxa := xor32_assoc (at32 q8 k) (at32 V k) (at32 V (k + 8))
                clear CH CV
                go_wp2_with fail
                refine still_tail 14 (by kernel_rfl) (by kernel_rfl) ?_
                simp only [List.take_succ_cons, List.take_zero, List.drop_succ_cons, List.drop_zero]
                iterate 14 still_step
                refine wpStill_nil ?_
                go_wp2
                go_roundw
                case rel => exact ⟨k + 1, by go_num, by omega, nH.out, iR.drew.far (show w.heap.size + 1 ≠ w.heap.size by omega) _, iV.drew.far (show w.heap.size + 1 + 1 ≠ w.heap.size by omega) _, ibel.drew.setCell (Nat.le_refl _) _⟩
                case measure => simp [intOf]; omega
              · as_aux_lemma =>
                have hk8 : k = 8 := by omega
                have hk9 : ¬ (k : Int) < 8 := by omega
                rw [hk8, endP_all _ _ hh] at iH
                clear hk8 hlt hk
                obtain ⟨T8, ht⟩ : ∃ T8, endS q8 V = T8 := ⟨_, rfl⟩
                have hTl : T8.length = 8 := by rw [← ht, endS_length]
                rw [ht] at iH
                rw [ht] at HT2
                clear ht
                have hi8 : (Try.prog.info? 130).map (·.size) = some (c32 T8).size := by rw [c32_size, hTl]; kernel_rfl
                have h1 : (c32 T8).all (·.oneCell') = true := by simp [c32, Value.oneCell']
                have nR := (iR.row (c32 T8))
                go_wp2_with (first
                  | refine wpList_load_row rfl 130 _ rfl w.heap.size rfl 130 (c32 T8) (0, 0) _ iH Try.underlying130 rfl hi8 ?_
                  | refine wpList_store_rowTo rfl 130 _ _ rfl rfl (w.heap.size + 1) (c32 T8) rfl rfl 130 (c32 (List.replicate 8 0)) iR hi8 (by rw [c32_size, c32_size, hTl]; rfl) h1 ?_)
                refine bodyPost_ret (v := .agg (c32 T8)) ?_ rfl ?_
                · exact results_cell_row Try.results124 _ _ (w.heap.size + 1) 130 (c32 T8) (0, 0) _ rfl nR Try.underlying130 rfl hi8
                exact ⟨by rw [HT2.out]; rfl, below_setRow ibel (by omega) _⟩
end Go.Proofs.Ytncoghoeeefjhaa
