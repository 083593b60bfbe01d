/- What a step of hash.take needs to know, told once. No condition but the places' bounds. -/
import Derived.Test.YtncoghoeeefjhaaTakeS
import Derived.Lib.Hide
namespace Go.Proofs.Ytncoghoeeefjhaa
open Go.RowKit

/-- a step on the columns -/
theorem col_facts (m v : List UInt32) (r k : Nat) (hr : r < 10) (hk : k < 4) (hm : m.length = 16) (hv : v.length = 16) :
    ∃ P1 P2 : Nat, (0 : Int) ≤ (P1 : Int) ∧ (P1 : Int) < 16 ∧ (0 : Int) ≤ (P2 : Int) ∧ (P2 : Int) < 16 ∧ (0 : Int) ≤ (k : Int) ∧ (k : Int) < 4 ∧
      IntKind.i64.wrap (4 + (k : Int)) = 4 + (k : Int) ∧ IntKind.i64.wrap (8 + (k : Int)) = 8 + (k : Int) ∧ IntKind.i64.wrap (12 + (k : Int)) = 12 + (k : Int) ∧
      IntKind.i64.wrap (2 * (k : Int)) = 2 * (k : Int) ∧ IntKind.i64.wrap (2 * (k : Int) + 1) = 2 * (k : Int) + 1 ∧
      Hid (∀ w, Calls Try.prog 129 #[.int .i64 r, .int .i64 (2 * (k : Int))] w fun e w' => e = .returned (.int .i64 P1) ∧ w' = w) ∧
      Hid (∀ w, Calls Try.prog 129 #[.int .i64 r, .int .i64 (2 * (k : Int) + 1)] w fun e w' => e = .returned (.int .i64 P2) ∧ w' = w) ∧
      Hid (∀ (w : World) g T, Blk w g T (c32 m) → w.cell? ⟨g, P1, none⟩ = some (.int .u32 (at32 m P1).toNat)) ∧
      Hid (∀ (w : World) g T, Blk w g T (c32 m) → w.cell? ⟨g, P2, none⟩ = some (.int .u32 (at32 m P2).toNat)) ∧
      Hid (∀ (w : World) g T, Blk w g T (c32 (stepsS m r v k)) → Calls Try.prog 128 #[.pointer (some ⟨g, 0, none⟩), .int .i64 (k : Int), .int .i64 (4 + (k : Int)), .int .i64 (8 + (k : Int)), .int .i64 (12 + (k : Int)), .int .u32 (at32 m P1).toNat, .int .u32 (at32 m P2).toNat] w
        fun e w' => e = .returned (.tuple #[]) ∧ Blk w' g T (c32 (stepsS m r v (k + 1))) ∧ w.grownBy w' (some g)) := by
  have p1 := perm_lt r (2 * k) hr (by omega)
  have p2 := perm_lt r (2 * k + 1) hr (by omega)
  refine ⟨perm r (2 * k), perm r (2 * k + 1), by omega, by omega, by omega, by omega, by omega, by omega, IntWalk.i64_in _ (by omega), IntWalk.i64_in _ (by omega), IntWalk.i64_in _ (by omega), IntWalk.i64_in _ (by omega), IntWalk.i64_in _ (by omega),
    Lib.hid fun w => hrow_any r (2 * k) w hr (by omega), Lib.hid fun w => hrow_any r (2 * k + 1) w hr (by omega),
    Lib.hid fun w g T h => (h.cell _).trans (c32_at _ _ (by omega)), Lib.hid fun w g T h => (h.cell _).trans (c32_at _ _ (by omega)), Lib.hid fun w g T h => ?_⟩
  have hst : stepsS m r v (k + 1) = mixS (stepsS m r v k) k (4 + k) (8 + k) (12 + k) (at32 m (perm r (2 * k))) (at32 m (perm r (2 * k + 1))) := by rw [stepsS, stepS, if_pos hk]
  rw [hst]
  exact mix_any g T k (4 + k) (8 + k) (12 + k) (stepsS m r v k) _ _ w (by omega) (by omega) (by omega) (by omega) (by omega) (by omega) (by omega) (by omega) (by omega) (by omega) (by rw [stepsS_length]; exact hv) h

/-- a step on the diagonals -/
theorem diag_facts (m v : List UInt32) (r k : Nat) (hr : r < 10) (hk : k < 4) (hm : m.length = 16) (hv : v.length = 16) :
    ∃ P1 P2 bb cc dd : Nat, (0 : Int) ≤ (P1 : Int) ∧ (P1 : Int) < 16 ∧ (0 : Int) ≤ (P2 : Int) ∧ (P2 : Int) < 16 ∧ (0 : Int) ≤ (k : Int) ∧ (k : Int) < 4 ∧
      IntKind.i64.wrap ((k : Int) + 1) = (k : Int) + 1 ∧ IntKind.i64.wrap ((k : Int) + 2) = (k : Int) + 2 ∧ IntKind.i64.wrap ((k : Int) + 3) = (k : Int) + 3 ∧
      ((k : Int) + 1).tmod 4 = (bb : Int) ∧ ((k : Int) + 2).tmod 4 = (cc : Int) ∧ ((k : Int) + 3).tmod 4 = (dd : Int) ∧
      ((k : Int) + 1) % 4 = (bb : Int) ∧ ((k : Int) + 2) % 4 = (cc : Int) ∧ ((k : Int) + 3) % 4 = (dd : Int) ∧
      IntKind.i64.wrap (bb : Int) = (bb : Int) ∧ IntKind.i64.wrap (cc : Int) = (cc : Int) ∧ IntKind.i64.wrap (dd : Int) = (dd : Int) ∧
      IntKind.i64.wrap (4 + (bb : Int)) = 4 + (bb : Int) ∧ IntKind.i64.wrap (8 + (cc : Int)) = 8 + (cc : Int) ∧ IntKind.i64.wrap (12 + (dd : Int)) = 12 + (dd : Int) ∧
      IntKind.i64.wrap (2 * (k : Int)) = 2 * (k : Int) ∧ IntKind.i64.wrap (8 + 2 * (k : Int)) = 8 + 2 * (k : Int) ∧ IntKind.i64.wrap (9 + 2 * (k : Int)) = 9 + 2 * (k : Int) ∧
      Hid (∀ w, Calls Try.prog 129 #[.int .i64 r, .int .i64 (8 + 2 * (k : Int))] w fun e w' => e = .returned (.int .i64 P1) ∧ w' = w) ∧
      Hid (∀ w, Calls Try.prog 129 #[.int .i64 r, .int .i64 (9 + 2 * (k : Int))] w fun e w' => e = .returned (.int .i64 P2) ∧ w' = w) ∧
      Hid (∀ (w : World) g T, Blk w g T (c32 m) → w.cell? ⟨g, P1, none⟩ = some (.int .u32 (at32 m P1).toNat)) ∧
      Hid (∀ (w : World) g T, Blk w g T (c32 m) → w.cell? ⟨g, P2, none⟩ = some (.int .u32 (at32 m P2).toNat)) ∧
      Hid (∀ (w : World) g T, Blk w g T (c32 (stepsS m r v (4 + k))) → Calls Try.prog 128 #[.pointer (some ⟨g, 0, none⟩), .int .i64 (k : Int), .int .i64 (4 + (bb : Int)), .int .i64 (8 + (cc : Int)), .int .i64 (12 + (dd : Int)), .int .u32 (at32 m P1).toNat, .int .u32 (at32 m P2).toNat] w
        fun e w' => e = .returned (.tuple #[]) ∧ Blk w' g T (c32 (stepsS m r v (4 + (k + 1)))) ∧ w.grownBy w' (some g)) := by
  have p1 := perm_lt r (8 + 2 * k) hr (by omega)
  have p2 := perm_lt r (9 + 2 * k) hr (by omega)
  refine ⟨perm r (8 + 2 * k), perm r (9 + 2 * k), (k + 1) % 4, (k + 2) % 4, (k + 3) % 4, by omega, by omega, by omega, by omega, by omega, by omega, IntWalk.i64_in _ (by omega), IntWalk.i64_in _ (by omega), IntWalk.i64_in _ (by omega),
    by rw [Int.tmod_eq_emod_of_nonneg (by omega)]; omega, by rw [Int.tmod_eq_emod_of_nonneg (by omega)]; omega, by rw [Int.tmod_eq_emod_of_nonneg (by omega)]; omega, by omega, by omega, by omega,
    IntWalk.i64_in _ (by omega), IntWalk.i64_in _ (by omega), IntWalk.i64_in _ (by omega), IntWalk.i64_in _ (by omega), IntWalk.i64_in _ (by omega), IntWalk.i64_in _ (by omega), IntWalk.i64_in _ (by omega), IntWalk.i64_in _ (by omega), IntWalk.i64_in _ (by omega),
    Lib.hid fun w => hrow_any r (8 + 2 * k) w hr (by omega), Lib.hid fun w => hrow_any r (9 + 2 * k) w hr (by omega),
    Lib.hid fun w g T h => (h.cell _).trans (c32_at _ _ (by omega)), Lib.hid fun w g T h => (h.cell _).trans (c32_at _ _ (by omega)), Lib.hid fun w g T h => ?_⟩
  have hst : stepsS m r v (4 + (k + 1)) = mixS (stepsS m r v (4 + k)) k (4 + (k + 1) % 4) (8 + (k + 2) % 4) (12 + (k + 3) % 4) (at32 m (perm r (8 + 2 * k))) (at32 m (perm r (9 + 2 * k))) := by
    rw [show 4 + (k + 1) = 4 + k + 1 by omega, stepsS, stepS, if_neg (by omega), show 4 + k - 4 = k by omega, show 2 * (4 + k) = 8 + 2 * k by omega, show 8 + 2 * k + 1 = 9 + 2 * k by omega]
  rw [hst]
  exact mix_any g T k (4 + (k + 1) % 4) (8 + (k + 2) % 4) (12 + (k + 3) % 4) (stepsS m r v (4 + k)) _ _ w (by omega) (by omega) (by omega) (by omega) (by omega) (by omega) (by omega) (by omega) (by omega) (by omega) (by rw [stepsS_length]; exact hv) h

/-- a step of the end -/
theorem end_facts (h v : List UInt32) (k : Nat) (hk : k < 8) (hh : h.length = 8) (hv : v.length = 16) :
    (0 : Int) ≤ (k : Int) ∧ (k : Int) < 8 ∧ (0 : Int) ≤ (k : Int) + 8 ∧ (k : Int) + 8 < 16 ∧ (k : Int) < 16 ∧ IntKind.i64.wrap ((k : Int) + 8) = (k : Int) + 8 ∧ ((k : Int) + 8).toNat = k + 8 ∧
      Hid (∀ (w : World) g T, Blk w g T (c32 (endP h v k)) → w.cell? ⟨g, k, none⟩ = some (.int .u32 (at32 h k).toNat) ∧ Blk (w.setCell ⟨g, k, none⟩ (.int .u32 (xor32 (at32 h k) (xor32 (at32 v k) (at32 v (k + 8)))).toNat)) g T (c32 (endP h v (k + 1)))) ∧
      Hid (∀ (w : World) g T, Blk w g T (c32 v) → w.cell? ⟨g, k, none⟩ = some (.int .u32 (at32 v k).toNat) ∧ w.cell? ⟨g, k + 8, none⟩ = some (.int .u32 (at32 v (k + 8)).toNat)) := by
  refine ⟨by omega, by omega, by omega, by omega, by omega, IntWalk.i64_in _ (by omega), by omega, Lib.hid fun w g T hb => ⟨?_, ?_⟩, Lib.hid fun w g T hb => ⟨(hb.cell _).trans (c32_at _ _ (by omega)), (hb.cell _).trans (c32_at _ _ (by omega))⟩⟩
  · rw [← endP_at h v k hh hk]
    exact (hb.cell _).trans (c32_at _ _ (by rw [endP_length _ _ _ hh (by omega)]; exact hk))
  · have h1 := hb.put k (.int .u32 (xor32 (at32 h k) (xor32 (at32 v k) (at32 v (k + 8)))).toNat)
    rw [c32_set, endP_succ h v k hh hk] at h1
    exact h1
end Go.Proofs.Ytncoghoeeefjhaa
