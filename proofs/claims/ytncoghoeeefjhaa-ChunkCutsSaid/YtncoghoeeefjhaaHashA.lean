/- The walk of hash.mix: RotateLeft32, mix's closure, mix. Conditions: four unlike places below 16. -/
import Derived.Test.YtncoghoeeefjhaaProg
import Derived.Test.YtncoghoeeefjhaaHashS
import Derived.Test.YtncoghoeeefjhaaMem
import Derived.Test.YtncoghoeeefjhaaWalk
namespace Go.Proofs.Ytncoghoeeefjhaa
open Go.RowKit
attribute [local go_sem] w_add32 m_add32 w_xor32

/-- RotateLeft32 by k, which is s modulo 32 -/
theorem rot_any (x : UInt32) (k : Int) (s : UInt32) (w : World) (h0 : 0 < s.toNat) (hs : s.toNat < 32) (hk : bits .and .u64 (IntKind.u64.wrap k) 31 = (s.toNat : Int)) :
    Calls Try.prog 138 #[.int .u32 x.toNat, .int .i64 k] w fun e w' => e = .returned (.int .u32 (rotl x s).toNat) ∧ w' = w := by
  have hsub : IntKind.u64.wrap (32 - (s.toNat : Int)) = ((32 - s.toNat : Nat) : Int) := by
    simp [IntKind.wrap, IntKind.bits, IntKind.signed]; omega
  have hb : (0 : Int) ≤ (s.toNat : Int) := by omega
  have hb2 : (s.toNat : Int) < 32 := by omega
  have hn : ((s.toNat : Int)).toNat = s.toNat := rfl
  have hm1 : min s.toNat 32 = s.toNat := by omega
  have hm2 : min (32 - s.toNat) 32 = 32 - s.toNat := by omega
  have hfin := Lib.hid (rot_nat x s (32 - s.toNat) h0 hs rfl)
  go_enter Try.func138, Try.ntmps138
  go_wp2
  go_ret
  exact ⟨ret_int hfin.out, rfl⟩

set_option maxRecDepth 100000 in
set_option maxHeartbeats 2000000 in
theorem half_cells (V Bv Ba Bb Bc Bd : Nat) (a b c d : Nat) (va vb vc vd n : UInt32) (k1 k2 : Int) (s1 s2 : UInt32) (w : World)
    (h10 : 0 < s1.toNat) (h1s : s1.toNat < 32) (hk1 : bits .and .u64 (IntKind.u64.wrap (IntKind.i64.wrap (-k1))) 31 = (s1.toNat : Int))
    (h20 : 0 < s2.toNat) (h2s : s2.toNat < 32) (hk2 : bits .and .u64 (IntKind.u64.wrap (IntKind.i64.wrap (-k2))) 31 = (s2.toNat : Int))
    (hv : w.cell? ⟨Bv, 0, none⟩ = some (.pointer (some ⟨V, 0, none⟩)))
    (ha : w.cell? ⟨Ba, 0, none⟩ = some (.int .i64 a)) (hb : w.cell? ⟨Bb, 0, none⟩ = some (.int .i64 b)) (hc : w.cell? ⟨Bc, 0, none⟩ = some (.int .i64 c)) (hd : w.cell? ⟨Bd, 0, none⟩ = some (.int .i64 d))
    (nv : ¬ V = Bv) (na : ¬ V = Ba) (nb : ¬ V = Bb) (nc : ¬ V = Bc) (nd : ¬ V = Bd)
    (ab : ¬ a = b) (ac : ¬ a = c) (ad : ¬ a = d) (bc : ¬ b = c) (bd : ¬ b = d) (cd : ¬ c = d)
    (la : a < 16) (lb : b < 16) (lc : c < 16) (ld : d < 16)
    (hva : w.cell? ⟨V, a, none⟩ = some (.int .u32 va.toNat)) (hvb : w.cell? ⟨V, b, none⟩ = some (.int .u32 vb.toNat)) (hvc : w.cell? ⟨V, c, none⟩ = some (.int .u32 vc.toNat)) (hvd : w.cell? ⟨V, d, none⟩ = some (.int .u32 vd.toNat))
    (fa : w.frozen? ⟨V, a, none⟩ = false) (fb : w.frozen? ⟨V, b, none⟩ = false) (fc : w.frozen? ⟨V, c, none⟩ = false) (fd : w.frozen? ⟨V, d, none⟩ = false) :
    Calls Try.prog 146 #[.int .u32 n.toNat, .int .i64 k1, .int .i64 k2, .pointer (some ⟨Bv, 0, none⟩), .pointer (some ⟨Ba, 0, none⟩), .pointer (some ⟨Bb, 0, none⟩), .pointer (some ⟨Bd, 0, none⟩), .pointer (some ⟨Bc, 0, none⟩)] w
      fun e w' => e = .returned (.tuple #[]) ∧ w' = ((((w.setCell ⟨V, a, none⟩ (.int .u32 (halfA va vb n).toNat)).setCell ⟨V, d, none⟩ (.int .u32 (halfD va vb vd n s1).toNat)).setCell ⟨V, c, none⟩ (.int .u32 (halfC va vb vc vd n s1).toNat)).setCell ⟨V, b, none⟩ (.int .u32 (halfB va vb vc vd n s1 s2).toNat)).drew.drew.drew.drew := by
  have za : (0 : Int) ≤ (a : Int) := Int.natCast_nonneg a
  have zb : (0 : Int) ≤ (b : Int) := Int.natCast_nonneg b
  have zc : (0 : Int) ≤ (c : Int) := Int.natCast_nonneg c
  have zd : (0 : Int) ≤ (d : Int) := Int.natCast_nonneg d
  have ia : (a : Int) < 16 := by omega
  have ib : (b : Int) < 16 := by omega
  have ic : (c : Int) < 16 := by omega
  have id : (d : Int) < 16 := by omega
  go_enter Try.func146, Try.ntmps146
  go_wp2
  refine still_tail 15 (by kernel_rfl) (by kernel_rfl) ?_
  simp only [List.take_succ_cons, List.take_zero, List.drop_succ_cons, List.drop_zero]
  iterate 15 still_step
  refine wpStill_nil ?_
  go_wp2
  refine still_tail 18 (by kernel_rfl) (by kernel_rfl) ?_
  simp only [List.take_succ_cons, List.take_zero, List.drop_succ_cons, List.drop_zero]
  iterate 15 still_step
  refine wpStill_step (fun K hK => ?_)
  go_simp
  refine ⟨_, rot_any _ _ s1 _ h10 h1s hk1, hK _ ?_⟩
  clear hK K
  iterate 2 still_step
  refine wpStill_nil ?_
  go_wp2
  refine still_tail 13 (by kernel_rfl) (by kernel_rfl) ?_
  simp only [List.take_succ_cons, List.take_zero, List.drop_succ_cons, List.drop_zero]
  iterate 13 still_step
  refine wpStill_nil ?_
  go_wp2
  refine still_tail 18 (by kernel_rfl) (by kernel_rfl) ?_
  simp only [List.take_succ_cons, List.take_zero, List.drop_succ_cons, List.drop_zero]
  iterate 15 still_step
  refine wpStill_step (fun K hK => ?_)
  go_simp
  refine ⟨_, rot_any _ _ s2 _ h20 h2s hk2, hK _ ?_⟩
  clear hK K
  iterate 2 still_step
  refine wpStill_nil ?_
  go_wp2
  go_end0
  exact ⟨rfl, rfl⟩

theorem half_any (V Bv Ba Bb Bc Bd T : Nat) (a b c d : Nat) (vs : List UInt32) (n : UInt32) (k1 k2 : Int) (s1 s2 : UInt32) (w : World)
    (h10 : 0 < s1.toNat) (h1s : s1.toNat < 32) (hk1 : bits .and .u64 (IntKind.u64.wrap (IntKind.i64.wrap (-k1))) 31 = (s1.toNat : Int))
    (h20 : 0 < s2.toNat) (h2s : s2.toNat < 32) (hk2 : bits .and .u64 (IntKind.u64.wrap (IntKind.i64.wrap (-k2))) 31 = (s2.toNat : Int))
    (hv : w.cell? ⟨Bv, 0, none⟩ = some (.pointer (some ⟨V, 0, none⟩)))
    (ha : w.cell? ⟨Ba, 0, none⟩ = some (.int .i64 a)) (hb : w.cell? ⟨Bb, 0, none⟩ = some (.int .i64 b)) (hc : w.cell? ⟨Bc, 0, none⟩ = some (.int .i64 c)) (hd : w.cell? ⟨Bd, 0, none⟩ = some (.int .i64 d))
    (nv : ¬ V = Bv) (na : ¬ V = Ba) (nb : ¬ V = Bb) (nc : ¬ V = Bc) (nd : ¬ V = Bd)
    (ab : ¬ a = b) (ac : ¬ a = c) (ad : ¬ a = d) (bc : ¬ b = c) (bd : ¬ b = d) (cd : ¬ c = d)
    (la : a < 16) (lb : b < 16) (lc : c < 16) (ld : d < 16) (hl : vs.length = 16) (hV : Blk w V T (c32 vs)) :
    Calls Try.prog 146 #[.int .u32 n.toNat, .int .i64 k1, .int .i64 k2, .pointer (some ⟨Bv, 0, none⟩), .pointer (some ⟨Ba, 0, none⟩), .pointer (some ⟨Bb, 0, none⟩), .pointer (some ⟨Bd, 0, none⟩), .pointer (some ⟨Bc, 0, none⟩)] w
      fun e w' => e = .returned (.tuple #[]) ∧ Blk w' V T (c32 (halfS vs a b c d n s1 s2)) ∧ w.grownBy w' (some V) ∧ w'.heap.size = w.heap.size := by
  have ca := (hV.cell a).trans (c32_at vs a (Nat.lt_of_lt_of_eq la hl.symm))
  have cb := (hV.cell b).trans (c32_at vs b (Nat.lt_of_lt_of_eq lb hl.symm))
  have cc := (hV.cell c).trans (c32_at vs c (Nat.lt_of_lt_of_eq lc hl.symm))
  have cd' := (hV.cell d).trans (c32_at vs d (Nat.lt_of_lt_of_eq ld hl.symm))
  have key := half_cells V Bv Ba Bb Bc Bd a b c d (at32 vs a) (at32 vs b) (at32 vs c) (at32 vs d) n k1 k2 s1 s2 w h10 h1s hk1 h20 h2s hk2 hv ha hb hc hd nv na nb nc nd ab ac ad bc bd cd la lb lc ld
    ca cb cc cd' (hV.frozen a) (hV.frozen b) (hV.frozen c) (hV.frozen d)
  refine key.mono ?_
  rintro e w' ⟨rfl, rfl⟩
  refine ⟨rfl, ?_, ?_, ?_⟩
  · have h := (((hV.put a (.int .u32 (halfA (at32 vs a) (at32 vs b) n).toNat)).put d (.int .u32 (halfD (at32 vs a) (at32 vs b) (at32 vs d) n s1).toNat)).put c (.int .u32 (halfC (at32 vs a) (at32 vs b) (at32 vs c) (at32 vs d) n s1).toNat)).put b (.int .u32 (halfB (at32 vs a) (at32 vs b) (at32 vs c) (at32 vs d) n s1 s2).toNat)
    rw [c32_set, c32_set, c32_set, c32_set] at h
    exact h
  · exact only_drew (only_drew (only_drew (only_drew (only_cell (only_cell (only_cell (only_cell (only_refl w _) _ _) _ _) _ _) _ _))))
  · simp [World.setCell, World.drew]
end Go.Proofs.Ytncoghoeeefjhaa
