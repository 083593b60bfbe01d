/- The walk of hash.mix. Conditions: four unlike places below 16; sixteen numbers. -/
import Derived.Test.YtncoghoeeefjhaaHashA
namespace Go.Proofs.Ytncoghoeeefjhaa
open Go.RowKit

set_option maxRecDepth 100000 in
set_option maxHeartbeats 1000000 in
theorem mix_any (V T : Nat) (a b c d : Nat) (vs : List UInt32) (x y : UInt32) (w : World)
    (ab : ¬ a = b) (ac : ¬ a = c) (ad : ¬ a = d) (bc : ¬ b = c) (bd : ¬ b = d) (cd : ¬ c = d)
    (la : a < 16) (lb : b < 16) (lc : c < 16) (ld : d < 16) (hl : vs.length = 16) (hV : Blk w V T (c32 vs)) :
    Calls Try.prog 128 #[.pointer (some ⟨V, 0, none⟩), .int .i64 a, .int .i64 b, .int .i64 c, .int .i64 d, .int .u32 x.toNat, .int .u32 y.toNat] w
      fun e w' => e = .returned (.tuple #[]) ∧ Blk w' V T (c32 (mixS vs a b c d x y)) ∧ w.grownBy w' (some V) := by
  have hlt := hV.lt
  go_enter Try.func128, Try.ntmps128
  obtain ⟨W, hW⟩ : ∃ W, (((((w.alloc (Obj.cells #[Value.pointer (some { block := V, off := 0 })] 171)).alloc (Obj.cells #[Value.int IntKind.i64 ↑a] 3)).alloc (Obj.cells #[Value.int IntKind.i64 ↑b] 3)).alloc
    (Obj.cells #[Value.int IntKind.i64 ↑c] 3)).alloc (Obj.cells #[Value.int IntKind.i64 ↑d] 3)) = W := ⟨_, rfl⟩
  have f0 : W.cell? ⟨w.heap.size, 0, none⟩ = some (.pointer (some ⟨V, 0, none⟩)) := by subst hW; go_simp
  have f1 : W.cell? ⟨w.heap.size + 1, 0, none⟩ = some (.int .i64 a) := by subst hW; go_simp
  have f2 : W.cell? ⟨w.heap.size + 1 + 1, 0, none⟩ = some (.int .i64 b) := by subst hW; go_simp
  have f3 : W.cell? ⟨w.heap.size + 1 + 1 + 1, 0, none⟩ = some (.int .i64 c) := by subst hW; go_simp
  have f4 : W.cell? ⟨w.heap.size + 1 + 1 + 1 + 1, 0, none⟩ = some (.int .i64 d) := by subst hW; go_simp
  have hVW : Blk W V T (c32 vs) := by rw [← hW]; exact ((((hV.alloc _).alloc _).alloc _).alloc _).alloc _
  have hgW : w.grownBy W (some V) := by rw [← hW]; exact only_alloc (only_alloc (only_alloc (only_alloc (only_alloc (only_refl w _) _) _) _) _) _
  have hsz : W.heap.size = w.heap.size + 5 := by rw [← hW]; simp
  have l20 : (halfS vs a b c d x 16 20).length = 16 := by rw [halfS_length]; exact hl
  go_wp2_with fail
  clear hW
  refine (half_any V _ _ _ _ _ T a b c d vs x 16 12 16 20 W (by decide) (by decide) (by kernel_rfl) (by decide) (by decide) (by kernel_rfl) f0 f1 f2 f3 f4 (by omega) (by omega) (by omega) (by omega) (by omega)
    ab ac ad bc bd cd la lb lc ld hl hVW).mono ?_
  rintro e w1 ⟨rfl, hV1, hg1, hs1⟩
  have g0 := (only_same hg1 (k := w.heap.size) (by omega) (by omega) 0).trans f0
  have g1 := (only_same hg1 (k := w.heap.size + 1) (by omega) (by omega) 0).trans f1
  have g2 := (only_same hg1 (k := w.heap.size + 1 + 1) (by omega) (by omega) 0).trans f2
  have g3 := (only_same hg1 (k := w.heap.size + 1 + 1 + 1) (by omega) (by omega) 0).trans f3
  have g4 := (only_same hg1 (k := w.heap.size + 1 + 1 + 1 + 1) (by omega) (by omega) 0).trans f4
  clear f0 f1 f2 f3 f4
  go_wp2_with fail
  refine (half_any V _ _ _ _ _ T a b c d _ y 8 7 24 25 w1 (by decide) (by decide) (by kernel_rfl) (by decide) (by decide) (by kernel_rfl) g0 g1 g2 g3 g4 (by omega) (by omega) (by omega) (by omega) (by omega)
    ab ac ad bc bd cd la lb lc ld l20 hV1).mono ?_
  rintro e w2 ⟨rfl, hV2, hg2, hs2⟩
  go_wp2
  go_end0
  exact ⟨rfl, hV2, only_trans hgW (only_trans hg1 hg2)⟩
end Go.Proofs.Ytncoghoeeefjhaa
