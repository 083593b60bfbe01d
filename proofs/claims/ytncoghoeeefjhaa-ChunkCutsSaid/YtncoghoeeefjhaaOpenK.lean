/- Arguments opened: what all rows share. No condition. -/
import Derived.Test.YtncoghoeeefjhaaProg
import Derived.Test.YtncoghoeeefjhaaMem
import Derived.ProofKit
import Derived.Deep.Slices
namespace Go.Proofs.Ytncoghoeeefjhaa
open Go.ChangeShapes Go.WideShapes Go.ChangeAt Go.RowKit Go.Deep

theorem row_own : ownKnob Try.prog.godebug = none := by kernel_rfl
theorem row_laidOut : laidOutB Try.prog = true := by kernel_rfl

theorem list_two {α : Type} {l : List α} (h : l.length = 2) : ∃ a b, l = [a, b] := by
  match l, h with
  | [a, b], _ => exact ⟨a, b, rfl⟩
theorem reads_of_list {w : World} {ad : Addr} {n m : Nat} {sz : Nat} {xs : List Value} (hl : xs.length = n * sz) (hsz : 0 < sz) (hc : ∀ j u, xs[j]? = some u → w.cell? (ad.add j) = some u) (_hm : n ≤ m) : Reads w w.heap.size sz (some ad) n xs := by
  refine ⟨hl, fun hn => ?_⟩
  have h0 : 0 < xs.length := by rw [hl]; exact Nat.mul_pos hn hsz
  have hb := World.block_lt_of_cell? w _ (hc 0 xs[0] (List.getElem?_eq_getElem h0))
  rw [block_add] at hb
  exact ⟨ad, rfl, hb, hc⟩
end Go.Proofs.Ytncoghoeeefjhaa
