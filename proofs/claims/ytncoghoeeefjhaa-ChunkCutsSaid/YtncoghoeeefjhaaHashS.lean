/- BLAKE2s as plain functions on lists of words and bytes. No program in sight; no condition. -/
import Derived.Test.YtncoghoeeefjhaaU
namespace Go.Proofs.Ytncoghoeeefjhaa
open Go.RowKit

def at32 (vs : List UInt32) (i : Nat) : UInt32 := vs.getD i 0

/-- four numbers, half mixed: what becomes of a, b, c, d -/
def halfA (va vb n : UInt32) : UInt32 := add32 va (add32 vb n)
def halfD (va vb vd n s : UInt32) : UInt32 := rotl (xor32 vd (halfA va vb n)) s
def halfC (va vb vc vd n s : UInt32) : UInt32 := add32 vc (halfD va vb vd n s)
def halfB (va vb vc vd n s t : UInt32) : UInt32 := rotl (xor32 vb (halfC va vb vc vd n s)) t

def put4 (vs : List UInt32) (a b c d : Nat) (xa xb xc xd : UInt32) : List UInt32 := (((vs.set a xa).set d xd).set c xc).set b xb
def halfS (vs : List UInt32) (a b c d : Nat) (n s t : UInt32) : List UInt32 :=
  put4 vs a b c d (halfA (at32 vs a) (at32 vs b) n) (halfB (at32 vs a) (at32 vs b) (at32 vs c) (at32 vs d) n s t)
    (halfC (at32 vs a) (at32 vs b) (at32 vs c) (at32 vs d) n s) (halfD (at32 vs a) (at32 vs b) (at32 vs d) n s)
def mixS (vs : List UInt32) (a b c d : Nat) (x y : UInt32) : List UInt32 := halfS (halfS vs a b c d x 16 20) a b c d y 24 25

theorem put4_length (vs : List UInt32) (a b c d : Nat) (xa xb xc xd : UInt32) : (put4 vs a b c d xa xb xc xd).length = vs.length := by simp [put4]
theorem halfS_length (vs : List UInt32) (a b c d : Nat) (n s t : UInt32) : (halfS vs a b c d n s t).length = vs.length := put4_length ..
theorem mixS_length (vs : List UInt32) (a b c d : Nat) (x y : UInt32) : (mixS vs a b c d x y).length = vs.length := by
  unfold mixS; rw [halfS_length, halfS_length]

/-- cells of words -/
def c32 (vs : List UInt32) : Array Value := (vs.map fun x => Value.int .u32 (x.toNat : Int)).toArray
theorem c32_size (vs : List UInt32) : (c32 vs).size = vs.length := by simp [c32]
theorem c32_at (vs : List UInt32) (i : Nat) (h : i < vs.length) : (c32 vs)[i]? = some (.int .u32 (at32 vs i).toNat) := by
  simp [c32, at32, h]
theorem c32_set (vs : List UInt32) (i : Nat) (x : UInt32) : (c32 vs).setIfInBounds i (.int .u32 x.toNat) = c32 (vs.set i x) := by
  simp [c32, List.map_set]
end Go.Proofs.Ytncoghoeeefjhaa
