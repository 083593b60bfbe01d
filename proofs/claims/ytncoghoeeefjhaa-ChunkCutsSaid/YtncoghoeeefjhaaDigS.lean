/- BLAKE2s: the digest of a text from eight numbers on, as plain functions on lists; blocks of eight cells. No program in sight; no condition. -/
import Derived.Test.YtncoghoeeefjhaaTakeS
namespace Go.Proofs.Ytncoghoeeefjhaa
open Go.RowKit

/-- the numbers behind so many whole blocks -/
def afterS (h : List UInt32) (s : List UInt8) : Nat → List UInt32
  | 0 => h
  | k + 1 => takeS (afterS h s k) ((s.drop (64 * k)).take 64) (64 * (k + 1)) false
def lastS (h : List UInt32) (s : List UInt8) : List UInt32 :=
  takeS (afterS h s ((s.length - 1) / 64)) (s.drop (64 * ((s.length - 1) / 64)) ++ List.replicate (64 - (s.length - 64 * ((s.length - 1) / 64))) 0) s.length true
def outS (h : List UInt32) : List UInt8 := (List.range 32).map fun i => UInt8.ofNat ((at32 h (i / 4)).toNat / 2 ^ (8 * (i % 4)))
def digestS (h : List UInt32) (s : List UInt8) : List UInt8 := outS (lastS h s)
def c8 (l : List UInt8) : Array Value := (l.map fun b => Value.int .u8 b.toNat).toArray

theorem afterS_length (h : List UInt32) (s : List UInt8) (hh : h.length = 8) : ∀ k, (afterS h s k).length = 8
  | 0 => hh
  | _ + 1 => takeS_length _ _ _ _
theorem lastS_length (h : List UInt32) (s : List UInt8) : (lastS h s).length = 8 := takeS_length _ _ _ _
theorem outS_length (h : List UInt32) : (outS h).length = 32 := by simp [outS]
theorem digestS_length (h : List UInt32) (s : List UInt8) : (digestS h s).length = 32 := outS_length _
theorem c8_size (l : List UInt8) : (c8 l).size = l.length := by simp [c8]
theorem c8_one (l : List UInt8) : (c8 l).all (·.oneCell') = true := by simp [c8, Value.oneCell']
theorem c8_at (l : List UInt8) (k : Nat) (h : k < l.length) : (c8 l)[k]? = some (.int .u8 (at8 l k).toNat) := by
  simp [c8, at8, List.getElem?_eq_getElem h, List.getD_eq_getElem?_getD]
theorem c8_set (l : List UInt8) (k : Nat) (x : UInt8) : (c8 l).setIfInBounds k (.int .u8 x.toNat) = c8 (l.set k x) := by
  unfold c8
  rw [List.setIfInBounds_toArray, List.map_set]
theorem outS_at (h : List UInt32) (i : Nat) (hi : i < 32) : at8 (outS h) i = UInt8.ofNat ((at32 h (i / 4)).toNat / 2 ^ (8 * (i % 4))) := by
  unfold at8 outS
  rw [List.getD_eq_getElem?_getD, List.getElem?_map, List.getElem?_range hi]
  rfl

/-- the first k bytes of a list, nothing behind them -/
def part8 (l : List UInt8) (n k : Nat) : List UInt8 := l.take k ++ List.replicate (n - k) 0
theorem part8_zero (l : List UInt8) (n : Nat) : part8 l n 0 = List.replicate n 0 := by simp [part8]
theorem part8_all (l : List UInt8) (n : Nat) (h : l.length = n) : part8 l n n = l := by simp [part8, ← h]
theorem part8_length (l : List UInt8) (n k : Nat) (h : l.length = n) (hk : k ≤ n) : (part8 l n k).length = n := by simp [part8, h]; omega
theorem part8_succ (l : List UInt8) (n k : Nat) (h : l.length = n) (hk : k < n) : (part8 l n k).set k (at8 l k) = part8 l n (k + 1) := by
  unfold part8
  have h1 : (l.take k).length = k := by simp; omega
  rw [List.set_append_right _ _ (by omega), h1, Nat.sub_self, show n - k = (n - (k + 1)) + 1 by omega, List.replicate_succ, List.set_cons_zero, List.take_succ_eq_append_getElem (by omega), List.append_assoc]
  congr 1
  rw [at8, List.getD_eq_getElem?_getD, List.getElem?_eq_getElem (by omega)]
  rfl

/-! a block of eight numbers, cell by cell -/
theorem eight_of (l : List UInt32) (h : l.length = 8) : ∃ a0 a1 a2 a3 a4 a5 a6 a7, l = [a0, a1, a2, a3, a4, a5, a6, a7] := by
  match l, h with
  | [a0, a1, a2, a3, a4, a5, a6, a7], _ => exact ⟨a0, a1, a2, a3, a4, a5, a6, a7, rfl⟩
theorem Blk.eight {w : World} {g : Nat} {t : TypeId} {a0 a1 a2 a3 a4 a5 a6 a7 : UInt32} (h : Blk w g t (c32 [a0, a1, a2, a3, a4, a5, a6, a7])) :
    w.cell? ⟨g, 0, none⟩ = some (.int .u32 a0.toNat) ∧ w.cell? ⟨g, 1, none⟩ = some (.int .u32 a1.toNat) ∧ w.cell? ⟨g, 2, none⟩ = some (.int .u32 a2.toNat) ∧ w.cell? ⟨g, 3, none⟩ = some (.int .u32 a3.toNat) ∧
    w.cell? ⟨g, 4, none⟩ = some (.int .u32 a4.toNat) ∧ w.cell? ⟨g, 5, none⟩ = some (.int .u32 a5.toNat) ∧ w.cell? ⟨g, 6, none⟩ = some (.int .u32 a6.toNat) ∧ w.cell? ⟨g, 7, none⟩ = some (.int .u32 a7.toNat) :=
  ⟨h.cell 0, h.cell 1, h.cell 2, h.cell 3, h.cell 4, h.cell 5, h.cell 6, h.cell 7⟩
theorem Blk.thawed {w : World} {g : Nat} {t : TypeId} {cs : Array Value} (h : Blk w g t cs) :
    w.frozen? ⟨g, 0, none⟩ = false ∧ w.frozen? ⟨g, 1, none⟩ = false ∧ w.frozen? ⟨g, 2, none⟩ = false ∧ w.frozen? ⟨g, 3, none⟩ = false ∧
    w.frozen? ⟨g, 4, none⟩ = false ∧ w.frozen? ⟨g, 5, none⟩ = false ∧ w.frozen? ⟨g, 6, none⟩ = false ∧ w.frozen? ⟨g, 7, none⟩ = false :=
  ⟨h.frozen 0, h.frozen 1, h.frozen 2, h.frozen 3, h.frozen 4, h.frozen 5, h.frozen 6, h.frozen 7⟩
/-- eight numbers put, one behind the other -/
def putEight (w : World) (g : Nat) (b0 b1 b2 b3 b4 b5 b6 b7 : UInt32) : World :=
  (((((((w.setCell ⟨g, 0, none⟩ (.int .u32 b0.toNat)).setCell ⟨g, 1, none⟩ (.int .u32 b1.toNat)).setCell ⟨g, 2, none⟩ (.int .u32 b2.toNat)).setCell ⟨g, 3, none⟩ (.int .u32 b3.toNat)).setCell ⟨g, 4, none⟩ (.int .u32 b4.toNat)).setCell ⟨g, 5, none⟩ (.int .u32 b5.toNat)).setCell ⟨g, 6, none⟩ (.int .u32 b6.toNat)).setCell ⟨g, 7, none⟩ (.int .u32 b7.toNat)
theorem Blk.put8 {w : World} {g : Nat} {t : TypeId} {a0 a1 a2 a3 a4 a5 a6 a7 : UInt32} (h : Blk w g t (c32 [a0, a1, a2, a3, a4, a5, a6, a7])) (b0 b1 b2 b3 b4 b5 b6 b7 : UInt32) :
    Blk (putEight w g b0 b1 b2 b3 b4 b5 b6 b7) g t (c32 [b0, b1, b2, b3, b4, b5, b6, b7]) := by
  have h1 := (((((((h.put 0 (.int .u32 b0.toNat)).put 1 (.int .u32 b1.toNat)).put 2 (.int .u32 b2.toNat)).put 3 (.int .u32 b3.toNat)).put 4 (.int .u32 b4.toNat)).put 5 (.int .u32 b5.toNat)).put 6 (.int .u32 b6.toNat)).put 7 (.int .u32 b7.toNat)
  rw [c32_set, c32_set, c32_set, c32_set, c32_set, c32_set, c32_set, c32_set] at h1
  simp only [List.set_cons_zero, List.set_cons_succ] at h1
  exact h1
theorem Blk.far8 {w : World} {g k : Nat} {t : TypeId} {cs : Array Value} (h : Blk w g t cs) (hne : g ≠ k) (b0 b1 b2 b3 b4 b5 b6 b7 : UInt32) : Blk (putEight w k b0 b1 b2 b3 b4 b5 b6 b7) g t cs := by
  unfold putEight
  exact (((((((h.far (p := ⟨k, 0, none⟩) hne _).far (p := ⟨k, 1, none⟩) hne _).far (p := ⟨k, 2, none⟩) hne _).far (p := ⟨k, 3, none⟩) hne _).far (p := ⟨k, 4, none⟩) hne _).far (p := ⟨k, 5, none⟩) hne _).far (p := ⟨k, 6, none⟩) hne _).far (p := ⟨k, 7, none⟩) hne _
theorem Below.putEight {a w : World} {B k : Nat} (h : Below B a w) (hk : B ≤ k) (b0 b1 b2 b3 b4 b5 b6 b7 : UInt32) : Below B a (putEight w k b0 b1 b2 b3 b4 b5 b6 b7) := by
  unfold Go.Proofs.Ytncoghoeeefjhaa.putEight
  exact (((((((h.setCell (p := ⟨k, 0, none⟩) hk _).setCell (p := ⟨k, 1, none⟩) hk _).setCell (p := ⟨k, 2, none⟩) hk _).setCell (p := ⟨k, 3, none⟩) hk _).setCell (p := ⟨k, 4, none⟩) hk _).setCell (p := ⟨k, 5, none⟩) hk _).setCell (p := ⟨k, 6, none⟩) hk _).setCell (p := ⟨k, 7, none⟩) hk _
end Go.Proofs.Ytncoghoeeefjhaa
