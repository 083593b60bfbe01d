/- roll.power, roll.Sum, roll.first and its closure walked. Conditions: at most 10^9 bytes; the cuts 16, 64, 1024, 255. -/
import Derived.Test.YtncoghoeeefjhaaProg
import Derived.Test.YtncoghoeeefjhaaRollS
import Derived.Test.YtncoghoeeefjhaaU
import Derived.Test.YtncoghoeeefjhaaMem
import Derived.Test.YtncoghoeeefjhaaWalk
namespace Go.Proofs.Ytncoghoeeefjhaa
open Go.RowKit

def lb (s : ByteArray) : List UInt8 := s.data.toList
theorem lb_len (s : ByteArray) : (lb s).length = s.size := by simp [lb]
theorem lb_at (s : ByteArray) (k : Nat) (h : k < s.size) : (lb s).getD k 0 = s[k] := by
  rw [List.getD_eq_getElem?_getD, List.getElem?_eq_getElem (by rw [lb_len]; exact h)]
  rfl

def mulT (x : UInt32) : UInt32 := x * 69069
def addb (x : UInt32) (b : UInt8) : UInt32 := x + b.toUInt32
def inc32 (x : UInt32) : UInt32 := x + 1
def incb (b : UInt8) : UInt32 := b.toUInt32 + 1
def mul32 (x y : UInt32) : UInt32 := x * y
def sub32 (x y : UInt32) : UInt32 := x - y
theorem m_mulT (x : UInt32) : ((x.toNat : Int) * 69069) % 4294967296 = ((mulT x).toNat : Int) := by
  unfold mulT; rw [UInt32.toNat_mul]; show _ = ((x.toNat * 69069 % 2 ^ 32 : Nat) : Int); omega
theorem m_addb (x : UInt32) (b : UInt8) : ((x.toNat : Int) + (b.toNat : Int)) % 4294967296 = ((addb x b).toNat : Int) := by
  unfold addb; rw [UInt32.toNat_add, UInt8.toNat_toUInt32]; omega
theorem m_inc32 (x : UInt32) : ((x.toNat : Int) + 1) % 4294967296 = ((inc32 x).toNat : Int) := by
  unfold inc32; rw [UInt32.toNat_add]; show _ = (((x.toNat + 1) % 2 ^ 32 : Nat) : Int); omega
theorem m_incb (b : UInt8) : ((b.toNat : Int) + 1) % 4294967296 = ((incb b).toNat : Int) := by
  unfold incb; rw [UInt32.toNat_add, UInt8.toNat_toUInt32]; show _ = (((b.toNat + 1) % 2 ^ 32 : Nat) : Int); omega
theorem m_mul32 (x y : UInt32) : ((x.toNat : Int) * (y.toNat : Int)) % 4294967296 = ((mul32 x y).toNat : Int) := by
  unfold mul32; rw [UInt32.toNat_mul, Int.natCast_emod, Int.natCast_mul]; rfl
theorem m_sub32 (x y : UInt32) : ((x.toNat : Int) - (y.toNat : Int)) % 4294967296 = ((sub32 x y).toNat : Int) := by
  unfold sub32; rw [UInt32.toNat_sub]; have := u32_lt y; omega
theorem w_mulT (x : UInt32) : IntKind.u32.wrap ((x.toNat : Int) * 69069) = ((mulT x).toNat : Int) := (u32_wrap _).trans (m_mulT x)
theorem w_addb (x : UInt32) (b : UInt8) : IntKind.u32.wrap ((x.toNat : Int) + (b.toNat : Int)) = ((addb x b).toNat : Int) := (u32_wrap _).trans (m_addb x b)
theorem w_inc32 (x : UInt32) : IntKind.u32.wrap ((x.toNat : Int) + 1) = ((inc32 x).toNat : Int) := (u32_wrap _).trans (m_inc32 x)
theorem w_incb (b : UInt8) : IntKind.u32.wrap ((b.toNat : Int) + 1) = ((incb b).toNat : Int) := (u32_wrap _).trans (m_incb b)
theorem w_mul32 (x y : UInt32) : IntKind.u32.wrap ((x.toNat : Int) * (y.toNat : Int)) = ((mul32 x y).toNat : Int) := (u32_wrap _).trans (m_mul32 x y)
theorem w_sub32 (x y : UInt32) : IntKind.u32.wrap ((x.toNat : Int) - (y.toNat : Int)) = ((sub32 x y).toNat : Int) := (u32_wrap _).trans (m_sub32 x y)
attribute [local go_sem] m_mulT m_addb m_inc32 m_incb m_mul32 m_sub32 w_mulT w_addb w_inc32 w_incb w_mul32 w_sub32

theorem rsumS_take (l : List UInt8) (k : Nat) (h : k < l.length) : inc32 (addb (mulT (rsumS (l.take k))) (l.getD k 0)) = rsumS (l.take (k + 1)) := by
  rw [List.take_succ_eq_append_getElem h, rsumS_snoc, List.getD_eq_getElem?_getD, List.getElem?_eq_getElem h]
  rfl

set_option maxRecDepth 100000 in
set_option maxHeartbeats 2000000 in
theorem rsum_any (s : ByteArray) (w : World) (hs : s.size ≤ 1000000000) :
    Calls Try.prog 109 #[.string s] w fun e w' => e = .returned (.int .u32 (rsumS (lb s)).toNat) ∧ w' = w := by
  go_enter Try.func109, Try.ntmps109
  go_wp2
  go_loop [3, 7] (fun nv i => ∃ (k : Nat) (n : UInt32), i = .int .i64 k ∧ k ≤ s.size ∧ nv = .int .u32 n.toNat ∧ Hid (n = rsumS ((lb s).take k)))
    (fun _ i => s.size - (intOf i).toNat)
  case atStart => exact ⟨0, 0, rfl, Nat.zero_le _, rfl, Lib.hid rfl⟩
  case round =>
    obtain ⟨k, n, rfl, hk, rfl, HN⟩ := hrel
    by_cases hlt : k < s.size
    · have i1 : (k : Int) < (s.size : Int) := by omega
      have hst := rsumS_take (lb s) k (by rw [lb_len]; exact hlt)
      rw [← HN.out, lb_at s k hlt] at hst
      have HST := Lib.hid hst
      have hw1 : IntKind.i64.wrap ((k : Int) + 1) = (k : Int) + 1 := IntWalk.i64_in _ (by omega)
      clear hst HN
      go_wp2
      go_round
      case rel => exact ⟨k + 1, _, by go_num, by omega, rfl, HST⟩
      case measure => simp [intOf]; omega
    · have hkk : k = s.size := by omega
      have hk9 : ¬ (k : Int) < (s.size : Int) := by omega
      have hn := HN.out
      rw [hkk, List.take_of_length_le (by rw [lb_len]; exact Nat.le_refl _)] at hn
      subst hn
      clear hkk hlt hk HN
      go_wp2
      go_ret
      exact ⟨rfl, rfl⟩

def powT : Nat → UInt32
  | 0 => 1
  | n + 1 => mulT (powT n)
theorem powT_eq (n : Nat) : powT n = 69069 ^ n := by
  induction n with
  | zero => rfl
  | succ n ih => rw [powT, ih, mulT, UInt32.pow_succ]
set_option maxRecDepth 100000 in
set_option maxHeartbeats 2000000 in
theorem power_any (m : Nat) (w : World) (hm : m ≤ 1000000000) :
    Calls Try.prog 108 #[.int .i64 m] w fun e w' => e = .returned (.int .u32 (powT m).toNat) ∧ w' = w := by
  go_enter Try.func108, Try.ntmps108
  go_wp2
  go_loop [3, 5] (fun nv i => ∃ (k : Nat) (n : UInt32), i = .int .i64 k ∧ k ≤ m ∧ nv = .int .u32 n.toNat ∧ Hid (n = powT k))
    (fun _ i => m - (intOf i).toNat)
  case atStart => exact ⟨0, 1, rfl, Nat.zero_le _, rfl, Lib.hid rfl⟩
  case round =>
    obtain ⟨k, n, rfl, hk, rfl, HN⟩ := hrel
    by_cases hlt : k < m
    · have i1 : (k : Int) < (m : Int) := by omega
      have HST : Hid (mulT n = powT (k + 1)) := Lib.hid (by rw [HN.out, powT])
      have hw1 : IntKind.i64.wrap ((k : Int) + 1) = (k : Int) + 1 := IntWalk.i64_in _ (by omega)
      clear HN
      go_wp2
      go_round
      case rel => exact ⟨k + 1, _, by go_num, by omega, rfl, HST⟩
      case measure => simp [intOf]; omega
    · have hkk : k = m := by omega
      have hk9 : ¬ (k : Int) < (m : Int) := by omega
      have hn := HN.out
      rw [hkk] at hn
      subst hn
      clear hkk hlt hk HN
      go_wp2
      go_ret
      exact ⟨rfl, rfl⟩
end Go.Proofs.Ytncoghoeeefjhaa
