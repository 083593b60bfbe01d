/- field.Mul, field.Inv, field.Eval walked. Condition: for Eval, a slice of at most 10^9 bytes. -/
import Derived.Test.YtncoghoeeefjhaaGfS
import Derived.Test.YtncoghoeeefjhaaHashC
import Derived.Test.YtncoghoeeefjhaaWalk
import Derived.Test.YtncoghoeeefjhaaMem
namespace Go.Proofs.Ytncoghoeeefjhaa
open Go.RowKit
attribute [local go_sem] w_xor8

/-- a round of the product in the model's numbers -/
theorem round_facts (a b : UInt8) : ∃ c7 c1 c29 b1 : UInt8, Hid (xt a = xor8 c1 c29) ∧ Hid (b >>> 1 = b1) ∧ (a.toNat : Int) / 128 = (c7.toNat : Int) ∧ (a.toNat : Int) * 2 % 256 = (c1.toNat : Int) ∧ IntKind.u8.wrap ((a.toNat : Int) * 2) = (c1.toNat : Int) ∧
    (c7.toNat : Int) * 29 % 256 = (c29.toNat : Int) ∧ IntKind.u8.wrap ((c7.toNat : Int) * 29) = (c29.toNat : Int) ∧ (b.toNat : Int) / 2 = (b1.toNat : Int) := by
  have h7 : (a >>> 7).toNat = a.toNat / 128 := by rw [UInt8.toNat_shiftRight, Nat.shiftRight_eq_div_pow]; rfl
  have h1 : (a <<< 1).toNat = a.toNat * 2 % 256 := by rw [UInt8.toNat_shiftLeft, Nat.shiftLeft_eq]; rfl
  have hb : (b >>> 1).toNat = b.toNat / 2 := by rw [UInt8.toNat_shiftRight, Nat.shiftRight_eq_div_pow]; rfl
  have h29 : ((a >>> 7) * 29).toNat = (a >>> 7).toNat * 29 % 256 := by rw [UInt8.toNat_mul]; rfl
  exact ⟨a >>> 7, a <<< 1, (a >>> 7) * 29, b >>> 1, Lib.hid rfl, Lib.hid rfl, by omega, by omega, by rw [u8_wrap]; omega, by omega, by rw [u8_wrap]; omega, by omega⟩
theorem and1_u8 (b : UInt8) : bits .and .u8 (b.toNat : Int) 1 = ((b.toNat % 2 : Nat) : Int) := by
  have h : ∀ y : Fin 256, bits .and .u8 (y.val : Int) 1 = ((y.val % 2 : Nat) : Int) := by decide +kernel
  exact h ⟨b.toNat, b.toNat_lt⟩

set_option maxRecDepth 100000 in
set_option maxHeartbeats 2000000 in
theorem gmul_any (a b : UInt8) (w : World) : Calls Try.prog 103 #[.int .u8 a.toNat, .int .u8 b.toNat] w fun e w' => e = .returned (.int .u8 (gm a b).toNat) ∧ w' = w := by
  obtain ⟨R, hR⟩ : ∃ R, gm a b = R := ⟨_, rfl⟩
  rw [hR]
  go_enter Try.func103, Try.ntmps103
  go_wp2
  go_loopw [0, 1, 5, 7] (fun av bv ov i wr => ∃ (k : Nat) (x y o : UInt8), i = .int .i64 k ∧ k ≤ 8 ∧ av = .int .u8 x.toNat ∧ bv = .int .u8 y.toNat ∧ ov = .int .u8 o.toNat ∧ Hid (mulL (8 - k) x y o = R) ∧ wr = w)
    (fun _ _ _ i _ => 8 - (intOf i).toNat)
  case atStart => exact ⟨0, a, b, 0, rfl, by omega, rfl, rfl, rfl, Lib.hid hR, rfl⟩
  case round =>
    clear hR
    obtain ⟨k, x, y, o, rfl, hk, rfl, rfl, rfl, HR, rfl⟩ := hrel
    by_cases hlt : k < 8
    · have i1 : (k : Int) < 8 := by omega
      obtain ⟨c7, c1, c29, b1, HX, HB, s1, s2, s3, s4, s5, s6⟩ := round_facts x y
      have hand := and1_u8 y
      have hst := HR.out
      rw [show 8 - k = (8 - (k + 1)) + 1 by omega, mulL] at hst
      by_cases hbit : y.toNat % 2 = 1
      · rw [hbit] at hand
        rw [if_pos ((bit_nat y).2 hbit), HX.out, HB.out] at hst
        have HST : Hid (mulL (8 - (k + 1)) (xor8 c1 c29) b1 (xor8 o x) = R) := Lib.hid hst
        clear hst hbit HX HB HR
        go_wp2_with fail
        go_roundw
        case rel => exact ⟨k + 1, xor8 c1 c29, b1, xor8 o x, by go_num, by omega, rfl, rfl, rfl, HST, by first | trivial | rfl⟩
        case measure => simp [intOf]; omega
      · rw [show y.toNat % 2 = 0 by omega] at hand
        rw [if_neg (fun h => hbit ((bit_nat y).1 h)), HX.out, HB.out] at hst
        have HST : Hid (mulL (8 - (k + 1)) (xor8 c1 c29) b1 o = R) := Lib.hid hst
        clear hst hbit HX HB HR
        go_wp2_with fail
        go_roundw
        case rel => exact ⟨k + 1, xor8 c1 c29, b1, o, by go_num, by omega, rfl, rfl, rfl, HST, by first | trivial | rfl⟩
        case measure => simp [intOf]; omega
    · have hk8 : k = 8 := by omega
      have hk9 : ¬ (k : Int) < 8 := by omega
      have hst := HR.out
      rw [hk8] at hst
      have hor : o = R := hst
      subst hor
      clear hk8 hlt hk HR hst
      go_wp2
      go_ret
      exact ⟨rfl, rfl⟩

set_option maxRecDepth 100000 in
set_option maxHeartbeats 2000000 in
theorem ginv_any (a : UInt8) (w : World) : Calls Try.prog 104 #[.int .u8 a.toNat] w fun e w' => e = .returned (.int .u8 (ginv a).toNat) ∧ w' = w := by
  obtain ⟨R, hR⟩ : ∃ R, ginv a = R := ⟨_, rfl⟩
  rw [hR]
  go_enter Try.func104, Try.ntmps104
  go_wp2
  go_loopw [0, 3, 4] (fun av ov i wr => ∃ (k : Nat) (x o : UInt8), i = .int .i64 k ∧ k ≤ 7 ∧ av = .int .u8 x.toNat ∧ ov = .int .u8 o.toNat ∧ Hid (invL (7 - k) x o = R) ∧ wr = w)
    (fun _ _ i _ => 7 - (intOf i).toNat)
  case atStart => exact ⟨0, a, 1, rfl, by omega, rfl, rfl, Lib.hid hR, rfl⟩
  case round =>
    clear hR
    obtain ⟨k, x, o, rfl, hk, rfl, rfl, HR, rfl⟩ := hrel
    by_cases hlt : k < 7
    · have i1 : (k : Int) < 7 := by omega
      have hst := HR.out
      rw [show 7 - k = (7 - (k + 1)) + 1 by omega, invL] at hst
      have HST := Lib.hid hst
      clear hst HR
      go_wp2_with fail
      refine (gmul_any x x _).mono ?_
      rintro e w1 ⟨rfl, rfl⟩
      go_wp2_with fail
      refine (gmul_any o (gm x x) _).mono ?_
      rintro e w1 ⟨rfl, rfl⟩
      go_wp2_with fail
      go_roundw
      case rel => exact ⟨k + 1, gm x x, gm o (gm x x), by go_num, by omega, rfl, rfl, HST, by first | trivial | rfl⟩
      case measure => simp [intOf]; omega
    · have hk8 : k = 7 := by omega
      have hk9 : ¬ (k : Int) < 7 := by omega
      have hst := HR.out
      rw [hk8] at hst
      have hor : o = R := hst
      subst hor
      clear hk8 hlt hk HR hst
      go_wp2
      go_ret
      exact ⟨rfl, rfl⟩

/-- a polynomial's value, the lowest coefficient first -/
def evS (l : List UInt8) (x : UInt8) : UInt8 := l.foldr (fun c o => ga (gm o x) c) 0
theorem evS_drop (l : List UInt8) (x : UInt8) (k : Nat) (h : k < l.length) : evS (l.drop (l.length - (k + 1))) x = xor8 (gm (evS (l.drop (l.length - k)) x) x) (at8 l (l.length - 1 - k)) := by
  have e : l.drop (l.length - (k + 1)) = at8 l (l.length - 1 - k) :: l.drop (l.length - k) := by
    rw [List.drop_eq_getElem_cons (by omega), show l.length - (k + 1) + 1 = l.length - k by omega]
    congr 1
    rw [at8, List.getD_eq_getElem?_getD, List.getElem?_eq_getElem (by omega)]
    simp only [Option.getD_some]
    congr 1
    omega
  rw [e]
  rfl

set_option maxRecDepth 100000 in
set_option maxHeartbeats 2000000 in
theorem eval_any (A : Option Addr) (c : Nat) (l : List UInt8) (x : UInt8) (w : World) (hr : Reads w w.heap.size 1 A l.length (Lib.byteCells l)) (hl : l.length ≤ 1000000000) :
    Calls Try.prog 79 #[.slice A l.length c, .int .u8 x.toNat] w fun e w' => e = .returned (.int .u8 (evS l x).toNat) ∧ Below w.heap.size w w' := by
  go_enter Try.func79, Try.ntmps79
  go_wp2
  go_loopw [5, 9] (fun ov i wr => ∃ (k : Nat) (o : UInt8), i = .int .i64 k ∧ k ≤ l.length ∧ ov = .int .u8 o.toNat ∧ Hid (o = evS (l.drop (l.length - k)) x) ∧ Below w.heap.size w wr)
    (fun _ i _ => l.length - (intOf i).toNat)
  case atStart => exact ⟨0, 0, rfl, Nat.zero_le _, rfl, Lib.hid (by rw [Nat.sub_zero, List.drop_length]; rfl), Below.refl _ _⟩
  case round =>
    obtain ⟨k, o, rfl, hk, rfl, HO, hb⟩ := hrel
    by_cases hlt : k < l.length
    · have i1 : (k : Int) < (l.length : Int) := by omega
      obtain ⟨ad, u, rfl, hadB, hu, hcell⟩ := hr.at_ (k := l.length - 1 - k) (by omega)
      have hu' : u = .int .u8 (at8 l (l.length - 1 - k)).toNat := by
        rw [Lib.byteCells, List.getElem?_map, List.getElem?_eq_getElem (by omega)] at hu
        injection hu with hu
        rw [← hu, at8, List.getD_eq_getElem?_getD, List.getElem?_eq_getElem (by omega)]
        rfl
      subst hu'
      have hc := (hb.drew.cell (p := ad.add (l.length - 1 - k)) (by rw [block_add]; exact hadB)).trans hcell
      have hst := evS_drop l x k hlt
      rw [← HO.out] at hst
      have n1 : IntKind.i64.wrap ((l.length : Int) - 1) = (l.length : Int) - 1 := IntWalk.i64_in _ (by omega)
      have n2 : IntKind.i64.wrap ((l.length : Int) - 1 - (k : Int)) = ((l.length - 1 - k : Nat) : Int) := by rw [show ((l.length : Int) - 1 - (k : Int)) = ((l.length - 1 - k : Nat) : Int) by omega]; exact IntWalk.i64_in _ (by omega)
      obtain ⟨j, hj⟩ : ∃ j, l.length - 1 - k = j := ⟨_, rfl⟩
      rw [hj] at n2 hc hst
      have HST := Lib.hid hst
      have n3 : (0 : Int) ≤ (j : Int) := by omega
      have n4 : (j : Int) < (l.length : Int) := by omega
      have hw1 : IntKind.i64.wrap ((k : Int) + 1) = (k : Int) + 1 := IntWalk.i64_in _ (by omega)
      clear hst hcell hu hj HO hr
      go_wp2_with fail
      refine still_all (by kernel_rfl) (by kernel_rfl) ?_
      iterate 2 still_step
      refine wpStill_step (fun K hK => ?_)
      go_simp
      refine ⟨_, gmul_any o x _, hK _ ?_⟩
      clear hK K
      iterate 10 still_step
      refine wpStill_nil ?_
      go_wp2_with fail
      go_roundw
      case rel => exact ⟨k + 1, _, by go_num, by omega, rfl, Lib.hid HST.out.symm, hb.drew⟩
      case measure => simp [intOf]; omega
    · have hkk : k = l.length := by omega
      have hk9 : ¬ (k : Int) < (l.length : Int) := by omega
      have ho := HO.out
      rw [hkk, Nat.sub_self, List.drop_zero] at ho
      subst ho
      clear hkk hlt hk HO
      go_wp2
      go_ret
      exact ⟨rfl, hb⟩
end Go.Proofs.Ytncoghoeeefjhaa
