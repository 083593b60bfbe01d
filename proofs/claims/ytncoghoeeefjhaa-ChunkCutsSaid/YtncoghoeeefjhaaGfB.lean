/- field.At walked. Condition: as many values as points, at most 10^9. -/
import Derived.Test.YtncoghoeeefjhaaGfA
namespace Go.Proofs.Ytncoghoeeefjhaa
open Go.RowKit
attribute [local go_sem] w_xor8

def inS (xs : List UInt8) (i : Nat) (a x p : UInt8) : Nat → Option UInt8
  | 0 => some p
  | k + 1 => match inS xs i a x p k with
    | none => none
    | some q => if k = i then some q else if at8 xs k = a then none else some (gm q (gm (xor8 x (at8 xs k)) (ginv (xor8 a (at8 xs k)))))
def ouS (xs ys : List UInt8) (x : UInt8) : Nat → Option UInt8
  | 0 => some 0
  | k + 1 => match ouS xs ys x k with
    | none => none
    | some o => match inS xs k (at8 xs k) x (at8 ys k) xs.length with
      | none => none
      | some p => some (xor8 o p)
def atS (xs ys : List UInt8) (x : UInt8) : Option UInt8 := ouS xs ys x xs.length
theorem inS_none {xs : List UInt8} {i : Nat} {a x p : UInt8} {k : Nat} (h : inS xs i a x p k = none) : ∀ n, k ≤ n → inS xs i a x p n = none := by
  intro n
  induction n with
  | zero => intro hn; obtain rfl : k = 0 := (by omega); exact h
  | succ n ih =>
    intro hn
    by_cases e : k = n + 1
    · rw [← e]; exact h
    · rw [inS, ih (by omega)]
theorem ouS_none {xs ys : List UInt8} {x : UInt8} {k : Nat} (h : ouS xs ys x k = none) : ∀ n, k ≤ n → ouS xs ys x n = none := by
  intro n
  induction n with
  | zero => intro hn; obtain rfl : k = 0 := (by omega); exact h
  | succ n ih =>
    intro hn
    by_cases e : k = n + 1
    · rw [← e]; exact h
    · rw [ouS, ih (by omega)]
theorem bc_at (l : List UInt8) (j : Nat) (h : j < l.length) : (Lib.byteCells l)[j]? = some (.int .u8 (at8 l j).toNat) := by
  rw [Lib.byteCells, List.getElem?_map, List.getElem?_eq_getElem h, at8, List.getD_eq_getElem?_getD, List.getElem?_eq_getElem h]
  rfl
theorem u8_beq (a b : UInt8) : (((a.toNat : Int) == (b.toNat : Int)) = true) ↔ a = b := by
  rw [beq_iff_eq]
  constructor
  · intro h; exact UInt8.toNat_inj.1 (by omega)
  · intro h; rw [h]

set_option maxRecDepth 100000 in
set_option maxHeartbeats 4000000 in
theorem at_any (A A' : Option Addr) (c c' : Nat) (xs ys : List UInt8) (x : UInt8) (w : World) (hr : Reads w w.heap.size 1 A xs.length (Lib.byteCells xs)) (hr' : Reads w w.heap.size 1 A' ys.length (Lib.byteCells ys))
    (hl : ys.length = xs.length) (hn : xs.length ≤ 1000000000) :
    Calls Try.prog 68 #[.slice A xs.length c, .slice A' xs.length c', .int .u8 x.toNat] w fun e w' => e = .returned (.tuple #[.int .u8 ((atS xs ys x).getD 0).toNat, .bool (atS xs ys x).isSome]) ∧ w' = w := by
  obtain ⟨R, hR⟩ : ∃ R, atS xs ys x = R := ⟨_, rfl⟩
  rw [hR]
  go_enter Try.func68, Try.ntmps68
  go_wp2
  go_loopw [8, 21] (fun ov i wr => ∃ (k : Nat) (o : UInt8), i = .int .i64 k ∧ k ≤ xs.length ∧ ov = .int .u8 o.toNat ∧ Hid (ouS xs ys x k = some o) ∧ wr = w)
    (fun _ i _ => xs.length - (intOf i).toNat)
  case atStart => exact ⟨0, 0, rfl, Nat.zero_le _, rfl, Lib.hid rfl, rfl⟩
  case round =>
    obtain ⟨k, o, rfl, hk, rfl, HO, rfl⟩ := hrel
    by_cases hlt : k < xs.length
    · have i1 : (k : Int) < (xs.length : Int) := by omega
      have i0 : (0 : Int) ≤ (k : Int) := by omega
      obtain ⟨ad, rfl, _, hc⟩ := hr.2 (by omega)
      obtain ⟨ad', rfl, _, hc'⟩ := hr'.2 (by omega)
      have ck := hc k _ (bc_at xs k hlt)
      have ck' := hc' k _ (bc_at ys k (by omega))
      obtain ⟨a, ha⟩ : ∃ a, at8 xs k = a := ⟨_, rfl⟩
      obtain ⟨p0, hp0⟩ : ∃ p, at8 ys k = p := ⟨_, rfl⟩
      rw [ha] at ck
      rw [hp0] at ck'
      have HA : Hid (at8 xs k = a) := Lib.hid ha
      have HP : Hid (at8 ys k = p0) := Lib.hid hp0
      clear ha hp0
      go_wp2_with fail
      go_loopw [11, 32] (fun pv jv wr2 => ∃ (j : Nat) (q : UInt8), jv = .int .i64 j ∧ j ≤ xs.length ∧ pv = .int .u8 q.toNat ∧ Hid (inS xs k a x p0 j = some q) ∧ wr2 = wr)
        (fun _ jv _ => xs.length - (intOf jv).toNat)
      case atStart => exact ⟨0, p0, rfl, Nat.zero_le _, rfl, Lib.hid rfl, rfl⟩
      case round =>
        obtain ⟨j, q, rfl, hj, rfl, HQ, rfl⟩ := hrel
        by_cases hjt : j < xs.length
        · have j1 : (j : Int) < (xs.length : Int) := by omega
          have j0 : (0 : Int) ≤ (j : Int) := by omega
          have cj := hc j _ (bc_at xs j hjt)
          obtain ⟨y, hy⟩ : ∃ y, at8 xs j = y := ⟨_, rfl⟩
          rw [hy] at cj
          by_cases hjk : j = k
          · have hQ2 : Hid (inS xs k a x p0 (j + 1) = some q) := Lib.hid (by rw [inS, HQ.out]; simp only [if_pos hjk])
            have e1 : ((j : Int) == (k : Int)) = true := by rw [beq_iff_eq, hjk]
            have e2 : (j : Int) = (k : Int) := by rw [hjk]
            clear hjk hy HQ
            go_wp2_with fail
            go_roundw
            case rel => exact ⟨j + 1, q, by go_num, by omega, rfl, hQ2, by first | trivial | rfl⟩
            case measure => simp [intOf]; omega
          · have e1 : ((j : Int) == (k : Int)) = false := by rw [beq_eq_false_iff_ne]; omega
            by_cases hya : y = a
            · have e3 : ((y.toNat : Int) == (a.toNat : Int)) = true := (u8_beq y a).2 hya
              have hnone : inS xs k a x p0 (j + 1) = none := by rw [inS, HQ.out]; simp only [if_neg hjk, hy, if_pos hya]
              have h2 := inS_none hnone xs.length (by omega)
              have h3 : ouS xs ys x (k + 1) = none := by rw [ouS, HO.out, HA.out, HP.out, h2]
              have h4 := ouS_none h3 xs.length (by omega)
              have hRn : R = none := by rw [← hR, atS, h4]
              subst hRn
              clear hnone h2 h3 h4 hR hya hjk hy HQ HO HA HP
              go_wp2_with fail
              go_ret2
              exact ⟨rfl, rfl⟩
            · have e3 : ((y.toNat : Int) == (a.toNat : Int)) = false := by
                rw [Bool.eq_false_iff]; intro h; exact hya ((u8_beq y a).1 h)
              have hQ2 : Hid (inS xs k a x p0 (j + 1) = some (gm q (gm (xor8 x y) (ginv (xor8 a y))))) := Lib.hid (by rw [inS, HQ.out]; simp only [if_neg hjk, hy, if_neg hya])
              clear hya hjk hy HQ
              go_wp2_with fail
              refine (ginv_any (xor8 a y) _).mono ?_
              rintro e w1 ⟨rfl, rfl⟩
              go_wp2_with fail
              refine (gmul_any (xor8 x y) (ginv (xor8 a y)) _).mono ?_
              rintro e w1 ⟨rfl, rfl⟩
              go_wp2_with fail
              refine (gmul_any q (gm (xor8 x y) (ginv (xor8 a y))) _).mono ?_
              rintro e w1 ⟨rfl, rfl⟩
              go_wp2_with fail
              go_roundw
              case rel => exact ⟨j + 1, _, by go_num, by omega, rfl, hQ2, by first | trivial | rfl⟩
              case measure => simp [intOf]; omega
        · have hjn : j = xs.length := by omega
          have hj9 : ¬ (j : Int) < (xs.length : Int) := by omega
          have hO2 : Hid (ouS xs ys x (k + 1) = some (xor8 o q)) := Lib.hid (by
            have h := HQ.out
            rw [hjn] at h
            rw [ouS, HO.out, HA.out, HP.out]
            simp only [h])
          clear hjn hjt hj HQ
          go_wp2_with fail
          go_roundw
          case rel => exact ⟨k + 1, xor8 o q, by go_num, by omega, rfl, hO2, by first | trivial | rfl⟩
          case measure => simp [intOf]; omega
    · have hkk : k = xs.length := by omega
      have hk9 : ¬ (k : Int) < (xs.length : Int) := by omega
      have hRs : R = some o := by rw [← hR, atS, ← hkk]; exact HO.out
      subst hRs
      clear hkk hlt hk HO hR
      go_wp2_with fail
      go_ret2
      exact ⟨rfl, rfl⟩
end Go.Proofs.Ytncoghoeeefjhaa
