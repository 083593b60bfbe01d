/- Great of layer 40 walked: are boxes more than the statements look at? Condition: at most 2^47 boxes. -/
import Derived.Test.YtojgmeonjgfpoaaPackA
import Derived.Test.YtojgmeonjgfpoaaU
import Derived.BigGuardPart
namespace Go.Proofs.Ytojgmeonjgfpoaa
open Go.RowKit

def bigB (x : BB) : Bool := decide (200 < x.1.size) || decide (300 < x.2.size)
def greatB (l : List BB) : Int := if l.any bigB = true ∨ 12 < l.length then 1 else 0

set_option maxRecDepth 100000 in
set_option maxHeartbeats 4000000 in
theorem great_any (A : Option Addr) (c : Nat) (l : List BB) (w : World) (B : Nat) (hr : Reads w B 2 A l.length (bx l)) (hl : l.length ≤ 9223372036854775807) :
    Calls Try.prog 9 #[.slice A l.length c] w fun e w' => e = .returned (.int .i64 (greatB l)) ∧ w = w' := by
  go_enter Try.func9, Try.ntmps9
  go_wp2
  go_loop [6] (fun i => ∃ k : Nat, i = .int .i64 k ∧ k ≤ l.length ∧ Hid ((l.take k).any bigB = false)) (fun i => l.length - (intOf i).toNat)
  case atStart => exact ⟨0, rfl, Nat.zero_le _, Lib.hid rfl⟩
  case round =>
    obtain ⟨k, rfl, hk, hany⟩ := hrel
    by_cases hlt : k < l.length
    · obtain ⟨ad, rfl, _, hx1, hx2⟩ := box_at hr rfl hlt
      have hst : (l.take (k + 1)).any bigB = bigB l[k] := by
        rw [List.take_succ_eq_append_getElem hlt, List.any_append, hany.out]
        simp
      by_cases h1 : 200 < l[k].1.size ∨ 300 < l[k].2.size
      · have hbig : greatB l = 1 := by
          have hb : bigB l[k] = true := by unfold bigB; simpa using h1
          have ha : l.any bigB = true := by
            rw [List.any_eq_true]; exact ⟨l[k], List.getElem_mem hlt, hb⟩
          unfold greatB
          rw [if_pos (.inl ha)]
        have HB := Lib.hid hbig
        clear hbig hst
        by_cases h2 : 200 < l[k].1.size
        · have h2' : (200 : Int) < (l[k].1.size : Int) := by omega
          clear h1
          go_wp2
          go_ret
          exact ⟨ret_int HB.out.symm, rfl⟩
        · have h2' : ¬ (200 : Int) < (l[k].1.size : Int) := by omega
          have h3' : (300 : Int) < (l[k].2.size : Int) := by omega
          clear h1
          go_wp2
          go_ret
          exact ⟨ret_int HB.out.symm, rfl⟩
      · have h2' : ¬ (200 : Int) < (l[k].1.size : Int) := by omega
        have h3' : ¬ (300 : Int) < (l[k].2.size : Int) := by omega
        have hn : (l.take (k + 1)).any bigB = false := by
          rw [hst]; unfold bigB; simp; omega
        have HN := Lib.hid hn
        clear hn h1 hst
        go_wp2
        go_round
        case rel => exact ⟨k + 1, by go_num, by omega, HN⟩
        case measure => simp [intOf]; omega
    · obtain rfl : k = l.length := by omega
      have ha := hany.out
      rw [List.take_length] at ha
      by_cases h12 : 12 < l.length
      · have hbig : greatB l = 1 := by unfold greatB; rw [if_pos (.inr h12)]
        have HB := Lib.hid hbig
        have h12' : (12 : Int) < (l.length : Int) := by omega
        clear hbig ha
        go_wp2
        go_ret
        exact ⟨ret_int HB.out.symm, rfl⟩
      · have hbig : greatB l = 0 := by unfold greatB; rw [if_neg (by rw [ha]; simpa using h12)]
        have HB := Lib.hid hbig
        have h12' : ¬ (12 : Int) < (l.length : Int) := by omega
        clear hbig ha
        go_wp2
        go_ret
        exact ⟨ret_int HB.out.symm, rfl⟩
end Go.Proofs.Ytojgmeonjgfpoaa
