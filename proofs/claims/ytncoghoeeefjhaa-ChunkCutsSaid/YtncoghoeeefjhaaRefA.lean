/- hibernacleref01.length walked: the bytes of a length, by the document. Condition: the length is from 0 on and below 2^63. -/
import Derived.Test.YtncoghoeeefjhaaNumB
import Derived.BigGuardPart
import Derived.Deep.RegionHeld3
import Derived.Deep.AppendLies
import Derived.Laws.IdiomStrings
namespace Go.Proofs.Ytncoghoeeefjhaa
open Go.RowKit

def u8At : Option Value → Int
  | some (.int .u8 n) => n
  | _ => 0
def isU8At : Option Value → Bool
  | some (.int .u8 _) => true
  | _ => false
theorem u8At_some (n : Int) : u8At (some (.int .u8 n)) = n := rfl
theorem isU8At_some (n : Int) : isU8At (some (.int .u8 n)) = true := rfl
theorem u8_back (n : Int) (h0 : 0 ≤ n) (h1 : n < 256) : ((UInt8.ofNat n.toNat).toNat : Int) = n := by simp; omega
/-- a slice of one byte as a text -/
theorem conv_one (w : World) (a : Addr) (c : Nat) (h : isU8At (w.cell? a) = true) (h0 : 0 ≤ u8At (w.cell? a)) (h1 : u8At (w.cell? a) < 256) :
    (convert 61 9 (.slice (some a) 1 c)).run Try.prog w = .ok (.string ⟨#[UInt8.ofNat (u8At (w.cell? a)).toNat]⟩) w := by
  generalize hx : w.cell? a = x at *
  unfold isU8At at h
  split at h
  · rename_i n
    rw [u8At_some] at h0 h1 ⊢
    have := run_convert_bytes_back (P := Try.prog) w 61 9 5 a c [UInt8.ofNat n.toNat] Try.underlying61 Try.underlying5 Try.underlying9 (fun j hj => by
      have : j = 0 := by simp at hj; exact hj
      subst this
      rw [show a.add 0 = a from rfl, hx]
      simp only [List.getElem_cons_zero]
      rw [u8_back n h0 h1])
    simpa using this
  · cases h
attribute [local go_sem] conv_one u8At_some isU8At_some

set_option maxRecDepth 100000 in
set_option maxHeartbeats 1000000 in
theorem reflen_any (n : Nat) : ∀ (w : World) (_ : n < 9223372036854775808),
    Calls Try.prog 139 #[.int .i64 n] w fun e w' => e = .returned (.string ⟨(lenS n).toArray⟩) ∧ Below w.heap.size w w' := by
  induction n using Nat.strongRecOn with
  | _ n ih =>
  intro w hn
  by_cases hge : 128 ≤ n
  · have hge' : ¬ (n : Int) < (128 : Int) := by omega
    have ih' := fun w => ih (n / 128) (by omega) w (by omega)
    have hst := lenS_ge hge
    have HST := Lib.hid hst
    have IH := Lib.hid ih'
    have hd : (n : Int).tdiv 128 = ((n / 128 : Nat) : Int) := by rw [Int.tdiv_eq_ediv_of_nonneg (by omega)]; omega
    have hm : (n : Int).tmod 128 = ((n % 128 : Nat) : Int) := by rw [Int.tmod_eq_emod_of_nonneg (by omega)]; omega
    have hq : IntKind.i64.wrap ((n / 128 : Nat) : Int) = ((n / 128 : Nat) : Int) := IntWalk.i64_in _ (by omega)
    have hq1 : IntKind.i64.wrap ((n % 128 : Nat) : Int) = ((n % 128 : Nat) : Int) := IntWalk.i64_in _ (by omega)
    have hq2 : IntKind.i64.wrap (((n % 128 : Nat) : Int) + 128) = ((n % 128 + 128 : Nat) : Int) := IntWalk.i64_in _ (by omega)
    have hq3 : IntKind.u8.wrap ((n % 128 + 128 : Nat) : Int) = ((n % 128 + 128 : Nat) : Int) := IntWalk.u8_in _ (by omega)
    have hq0 : (0 : Int) ≤ ((n % 128 + 128 : Nat) : Int) := by omega
    have hq4 : ((n % 128 + 128 : Nat) : Int) < 256 := by omega
    have hcat : ¬ 9223372036854775807 < 1 + (lenS (n / 128)).length := by have := lenS_length (n / 128) (by omega); omega
    generalize hN : n / 128 = N at *
    generalize hM : n % 128 + 128 = M at *
    generalize hR : n % 128 = R at *
    clear hst ih ih' hn
    go_enter Try.func139, Try.ntmps139
    go_wp2_with fail
    go_region_law (first | (go_simp; go_at_call 139; refine (IH.out _).mono ?_; rintro e w2 ⟨rfl, hb2⟩; first | have hc2 := hb2.cell (p := ⟨w.heap.size, 0, none⟩) (by show w.heap.size < (w.alloc _).heap.size; simp) | skip))
    all_goals
      go_wp2
      go_ret
      refine ⟨?_, ?_⟩
      · rw [HST.out]
        congr 2
      · first
          | exact (((Below.refl w.heap.size w).alloc (Nat.le_refl _) _).drew).trans (hb2.mono (by show w.heap.size ≤ (w.alloc _).heap.size; simp))
          | exact ((Below.refl w.heap.size w).drew.trans hb2).alloc hb2.size _
  · have hge' : (n : Int) < (128 : Int) := by omega
    have hq3 : IntKind.u8.wrap (n : Int) = (n : Int) := IntWalk.u8_in _ (by omega)
    have hq0 : (0 : Int) ≤ (n : Int) := by omega
    have hq4 : (n : Int) < 256 := by omega
    go_enter Try.func139, Try.ntmps139
    go_wp2
    go_ret
    refine ⟨by rw [lenS_lt (by omega)]; rfl, ?_⟩
    exact (Below.refl _ _).alloc (Nat.le_refl _) _
end Go.Proofs.Ytncoghoeeefjhaa
