/- hibernacleref02.Hex walked. No condition. -/
import Derived.Test.YtncoghoeeefjhaaRefB
import Derived.Test.YtncoghoeeefjhaaHexA
namespace Go.Proofs.Ytncoghoeeefjhaa
open Go.RowKit

def digsB : ByteArray := ⟨#[48, 49, 50, 51, 52, 53, 54, 55, 56, 57, 97, 98, 99, 100, 101, 102]⟩
theorem digsB_one : ∀ p : Fin 16, digsB.extract p.val (p.val + 1) = ⟨#[at8 digsL p.val]⟩ := by decide +kernel
theorem digs_one (p : Nat) (hp : p < 16) : (⟨#[48, 49, 50, 51, 52, 53, 54, 55, 56, 57, 97, 98, 99, 100, 101, 102]⟩ : ByteArray).extract p (p + 1) = ⟨#[at8 digsL p]⟩ := digsB_one ⟨p, hp⟩

set_option maxRecDepth 100000 in
set_option maxHeartbeats 4000000 in
theorem rhex_any (d : List UInt8) (w : World) (hd : d.length = 32) :
    Calls Try.prog 48 #[.agg (c8 d)] w fun e w' => e = .returned (.string ⟨(hexS d).toArray⟩) ∧ Below w.heap.size w w' := by
  go_enter Try.func48, Try.ntmps48
  have hD := Blk.new w 85 (c8 d)
  have hb := (Below.refl w.heap.size w).alloc (Nat.le_refl _) (.cells (c8 d) 85)
  go_wp2
  go_loopw [4, 5] (fun sv i wr => ∃ (k : Nat) (S : ByteArray), i = .int .i64 k ∧ k ≤ 32 ∧ sv = .string S ∧ S.size = 2 * k ∧ Hid (bl S = hexS (d.take k)) ∧ Blk wr w.heap.size 85 (c8 d) ∧ Below w.heap.size w wr)
    (fun _ i _ => 32 - (intOf i).toNat)
  case atStart => exact ⟨0, ⟨#[]⟩, rfl, by omega, rfl, rfl, Lib.hid rfl, hD, hb⟩
  case round =>
    clear hD hb
    obtain ⟨k, S, rfl, hk, rfl, hSs, HS, hD, hb⟩ := hrel
    by_cases hlt : k < 32
    · have i1 : (0 : Int) ≤ (k : Int) := by omega
      have i2 : (k : Int) < 32 := by omega
      have wk : IntKind.i64.wrap ((k : Int) + 1) = (k : Int) + 1 := IntWalk.i64_in _ (by omega)
      have hST := hexS_take d k (by omega)
      have cx := (hD.drew.cell k).trans (c8_at d k (by omega))
      obtain ⟨x, hx⟩ : ∃ x, at8 d k = x := ⟨_, rfl⟩
      rw [hx] at cx hST
      have hxl := x.toNat_lt
      obtain ⟨p, hp⟩ : ∃ p, x.toNat / 16 = p := ⟨_, rfl⟩
      obtain ⟨q, hq⟩ : ∃ q, x.toNat % 16 = q := ⟨_, rfl⟩
      rw [hp, hq] at hST
      have p1 : (x.toNat : Int) / 16 = (p : Int) := by omega
      have p2 : (x.toNat : Int).tdiv 16 = (p : Int) := by rw [Int.tdiv_eq_ediv_of_nonneg (by omega)]; exact p1
      have q1 : (x.toNat : Int) % 16 = (q : Int) := by omega
      have q2 : (x.toNat : Int).tmod 16 = (q : Int) := by rw [Int.tmod_eq_emod_of_nonneg (by omega)]; exact q1
      have p3 : IntKind.u8.wrap (p : Int) = (p : Int) := IntWalk.u8_in _ (by omega)
      have q3 : IntKind.u8.wrap (q : Int) = (q : Int) := IntWalk.u8_in _ (by omega)
      have p4 : IntKind.u8.wrap ((p : Int) + 1) = (p : Int) + 1 := IntWalk.u8_in _ (by omega)
      have q4 : IntKind.u8.wrap ((q : Int) + 1) = (q : Int) + 1 := IntWalk.u8_in _ (by omega)
      have p5 : (p : Int) + 1 ≤ 16 := by omega
      have q5 : (q : Int) + 1 ≤ 16 := by omega
      have p6 : (p : Int) ≤ (p : Int) + 1 := by omega
      have q6 : (q : Int) ≤ (q : Int) + 1 := by omega
      have p7 : (0 : Int) ≤ (p : Int) + 1 := by omega
      have q7 : (0 : Int) ≤ (q : Int) + 1 := by omega
      have p8 : ((p : Int) + 1).toNat = p + 1 := by omega
      have q8 : ((q : Int) + 1).toNat = q + 1 := by omega
      have p9 := digs_one p (by omega)
      have q9 := digs_one q (by omega)
      have HST := Lib.hid hST
      have hz : (S ++ ⟨#[at8 digsL p]⟩ ++ ⟨#[at8 digsL q]⟩ : ByteArray).size = 2 * (k + 1) := by
        rw [ByteArray.size_append, ByteArray.size_append, hSs]; rfl
      have HZ := Lib.hid hz
      have c1 : ¬ 9223372036854775807 < S.size + 1 := by omega
      have c2 : ¬ 9223372036854775807 < S.size + 1 + 1 := by omega
      have c3 : ¬ 9223372036854775807 < (S ++ (⟨#[at8 digsL p]⟩ : ByteArray)).size + 1 := by rw [ByteArray.size_append]; show ¬ _ < S.size + 1 + 1; exact c2
      clear hST hp hq hx hz hSs
      go_wp2_with fail
      refine still_all (by kernel_rfl) (by kernel_rfl) ?_
      iterate 26 still_step
      refine wpStill_nil ?_
      go_wp2_with fail
      go_roundw
      case rel => exact ⟨k + 1, S ++ ⟨#[at8 digsL p]⟩ ++ ⟨#[at8 digsL q]⟩, by go_num, by omega, by first | rfl | simp [ByteArray.append_assoc], HZ.out, Lib.hid (by rw [HST.out, ← HS.out, str_cat, str_cat, List.append_assoc]; rfl), hD.drew, hb.drew⟩
      case measure => simp [intOf]; omega
    · have hk8 : k = 32 := by omega
      have hk9 : ¬ (k : Int) < 32 := by omega
      have hSe : S = ⟨(hexS d).toArray⟩ := str_of _ _ (by rw [HS.out, hk8, List.take_of_length_le (by omega)])
      subst hSe
      clear hk8 hlt hk hSs HS
      go_wp2_with fail
      go_ret
      exact ⟨rfl, hb⟩
end Go.Proofs.Ytncoghoeeefjhaa
