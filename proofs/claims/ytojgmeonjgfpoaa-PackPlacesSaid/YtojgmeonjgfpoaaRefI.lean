/- hibernacleref40.Take walked. Condition: at most 10^8 bytes. -/
import Derived.Test.YtojgmeonjgfpoaaRefG
import Derived.Test.YtojgmeonjgfpoaaPackD
namespace Go.Proofs.Ytojgmeonjgfpoaa
open Go.RowKit

set_option maxRecDepth 100000 in
set_option maxHeartbeats 4000000 in
theorem reftake_any (s name : ByteArray) (w : World) (hs : s.size ≤ 100000000) :
    Calls Try.prog 18 #[.string s, .string name] w (TakeP s name w) := by
  go_enter Try.func18, Try.ntmps18
  go_wp2_with fail
  refine (refboxes_any s _ hs).mono ?_
  rintro e w1 ⟨v1, rs, ok, rfl, hown1, hb1, hcase⟩
  have hb01 : Below w.heap.size w w1 := ((Below.refl _ _).alloc (Nat.le_refl _) _).trans (hb1.mono (by simp))
  have hsz1 := hb1.size
  simp only [World.size_alloc] at hsz1
  have hz0 : w1.cell? ⟨w.heap.size, 0, none⟩ = some (.string ⟨#[]⟩) := by
    rw [hb1.cell (p := ⟨w.heap.size, 0, none⟩) (by simp)]; go_simp
  have hz1 : w1.cell? ⟨w.heap.size, 1, none⟩ = some (.string ⟨#[]⟩) := by
    rw [hb1.cell (p := ⟨w.heap.size, 1, none⟩) (by simp)]; go_simp
  have hf0 : w1.frozen? ⟨w.heap.size, 0, none⟩ = false := by
    rw [hb1.frozen (p := ⟨w.heap.size, 0, none⟩) (by simp)]; go_simp
  have hf1 : w1.frozen? ⟨w.heap.size, 1, none⟩ = false := by
    rw [hb1.frozen (p := ⟨w.heap.size, 1, none⟩) (by simp)]; go_simp
  obtain ⟨Av, cv, rfl, hcv⟩ := own_form hown1
  have hrd := Reads.of_own hown1
  rcases hcase with ⟨hnone, rfl⟩ | ⟨hsome, rfl⟩
  · have HF := Lib.hid hnone
    clear hnone hown1 hrd
    go_wp2
    refine bodyPost_ret (v := .tuple #[.agg #[.string ⟨#[]⟩, .string ⟨#[]⟩], .int .i64 3]) (by simp [results, Try.results18, go_sem, hz0, hz1]) rfl ?_
    exact ⟨(⟨#[]⟩, ⟨#[]⟩), 3, rfl, (hb01.setCell (p := ⟨w.heap.size, 0, none⟩) (Nat.le_refl _) _).setCell (p := ⟨w.heap.size, 1, none⟩) (Nat.le_refl _) _, .inl ⟨HF.out, rfl, rfl⟩⟩
  · have HS := Lib.hid hsome
    have hrl := congrArg List.length (boxesS_some hsome).2
    rw [packRow_len, bl_len] at hrl
    have hfg := flat_ge rs
    have hkb : rs.length ≤ 100000000 := by omega
    clear hsome hown1 hrl hfg
    go_wp2
    go_loopw [19] (fun i wr => ∃ k : Nat, i = .int .i64 k ∧ k ≤ rs.length ∧ Hid (findB name (rs.take k) = none) ∧ Below w1.heap.size w1 wr)
      (fun i _ => rs.length - (intOf i).toNat)
    case atStart => exact ⟨0, rfl, Nat.zero_le _, Lib.hid rfl, Below.refl _ _⟩
    case round =>
      obtain ⟨k, rfl, hk, hfind, hb⟩ := hrel
      have hsz := hb.size
      have hy0 := (hb.cell (p := ⟨w.heap.size, 0, none⟩) (by simp; omega)).trans hz0
      have hy1 := (hb.cell (p := ⟨w.heap.size, 1, none⟩) (by simp; omega)).trans hz1
      have hg0 := (hb.frozen (p := ⟨w.heap.size, 0, none⟩) (by simp; omega)).trans hf0
      have hg1 := (hb.frozen (p := ⟨w.heap.size, 1, none⟩) (by simp; omega)).trans hf1
      have hb02 := hb01.trans (hb.mono (by omega))
      clear hz0 hz1 hf0 hf1
      by_cases hlt : k < rs.length
      · obtain ⟨ad, rfl, hadB, hc1, hc2⟩ := box_at hrd rfl hlt
        have hx1 := (hb.cell (p := ad.add (k * 2)) (by rw [block_add]; exact hadB)).trans hc1
        have hx2 := (hb.cell (p := ⟨(ad.add (k * 2)).block, (ad.add (k * 2)).off + 1, none⟩) (by rw [block_add]; exact hadB)).trans hc2
        have hft := find_take name rs k hlt hfind.out
        have hk0 : (0 : Int) ≤ (k : Int) := by omega
        have hk1 : (k : Int) < (rs.length : Int) := by omega
        clear hc1 hc2
        by_cases hm : bl rs[k].1 = bl name
        · have hF := Lib.hid (hft.1 hm)
          have hm' : (rs[k].1.toList == name.toList) = true := by rw [ByteArray.toList_eq, ByteArray.toList_eq]; simpa using hm
          clear hft hm
          go_wp2
          refine bodyPost_ret (v := .tuple #[.agg #[.string rs[k].1, .string rs[k].2], .int .i64 0]) (by simp [results, Try.results18, go_sem, hy0, hy1]) rfl ?_
          exact ⟨rs[k], 0, rfl, (hb02.setCell (p := ⟨w.heap.size, 0, none⟩) (Nat.le_refl _) _).setCell (p := ⟨w.heap.size, 1, none⟩) (Nat.le_refl _) _, .inr ⟨rs, HS.out, .inl ⟨hF.out, rfl⟩⟩⟩
        · have hF := Lib.hid (hft.2 hm)
          have hm' : (rs[k].1.toList == name.toList) = false := by rw [ByteArray.toList_eq, ByteArray.toList_eq]; simpa using hm
          clear hft hm
          go_wp2
          go_roundw
          case rel => exact ⟨k + 1, by go_num, by omega, hF, hb⟩
          case measure => simp [intOf]; omega
      · obtain rfl : k = rs.length := by omega
        go_wp2
        refine bodyPost_ret (v := .tuple #[.agg #[.string ⟨#[]⟩, .string ⟨#[]⟩], .int .i64 9]) (by simp [results, Try.results18, go_sem, hy0, hy1]) rfl ?_
        exact ⟨(⟨#[]⟩, ⟨#[]⟩), 9, rfl, (hb02.setCell (p := ⟨w.heap.size, 0, none⟩) (Nat.le_refl _) _).setCell (p := ⟨w.heap.size, 1, none⟩) (Nat.le_refl _) _, .inr ⟨rs, HS.out, .inr ⟨by have := hfind.out; rwa [List.take_length] at this, rfl, rfl⟩⟩⟩
end Go.Proofs.Ytojgmeonjgfpoaa
