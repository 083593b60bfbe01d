/- hibernacleref40.Make walked. Condition: the row of the boxes has at most 2^47 bytes. -/
import Derived.Test.YtojgmeonjgfpoaaRefE
namespace Go.Proofs.Ytojgmeonjgfpoaa
open Go.RowKit

set_option maxRecDepth 100000 in
set_option maxHeartbeats 4000000 in
theorem refmake_any (A : Option Addr) (c : Nat) (l : List BB) (w : World) (hr : Reads w w.heap.size 2 A l.length (bx l)) (hlen : (rowS (packRow (l.map bb))).length ≤ 140737488355328) (hll : l.length ≤ 1000000000) :
    Calls Try.prog 15 #[.slice A l.length c] w fun e w' => e = .returned (.tuple #[.string ⟨(makeS (l.map bb)).1.toArray⟩, .int .i64 (makeS (l.map bb)).2]) ∧ Below w.heap.size w w' := by
  by_cases hnil : l = []
  · subst hnil
    go_enter Try.func15, Try.ntmps15
    go_wp2
    go_ret2
    exact ⟨rfl, Below.refl _ _⟩
  · have hn0 : ((l.length : Int) == 0) = false := by have : 0 < l.length := List.length_pos_iff.2 hnil; rw [beq_eq_false_iff_ne]; omega
    have hmk : makeS (l.map bb) = if checkS [] (l.map bb) ≠ 0 then ([], checkS [] (l.map bb)) else if 65536 < (rowS (packRow (l.map bb))).length then ([], 6) else (rowS (packRow (l.map bb)), 0) := by
      unfold makeS
      rw [if_neg (by simpa using hnil)]
    generalize hM : makeS (l.map bb) = M at *
    have hnm := refnames_any A c l w hr hll
    have hby := fun w (hr : Reads w w.heap.size 2 A l.length (bx l)) => refbytes_any A c l w hr hlen hll
    generalize hC : checkS [] (l.map bb) = C at *
    generalize hR : rowS (packRow (l.map bb)) = R at *
    have HMK := Lib.hid hmk
    have HNM := Lib.hid hnm
    have HBY := Lib.hid hby
    clear hmk hnm hby hM hC hR hnil
    by_cases hc : C = 0
    · subst hc
      have HMK2 : M = if 65536 < R.length then ([], 6) else (R, 0) := by rw [HMK.out, if_neg (by decide)]
      have HM2 := Lib.hid HMK2
      clear HMK HMK2
      go_enter Try.func15, Try.ntmps15
      go_wp2_with fail
      refine HNM.out.mono ?_
      rintro e w1 ⟨rfl, hb1⟩
      have hr1 := (hr.below hb1).more hb1.size
      go_wp2_with fail
      refine (HBY.out w1 hr1).mono ?_
      rintro e w2 ⟨rfl, hb2⟩
      have hb02 := hb1.trans (hb2.mono hb1.size)
      clear hr hr1 HNM HBY
      by_cases hbig : 65536 < R.length
      · have hbig' : (65536 : Int) < (R.length : Int) := by omega
        rw [if_pos hbig] at HM2
        clear hbig
        go_wp2
        go_ret2
        exact ⟨by first | (rw [HM2.out]; done) | (rw [HM2.out]; rfl), hb02⟩
      · have hbig' : ¬ (65536 : Int) < (R.length : Int) := by omega
        rw [if_neg hbig] at HM2
        clear hbig
        go_wp2
        go_ret2
        exact ⟨by first | (rw [HM2.out]; done) | (rw [HM2.out]; rfl), hb02⟩
    · have hc1 : (C != 0) = true := by rw [bne_iff_ne]; exact hc
      have HMK2 : M = ([], C) := by rw [HMK.out, if_pos hc]
      have HM2 := Lib.hid HMK2
      clear HMK HMK2 hc
      go_enter Try.func15, Try.ntmps15
      go_wp2_with fail
      refine HNM.out.mono ?_
      rintro e w1 ⟨rfl, hb1⟩
      clear hr HNM HBY
      go_wp2
      go_ret2
      exact ⟨by first | (rw [HM2.out]; done) | (rw [HM2.out]; rfl), hb1⟩
end Go.Proofs.Ytojgmeonjgfpoaa
