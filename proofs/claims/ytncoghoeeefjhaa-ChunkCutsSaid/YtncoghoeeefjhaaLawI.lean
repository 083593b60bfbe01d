/- ChunkCuts walked: true for every keys and every text. Condition: keys of 32 bytes. -/
import Derived.Test.YtncoghoeeefjhaaNamA
import Derived.Test.YtncoghoeeefjhaaRollR
import Derived.Test.YtncoghoeeefjhaaHandG
namespace Go.Proofs.Ytncoghoeeefjhaa
open Go.RowKit

theorem lb_ext {s t : ByteArray} (h : lb s = lb t) : s = t := ByteArray.ext (Array.toList_inj.1 h)
theorem map_lb_inj : ∀ {rs ss : List ByteArray}, rs.map lb = ss.map lb → rs = ss
  | [], [], _ => rfl
  | [], _ :: _, h => by simp at h
  | _ :: _, [], h => by simp at h
  | x :: rs, y :: ss, h => by
    simp only [List.map_cons, List.cons.injEq] at h
    rw [lb_ext h.1, map_lb_inj h.2]

set_option maxRecDepth 100000 in
set_option maxHeartbeats 8000000 in
theorem chunkCuts_any (A : Option Addr) (c : Nat) (ks : List (List UInt8)) (x : ByteArray) (w : World) (hr : KeysIn w w.heap.size A ks) :
    Calls Try.prog 5 #[.agg #[.slice A ks.length c], .string x] w fun e w' => e = .returned (.bool true) ∧ Below w.heap.size w w' := by
  have hb := (Below.refl w.heap.size w).alloc (Nat.le_refl _) (.cells #[.slice A ks.length c] 31)
  have hB := Blk.new w 31 #[.slice A ks.length c]
  have hb1' := hb.size
  by_cases h1 : (1500 : Int) < (x.size : Int)
  · go_enter Try.func5, Try.ntmps5
    go_wp2_with fail
    refine (fixed_any _).mono ?_
    rintro e w1 ⟨rfl, hb1⟩
    go_wp2
    go_ret
    exact ⟨rfl, hb.trans (hb1.mono hb1')⟩
  · by_cases h2 : (20 : Int) < (ks.length : Int)
    · go_enter Try.func5, Try.ntmps5
      go_wp2_with fail
      refine (fixed_any _).mono ?_
      rintro e w1 ⟨rfl, hb1⟩
      go_wp2
      go_ret
      exact ⟨rfl, hb.trans (hb1.mono hb1')⟩
    · have hx : x.size ≤ 1500 := by omega
      have HC := Lib.hid (fun w => ccut_any x w (by omega))
      have HR := Lib.hid (fun w => rccut_any x w (by omega))
      have HN := Lib.hid (fun (w' : World) (h : KeysIn w' w'.heap.size A ks) => cname_any A c ks x w' h (by omega))
      have HM := Lib.hid (fun (w' : World) (h : KeysIn w' w'.heap.size A ks) => rname39_any A c ks x w' h (by omega))
      have HX : Hid (x.size ≤ 1500) := Lib.hid hx
      have HKR := Lib.hid hr
      clear hx hr
      go_enter Try.func5, Try.ntmps5
      go_wp2_with fail
      refine held_start (fun W => Blk W w.heap.size 31 #[.slice A ks.length c] ∧ Below w.heap.size w W) (by kernel_rfl) ?_
      refine held_one (i := 0) (by kernel_rfl) rfl rfl (fun K hK => ?_)
      go_simp
      refine (fixed_any _).mono ?_
      rintro e w1 ⟨rfl, hb1⟩
      have hS1 : Blk w1 w.heap.size 31 #[.slice A ks.length c] ∧ Below w.heap.size w w1 := ⟨hB.drew.below hb1 hB.drew.lt, hb.drew.trans (hb1.mono hb1')⟩
      refine hK _ _ ⟨hS1, ?_⟩
      clear hK K hb hb1 hB
      go_simp
      refine held_take (i := 1) (.bool true) hS1 rfl rfl (by kernel_rfl) (by kernel_rfl) (by kernel_rfl) (fun _ _ _ h => h) (by intro W _; go_simp) ?_
      go_simp
      refine held_take_g (i := 2) (.string x) hS1 rfl (by rfl) (by kernel_rfl) (by kernel_rfl) (by kernel_rfl) (fun _ _ _ h => h) (by intro W _; go_simp) ?_
      go_simp
      refine held_take_g (i := 4) (.string x) hS1 rfl (by rfl) (by kernel_rfl) (by kernel_rfl) (by kernel_rfl) (fun _ _ _ h => h) (by intro W _; go_simp) ?_
      go_simp
      refine held_one_g (i := 3) (by kernel_rfl) rfl (by rfl) (fun K hK => ?_)
      go_simp
      refine (HC.out _).mono ?_
      rintro e w2 ⟨v2, rs, rfl, hrs, hown2, hb2⟩
      have hs1 := hS1.2.size
      have hS2 : Blk w2 w.heap.size 31 #[.slice A ks.length c] ∧ Below w.heap.size w w2 := ⟨hS1.1.below hb2 hS1.1.lt, hS1.2.trans (hb2.mono hs1)⟩
      refine hK _ _ ⟨hS2, ?_⟩
      clear hK K
      go_simp
      refine held_one_g (i := 5) (by kernel_rfl) rfl (by rfl) (fun K hK => ?_)
      go_simp
      refine (HR.out _).mono ?_
      rintro e w3 ⟨v3, ss, rfl, hss, hown3, hb3⟩
      have hs2 := hS2.2.size
      have hS3 : Blk w3 w.heap.size 31 #[.slice A ks.length c] ∧ Below w.heap.size w w3 := ⟨hS2.1.below hb3 hS2.1.lt, hS2.2.trans (hb3.mono hs2)⟩
      obtain rfl : ss = rs := map_lb_inj (hss.trans hrs.symm)
      obtain ⟨A2, c2, rfl, hc2⟩ := own_form hown2
      obtain ⟨A3, c3, rfl, hc3⟩ := own_form hown3
      have hr2 := ((Reads.of_own hown2).below hb3).more hb3.size
      have hr3 := Reads.of_own hown3
      have hsl : ss.length ≤ 1500 := by
        have h := cutS_length (lb x)
        rw [← hrs, List.length_map, lb_len] at h
        have := HX.out
        omega
      have HSM := Lib.hid (rsame_any A2 A3 c2 c3 ss w3 hr2 hr3 (by omega))
      refine hK _ _ ⟨hS3, ?_⟩
      clear hK K hr2 hr3 hown2 hown3 hrs hss hsl HC HR HX
      go_simp
      refine held_one_g (i := 6) (by kernel_rfl) rfl (by rfl) (fun K hK => ?_)
      go_simp
      refine HSM.out.mono ?_
      rintro e w4 ⟨rfl, hb4⟩
      have hs3 := hS3.2.size
      have hS4 : Blk w4 w.heap.size 31 #[.slice A ks.length c] ∧ Below w.heap.size w w4 := ⟨hS3.1.below hb4 hS3.1.lt, hS3.2.trans (hb4.mono hs3)⟩
      refine hK _ _ ⟨hS4, ?_⟩
      clear hK K HSM
      go_simp
      refine held_take (i := 7) (.bool true) hS4 rfl rfl (by kernel_rfl) (by kernel_rfl) (by kernel_rfl) (fun _ _ _ h => h) (by intro W _; go_simp) ?_
      go_simp
      refine held_take (i := 8) (.bool true) hS4 rfl rfl (by kernel_rfl) (by kernel_rfl) (by kernel_rfl) (fun _ _ _ h => h) (by intro W _; go_simp) ?_
      go_simp
      refine held_take_g (i := 9) (.agg #[.slice A ks.length c]) hS4 rfl (by rfl) (by kernel_rfl) (by kernel_rfl) (by kernel_rfl) (fun _ _ _ h => h) (by intro W hW; have hc := hW.1.cell 0; go_simp) ?_
      go_simp
      refine held_take_g (i := 10) (.string x) hS4 rfl (by rfl) (by kernel_rfl) (by kernel_rfl) (by kernel_rfl) (fun _ _ _ h => h) (by intro W _; go_simp) ?_
      go_simp
      refine held_take_g (i := 12) (.agg #[.slice A ks.length c]) hS4 rfl (by rfl) (by kernel_rfl) (by kernel_rfl) (by kernel_rfl) (fun _ _ _ h => h) (by intro W hW; have hc := hW.1.cell 0; go_simp) ?_
      go_simp
      refine held_take_g (i := 13) (.string x) hS4 rfl (by rfl) (by kernel_rfl) (by kernel_rfl) (by kernel_rfl) (fun _ _ _ h => h) (by intro W _; go_simp) ?_
      go_simp
      refine held_one_g (i := 11) (by kernel_rfl) rfl (by rfl) (fun K hK => ?_)
      go_simp
      refine (HN.out _ ((HKR.out.below hS4.2).more hS4.2.size)).mono ?_
      rintro e w5 ⟨rfl, hb5⟩
      have hs4 := hS4.2.size
      have hS5 : Blk w5 w.heap.size 31 #[.slice A ks.length c] ∧ Below w.heap.size w w5 := ⟨hS4.1.below hb5 hS4.1.lt, hS4.2.trans (hb5.mono hs4)⟩
      refine hK _ _ ⟨hS5, ?_⟩
      clear hK K HN
      generalize hexS (keyedS (idS ks) (bl x)) = X at *
      go_simp
      refine held_one_g (i := 14) (by kernel_rfl) rfl (by rfl) (fun K hK => ?_)
      go_simp
      refine (HM.out _ ((HKR.out.below hS5.2).more hS5.2.size)).mono ?_
      rintro e w6 ⟨rfl, hb6⟩
      have hs5 := hS5.2.size
      have hS6 : Blk w6 w.heap.size 31 #[.slice A ks.length c] ∧ Below w.heap.size w w6 := ⟨hS5.1.below hb6 hS5.1.lt, hS5.2.trans (hb6.mono hs5)⟩
      refine hK _ _ ⟨hS6, ?_⟩
      clear hK K HM
      go_simp
      refine held_take_g (i := 15) (.bool true) hS6 rfl (by rfl) (by kernel_rfl) (by kernel_rfl) (by kernel_rfl) (fun _ _ _ h => h) (by intro W _; go_simp) ?_
      go_simp
      refine held_take (i := 16) (.bool true) hS6 rfl rfl (by kernel_rfl) (by kernel_rfl) (by kernel_rfl) (fun _ _ _ h => h) (by intro W _; go_simp) ?_
      go_simp
      refine held_take (i := 17) (.bool true) hS6 rfl rfl (by kernel_rfl) (by kernel_rfl) (by kernel_rfl) (fun _ _ _ h => h) (by intro W _; go_simp) ?_
      go_simp
      refine wpAnyH_done (by kernel_rfl) ?_ _
      go_wp2
      go_ret
      exact ⟨rfl, hS6.2⟩
theorem chunkCuts_row (A : Option Addr) (c : Nat) (ks : List (List UInt8)) (x : ByteArray) (w : World) (hr : KeysIn w w.heap.size A ks) :
    Calls Try.prog 5 #[.agg #[.slice A ks.length c], .string x] w fun e w' => e = .returned (.bool true) ∧ Below w.heap.size w w' := chunkCuts_any A c ks x w hr
end Go.Proofs.Ytncoghoeeefjhaa
