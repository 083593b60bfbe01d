/- PackMakes walked: true for every list of boxes. Condition: a slice's greatest length. -/
import Derived.Test.YtojgmeonjgfpoaaLawB
import Derived.Test.YtojgmeonjgfpoaaR2H
import Derived.Test.YtojgmeonjgfpoaaRefF
namespace Go.Proofs.Ytojgmeonjgfpoaa
open Go.RowKit

set_option maxRecDepth 1000000 in
set_option maxHeartbeats 8000000 in
theorem packMakes_row (A : Option Addr) (c : Nat) (l : List BB) (w : World) (hr : Reads w w.heap.size 2 A l.length (bx l)) (hl : l.length ≤ 9223372036854775807) :
    Calls Try.prog 6 #[.slice A l.length c] w fun e w' => e = .returned (.bool true) ∧ Below w.heap.size w w' := by
  have hg1 := great_any A c l w w.heap.size hr hl
  by_cases h1 : greatB l = 0
  · have hz1 := great_zero h1
    have hrow1 := great_row h1
    rw [h1] at hg1
    have hl12 := hz1.1
    have HM1 := Lib.hid (make_any A c l w hr (by omega) (by omega))
    have HM2 : Hid (∀ w1, Below w.heap.size w w1 → Calls Try.prog 15 #[.slice A l.length c] w1 fun e w' => e = .returned (.tuple #[.string ⟨(makeS (l.map bb)).1.toArray⟩, .int .i64 (makeS (l.map bb)).2]) ∧ Below w1.heap.size w1 w') :=
      Lib.hid fun w1 hb => refmake_any A c l w1 ((hr.below hb).more hb.size) (by omega) (by omega)
    have HG1 := Lib.hid hg1
    have hal : (makeS (l.map bb)).1.length ≤ 7000 := by
      by_cases he : (makeS (l.map bb)).2 = 0
      · have hok := makeS_ok (l := l.map bb) he
        have h2 := hok.2.2.2
        rw [h2]; exact hrow1
      · have : (makeS (l.map bb)).1 = [] := by
          unfold makeS at he ⊢
          repeat' split
          all_goals first
            | rfl
            | (exfalso; apply he; simp [*])
        rw [this]; simp
    clear hg1 hz1 h1 hl hr hrow1
    generalize hM1 : makeS (l.map bb) = M1 at *
    obtain ⟨a1, e1⟩ := M1
    clear hM1
    have hN1 : ∀ w, Calls Try.prog 16 #[.string ⟨a1.toArray⟩] w fun e w' => e = .returned (.string ⟨(nameS a1).toArray⟩) ∧ Below w.heap.size w w' := fun w => by
      have h := name_any ⟨a1.toArray⟩ w (by rw [size_of]; have : a1.length ≤ 7000 := hal; omega)
      rw [bl_of] at h
      exact h
    have hN2 : ∀ w, Calls Try.prog 17 #[.string ⟨a1.toArray⟩] w fun e w' => e = .returned (.string ⟨(nameS a1).toArray⟩) ∧ Below w.heap.size w w' := fun w => by
      have h := rname_any ⟨a1.toArray⟩ w (by rw [size_of]; have : a1.length ≤ 7000 := hal; omega)
      rw [bl_of] at h
      exact h
    have HN1 := Lib.hid hN1
    have HN2 := Lib.hid hN2
    clear hN1 hN2
    go_enter Try.func6, Try.ntmps6
    go_wp2_with fail
    refine HG1.out.mono ?_
    rintro e w' ⟨rfl, rfl⟩
    go_wp2_with fail
    refine HM1.out.mono ?_
    rintro e w1 ⟨rfl, hb1⟩
    go_wp2_with fail
    refine (HM2.out _ hb1).mono ?_
    rintro e w2 ⟨rfl, hb2'⟩
    have hb2 := hb1.trans (hb2'.mono hb1.size)
    go_wp2_with fail
    refine (HN1.out _).mono ?_
    rintro e w3 ⟨rfl, hb3'⟩
    have hb3 := hb2.trans (hb3'.mono hb2.size)
    go_wp2_with fail
    refine (HN2.out _).mono ?_
    rintro e w4 ⟨rfl, hb4'⟩
    have hb4 := hb3.trans (hb4'.mono hb3.size)
    go_wp2_with (go_at_call 10; refine (awake_any _).mono ?_; rintro e w5 ⟨rfl, hb5⟩)
    go_ret
    exact ⟨rfl, hb4.trans (hb5.mono hb4.size)⟩
  · rw [great_one h1] at hg1
    have HG1 := Lib.hid hg1
    clear hg1 h1
    go_enter Try.func6, Try.ntmps6
    go_wp2_with fail
    refine HG1.out.mono ?_
    rintro e w' ⟨rfl, rfl⟩
    go_wp2_with (go_at_call 10; refine (awake_any _).mono ?_; rintro e w3 ⟨rfl, hb3⟩)
    go_ret
    exact ⟨rfl, hb3⟩
end Go.Proofs.Ytojgmeonjgfpoaa
