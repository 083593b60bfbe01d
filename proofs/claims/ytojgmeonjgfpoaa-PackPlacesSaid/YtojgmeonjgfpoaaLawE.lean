/- PackPlaces walked: true for every two texts. No condition. -/
import Derived.Test.YtojgmeonjgfpoaaLawD
import Derived.Test.YtojgmeonjgfpoaaRefI
namespace Go.Proofs.Ytojgmeonjgfpoaa
open Go.RowKit

theorem ofs_same {s : ByteArray} {err err' : Int} {rs rs' : List BB}
    (h : (boxesS (bl s) = none ∧ err = 3 ∧ rs = []) ∨ (boxesS (bl s) = some (rs.map bb) ∧ err = 0)) (h' : (boxesS (bl s) = none ∧ err' = 3 ∧ rs' = []) ∨ (boxesS (bl s) = some (rs'.map bb) ∧ err' = 0)) : err = err' ∧ rs = rs' := by
  rcases h with ⟨a, b, c⟩ | ⟨a, b⟩ <;> rcases h' with ⟨a', b', c'⟩ | ⟨a', b'⟩
  · exact ⟨by rw [b, b'], by rw [c, c']⟩
  · rw [a] at a'; cases a'
  · rw [a] at a'; cases a'
  · exact ⟨by rw [b, b'], bb_inj (by have := a.symm.trans a'; injection this)⟩
theorem takes_same {s name : ByteArray} {x y : BB} {err err' : Int}
    (h : (boxesS (bl s) = none ∧ err = 3 ∧ x = (⟨#[]⟩, ⟨#[]⟩)) ∨ (∃ rs : List BB, boxesS (bl s) = some (rs.map bb) ∧ ((findB name rs = some x ∧ err = 0) ∨ (findB name rs = none ∧ err = 9 ∧ x = (⟨#[]⟩, ⟨#[]⟩)))))
    (h' : (boxesS (bl s) = none ∧ err' = 3 ∧ y = (⟨#[]⟩, ⟨#[]⟩)) ∨ (∃ rs : List BB, boxesS (bl s) = some (rs.map bb) ∧ ((findB name rs = some y ∧ err' = 0) ∨ (findB name rs = none ∧ err' = 9 ∧ y = (⟨#[]⟩, ⟨#[]⟩))))) : err = err' ∧ x = y := by
  rcases h with ⟨a, b, c⟩ | ⟨rs, a, b⟩ <;> rcases h' with ⟨a', b', c'⟩ | ⟨rs', a', b'⟩
  · exact ⟨by rw [b, b'], by rw [c, c']⟩
  · rw [a] at a'; cases a'
  · rw [a] at a'; cases a'
  · have e : rs = rs' := bb_inj (by have := a.symm.trans a'; injection this)
    subst e
    rcases b with ⟨f, g⟩ | ⟨f, g, i⟩ <;> rcases b' with ⟨f', g'⟩ | ⟨f', g', i'⟩
    · rw [f] at f'; injection f' with f'; exact ⟨by rw [g, g'], f'⟩
    · rw [f] at f'; cases f'
    · rw [f] at f'; cases f'
    · exact ⟨by rw [g, g'], by rw [i, i']⟩

set_option maxRecDepth 1000000 in
set_option maxHeartbeats 8000000 in
theorem packPlaces_row (b name : ByteArray) (w : World) :
    Calls Try.prog 7 #[.string b, .string name] w fun e w' => e = .returned (.bool true) ∧ Below w.heap.size w w' := by
  by_cases hb : b.size ≤ 2000
  · have hbi : ¬ (2000 : Int) < (b.size : Int) := by omega
    by_cases hn : name.size ≤ 200
    · have hni : ¬ (200 : Int) < (name.size : Int) := by omega
      have HN1 := Lib.hid (fun w => name_any b w (by omega))
      have HN2 := Lib.hid (fun w => rname_any b w (by omega))
      go_enter Try.func7, Try.ntmps7
      go_wp2_with fail
      refine (of_any b _ (by omega)).mono ?_
      rintro e w1 ⟨v1, rs, err, rfl, hown1, hb1, hc1⟩
      obtain ⟨A1, c1, rfl, hcv1⟩ := own_form hown1
      have hrd1 := Reads.of_own hown1
      go_wp2_with fail
      refine (refof_any b w1 (by omega)).mono ?_
      rintro e w2 ⟨v2, rs2, err2, rfl, hown2, hb2, hc2⟩
      obtain ⟨A2, c2, rfl, hcv2⟩ := own_form hown2
      have hrd2 := Reads.of_own hown2
      obtain ⟨rfl, rfl⟩ := ofs_same hc1 hc2
      have hlen : rs.length ≤ 100000000 := by
        rcases hc1 with ⟨_, _, rfl⟩ | ⟨hs, _⟩
        · simp
        · have h1 := congrArg List.length (boxesS_some hs).2
          have h2 := flat_ge rs
          rw [packRow_len, bl_len] at h1
          omega
      clear hc1 hc2 hown1 hown2
      have hB2 := hb1.trans (hb2.mono hb1.size)
      go_wp2_with fail
      refine (take_any b name w2 (by omega)).mono ?_
      rintro e w3 ⟨x, errx, rfl, hb3, hcx⟩
      have hB3 := hB2.trans (hb3.mono hB2.size)
      have hX0 := Blk.new w3 29 #[.string x.1, .string x.2]
      have hB3' := hB3.alloc hB3.size (.cells #[.string x.1, .string x.2] 29)
      go_wp2_with fail
      refine (reftake_any b name _ (by omega)).mono ?_
      rintro e w4 ⟨y, erry, rfl, hb4, hcy⟩
      obtain ⟨rfl, rfl⟩ := takes_same hcx hcy
      clear hcx hcy
      have hB4 := hB3'.trans (hb4.mono hB3'.size)
      have hX1 := (hX0.below hb4 hX0.lt).alloc (.cells #[.string x.1, .string x.2] 29)
      have hY1 := Blk.new w4 29 #[.string x.1, .string x.2]
      have hB5 := hB4.alloc hB4.size (.cells #[.string x.1, .string x.2] 29)
      have x0 := hX1.cell 0
      have x1 := hX1.cell 1
      have y0 := hY1.cell 0
      have y1 := hY1.cell 1
      have h12 : Below w1.heap.size w1 w4 := (hb2.trans (hb3.mono hb2.size)).trans (((Below.refl _ _).alloc (Nat.le_trans hb2.size hb3.size) _).trans (hb4.mono (by have := hb2.size; have := hb3.size; simp; omega)))
      have h22 : Below w2.heap.size w2 w4 := hb3.trans (((Below.refl _ _).alloc hb3.size _).trans (hb4.mono (by have := hb3.size; simp; omega)))
      clear hX0 hb4 hB3' hB3 hb3 hB2 hb1
      go_wp2_with fail
      refine (HN1.out _).mono ?_
      rintro e w5 ⟨rfl, hb5⟩
      have hB6 := hB5.trans (hb5.mono hB5.size)
      go_wp2_with fail
      refine (HN2.out _).mono ?_
      rintro e w6 ⟨rfl, hb6⟩
      have hB7 := hB6.trans (hb6.mono hB6.size)
      have h4s : w4.heap.size ≤ (w4.alloc (.cells #[.string x.1, .string x.2] 29)).heap.size := by simp
      have h46 : Below w4.heap.size w4 w6 := ((Below.refl _ _).alloc (Nat.le_refl _) (.cells #[.string x.1, .string x.2] 29)).trans ((hb5.trans (hb6.mono hb5.size)).mono h4s)
      have h16 : Below w1.heap.size w1 w6 := h12.trans (h46.mono h12.size)
      have h26 : Below w2.heap.size w2 w6 := h22.trans (h46.mono h22.size)
      have hr1 := (hrd1.below h16).more h16.size
      have hr2 := (hrd2.below h26).more h26.size
      clear hX1 hY1 x0 x1 y0 y1 h12 h22 h46 h16 h26 h4s hb5 hb6 hB6 hB5 hB4 hb2 hrd1 hrd2 HN1 HN2 hcv1 hcv2
      go_wp2_with fail
      go_loopw [13] (fun i wr => ∃ k : Nat, i = .int .i64 k ∧ k ≤ rs.length ∧ Below w6.heap.size w6 wr) (fun i _ => rs.length - (intOf i).toNat)
      case atStart => exact ⟨0, rfl, Nat.zero_le _, Below.refl _ _⟩
      case round =>
        obtain ⟨k, rfl, hk, hbr⟩ := hrel
        by_cases hlt : k < rs.length
        · have hpx := px_at rs 5 k hlt
          obtain ⟨ad, rfl, hadB, hcp⟩ := hr1.2 (by omega)
          obtain ⟨ad', rfl, hadB', hcp'⟩ := hr2.2 (by omega)
          have hp1 := hcp _ _ hpx.1
          have hp2 := hcp _ _ hpx.2.1
          have hp3 := hcp _ _ hpx.2.2
          have hq1 := hcp' _ _ hpx.1
          have hq2 := hcp' _ _ hpx.2.1
          have hq3 := hcp' _ _ hpx.2.2
          rw [← add_add', add_pos _ (by omega)] at hp2 hp3 hq2 hq3
          have hbd := hbr.drew
          have x1 := (hbd.cell (p := ad.add (k * 3)) (by rw [block_add]; exact hadB)).trans hp1
          have x2 := (hbd.cell (p := ⟨(ad.add (k * 3)).block, (ad.add (k * 3)).off + 1, none⟩) (by simp [block_add]; exact hadB)).trans hp2
          have x3 := (hbd.cell (p := ⟨(ad.add (k * 3)).block, (ad.add (k * 3)).off + 2, none⟩) (by simp [block_add]; exact hadB)).trans hp3
          have y1 := (hbd.cell (p := ad'.add (k * 3)) (by rw [block_add]; exact hadB')).trans hq1
          have y2 := (hbd.cell (p := ⟨(ad'.add (k * 3)).block, (ad'.add (k * 3)).off + 1, none⟩) (by simp [block_add]; exact hadB')).trans hq2
          have y3 := (hbd.cell (p := ⟨(ad'.add (k * 3)).block, (ad'.add (k * 3)).off + 2, none⟩) (by simp [block_add]; exact hadB')).trans hq3
          have i0 : (0 : Int) ≤ (k : Int) := by omega
          have i1 : (k : Int) < (rs.length : Int) := by omega
          have wk : IntKind.i64.wrap ((k : Int) + 1) = (k : Int) + 1 := IntWalk.i64_in _ (by omega)
          generalize ((5 + (rowS (flatS ((rs.take k).map bb))).length + (rowS [bl rs[k].1, bl rs[k].2]).length : Nat) - (rs[k].2.size : Int)) = at1 at *
          generalize rs[k].1 = s1 at *
          generalize (rs[k].2.size : Int) = z1 at *
          clear hcp hcp' hp1 hp2 hp3 hq1 hq2 hq3 hpx hr1 hr2
          go_wp2_with fail
          refine still_all (by kernel_rfl) (by kernel_rfl) ?_
          iterate 9 still_step
          refine wpStill_nil ?_
          go_wp2_with fail
          go_roundw
          case rel => exact ⟨k + 1, by go_num, by omega, hbd⟩
          case measure => simp [intOf]; omega
        · have hk9 : ¬ (k : Int) < (rs.length : Int) := by omega
          have hbz := hB7.trans (hbr.mono hB7.size)
          go_wp2_with (go_at_call 10; refine (awake_any _).mono ?_; rintro e w8 ⟨rfl, hb8⟩)
          go_ret
          exact ⟨rfl, hbz.trans (hb8.mono hbz.size)⟩
    · have hni : (200 : Int) < (name.size : Int) := by omega
      go_enter Try.func7, Try.ntmps7
      go_wp2_with (go_at_call 10; refine (awake_any _).mono ?_; rintro e w3 ⟨rfl, hb3⟩)
      go_ret
      exact ⟨rfl, hb3⟩
  · have hbi : (2000 : Int) < (b.size : Int) := by omega
    go_enter Try.func7, Try.ntmps7
    go_wp2_with (go_at_call 10; refine (awake_any _).mono ?_; rintro e w3 ⟨rfl, hb3⟩)
    go_ret
    exact ⟨rfl, hb3⟩
end Go.Proofs.Ytojgmeonjgfpoaa
