/- PackApart walked: true for every two lists of boxes. Condition: at most 2^40 boxes each. -/
import Derived.Test.YtojgmeonjgfpoaaPackE
import Derived.Test.YtojgmeonjgfpoaaPackF
namespace Go.Proofs.Ytojgmeonjgfpoaa
open Go.RowKit

theorem great_zero {l : List BB} (h : greatB l = 0) : l.length ≤ 12 ∧ ∀ x ∈ l, x.1.size ≤ 200 ∧ x.2.size ≤ 300 := by
  unfold greatB at h
  by_cases hc : l.any bigB = true ∨ 12 < l.length
  · rw [if_pos hc] at h; cases h
  · refine ⟨by omega, fun x hx => ?_⟩
    have hn : ¬ l.any bigB = true := fun e => hc (.inl e)
    have hb : bigB x ≠ true := fun e => hn (List.any_eq_true.2 ⟨x, hx, e⟩)
    unfold bigB at hb
    simp at hb
    omega
theorem flat_small : ∀ l : List BB, (∀ x ∈ l, x.1.size ≤ 200 ∧ x.2.size ≤ 300) → (rowS (flatS (l.map bb))).length ≤ 520 * l.length
  | [], _ => by simp [flatS, rowS_nil]
  | x :: l, h => by
    rw [List.map_cons, flatS_cons, rowS_length_cons, rowS_length_cons]
    have ih := flat_small l (fun y hy => h y (by simp [hy]))
    have hx := h x (by simp)
    have e1 : (bb x).1.length = x.1.size := bl_len _
    have e2 : (bb x).2.length = x.2.size := bl_len _
    have h1 := lenS_length (bb x).1.length (by omega)
    have h2 := lenS_length (bb x).2.length (by omega)
    simp only [List.length_cons]
    omega
theorem great_row {l : List BB} (h : greatB l = 0) : (rowS (packRow (l.map bb))).length ≤ 7000 := by
  have h1 := great_zero h
  have h2 := flat_small l h1.2
  rw [packRow_len]
  omega
theorem bb_inj {l m : List BB} (h : l.map bb = m.map bb) : l = m := by
  induction l generalizing m with
  | nil => cases m with
    | nil => rfl
    | cons y m => simp at h
  | cons x l ih => cases m with
    | nil => simp at h
    | cons y m =>
      simp only [List.map_cons, List.cons.injEq] at h
      obtain ⟨h1, h2⟩ := h
      have e1 := (ba_ext (congrArg Prod.fst h1)).trans (ba_ext (rfl : bl y.1 = bl y.1)).symm
      have e2 := (ba_ext (congrArg Prod.snd h1)).trans (ba_ext (rfl : bl y.2 = bl y.2)).symm
      rw [ih h2, Prod.ext e1 e2]

def SameTo (sm : Bool) (l m : List BB) (k : Nat) : Prop := sm = true ↔ (l.length = m.length ∧ l.take k = m.take k)
theorem great_one {l : List BB} (h : greatB l ≠ 0) : greatB l = 1 := by
  unfold greatB at h ⊢
  split at h <;> simp_all

set_option maxRecDepth 100000 in
set_option maxHeartbeats 4000000 in
theorem apart_any (A A' : Option Addr) (c c' : Nat) (l m : List BB) (w : World) (hr : Reads w w.heap.size 2 A l.length (bx l)) (hr' : Reads w w.heap.size 2 A' m.length (bx m)) (hl : l.length ≤ 9223372036854775807) (hm : m.length ≤ 9223372036854775807) :
    Calls Try.prog 3 #[.slice A l.length c, .slice A' m.length c'] w fun e w' => e = .returned (.bool true) ∧ Below w.heap.size w w' := by
  have hg1 := great_any A c l w w.heap.size hr hl
  have hg2 := great_any A' c' m w w.heap.size hr' hm
  by_cases h1 : greatB l = 0
  · by_cases h2 : greatB m = 0
    · have hz1 := great_zero h1
      have hz2 := great_zero h2
      rw [h1] at hg1
      rw [h2] at hg2
      have hm1 := make_any A c l w hr (by have := great_row h1; omega) (by omega)
      have HG1 := Lib.hid hg1
      have HG2 := Lib.hid hg2
      have HM1 := Lib.hid hm1
      have hrow2 := great_row h2
      have hl12 := hz1.1
      have hm12 := hz2.1
      clear hg1 hg2 hm1 hz1 hz2
      generalize hM1 : makeS (l.map bb) = M1 at *
      obtain ⟨a1, e1⟩ := M1
      go_enter Try.func3, Try.ntmps3
      go_wp2_with fail
      refine HG1.out.mono ?_
      rintro e w' ⟨rfl, rfl⟩
      go_wp2_with fail
      refine HG2.out.mono ?_
      rintro e w' ⟨rfl, rfl⟩
      go_wp2_with fail
      refine HM1.out.mono ?_
      rintro e w1 ⟨rfl, hb1⟩
      have hsz1 := hb1.size
      have hm2 := make_any A' c' m w1 ((hr'.below hb1).more hsz1) (by omega) (by omega)
      have HM2 := Lib.hid hm2
      clear hm2
      generalize hM2 : makeS (m.map bb) = M2 at *
      obtain ⟨a2, e2⟩ := M2
      go_wp2_with fail
      refine HM2.out.mono ?_
      rintro e w2 ⟨rfl, hb2⟩
      have hb02 := hb1.trans (hb2.mono hsz1)
      have hsz2 := hb02.size
      clear HG1 HG2 HM1 HM2
      have HI1 := Lib.hid hM1
      have HI2 := Lib.hid hM2
      clear hM1 hM2
      by_cases he1 : e1 = 0
      · by_cases he2 : e2 = 0
        · subst he1
          subst he2
          have hab : (a1 = a2) ↔ l = m := by
            constructor
            · intro e
              refine bb_inj (makeS_inj (by rw [HI1.out]) (by rw [HI2.out]) ?_)
              rw [HI1.out, HI2.out]
              exact e
            · intro e
              have := HI1.out.symm.trans ((congrArg (fun x => makeS (x.map bb)) e).trans HI2.out)
              exact congrArg Prod.fst this
          have HAB := Lib.hid hab
          clear hab HI1 HI2
          have hr1 := (hr.below hb02).more hsz2
          have hr2 := (hr'.below hb02).more hsz2
          obtain ⟨b0, hb0, hb0'⟩ : ∃ b0 : Bool, ((l.length : Int) == (m.length : Int)) = b0 ∧ (b0 = true ↔ l.length = m.length) := ⟨_, rfl, by rw [beq_iff_eq]; omega⟩
          have HB0 := Lib.hid hb0'
          clear hb0'
          go_wp2
          go_loopw [9, 10] (fun sv i wr => ∃ (k : Nat) (sm : Bool), i = .int .i64 k ∧ sv = .bool sm ∧ k ≤ l.length ∧ SameTo sm l m k ∧ Below w2.heap.size w2 wr)
            (fun _ i _ => l.length - (intOf i).toNat)
          case atStart => exact ⟨0, b0, rfl, rfl, Nat.zero_le _, (by unfold SameTo; simpa using HB0.out), Below.refl _ _⟩
          case round =>
            clear hb0
            obtain ⟨k, sm, rfl, rfl, hk, hsm, hbr⟩ := hrel
            have hszr := hbr.size
            have hbw := hb02.trans (hbr.mono hsz2)
            cases sm with
            | false =>
              have hne : ¬ l = m := fun e => by
                have := hsm.2 ⟨by rw [e], by rw [e]⟩
                cases this
              have hne' : a1 ≠ a2 := fun e => hne (HAB.out.1 e)
              have hq : (a1 == a2) = false := by simpa using hne'
              clear hne hne'
              go_wp2_with (go_at_call 10; refine (awake_any _).mono ?_; rintro e w3 ⟨rfl, hb3⟩)
              go_ret
              exact ⟨rfl, hbw.trans (hb3.mono hbw.size)⟩
            | true =>
              obtain ⟨hle, htk⟩ := hsm.1 rfl
              by_cases hlt : k < l.length
              · have hlt2 : k < m.length := by omega
                obtain ⟨ad, rfl, hadB, hc1, hc2⟩ := box_at hr1 rfl hlt
                obtain ⟨ad', rfl, hadB', hc1', hc2'⟩ := box_at hr2 rfl hlt2
                have hx1 := (hbr.cell (p := ad.add (k * 2)) (by rw [block_add]; exact hadB)).trans hc1
                have hx2 := (hbr.cell (p := ⟨(ad.add (k * 2)).block, (ad.add (k * 2)).off + 1, none⟩) (by rw [block_add]; exact hadB)).trans hc2
                have hy1 := (hbr.cell (p := ad'.add (k * 2)) (by rw [block_add]; exact hadB')).trans hc1'
                have hy2 := (hbr.cell (p := ⟨(ad'.add (k * 2)).block, (ad'.add (k * 2)).off + 1, none⟩) (by rw [block_add]; exact hadB')).trans hc2'
                have hk0 : (0 : Int) ≤ (k : Int) := by omega
                have hk1 : (k : Int) < (l.length : Int) := by omega
                have hk2 : (k : Int) < (m.length : Int) := by omega
                clear hc1 hc2 hc1' hc2'
                have HLE := Lib.hid hle
                have HTK := Lib.hid htk
                clear hle htk
                obtain ⟨q, hq, hqv⟩ : ∃ q : Bool, (q = true ↔ l[k] = m[k]) ∧ ((q = true ∧ l[k].1.toList = m[k].1.toList ∧ l[k].2.toList = m[k].2.toList) ∨ (q = false ∧ (l[k].1.toList ≠ m[k].1.toList ∨ (l[k].1.toList = m[k].1.toList ∧ l[k].2.toList ≠ m[k].2.toList)))) := by
                  by_cases e1 : l[k].1.toList = m[k].1.toList
                  · by_cases e2 : l[k].2.toList = m[k].2.toList
                    · refine ⟨true, ⟨fun _ => ?_, fun _ => rfl⟩, .inl ⟨rfl, e1, e2⟩⟩
                      rw [ByteArray.toList_eq, ByteArray.toList_eq] at e1 e2
                      exact Prod.ext ((ba_ext e1).trans (ba_ext rfl).symm) ((ba_ext e2).trans (ba_ext rfl).symm)
                    · exact ⟨false, ⟨fun h => (Bool.noConfusion h), fun h => absurd (by rw [h]) e2⟩, .inr ⟨rfl, .inr ⟨e1, e2⟩⟩⟩
                  · exact ⟨false, ⟨fun h => (Bool.noConfusion h), fun h => absurd (by rw [h]) e1⟩, .inr ⟨rfl, .inl e1⟩⟩
                have HN : SameTo q l m (k + 1) := by
                  unfold SameTo
                  rw [hq, List.take_succ_eq_append_getElem hlt, List.take_succ_eq_append_getElem hlt2, HTK.out]
                  constructor
                  · intro e; exact ⟨HLE.out, by rw [e]⟩
                  · intro e; exact List.singleton_inj.1 (List.append_cancel_left e.2)
                clear hq
                rcases hqv with ⟨rfl, e1, e2⟩ | ⟨rfl, e1 | ⟨e1, e2⟩⟩
                all_goals
                  go_wp2_with fail
                  refine still_all (by kernel_rfl) (by kernel_rfl) ?_
                  iterate 10 still_step
                  refine wpStill_nil ?_
                  go_wp2
                  go_roundw
                  case rel => exact ⟨k + 1, _, by go_num, rfl, by omega, HN, hbr.drew⟩
                  case measure => simp [intOf]; omega
              · obtain rfl : k = l.length := by omega
                have heq : l = m := by
                  have := htk
                  rw [List.take_length, hle, List.take_length] at this
                  exact this
                have hne' : a1 = a2 := HAB.out.2 heq
                have hq : (a1 == a2) = true := by simpa using hne'
                clear heq hne' hle htk
                go_wp2_with (go_at_call 10; refine (awake_any _).mono ?_; rintro e w3 ⟨rfl, hb3⟩)
                go_ret
                exact ⟨rfl, hbw.trans (hb3.mono hbw.size)⟩
        · have he2' : (e2 != 0) = true := by rw [bne_iff_ne]; exact he2
          have he1' : (e1 != 0) = false := by rw [he1]; rfl
          clear he1 he2
          go_wp2_with (go_at_call 10; refine (awake_any _).mono ?_; rintro e w3 ⟨rfl, hb3⟩)
          go_ret
          exact ⟨rfl, hb02.trans (hb3.mono hsz2)⟩
      · have he1' : (e1 != 0) = true := by rw [bne_iff_ne]; exact he1
        clear he1
        go_wp2_with (go_at_call 10; refine (awake_any _).mono ?_; rintro e w3 ⟨rfl, hb3⟩)
        go_ret
        exact ⟨rfl, hb02.trans (hb3.mono hsz2)⟩
    · rw [h1] at hg1
      rw [great_one h2] at hg2
      have HG1 := Lib.hid hg1
      have HG2 := Lib.hid hg2
      clear hg1 hg2 h1 h2
      go_enter Try.func3, Try.ntmps3
      go_wp2_with fail
      refine HG1.out.mono ?_
      rintro e w' ⟨rfl, rfl⟩
      go_wp2_with fail
      refine HG2.out.mono ?_
      rintro e w' ⟨rfl, rfl⟩
      go_wp2_with (go_at_call 10; refine (awake_any _).mono ?_; rintro e w3 ⟨rfl, hb3⟩)
      go_ret
      exact ⟨rfl, hb3⟩
  · rw [great_one h1] at hg1
    have HG1 := Lib.hid hg1
    clear hg1 hg2 h1
    go_enter Try.func3, Try.ntmps3
    go_wp2_with fail
    refine HG1.out.mono ?_
    rintro e w' ⟨rfl, rfl⟩
    go_wp2_with (go_at_call 10; refine (awake_any _).mono ?_; rintro e w3 ⟨rfl, hb3⟩)
    go_ret
    exact ⟨rfl, hb3⟩
end Go.Proofs.Ytojgmeonjgfpoaa
