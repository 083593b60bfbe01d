/- PackTakes walked: true for every list of boxes and every name. Condition: a slice's greatest length. -/
import Derived.Test.YtojgmeonjgfpoaaLawA
namespace Go.Proofs.Ytojgmeonjgfpoaa
open Go.RowKit

theorem px_at : ∀ (l : List BB) (a k : Nat) (h : k < l.length), (px a l)[k * 3]? = some (.string l[k].1) ∧
    (px a l)[k * 3 + 1]? = some (.int .i64 ((a + (rowS (flatS ((l.take k).map bb))).length + (rowS [bl l[k].1, bl l[k].2]).length : Nat) - (l[k].2.size : Int))) ∧ (px a l)[k * 3 + 2]? = some (.int .i64 l[k].2.size)
  | x :: l, a, 0, _ => by simp [px, flatS, rowS_nil]
  | x :: l, a, k + 1, h => by
    have ih := px_at l (a + (rowS [bl x.1, bl x.2]).length) k (by simpa using h)
    have e : (k + 1) * 3 = k * 3 + 1 + 1 + 1 := by omega
    rw [px, e]
    simp only [List.getElem?_cons_succ, List.getElem_cons_succ, List.take_succ_cons, List.map_cons, flatS_cons]
    rw [show rowS ((bb x).1 :: (bb x).2 :: flatS ((l.take k).map bb)) = rowS [bl x.1, bl x.2] ++ rowS (flatS ((l.take k).map bb)) by rw [← rowS_append]; rfl, List.length_append]
    rw [← Nat.add_assoc]
    exact ih
theorem px_length : ∀ (l : List BB) (a : Nat), (px a l).length = l.length * 3
  | [], a => rfl
  | x :: l, a => by rw [px]; simp only [List.length_cons, px_length l]; omega

/-- where box k's data stand -/
def atN (l : List BB) (k : Nat) (h : k < l.length) : Nat := 5 + (rowS (flatS ((l.take k).map bb))).length + ((lenS l[k].1.size).length + l[k].1.size + (lenS l[k].2.size).length)
theorem atN_eq (l : List BB) (k : Nat) (h : k < l.length) : ((5 + (rowS (flatS ((l.take k).map bb))).length + (rowS [bl l[k].1, bl l[k].2]).length : Nat) : Int) - (l[k].2.size : Int) = (atN l k h : Int) := by
  unfold atN
  rw [row2_len, bl_len, bl_len]
  omega
theorem atN_le (l : List BB) (k : Nat) (h : k < l.length) : atN l k h + l[k].2.size ≤ (rowS (packRow (l.map bb))).length := by
  have h1 := flat_take_le l (k + 1)
  rw [flat_take l k h, List.length_append, row2_len, bl_len, bl_len] at h1
  rw [packRow_len]
  unfold atN
  omega
theorem atN_slice (l : List BB) (k : Nat) (h : k < l.length) : ((rowS (packRow (l.map bb))).drop (atN l k h)).take l[k].2.size = bl l[k].2 := by
  have e1 : rowS (packRow (l.map bb)) = (rowS [hibp] ++ rowS (flatS ((l.take k).map bb)) ++ (lenS (bl l[k].1).length ++ bl l[k].1 ++ lenS (bl l[k].2).length)) ++ (bl l[k].2 ++ rowS (flatS ((l.drop (k + 1)).map bb))) := by
    have e2 : l.map bb = (l.take k).map bb ++ bb l[k] :: (l.drop (k + 1)).map bb := by
      rw [← List.map_cons, ← List.map_append, ← List.drop_eq_getElem_cons h, List.take_append_drop]
    rw [e2]
    unfold packRow
    rw [flatS_append, flatS_cons, ← List.singleton_append, rowS_append, rowS_append, rowS_cons (bb l[k]).1, rowS_cons (bb l[k]).2]
    simp only [List.append_assoc]
    rfl
  have e3 : (rowS [hibp] ++ rowS (flatS ((l.take k).map bb)) ++ (lenS (bl l[k].1).length ++ bl l[k].1 ++ lenS (bl l[k].2).length)).length = atN l k h := by
    unfold atN
    simp only [List.length_append, bl_len]
    have : (rowS [hibp]).length = 5 := by rw [rowS_one, lenS_lt (by decide)]; rfl
    omega
  rw [e1, ← e3, List.drop_left]
  rw [List.take_append_of_le_length (by rw [bl_len]; exact Nat.le_refl _), List.take_of_length_le (by rw [bl_len]; exact Nat.le_refl _)]

theorem checkS_apart : ∀ (L : List (Bs × Bs)) (seen : List Bs), checkS seen L = 0 → (∀ x ∈ L, x.1 ∉ seen) ∧ (L.map Prod.fst).Pairwise (· ≠ ·)
  | [], seen, _ => ⟨fun x hx => by simp at hx, List.Pairwise.nil⟩
  | x :: L, seen, h => by
    rw [checkS] at h
    by_cases c1 : x.1.length < 1 ∨ 100 < x.1.length
    · rw [if_pos c1] at h; cases h
    · rw [if_neg c1] at h
      by_cases c2 : x.1 ∈ seen
      · rw [if_pos c2] at h; cases h
      · rw [if_neg c2] at h
        have ih := checkS_apart L (x.1 :: seen) h
        refine ⟨fun y hy => ?_, ?_⟩
        · rcases List.mem_cons.1 hy with rfl | hy
          · exact c2
          · exact fun hm => ih.1 y hy (List.mem_cons_of_mem _ hm)
        · rw [List.map_cons, List.pairwise_cons]
          refine ⟨fun n hn e => ?_, ih.2⟩
          obtain ⟨y, hy, rfl⟩ := List.mem_map.1 hn
          exact ih.1 y hy (by rw [← e]; simp)
/-- by its own name each box is found -/
theorem find_own {l : List BB} (hp : ((l.map bb).map Prod.fst).Pairwise (· ≠ ·)) (k : Nat) (h : k < l.length) : findB l[k].1 l = some l[k] := by
  have key : ∀ j, j ≤ k → findB l[k].1 (l.take j) = none := by
    intro j
    induction j with
    | zero => exact fun _ => rfl
    | succ j ih =>
      intro hj
      refine (find_take l[k].1 l j (by omega) (ih (by omega))).2 ?_
      intro e
      have := List.pairwise_iff_getElem.1 hp j k (by simp; omega) (by simpa using h) (by omega)
      simp only [List.getElem_map] at this
      exact this e
  exact (find_take l[k].1 l k h (key k (Nat.le_refl _))).1 rfl
theorem find_iff (l : List BB) (name : ByteArray) : (∃ x, findB name l = some x) ↔ ∃ k, ∃ h : k < l.length, bl l[k].1 = bl name := by
  unfold findB
  constructor
  · rintro ⟨x, hx⟩
    have h1 := List.mem_of_find?_eq_some hx
    have h2 := List.find?_some hx
    obtain ⟨k, hk, e⟩ := List.mem_iff_getElem.1 h1
    exact ⟨k, hk, by rw [e]; exact of_decide_eq_true h2⟩
  · rintro ⟨k, hk, e⟩
    have : (l.find? fun x => decide (bl x.1 = bl name)).isSome := by
      rw [List.find?_isSome]
      exact ⟨l[k], List.getElem_mem hk, decide_eq_true e⟩
    exact Option.isSome_iff_exists.1 this

set_option maxRecDepth 1000000 in
set_option maxHeartbeats 8000000 in
theorem takes_main (A : Option Addr) (c : Nat) (l : List BB) (o : ByteArray) (w : World) (hr : Reads w w.heap.size 2 A l.length (bx l)) (hl : l.length ≤ 9223372036854775807)
    (h1 : greatB l = 0) (ho : o.size ≤ 200) (a1 : Bs) (hM1 : makeS (l.map bb) = (a1, 0)) :
    Calls Try.prog 5 #[.slice A l.length c, .string o] w fun e w' => e = .returned (.bool true) ∧ Below w.heap.size w w' := by
  have hg1 := great_any A c l w w.heap.size hr hl
  have hz1 := great_zero h1
  rw [h1] at hg1
  have hm1 := make_any A c l w hr (by have := great_row h1; omega) (by omega)
  rw [hM1] at hm1
  have hrow1 := great_row h1
  have HG1 := Lib.hid hg1
  have HM1 := Lib.hid hm1
  have HZ := Lib.hid hz1.2
  have hl12 := hz1.1
  have ho' : ¬ (200 : Int) < (o.size : Int) := by omega
  have HI1 := Lib.hid hM1
  clear hM1 hg1 hm1 hz1 h1
  have hok := makeS_ok (l := l.map bb) (by rw [HI1.out])
  have ha1 : rowS (packRow (l.map bb)) = a1 := by
    have h2 := hok.2.2.2.symm.trans HI1.out
    exact congrArg Prod.fst h2
  have hbox : boxesS a1 = some (l.map bb) := by
    have h2 := boxesS_make (l := l.map bb) (by rw [HI1.out])
    rwa [HI1.out] at h2
  have hpair := (checkS_apart (l.map bb) [] hok.2.1).2
  have HA1 := Lib.hid ha1
  have HBX := Lib.hid hbox
  have HPW := Lib.hid hpair
  have ha1l : a1.length ≤ 7000 := by rw [← ha1]; exact hrow1
  clear ha1 hbox hpair hok hrow1
  go_enter Try.func5, Try.ntmps5
  go_wp2_with fail
  refine HG1.out.mono ?_
  rintro e w' ⟨rfl, rfl⟩
  go_wp2_with fail
  refine HM1.out.mono ?_
  rintro e w1 ⟨rfl, hb1⟩
  have hsz1 := hb1.size
  go_wp2_with fail
  refine (of_any _ w1 (by show a1.length ≤ 100000000; omega)).mono ?_
  rintro e w2 ⟨v2, rs, err, rfl, hown2, hb2, hcase⟩
  rw [bl_of] at hcase
  rcases hcase with ⟨hnone, _, _⟩ | ⟨hsome, rfl⟩
  · exact absurd (hnone.symm.trans HBX.out) (by simp)
  · have hrs : rs = l := bb_inj (by have := hsome.symm.trans HBX.out; injection this)
    subst hrs
    have hb02 := hb1.trans (hb2.mono hsz1)
    have hsz2 := hb02.size
    obtain ⟨Av, cv, rfl, hcv⟩ := own_form hown2
    have hrd := Reads.of_own hown2
    have hr2 := (hr.below hb02).more hsz2
    clear hown2 hsome HG1 HM1 HI1 hr hcv
    go_wp2_with fail
    go_loopw [9, 10] (fun mv i wr => ∃ (k : Nat) (mt : Bool), i = .int .i64 k ∧ mv = .bool mt ∧ k ≤ rs.length ∧ Hid (mt = (rs.take k).any fun x => decide (bl x.1 = bl o)) ∧ Below w2.heap.size w2 wr)
      (fun _ i _ => rs.length - (intOf i).toNat)
    case atStart => exact ⟨0, false, rfl, rfl, Nat.zero_le _, Lib.hid rfl, Below.refl _ _⟩
    case round =>
      obtain ⟨k, mt, rfl, rfl, hk, hmt, hbr⟩ := hrel
      have hszr := hbr.size
      have hbw := hb02.trans (hbr.mono hsz2)
      by_cases hlt : k < rs.length
      · as_aux_lemma =>
          obtain ⟨ad, rfl, hadB, hc1, hc2⟩ := box_at hr2 rfl hlt
          have hx1 := (hbr.cell (p := ad.add (k * 2)) (by rw [block_add]; exact hadB)).trans hc1
          have hx2 := (hbr.cell (p := ⟨(ad.add (k * 2)).block, (ad.add (k * 2)).off + 1, none⟩) (by rw [block_add]; exact hadB)).trans hc2
          have hpx := px_at rs 5 k hlt
          rw [atN_eq rs k hlt] at hpx
          obtain ⟨ad', rfl, hadB', hcp⟩ := hrd.2 (by omega)
          have hp1 := hcp _ _ hpx.1
          have hp2 := hcp _ _ hpx.2.1
          have hp3 := hcp _ _ hpx.2.2
          rw [← add_add', add_pos _ (by omega)] at hp2 hp3
          have hy1 := (hbr.cell (p := ad'.add (k * 3)) (by rw [block_add]; exact hadB')).trans hp1
          have hy2 := (hbr.cell (p := ⟨(ad'.add (k * 3)).block, (ad'.add (k * 3)).off + 1, none⟩) (by simp [block_add]; exact hadB')).trans hp2
          have hy3 := (hbr.cell (p := ⟨(ad'.add (k * 3)).block, (ad'.add (k * 3)).off + 2, none⟩) (by simp [block_add]; exact hadB')).trans hp3
          clear hcp hp1 hp2 hp3 hpx hc1 hc2
          have hfo := find_own HPW.out k hlt
          have hat1 := atN_le rs k hlt
          have hat2 := atN_slice rs k hlt
          rw [HA1.out] at hat1 hat2
          generalize hat : atN rs k hlt = t at *
          have HFO := Lib.hid hfo
          have HAT := Lib.hid hat2
          clear hfo hat2 hat
          go_wp2_with fail
          refine (take_any _ _ wr (by show a1.length ≤ 100000000; omega)).mono ?_
          rintro e w3 ⟨x, err, rfl, hb3, hcase3⟩
          rw [bl_of] at hcase3
          have hx : x = rs[k] ∧ err = 0 := by
            rcases hcase3 with ⟨hn, _⟩ | ⟨ys, hys, hcc⟩
            · exact absurd (hn.symm.trans HBX.out) (by simp)
            · have hyr : ys = rs := bb_inj (by have := hys.symm.trans HBX.out; injection this)
              subst hyr
              rw [HFO.out] at hcc
              rcases hcc with ⟨h1, h2⟩ | ⟨h1, _⟩
              · injection h1 with h1; exact ⟨h1.symm, h2⟩
              · cases h1
          obtain ⟨rfl, rfl⟩ := hx
          clear hcase3
          have hbw3 := hbr.trans (hb3.mono hszr)
          have hz1 := (hb3.cell (p := ad.add (k * 2)) (by rw [block_add]; omega)).trans hx1
          have hz2 := (hb3.cell (p := ⟨(ad.add (k * 2)).block, (ad.add (k * 2)).off + 1, none⟩) (by simp [block_add]; omega)).trans hx2
          have hv1 := (hb3.cell (p := ad'.add (k * 3)) (by rw [block_add]; omega)).trans hy1
          have hv2 := (hb3.cell (p := ⟨(ad'.add (k * 3)).block, (ad'.add (k * 3)).off + 1, none⟩) (by simp [block_add]; omega)).trans hy2
          have hv3 := (hb3.cell (p := ⟨(ad'.add (k * 3)).block, (ad'.add (k * 3)).off + 2, none⟩) (by simp [block_add]; omega)).trans hy3
          clear hx1 hx2 hy1 hy2 hy3
          have hsz3 := hb3.size
          have hal : Below w3.heap.size w3 (w3.alloc (.cells #[.string rs[k].1, .string rs[k].2] 29)) := (Below.refl _ _).alloc (Nat.le_refl _) _
          have hq1 := (hal.cell (p := ad.add (k * 2)) (by rw [block_add]; omega)).trans hz1
          have hq2 := (hal.cell (p := ⟨(ad.add (k * 2)).block, (ad.add (k * 2)).off + 1, none⟩) (by simp [block_add]; omega)).trans hz2
          have hr1 := (hal.cell (p := ad'.add (k * 3)) (by rw [block_add]; omega)).trans hv1
          have hr2 := (hal.cell (p := ⟨(ad'.add (k * 3)).block, (ad'.add (k * 3)).off + 1, none⟩) (by simp [block_add]; omega)).trans hv2
          have hr3 := (hal.cell (p := ⟨(ad'.add (k * 3)).block, (ad'.add (k * 3)).off + 2, none⟩) (by simp [block_add]; omega)).trans hv3
          clear hal
          have hk0 : (0 : Int) ≤ (k : Int) := by omega
          have hk1 : (k : Int) < (rs.length : Int) := by omega
          have ht0 : (0 : Int) ≤ (t : Int) := by omega
          have ht1 : ¬ (t : Int) < 0 := by omega
          have hw1 : IntKind.i64.wrap ((t : Int) + (rs[k].2.size : Int)) = (t : Int) + (rs[k].2.size : Int) := IntWalk.i64_in _ (by omega)
          have ht2 : ¬ (a1.length : Int) < (t : Int) + (rs[k].2.size : Int) := by omega
          have ht3 : (0 : Int) ≤ (t : Int) + (rs[k].2.size : Int) := by omega
          have ht4 : (t : Int) ≤ (t : Int) + (rs[k].2.size : Int) := by omega
          have ht5 : (t : Int) + (rs[k].2.size : Int) ≤ (a1.length : Int) := by omega
          go_wp2_with fail
          refine still_all (by kernel_rfl) (by kernel_rfl) ?_
          iterate 87 still_step
          refine wpStill_nil ?_
          have hst : (rs.take (k + 1)).any (fun x => decide (bl x.1 = bl o)) = (mt || decide (bl rs[k].1 = bl o)) := by
            rw [List.take_succ_eq_append_getElem hlt, List.any_append, ← hmt.out]
            simp
          have hbn : Below w2.heap.size w2 (w3.alloc (.cells #[.string rs[k].1, .string rs[k].2] 29)).drew := (hbw3.alloc (by omega) _).drew
          have HST := Lib.hid hst
          clear hst hmt
          have hal := ((Below.refl w3.heap.size w3).alloc (Nat.le_refl _) (.cells #[.string rs[k].1, .string rs[k].2] 29)).drew
          have hs1 := (hal.cell (p := ad.add (k * 2)) (by rw [block_add]; omega)).trans hz1
          clear hal
          have hex : ((⟨a1.toArray⟩ : ByteArray).extract t ((t : Int) + (rs[k].2.size : Int)).toNat).toList = rs[k].2.toList := by
            rw [ByteArray.toList_eq, ByteArray.toList_eq]
            show bl _ = bl _
            rw [bl_extract, bl_of, ← HAT.out, show ((t : Int) + (rs[k].2.size : Int)).toNat - t = rs[k].2.size by omega]
          have hexb : (!(((⟨a1.toArray⟩ : ByteArray).extract t ((t : Int) + (rs[k].2.size : Int)).toNat).toList == rs[k].2.toList)) = false := by rw [hex]; simp
          have hrng : (0 : Int) ≤ (t : Int) ∧ (t : Int) + (rs[k].2.size : Int) ≤ (a1.length : Int) := ⟨ht0, ht5⟩
          clear hex
          cases mt with
          | true =>
            have hn : true = (rs.take (k + 1)).any (fun x => decide (bl x.1 = bl o)) := by rw [HST.out]; rfl
            have HN := Lib.hid hn
            clear hn
            clear hw1 ht1 ht2 ht3 ht4 hq1 hq2 hr1 hr2 hr3
            go_wp2
            · exfalso
              rename_i h
              simp [hexb] at h
              omega
            go_roundw
            case rel => exact ⟨k + 1, true, by go_num, rfl, by omega, HN, hbn⟩
            case measure => simp [intOf]; omega
          | false =>
            by_cases hm : bl rs[k].1 = bl o
            · have hm' : (rs[k].1.toList == o.toList) = true := by rw [ByteArray.toList_eq, ByteArray.toList_eq]; simpa using hm
              have hn : true = (rs.take (k + 1)).any (fun x => decide (bl x.1 = bl o)) := by rw [HST.out, decide_eq_true hm]; rfl
              have HN := Lib.hid hn
              clear hn hm
              clear hw1 ht1 ht2 ht3 ht4 hq1 hq2 hr1 hr2 hr3
              go_wp2
              · exfalso
                rename_i h
                simp [hexb] at h
                omega
              go_roundw
              case rel => exact ⟨k + 1, true, by go_num, rfl, by omega, HN, hbn⟩
              case measure => simp [intOf]; omega
            · have hm' : (rs[k].1.toList == o.toList) = false := by rw [ByteArray.toList_eq, ByteArray.toList_eq]; simpa using hm
              have hn : false = (rs.take (k + 1)).any (fun x => decide (bl x.1 = bl o)) := by rw [HST.out, decide_eq_false hm]; rfl
              have HN := Lib.hid hn
              clear hn hm
              clear hw1 ht1 ht2 ht3 ht4 hq1 hq2 hr1 hr2 hr3
              go_wp2
              · exfalso
                rename_i h
                simp [hexb] at h
                omega
              go_roundw
              case rel => exact ⟨k + 1, false, by go_num, rfl, by omega, HN, hbn⟩
              case measure => simp [intOf]; omega
      · as_aux_lemma =>
          obtain rfl : k = rs.length := by omega
          have hmt' := hmt.out
          rw [List.take_length] at hmt'
          have HMT := Lib.hid hmt'
          clear hmt hmt' hr2 hrd
          go_wp2_with fail
          refine (take_any _ _ wr (by show a1.length ≤ 100000000; omega)).mono ?_
          rintro e w3 ⟨x, err, rfl, hb3, hcase3⟩
          rw [bl_of] at hcase3
          have hx : (err = 0 ∧ mt = true) ∨ (err = 9 ∧ mt = false) := by
            rcases hcase3 with ⟨hn, _⟩ | ⟨ys, hys, hcc⟩
            · exact absurd (hn.symm.trans HBX.out) (by simp)
            · have hyr : ys = rs := bb_inj (by have := hys.symm.trans HBX.out; injection this)
              subst hyr
              have hfi := find_iff ys o
              rcases hcc with ⟨h1, h2⟩ | ⟨h1, h2, _⟩
              · obtain ⟨k', hk', e'⟩ := hfi.1 ⟨_, h1⟩
                exact .inl ⟨h2, by rw [HMT.out, List.any_eq_true]; exact ⟨_, List.getElem_mem hk', decide_eq_true e'⟩⟩
              · refine .inr ⟨h2, ?_⟩
                rw [HMT.out, Bool.eq_false_iff]
                intro e'
                obtain ⟨y, hy, e'⟩ := List.any_eq_true.1 e'
                obtain ⟨k', hk', rfl⟩ := List.mem_iff_getElem.1 hy
                obtain ⟨z, hz⟩ := hfi.2 ⟨k', hk', of_decide_eq_true e'⟩
                rw [h1] at hz
                cases hz
          have hbw3 := hbw.trans (hb3.mono hbw.size)
          clear hcase3
          rcases hx with ⟨rfl, rfl⟩ | ⟨rfl, rfl⟩
          all_goals
            go_wp2_with (go_at_call 10; refine (awake_any _).mono ?_; rintro e w4 ⟨rfl, hb4⟩)
            go_ret
            exact ⟨rfl, (hbw3.alloc hbw3.size _).trans (hb4.mono (by have := hbw3.size; simp; omega))⟩
set_option maxRecDepth 1000000 in
set_option maxHeartbeats 8000000 in
theorem takes_any (A : Option Addr) (c : Nat) (l : List BB) (o : ByteArray) (w : World) (hr : Reads w w.heap.size 2 A l.length (bx l)) (hl : l.length ≤ 9223372036854775807) :
    Calls Try.prog 5 #[.slice A l.length c, .string o] w fun e w' => e = .returned (.bool true) ∧ Below w.heap.size w w' := by
  have hg1 := great_any A c l w w.heap.size hr hl
  by_cases h1 : greatB l = 0
  · have h10 := h1
    have hz1 := great_zero h1
    rw [h1] at hg1
    have hm1 := make_any A c l w hr (by have := great_row h1; omega) (by omega)
    have hrow1 := great_row h1
    have HG1 := Lib.hid hg1
    have HM1 := Lib.hid hm1
    have HZ := Lib.hid hz1.2
    have hl12 := hz1.1
    clear hg1 hm1 hz1 h1
    by_cases ho : o.size ≤ 200
    · have ho' : ¬ (200 : Int) < (o.size : Int) := by omega
      generalize hM1 : makeS (l.map bb) = M1 at *
      obtain ⟨a1, e1⟩ := M1
      have HI1 := Lib.hid hM1
      clear hM1
      by_cases he1 : e1 = 0
      · subst he1
        exact takes_main A c l o w hr hl h10 ho a1 HI1.out
      · have he1' : (e1 != 0) = true := by rw [bne_iff_ne]; exact he1
        have ha1 : a1 = [] := by
          have := congrArg Prod.snd HI1.out
          have h2 := HI1.out
          unfold makeS at h2
          repeat' split at h2
          all_goals first
            | (injection h2 with h3 h4; exact h3.symm)
            | (injection h2 with h3 h4; exact absurd h4.symm he1)
        subst ha1
        clear he1
        go_enter Try.func5, Try.ntmps5
        go_wp2_with fail
        refine HG1.out.mono ?_
        rintro e w' ⟨rfl, rfl⟩
        go_wp2_with fail
        refine HM1.out.mono ?_
        rintro e w1 ⟨rfl, hb1⟩
        go_wp2_with (go_at_call 10; refine (awake_any _).mono ?_; rintro e w3 ⟨rfl, hb3⟩)
        go_ret
        exact ⟨rfl, hb1.trans (hb3.mono hb1.size)⟩
    · have ho' : (200 : Int) < (o.size : Int) := by omega
      go_enter Try.func5, Try.ntmps5
      go_wp2_with fail
      refine HG1.out.mono ?_
      rintro e w' ⟨rfl, rfl⟩
      go_wp2_with (go_at_call 10; refine (awake_any _).mono ?_; rintro e w3 ⟨rfl, hb3⟩)
      go_ret
      exact ⟨rfl, hb3⟩
  · rw [great_one h1] at hg1
    have HG1 := Lib.hid hg1
    clear hg1 h1
    go_enter Try.func5, Try.ntmps5
    go_wp2_with fail
    refine HG1.out.mono ?_
    rintro e w' ⟨rfl, rfl⟩
    go_wp2_with (go_at_call 10; refine (awake_any _).mono ?_; rintro e w3 ⟨rfl, hb3⟩)
    go_ret
    exact ⟨rfl, hb3⟩
end Go.Proofs.Ytojgmeonjgfpoaa
