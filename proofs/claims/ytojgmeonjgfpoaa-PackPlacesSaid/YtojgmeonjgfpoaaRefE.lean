/- hibernacleref40.names walked. Condition: at most 10^9 boxes. -/
import Derived.Test.YtojgmeonjgfpoaaRefD
namespace Go.Proofs.Ytojgmeonjgfpoaa
open Go.RowKit

set_option maxRecDepth 100000 in
set_option maxHeartbeats 4000000 in
theorem refnames_any (A : Option Addr) (c : Nat) (l : List BB) (w : World) (hr : Reads w w.heap.size 2 A l.length (bx l)) (hll : l.length ≤ 1000000000) :
    Calls Try.prog 26 #[.slice A l.length c] w fun e w' => e = .returned (.int .i64 (checkS [] (l.map bb))) ∧ Below w.heap.size w w' := by
  go_enter Try.func26, Try.ntmps26
  go_wp2
  go_loopw [7] (fun i wr => ∃ k : Nat, i = .int .i64 k ∧ k ≤ l.length ∧ Hid (checkS [] (l.map bb) = checkS (seenS (l.map bb) k) ((l.map bb).drop k)) ∧ Below w.heap.size w wr)
    (fun i _ => l.length - (intOf i).toNat)
  case atStart => exact ⟨0, rfl, Nat.zero_le _, Lib.hid rfl, Below.refl _ _⟩
  case round =>
    obtain ⟨k, rfl, hk, hchk, hb⟩ := hrel
    by_cases hlt : k < l.length
    · have hkL : k < (l.map bb).length := by simpa using hlt
      have hck := checkS_drop (l.map bb) k hkL (seenS (l.map bb) k)
      rw [← hchk.out] at hck
      have hLk : (l.map bb)[k] = bb l[k] := by simp
      rw [hLk] at hck
      have HCK := Lib.hid hck
      obtain ⟨ad, rfl, hadB, hc1, hc2⟩ := box_at hr rfl hlt
      have hx1 := (hb.cell (p := ad.add (k * 2)) (by rw [block_add]; exact hadB)).trans hc1
      have hc0 := hc1
      clear hck hLk hc1 hc2
      generalize hl1 : l[k].1 = s1 at *
      have HL1 := Lib.hid hl1
      have hk0 : (0 : Int) ≤ (k : Int) := by omega
      have hk1 : (k : Int) < (l.length : Int) := by omega
      clear hl1
      by_cases hbad : s1.size < 1 ∨ 100 < s1.size
      · have hfin : checkS [] (l.map bb) = 7 := by
          rw [HCK.out, if_pos]
          show (bl l[k].1).length < 1 ∨ 100 < (bl l[k].1).length
          rw [HL1.out, bl_len]; exact hbad
        have HF := Lib.hid hfin
        clear hfin
        by_cases hb1 : s1.size < 1
        · have hb1' : (s1.size : Int) < 1 := by omega
          clear hbad
          go_wp2
          go_ret
          exact ⟨by rw [HF.out]; rfl, hb⟩
        · have hb1' : ¬ (s1.size : Int) < 1 := by omega
          have hb2' : (100 : Int) < (s1.size : Int) := by omega
          clear hbad
          go_wp2
          go_ret
          exact ⟨by rw [HF.out]; rfl, hb⟩
      · have hs1 : ¬ (s1.size : Int) < 1 := by omega
        have hs2 : ¬ (100 : Int) < (s1.size : Int) := by omega
        have HR := Lib.hid hr
        have HX := Lib.hid hc0
        clear hr hc0
        go_wp2
        go_loopw [4] (fun jv w2 => ∃ j : Nat, jv = .int .i64 j ∧ j ≤ k ∧ Hid (bl s1 ∉ seenS (l.map bb) j) ∧ Below w.heap.size w w2)
          (fun jv _ => k - (intOf jv).toNat)
        case atStart => exact ⟨0, rfl, Nat.zero_le _, Lib.hid (by simp [seenS]), hb⟩
        case round =>
          obtain ⟨j, rfl, hj, hnot, hb2⟩ := hrel
          by_cases hjk : j < k
          · obtain ⟨ad2, he, hadB2, hd1, _⟩ := box_at HR.out rfl (show j < l.length by omega)
            injection he with he
            subst he
            have hy1 := (hb2.cell (p := ad.add (j * 2)) (by rw [block_add]; exact hadB)).trans hd1
            have hy2 := (hb2.cell (p := ad.add (k * 2)) (by rw [block_add]; exact hadB)).trans HX.out
            clear hd1
            have hj0 : (0 : Int) ≤ (j : Int) := by omega
            have hj1 : (j : Int) < (l.length : Int) := by omega
            have hj2 : (j : Int) < (k : Int) := by omega
            have hjL : j < (l.map bb).length := by simp; omega
            have hsucc := seenS_succ (l.map bb) j hjL
            have hLj : (l.map bb)[j] = bb (l[j]'(by omega)) := by simp
            rw [hLj] at hsucc
            generalize hl2 : (l[j]'(by omega)).1 = s2 at *
            have hs3 : (bb (l[j]'(by omega))).1 = bl s2 := by show bl _ = _; rw [hl2]
            rw [hs3] at hsucc
            have HS := Lib.hid hsucc
            clear hsucc hLj hl2 hs3
            by_cases hm : bl s2 = bl s1
            · have hm' : (s2.toList == s1.toList) = true := str_eq_true (by rw [hm, ByteArray.toList_eq])
              have hfin : checkS [] (l.map bb) = 8 := by
                rw [HCK.out, if_neg, if_pos]
                · show bl l[k].1 ∈ _
                  rw [HL1.out]
                  have h1 : bl s1 ∈ seenS (l.map bb) (j + 1) := by rw [HS.out, hm]; simp
                  unfold seenS at h1 ⊢
                  rw [List.mem_reverse] at h1 ⊢
                  obtain ⟨x, hx, hx2⟩ := List.mem_map.1 h1
                  exact List.mem_map.2 ⟨x, (List.take_subset_take_left _ (by omega)) hx, hx2⟩
                · show ¬ ((bl l[k].1).length < 1 ∨ 100 < (bl l[k].1).length)
                  rw [HL1.out, bl_len]; exact hbad
              have HF := Lib.hid hfin
              clear hfin hbad hm
              go_wp2_with fail
              refine still_all (by kernel_rfl) (by kernel_rfl) ?_
              iterate 11 still_step
              refine wpStill_nil ?_
              go_wp2
              go_ret
              exact ⟨by rw [HF.out]; rfl, hb2.drew⟩
            · have hm' : (s2.toList == s1.toList) = false := str_eq_false (by rw [ByteArray.toList_eq]; exact hm)
              have hnext : bl s1 ∉ seenS (l.map bb) (j + 1) := by
                rw [HS.out, List.mem_cons]
                rintro (e | e)
                · exact hm e.symm
                · exact hnot.out e
              have HN := Lib.hid hnext
              clear hnext hbad hm hnot
              go_wp2_with fail
              refine still_all (by kernel_rfl) (by kernel_rfl) ?_
              iterate 11 still_step
              refine wpStill_nil ?_
              go_wp2
              go_roundw
              case rel => exact ⟨j + 1, by go_num, by omega, HN, hb2.drew⟩
              case measure => simp [intOf]; omega
          · obtain rfl : j = k := by omega
            have hnext : checkS [] (l.map bb) = checkS (seenS (l.map bb) (j + 1)) ((l.map bb).drop (j + 1)) := by
              rw [HCK.out, if_neg, if_neg, seenS_succ _ _ hkL]
              · simp
              · show ¬ bl l[j].1 ∈ _
                rw [HL1.out]; exact hnot.out
              · show ¬ ((bl l[j].1).length < 1 ∨ 100 < (bl l[j].1).length)
                rw [HL1.out, bl_len]; exact hbad
            have HN := Lib.hid hnext
            clear hnext hbad hnot
            go_wp2
            go_roundw
            case rel => exact ⟨j + 1, by go_num, by omega, HN, hb2⟩
            case measure => simp [intOf]; omega
    · obtain rfl : k = l.length := by omega
      have hck : checkS [] (l.map bb) = 0 := by
        rw [hchk.out]
        have : (l.map bb).length = l.length := by simp
        rw [← this, List.drop_length]
        rfl
      have HF := Lib.hid hck
      clear hck hchk
      go_wp2
      go_ret
      exact ⟨by rw [HF.out]; rfl, hb⟩
end Go.Proofs.Ytojgmeonjgfpoaa
