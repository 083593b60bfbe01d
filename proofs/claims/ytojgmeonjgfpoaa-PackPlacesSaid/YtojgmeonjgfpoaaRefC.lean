/- hibernacleref01.Texts walked. Condition: at most 10^9 bytes. -/
import Derived.Test.YtojgmeonjgfpoaaRefB
namespace Go.Proofs.Ytojgmeonjgfpoaa
open Go.RowKit

theorem sum_lt {m u n k : Nat} (hm : m < 128) (hn : n < u) (hu : u = 2 ^ (7 * k)) (hk : k ≤ 3) : m * u ≤ 266338304 ∧ n + m * u < 2 ^ (7 * (k + 1)) ∧ u ≤ 2097152 ∧ 2 ^ (7 * (k + 1)) = u * 128 ∧ n < 2097152 := by
  have h3 : u ≤ 2 ^ 21 := by rw [hu]; exact Nat.pow_le_pow_right (by decide) (by omega)
  have h4 : (2 : Nat) ^ 21 = 2097152 := by decide
  have h5 : m * u ≤ 127 * u := Nat.mul_le_mul_right _ (by omega)
  have h6 : 2 ^ (7 * (k + 1)) = u * 128 := by rw [hu, show 7 * (k + 1) = 7 * k + 7 by omega, Nat.pow_add]
  omega

set_option maxRecDepth 100000 in
set_option maxHeartbeats 4000000 in
theorem reftexts_any (s : ByteArray) (w : World) (hs : s.size ≤ 1000000000) :
    Calls Try.prog 38 #[.string s] w fun e w' => ∃ (v : Value) (rs : List ByteArray), e = .returned (.tuple #[v, .int .i64 (textsS (bl s)).2]) ∧ rs.map bl = (textsS (bl s)).1 ∧ rs.length ≤ s.size ∧
      w'.ownsRow w.heap.size 9 1 v rs.length (rs.map Value.string) ∧ Below w.heap.size w w' := by
  obtain ⟨i0, hi, hz0, hz1, hz2⟩ := info_parts info9'
  go_enter Try.func38, Try.ntmps38
  go_wp2
  go_loopw [4, 5] (fun v b wr => ∃ (t : Nat) (acc : List ByteArray), b = .int .i64 t ∧ t ≤ s.size ∧ acc.length ≤ t ∧ Hid (textsS (bl s) = joinS (acc.map bl) (textsS ((bl s).drop t))) ∧
      wr.ownsRow w.heap.size 9 1 v acc.length (acc.map Value.string) ∧ Below w.heap.size w wr)
    (fun _ b _ => s.size - (intOf b).toNat)
  case atStart => exact ⟨0, [], rfl, by omega, by simp, Lib.hid (by rw [List.map_nil, joinS_nil]; rfl), World.ownsRow_made w #[] 0 (Nat.le_refl _) (by unfold maxLen; omega) (by simp), (Below.refl _ _).alloc (Nat.le_refl _) _⟩
  case round =>
    obtain ⟨t, acc, rfl, hts, hac, hj, hown, hb⟩ := hrel
    have hsz := hb.size
    obtain ⟨Av, cv, rfl, hcv⟩ := own_form hown
    by_cases hlt : t < s.size
    · have hbn : (bl s).drop t ≠ [] := by rw [Ne, List.drop_eq_nil_iff, bl_len]; omega
      have t1 := textsS_bad hbn
      have t2 := textsS_short hbn
      have t3 := textsS_step hbn
      have HT1 := Lib.hid t1
      have HT2 := Lib.hid t2
      have HT3 := Lib.hid t3
      clear t1 t2 t3 hbn
      go_wp2
      go_loopw [5, 6, 7, 8] (fun av nv uv kv w2 => ∃ (k n u : Nat), kv = .int .i64 k ∧ nv = .int .i64 n ∧ uv = .int .i64 u ∧ av = .int .i64 (t + k : Nat) ∧ k ≤ 3 ∧ t + k ≤ s.size ∧ n < u ∧ Hid (u = 2 ^ (7 * k)) ∧
          Hid (readS 0 0 ((bl s).drop t) = readS k n ((bl s).drop (t + k))) ∧ wr = w2)
        (fun _ _ _ kv _ => 4 - (intOf kv).toNat)
      case atStart => exact ⟨0, 0, 1, rfl, rfl, rfl, rfl, by omega, by omega, by omega, Lib.hid rfl, Lib.hid rfl, rfl⟩
      case round =>
        obtain ⟨k, n, u, rfl, rfl, rfl, rfl, hk, hks, hn, hu, hrd, rfl⟩ := hrel
        by_cases hlt2 : t + k < s.size
        · have hd := drop_at s (t + k) hlt2
          have hrd' := hrd.out
          rw [hd, readS] at hrd'
          rw [← hu.out] at hrd'
          generalize hT : t + k = T at *
          have hxb : (s[T].toNat : Int) < 256 := by have := s[T].toNat_lt; omega
          have hx0 : (0 : Int) ≤ (s[T].toNat : Int) := by omega
          obtain ⟨m, hm⟩ : ∃ m, s[T].toNat % 128 = m := ⟨_, rfl⟩
          rw [hm] at hrd'
          have hm1 : m < 128 := by omega
          have hq := sum_lt hm1 hn hu.out hk
          obtain ⟨p, hp⟩ : ∃ p, m * u = p := ⟨_, rfl⟩
          rw [hp] at hrd' hq
          obtain ⟨q1, q2, q3, q4, q5⟩ := hq
          have hu3 : 2 ^ (7 * (k + 1)) = u * 128 := q4
          rw [q4] at q2
          have HU := Lib.hid hu3
          have HR := Lib.hid hrd'
          have hm' : ((s[T].toNat : Nat) : Int).tmod 128 = (m : Int) := by rw [Int.tmod_eq_emod_of_nonneg (by omega)]; omega
          have hmu : IntKind.i64.wrap ((m : Int) * (u : Int)) = (p : Int) := by
            rw [show (m : Int) * (u : Int) = (p : Int) by rw [← hp]; simp]
            exact IntWalk.i64_in _ (by omega)
          have hnp : IntKind.i64.wrap ((n : Int) + (p : Int)) = (n : Int) + (p : Int) := IntWalk.i64_in _ (by omega)
          have hu1 : IntKind.i64.wrap ((u : Int) * 128) = (u : Int) * 128 := IntWalk.i64_in _ (by omega)
          have hTi : (0 : Int) ≤ (T : Int) := by omega
          have hTs : (T : Int) < (s.size : Int) := by omega
          have hTk : (T : Int) + 1 = ((t + (k + 1) : Nat) : Int) := by omega
          have hTk' := Lib.hid hTk
          have hmh := Lib.hid hm
          clear hu3 hrd' hrd hu q4 hd hm hp hTk hks
          by_cases h128 : 128 ≤ s[T].toNat
          · have h128' : ¬ (s[T].toNat : Int) < 128 := by omega
            by_cases h3 : k = 3
            · subst h3
              have hfin : textsS (bl s) = ([], 3) := by
                rw [hj.out]
                have := HT1.out
                rw [HR.out, if_pos (by omega)] at this
                rw [this (by decide)]; rfl
              have HF := Lib.hid hfin
              clear hfin hj HT1 HT2 HT3 HR h128
              go_wp2
              go_ret2
              first
                | exact ⟨_, [], by rw [HF.out]; rfl, by rw [HF.out]; rfl, by simp, World.ownsRow_nil _ _ _ _, hb⟩
                | exact ⟨_, by rw [HF.out]; rfl, [], by rw [HF.out]; rfl, by simp, World.ownsRow_nil _ _ _ _, hb⟩
            · have h3' : ((k : Int) == 3) = false := by rw [beq_eq_false_iff_ne]; omega
              have hnext : readS 0 0 ((bl s).drop t) = readS (k + 1) (n + p) ((bl s).drop (T + 1)) := by
                rw [HR.out, if_neg (by omega), if_neg (by omega)]
              have HN := Lib.hid hnext
              clear hnext HR h128
              go_wp2
              go_roundw
              case rel =>
                refine ⟨k + 1, n + p, u * 128, by go_num, by go_num, by go_num, ?_, by omega, by omega, q2, Lib.hid HU.out.symm, ?_, by first | rfl | trivial⟩
                · rw [← hTk'.out]
                · rw [show t + (k + 1) = T + 1 by omega]; exact HN
              case measure => simp [intOf]; omega
          · have h128' : (s[T].toNat : Int) < 128 := by omega
            by_cases h0 : s[T].toNat = 0 ∧ 0 < k
            · have h0' : ((s[T].toNat : Int) == 0) = true := by rw [beq_iff_eq]; omega
              have hk0 : (0 : Int) < (k : Int) := by omega
              have hfin : textsS (bl s) = ([], 3) := by
                rw [hj.out]
                have := HT1.out
                rw [HR.out, if_pos (by omega)] at this
                rw [this (by decide)]; rfl
              have HF := Lib.hid hfin
              clear hfin hj HT1 HT2 HT3 HR h128 h0
              go_wp2
              go_ret2
              first
                | exact ⟨_, [], by rw [HF.out]; rfl, by rw [HF.out]; rfl, by simp, World.ownsRow_nil _ _ _ _, hb⟩
                | exact ⟨_, by rw [HF.out]; rfl, [], by rw [HF.out]; rfl, by simp, World.ownsRow_nil _ _ _ _, hb⟩
            · have hfr : readS 0 0 ((bl s).drop t) = (n + p, k + 1, 0) := by rw [HR.out, if_neg (by omega), if_pos (by omega)]
              have t2 := HT2.out
              have t3 := HT3.out
              rw [hfr] at t2 t3
              dsimp only at t2 t3
              rw [List.length_drop, bl_len] at t2 t3
              have HF2 := Lib.hid t2
              have HF3 := Lib.hid t3
              clear HR h128 t2 t3 hfr
              by_cases hsh : s.size - t - (k + 1) < n + p
              · have hsh' : (s.size : Int) - ((T : Int) + 1) < (n : Int) + (p : Int) := by omega
                have hfin : textsS (bl s) = ([], 4) := by
                  rw [hj.out, HF2.out rfl hsh]; simp [joinS]
                have HF := Lib.hid hfin
                clear hfin hj HT1 HT2 HT3 HF2 HF3
                have hfr : True := trivial
                by_cases h0 : s[T].toNat = 0
                · have h0' : ((s[T].toNat : Int) == 0) = true := by rw [beq_iff_eq]; omega
                  have hk0 : ¬ (0 : Int) < (k : Int) := by omega
                  clear h0
                  go_wp2
                  go_ret2
                  first
                    | exact ⟨_, [], by rw [HF.out]; rfl, by rw [HF.out]; rfl, by simp, World.ownsRow_nil _ _ _ _, hb⟩
                    | exact ⟨_, by rw [HF.out]; rfl, [], by rw [HF.out]; rfl, by simp, World.ownsRow_nil _ _ _ _, hb⟩
                · have h0' : ((s[T].toNat : Int) == 0) = false := by rw [beq_eq_false_iff_ne]; omega
                  clear h0
                  go_wp2
                  go_ret2
                  first
                    | exact ⟨_, [], by rw [HF.out]; rfl, by rw [HF.out]; rfl, by simp, World.ownsRow_nil _ _ _ _, hb⟩
                    | exact ⟨_, by rw [HF.out]; rfl, [], by rw [HF.out]; rfl, by simp, World.ownsRow_nil _ _ _ _, hb⟩
              · have hsh' : ¬ (s.size : Int) - ((T : Int) + 1) < (n : Int) + (p : Int) := by omega
                have hnext := HF3.out rfl hsh (acc.map bl)
                rw [← hj.out] at hnext
                have HN := Lib.hid hnext
                have hTT := hTk'.out
                have hmk : acc.length ≤ 1000000000 := by omega
                have hw2 : IntKind.i64.wrap ((T : Int) + 1 + ((n : Int) + (p : Int))) = (T : Int) + 1 + ((n : Int) + (p : Int)) := IntWalk.i64_in _ (by omega)
                have hs1 : (0 : Int) ≤ (T : Int) + 1 := by omega
                have hs2 : (T : Int) + 1 ≤ (T : Int) + 1 + ((n : Int) + (p : Int)) := by omega
                have hs3 : (T : Int) + 1 + ((n : Int) + (p : Int)) ≤ (s.size : Int) := by omega
                have hfit : t + (k + 1) + (n + p) ≤ s.size := by omega
                clear hnext hj HT1 HT2 HT3 HF2 HF3 hsh hTT
                by_cases h0 : s[T].toNat = 0
                · have h0' : ((s[T].toNat : Int) == 0) = true := by rw [beq_iff_eq]; omega
                  have hk0 : ¬ (0 : Int) < (k : Int) := by omega
                  clear h0
                  go_wp2_with (at_builtin; go_must (refine wpList_append_own _ rfl _ _ 58 rfl w.heap.size 9 i0 _ 1 16 Try.underlying58 hi hz0 hz1 hz2 rfl (by decide) _ _ _ rfl (hown.alloc _) ⟨wr.heap.size, 0, none⟩ 1 1 _ rfl rfl (cell_one_new _ _ _) (by simp [Value.oneCell']) (by unfold maxLen; omega) (by omega) (by simp; omega) ?_))
                  intro v2 w2 hown2 hg2 _
                  have hb2 : Below w.heap.size w w2 := (hb.alloc hsz _).grown hg2 (by simp; omega) (fun k hk => (hown.lt k hk).1)
                  go_wp2
                  go_roundw
                  case rel =>
                    refine ⟨t + (k + 1) + (n + p), acc ++ [s.extract (T + 1) (T + 1 + (n + p))], by congr 1; have := hTk'.out; omega, hfit, by simp; omega, ?_, by simpa using hown2, hb2⟩
                    refine Lib.hid ?_
                    rw [HN.out, List.map_append, List.map_cons, List.map_nil, bl_extract, List.drop_drop, List.drop_drop, show T + 1 = t + (k + 1) by have := hTk'.out; omega, show t + (k + 1) + (n + p) - (t + (k + 1)) = n + p by omega, show t + (k + 1 + (n + p)) = t + (k + 1) + (n + p) by omega]
                  case measure => have := hTk'.out; simp [intOf]; omega
                · have h0' : ((s[T].toNat : Int) == 0) = false := by rw [beq_eq_false_iff_ne]; omega
                  clear h0
                  go_wp2_with (at_builtin; go_must (refine wpList_append_own _ rfl _ _ 58 rfl w.heap.size 9 i0 _ 1 16 Try.underlying58 hi hz0 hz1 hz2 rfl (by decide) _ _ _ rfl (hown.alloc _) ⟨wr.heap.size, 0, none⟩ 1 1 _ rfl rfl (cell_one_new _ _ _) (by simp [Value.oneCell']) (by unfold maxLen; omega) (by omega) (by simp; omega) ?_))
                  intro v2 w2 hown2 hg2 _
                  have hb2 : Below w.heap.size w w2 := (hb.alloc hsz _).grown hg2 (by simp; omega) (fun k hk => (hown.lt k hk).1)
                  go_wp2
                  go_roundw
                  case rel =>
                    refine ⟨t + (k + 1) + (n + p), acc ++ [s.extract (T + 1) (T + 1 + (n + p))], by congr 1; have := hTk'.out; omega, hfit, by simp; omega, ?_, by simpa using hown2, hb2⟩
                    refine Lib.hid ?_
                    rw [HN.out, List.map_append, List.map_cons, List.map_nil, bl_extract, List.drop_drop, List.drop_drop, show T + 1 = t + (k + 1) by have := hTk'.out; omega, show t + (k + 1) + (n + p) - (t + (k + 1)) = n + p by omega, show t + (k + 1 + (n + p)) = t + (k + 1) + (n + p) by omega]
                  case measure => have := hTk'.out; simp [intOf]; omega
        · have hT : t + k = s.size := by omega
          have hfin : textsS (bl s) = ([], 4) := by
            rw [hj.out]
            have := HT1.out
            rw [hrd.out, hT, List.drop_of_length_le (by rw [bl_len]; omega)] at this
            rw [this (by simp [readS])]; simp [joinS, readS]
          have HF := Lib.hid hfin
          clear hfin hj HT1 HT2 HT3 hrd
          rw [hT]
          go_wp2
          go_ret2
          first
            | exact ⟨_, [], by rw [HF.out]; rfl, by rw [HF.out]; rfl, by simp, World.ownsRow_nil _ _ _ _, hb⟩
            | exact ⟨_, by rw [HF.out]; rfl, [], by rw [HF.out]; rfl, by simp, World.ownsRow_nil _ _ _ _, hb⟩
    · obtain rfl : t = s.size := by omega
      have hfin : textsS (bl s) = (acc.map bl, 0) := by
        rw [hj.out, List.drop_of_length_le (by rw [bl_len]; omega), textsS_nil]; simp [joinS]
      have HF := Lib.hid hfin
      clear hfin hj
      go_wp2
      go_ret2
      exact ⟨_, acc, by simp only [HF.out]; rfl, by simp only [HF.out], hac, hown, hb⟩
end Go.Proofs.Ytojgmeonjgfpoaa
