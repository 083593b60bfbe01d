/- num.Texts walked. Condition: at most 10^9 bytes. -/
import Derived.Test.YtojgmeonjgfpoaaNumC
import Derived.Lib.Strings
import Derived.Lib.IndexBytes
namespace Go.Proofs.Ytojgmeonjgfpoaa
open Go.RowKit

theorem info9' : (Try.prog.info? 9).map (fun i => (i.zero, i.size, i.bytes)) = some (some (.string ⟨#[]⟩), 1, 16) := by kernel_rfl
theorem bl_extract (s : ByteArray) (i j : Nat) : bl (s.extract i j) = ((bl s).drop i).take (j - i) := by
  exact Lib.extract_data s i j
theorem bl_of (l : List UInt8) : bl ⟨l.toArray⟩ = l := by simp [bl]
def strLen : Value → Nat | .string x => x.size | _ => 0
theorem nonempty_false (s : ByteArray) (h : s.size = 0) : (!s.toList.isEmpty) = false := by
  have : s.data.toList = [] := (List.length_eq_zero_iff).1 (by simpa using h)
  simp [ByteArray.toList_eq, this]
theorem nonempty_true (s : ByteArray) (h : s.size ≠ 0) : (!s.toList.isEmpty) = true := by
  have : s.data.toList ≠ [] := fun e => h (by have := congrArg List.length e; simpa using this)
  simp only [ByteArray.toList_eq, Bool.not_eq_true', List.isEmpty_eq_false_iff]; exact this
theorem bl_nil (s : ByteArray) : bl s = [] ↔ s.size = 0 := by rw [← List.length_eq_zero_iff, bl_len]

set_option maxRecDepth 100000 in
set_option maxHeartbeats 4000000 in
theorem texts_any (s : ByteArray) (w : World) (hs : s.size ≤ 1000000000) :
    Calls Try.prog 37 #[.string s] w fun e w' => ∃ (v : Value) (rs : List ByteArray), e = .returned (.tuple #[v, .int .i64 (textsS (bl s)).2]) ∧ rs.map bl = (textsS (bl s)).1 ∧ rs.length ≤ s.size ∧
      w'.ownsRow w.heap.size 9 1 v rs.length (rs.map Value.string) ∧ Below w.heap.size w w' := by
  obtain ⟨i0, hi, hz0, hz1, hz2⟩ := info_parts info9'
  go_enter Try.func37, Try.ntmps37
  go_wp2
  go_loopw [0, 4] (fun b v wr => ∃ (cur : ByteArray) (acc : List ByteArray), b = .string cur ∧ acc.length + cur.size ≤ s.size ∧ Hid (textsS (bl s) = joinS (acc.map bl) (textsS (bl cur))) ∧
      wr.ownsRow w.heap.size 9 1 v acc.length (acc.map Value.string) ∧ Below w.heap.size w wr)
    (fun b _ _ => strLen b)
  case atStart => exact ⟨s, [], rfl, by simp, Lib.hid (by rw [List.map_nil, joinS_nil]), World.ownsRow_nil _ _ _ _, Below.refl _ _⟩
  case round =>
    obtain ⟨cur, acc, rfl, hac, hj, hown, hb⟩ := hrel
    have hsz := hb.size
    obtain ⟨Av, cv, rfl, hcv⟩ := own_form hown
    by_cases hnil : cur.size = 0
    · have he := nonempty_false cur hnil
      have hfin : textsS (bl s) = (acc.map bl, 0) := by
        rw [hj.out, (bl_nil cur).2 hnil, textsS_nil]; simp [joinS]
      have HF := Lib.hid hfin
      clear hfin hj
      go_wp2
      go_ret2
      exact ⟨_, acc, by simp only [HF.out]; rfl, by simp only [HF.out], by omega, hown, hb⟩
    · have he := nonempty_true cur hnil
      have hbn : bl cur ≠ [] := fun e => hnil ((bl_nil cur).1 e)
      obtain ⟨rn, rsz, re, hR⟩ : ∃ a b c, readS 0 0 (bl cur) = (a, b, c) := ⟨_, _, _, rfl⟩
      have hread := read_any cur wr (by omega)
      have h1 := readS_size (bl cur) 0 0
      have h2 := readS_lt (bl cur) 0 0 (by omega) (by decide)
      have t1 := textsS_bad (b := bl cur) hbn
      have t2 := textsS_short (b := bl cur) hbn
      have t3 := textsS_step (b := bl cur) hbn
      rw [hR] at hread h1 h2 t1 t2 t3
      dsimp only at hread h1 h2 t1 t2 t3
      rw [bl_len] at t2 t3 h1
      clear hR hbn
      have HT1 := Lib.hid t1
      have HT2 := Lib.hid t2
      have HT3 := Lib.hid t3
      clear t1 t2 t3
      by_cases hre : re = 0
      · subst hre
        have h1' := h1 rfl
        clear h1
        by_cases hsh : cur.size - rsz < rn
        · have hfin : textsS (bl s) = ([], 4) := by
            rw [hj.out, HT2.out rfl hsh]; simp [joinS]
          have HF := Lib.hid hfin
          have hsh' : (cur.size : Int) - (rsz : Int) < (rn : Int) := by omega
          clear hfin hj HT1 HT2 HT3
          go_wp2_with (go_at_call 50; refine hread.mono ?_; rintro e w' ⟨rfl, rfl⟩)
          go_ret2
          exact ⟨_, [], by simp only [HF.out]; rfl, by simp only [HF.out]; rfl, by simp, World.ownsRow_nil _ _ _ _, hb⟩
        · have hsh' : ¬ (cur.size : Int) - (rsz : Int) < (rn : Int) := by omega
          have hnext := HT3.out rfl hsh (acc.map bl)
          rw [← hj.out] at hnext
          have HN := Lib.hid hnext
          clear hnext hj HT1 HT2 HT3 hsh
          go_wp2_with (first | (go_at_call 50; refine hread.mono ?_; rintro e w' ⟨rfl, rfl⟩) | (at_builtin; go_must (refine wpList_append_own _ rfl _ _ 58 rfl w.heap.size 9 i0 _ 1 16 Try.underlying58 hi hz0 hz1 hz2 rfl (by decide) _ _ _ rfl (hown.alloc _) ⟨wr.heap.size, 0, none⟩ 1 1 _ rfl rfl (cell_one_new _ _ _) (by simp [Value.oneCell']) (by unfold maxLen; omega) (by omega) (by simp; omega) ?_)))
          intro v2 w2 hown2 hg2 _
          have hb2 : Below w.heap.size w w2 := (hb.alloc hsz _).grown hg2 (by simp; omega) (fun k hk => (hown.lt k hk).1)
          go_wp2
          go_roundw
          case rel =>
            refine ⟨cur.extract (rsz + rn) cur.size, acc ++ [cur.extract rsz (rsz + rn)], by first | rfl | go_num, ?_, ?_, by simpa using hown2, hb2⟩
            · simp; omega
            · refine Lib.hid ?_
              rw [HN.out, List.map_append, List.map_cons, List.map_nil, bl_extract]
              have e : bl (cur.extract (rsz + rn) cur.size) = (bl cur).drop (rsz + rn) := Lib.extract_to_end cur _
              rw [e, show rsz + rn - rsz = rn by omega]
          case measure => simp [strLen]; omega
      · have hre' : ((re == 0) = false) := by rw [beq_eq_false_iff_ne]; exact hre
        have hre2 : ((re != 0) = true) := by rw [bne_iff_ne]; exact hre
        have hfin : textsS (bl s) = ([], re) := by
          rw [hj.out, HT1.out hre]; simp [joinS, hre]
        have HF := Lib.hid hfin
        clear hfin hj HT1 HT2 HT3 h1 hre
        go_wp2_with (go_at_call 50; refine hread.mono ?_; rintro e w' ⟨rfl, rfl⟩)
        go_ret2
        exact ⟨_, [], by simp only [HF.out]; rfl, by simp only [HF.out]; rfl, by simp, World.ownsRow_nil _ _ _ _, hb⟩
end Go.Proofs.Ytojgmeonjgfpoaa
