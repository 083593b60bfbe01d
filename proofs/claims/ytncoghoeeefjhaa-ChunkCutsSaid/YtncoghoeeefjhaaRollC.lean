/- roll.Check, roll.Cut, chunk.Cut walked. Conditions: at most 10^9 bytes. -/
import Derived.Test.YtncoghoeeefjhaaRollB
import Derived.Lib.IndexBytes
namespace Go.Proofs.Ytncoghoeeefjhaa
open Go.RowKit

theorem rollInfo : (Try.prog.info? 9).map (fun i => (i.zero, i.size, i.bytes)) = some (some (.string ⟨#[]⟩), 1, 16) := by kernel_rfl
theorem lb_extract (s : ByteArray) (i j : Nat) : lb (s.extract i j) = ((lb s).drop i).take (j - i) := Lib.extract_data s i j
theorem lb_nonempty_false (s : ByteArray) (h : s.size = 0) : (!s.toList.isEmpty) = false := by
  have : s.data.toList = [] := (List.length_eq_zero_iff).1 (by simpa using h)
  simp [ByteArray.toList_eq, this]
theorem lb_nonempty_true (s : ByteArray) (h : s.size ≠ 0) : (!s.toList.isEmpty) = true := by
  have : s.data.toList ≠ [] := fun e => h (by have := congrArg List.length e; simpa using this)
  simp only [ByteArray.toList_eq, Bool.not_eq_true', List.isEmpty_eq_false_iff]; exact this
theorem lb_nil (s : ByteArray) : lb s = [] ↔ s.size = 0 := by rw [← List.length_eq_zero_iff, lb_len]
def lbSize : Value → Nat | .string x => x.size | _ => 0
theorem lb_info {P : Program} {e : TypeId} {z : Option Value} {s b : Nat} (h : (P.info? e).map (fun i => (i.zero, i.size, i.bytes)) = some (z, s, b)) : ∃ i, P.info? e = some i ∧ i.zero = z ∧ i.size = s ∧ i.bytes = b := by
  cases hp : P.info? e with
  | none => rw [hp] at h; cases h
  | some i => rw [hp] at h; simp only [Option.map_some, Option.some.injEq, Prod.mk.injEq] at h; exact ⟨i, rfl, h⟩
theorem lb_form {w : World} {base : Nat} {e : TypeId} {v : Value} {n : Nat} {xs : List Value} (h : w.ownsRow base e 1 v n xs) : ∃ A c, v = .slice A n c ∧ n ≤ c := own_form h

set_option maxRecDepth 100000 in
set_option maxHeartbeats 2000000 in
theorem check_any (w : World) :
    Calls Try.prog 73 #[cutsV] w fun e w' => e = .returned (.int .i64 0) ∧ Below w.heap.size w w' := by
  have hb0 := (Below.refl w.heap.size w).alloc (Nat.le_refl _) (.cells #[.int .i64 16, .int .i64 64, .int .i64 1024, .int .u32 255] 82)
  unfold cutsV
  go_enter Try.func73, Try.ntmps73
  go_wp2
  go_ret
  exact ⟨rfl, hb0⟩

set_option maxRecDepth 100000 in
set_option maxHeartbeats 4000000 in
theorem rcut_any (s : ByteArray) (w : World) (hs : s.size ≤ 1000000000) :
    Calls Try.prog 43 #[.string s, cutsV] w fun e w' => ∃ (v : Value) (rs : List ByteArray), e = .returned (.tuple #[v, .int .i64 0]) ∧ rs.map lb = cutS (lb s) ∧
      w'.ownsRow w.heap.size 9 1 v rs.length (rs.map Value.string) ∧ Below w.heap.size w w' := by
  obtain ⟨i0, hi, hz0, hz1, hz2⟩ := lb_info rollInfo
  have hb0 := (Below.refl w.heap.size w).alloc (Nat.le_refl _) (.cells #[.int .i64 16, .int .i64 64, .int .i64 1024, .int .u32 255] 82)
  have hC0 := Blk.new w 82 #[.int .i64 16, .int .i64 64, .int .i64 1024, .int .u32 255]
  have hC := hC0.cell
  unfold cutsV
  go_enter Try.func43, Try.ntmps43
  go_wp2_with (go_at_call 73; refine (check_any _).mono ?_; rintro e w1 ⟨rfl, hb1⟩)
  have hC1 := hC0.below hb1 hC0.lt
  have hb01 := hb0.trans (hb1.mono (by simp))
  have hsz1 := hb01.size
  clear hC
  go_loopw [0, 7] (fun b v wr => ∃ (cur : ByteArray) (acc : List ByteArray), b = .string cur ∧ acc.length + cur.size ≤ s.size ∧ Hid (cutS (lb s) = acc.map lb ++ cutS (lb cur)) ∧
      wr.ownsRow (w.heap.size + 1) 9 1 v acc.length (acc.map Value.string) ∧ Blk wr w.heap.size 82 #[.int .i64 16, .int .i64 64, .int .i64 1024, .int .u32 255] ∧ Below w.heap.size w wr)
    (fun b _ _ => lbSize b)
  case atStart => exact ⟨s, [], rfl, by simp, Lib.hid (by rfl), World.ownsRow_nil _ _ _ _, hC1, hb01⟩
  case round =>
    obtain ⟨cur, acc, rfl, hac, hj, hown, hC, hb⟩ := hrel
    have hsz := hb.size
    have hCl := hC.lt
    obtain ⟨Av, cv, rfl, hcv⟩ := own_form hown
    by_cases hnil : cur.size = 0
    · have he := lb_nonempty_false cur hnil
      have hfin : acc.map lb = cutS (lb s) := by rw [hj.out, (lb_nil cur).2 hnil, cutS_nil, List.append_nil]
      clear hj
      go_wp2
      go_ret2
      exact ⟨_, acc, rfl, hfin, own_mono hown (by omega), hb⟩
    · have he := lb_nonempty_true cur hnil
      have hbn : lb cur ≠ [] := fun e => hnil ((lb_nil cur).1 e)
      obtain ⟨n, hn⟩ : ∃ n, firstS (lb cur) = n := ⟨_, rfl⟩
      have h1 := firstS_le (lb cur)
      have h2 := firstS_pos (lb cur) hbn
      have hnext := hj.out
      rw [cutS_step hbn] at hnext
      have hfa := first_any cur wr (by omega)
      unfold cutsV at hfa
      rw [hn] at h1 h2 hnext hfa
      rw [lb_len] at h1
      have HN := Lib.hid hnext
      have HFA := Lib.hid hfa
      have cC0 := hC.cell 0
      have cC1 := hC.cell 1
      have cC2 := hC.cell 2
      have cC3 := hC.cell 3
      clear hn hnext hbn hj hfa
      go_wp2_with fail
      refine HFA.out.mono ?_
      rintro e w2 ⟨rfl, hb2⟩
      have hown2 := hown.kept (only_of_below hb2 none) (Classical.em _)
      have hC2 := hC.below hb2 hCl
      have hb02 := hb.trans (hb2.mono hsz)
      have hsz2 := hb02.size
      have hCl2 := hC2.lt
      clear cC0 cC1 cC2 cC3 HFA
      go_wp2_with (at_builtin; go_must (refine wpList_append_own _ rfl _ _ 23 rfl (w.heap.size + 1) 9 i0 _ 1 16 Try.underlying23 hi hz0 hz1 hz2 rfl (by decide) _ _ _ rfl (hown2.alloc _) ⟨w2.heap.size, 0, none⟩ 1 1 _ rfl rfl (cell_one_new _ _ _) (by simp [Value.oneCell']) (by unfold maxLen; omega) (by omega) (by simp; omega) ?_))
      intro v3 w3 hown3 hg3 _
      have hb3 : Below w.heap.size w w3 := (hb02.alloc hsz2 _).grown hg3 (by simp; omega) (fun k hk => by have := (hown2.lt k hk).1; omega)
      have hC3 := (hC2.alloc (.cells #[.string (cur.extract 0 n)] 9)).grown hg3 (fun e => by have := (hown2.lt _ e.symm).1; omega)
      go_wp2
      go_roundw
      case rel =>
        refine ⟨cur.extract n cur.size, acc ++ [cur.extract 0 n], by first | rfl | go_num, ?_, ?_, by simpa using hown3, hC3, hb3⟩
        · simp; omega
        · refine Lib.hid ?_
          have e : lb (cur.extract n cur.size) = (lb cur).drop n := Lib.extract_to_end cur _
          rw [HN.out, List.map_append, List.map_cons, List.map_nil, lb_extract, e]
          simp
      case measure => simp [lbSize]; omega

set_option maxRecDepth 100000 in
set_option maxHeartbeats 2000000 in
theorem ccut_any (s : ByteArray) (w : World) (hs : s.size ≤ 1000000000) :
    Calls Try.prog 15 #[.string s] w fun e w' => ∃ (v : Value) (rs : List ByteArray), e = .returned v ∧ rs.map lb = cutS (lb s) ∧
      w'.ownsRow w.heap.size 9 1 v rs.length (rs.map Value.string) ∧ Below w.heap.size w w' := by
  have hcuts : ∀ w, Calls Try.prog 44 #[] w fun e w' => e = .returned cutsV ∧ Below w.heap.size w w' := by
    intro w
    unfold cutsV
    go_enter Try.func44, Try.ntmps44
    go_wp2
    refine bodyPost_ret (v := cutsV) (by simp [results, Try.results44, go_sem]; rfl) rfl ?_
    exact ⟨rfl, (Below.refl _ w).alloc (Nat.le_refl _) _⟩
  have hrc := fun w => rcut_any s w hs
  go_enter Try.func15, Try.ntmps15
  go_wp2_with fail
  refine (hcuts _).mono ?_
  rintro e w1 ⟨rfl, hb1⟩
  have hr1 := hrc w1
  have hs1 := hb1.size
  clear hrc hcuts
  generalize cutsV = cv at *
  go_wp2_with fail
  refine hr1.mono ?_
  rintro e w2 ⟨v, rs, rfl, hv, hown, hb2⟩
  have hb02 := hb1.trans (hb2.mono hs1)
  go_wp2
  go_ret
  exact ⟨_, rs, rfl, hv, own_mono hown hs1, hb02⟩
end Go.Proofs.Ytncoghoeeefjhaa
