/- hibernacleref09.Check, Sum, Cut and hibernacleref39.Cut walked. Condition: at most 10^6 bytes. -/
import Derived.Test.YtncoghoeeefjhaaRollC
import Derived.Test.YtncoghoeeefjhaaStillH
namespace Go.Proofs.Ytncoghoeeefjhaa
open Go.RowKit
attribute [local go_sem] m_mulT m_addb m_inc32 m_incb m_mul32 m_sub32 w_mulT w_addb w_inc32 w_incb w_mul32 w_sub32

set_option maxRecDepth 100000 in
set_option maxHeartbeats 2000000 in
theorem rrsum_any (s : ByteArray) (w : World) (hs : s.size ≤ 1000000000) :
    Calls Try.prog 76 #[.string s] w fun e w' => e = .returned (.int .u32 (rsumS (lb s)).toNat) ∧ w' = w := by
  go_enter Try.func76, Try.ntmps76
  go_wp2
  go_loop [3, 4] (fun nv i => ∃ (k : Nat) (n : UInt32), i = .int .i64 k ∧ k ≤ s.size ∧ nv = .int .u32 n.toNat ∧ Hid (n = rsumS ((lb s).take k)))
    (fun _ i => s.size - (intOf i).toNat)
  case atStart => exact ⟨0, 0, rfl, Nat.zero_le _, rfl, Lib.hid rfl⟩
  case round =>
    obtain ⟨k, n, rfl, hk, rfl, HN⟩ := hrel
    by_cases hlt : k < s.size
    · have i1 : (k : Int) < (s.size : Int) := by omega
      have hst := rsumS_take (lb s) k (by rw [lb_len]; exact hlt)
      rw [← HN.out, lb_at s k hlt] at hst
      have HST := Lib.hid hst
      have hw1 : IntKind.i64.wrap ((k : Int) + 1) = (k : Int) + 1 := IntWalk.i64_in _ (by omega)
      clear hst HN
      go_wp2
      go_round
      case rel => exact ⟨k + 1, _, by go_num, by omega, rfl, HST⟩
      case measure => simp [intOf]; omega
    · have hkk : k = s.size := by omega
      have hk9 : ¬ (k : Int) < (s.size : Int) := by omega
      have hn := HN.out
      rw [hkk, List.take_of_length_le (by rw [lb_len]; exact Nat.le_refl _)] at hn
      subst hn
      clear hkk hlt hk HN
      go_wp2
      go_ret
      exact ⟨rfl, rfl⟩

set_option maxRecDepth 100000 in
set_option maxHeartbeats 2000000 in
theorem rcheck_any (w : World) :
    Calls Try.prog 75 #[cutsV] w fun e w' => e = .returned (.int .i64 0) ∧ Below w.heap.size w w' := by
  have hb0 := (Below.refl w.heap.size w).alloc (Nat.le_refl _) (.cells #[.int .i64 16, .int .i64 64, .int .i64 1024, .int .u32 255] 82)
  unfold cutsV
  go_enter Try.func75, Try.ntmps75
  go_wp2
  go_ret
  exact ⟨rfl, hb0⟩

/-- the reference's place: from n on, of the bytes behind 'at' -/
def refS (d : List UInt8) (n : Nat) : Nat := if d.length ≤ n ∨ 1024 ≤ n ∨ hitS d n = true then (if d.length < n then d.length else n) else refS d (n + 1)
termination_by 1024 - n
theorem refS_eq (d : List UInt8) : ∀ k n, 1024 - n = k → n ≤ d.length → refS d n = fromS d n
  | 0, n, hk, hn => by rw [refS, fromS_stop (.inr (.inl (by omega))), if_pos (.inr (.inl (by omega))), if_neg (by omega)]
  | k + 1, n, hk, hn => by
    by_cases h : hitS d n = true ∨ 1024 ≤ n ∨ d.length ≤ n
    · rw [fromS_stop h, refS, if_pos (by rcases h with h | h | h <;> simp [h]), if_neg (by omega)]
    · rw [fromS_go h, refS, if_neg (by intro e; apply h; rcases e with e | e | e <;> simp [e])]
      exact refS_eq d k (n + 1) (by omega) (by omega)
theorem refS_first (d : List UInt8) : refS d 64 = firstS d := by
  unfold firstS
  split
  · rename_i h
    rw [refS, if_pos (by omega)]
    split <;> omega
  · exact refS_eq d _ 64 rfl (by omega)
theorem win_ref (s : ByteArray) (a n : Nat) (hn : 16 ≤ n) : lb (s.extract (a + n - 16) (a + n)) = ((((lb s).drop a).drop (n - 16)).take 16) := by
  rw [lb_extract, List.drop_drop]
  congr 1
  · omega
  · congr 1; omega

set_option maxRecDepth 100000 in
set_option maxHeartbeats 4000000 in
theorem rrcut_any (s : ByteArray) (w : World) (hs : s.size ≤ 1000000) :
    Calls Try.prog 45 #[.string s, cutsV] w fun e w' => ∃ (v : Value) (rs : List ByteArray), e = .returned (.tuple #[v, .int .i64 0]) ∧ rs.map lb = cutS (lb s) ∧
      w'.ownsRow w.heap.size 9 1 v rs.length (rs.map Value.string) ∧ Below w.heap.size w w' := by
  obtain ⟨i0, hi, hz0, hz1, hz2⟩ := lb_info rollInfo
  have hb0 := (Below.refl w.heap.size w).alloc (Nat.le_refl _) (.cells #[.int .i64 16, .int .i64 64, .int .i64 1024, .int .u32 255] 82)
  have hC0 := Blk.new w 82 #[.int .i64 16, .int .i64 64, .int .i64 1024, .int .u32 255]
  have hC := hC0.cell
  unfold cutsV
  go_enter Try.func45, Try.ntmps45
  go_wp2_with (go_at_call 75; refine (rcheck_any _).mono ?_; rintro e w1 ⟨rfl, hb1⟩)
  have hC1 := hC0.below hb1 hC0.lt
  have hb01 := hb0.trans (hb1.mono (by simp))
  have hsz1 := hb01.size
  clear hC
  have hown0 : (w1.alloc (.cells #[] 9)).ownsRow (w.heap.size + 1) 9 1 (.slice (some ⟨w1.heap.size, 0, none⟩) 0 0) 0 [] := World.ownsRow_made w1 #[] 0 (by have := hb1.size; simpa using this) (by decide) rfl
  have hC2 := hC1.alloc (.cells #[] 9)
  have hb02 := hb01.alloc hsz1 (.cells #[] 9)
  go_loopw [6, 7] (fun v b wr => ∃ (a : Nat) (acc : List ByteArray), b = .int .i64 a ∧ a ≤ s.size ∧ acc.length ≤ a ∧ Hid (cutS (lb s) = acc.map lb ++ cutS ((lb s).drop a)) ∧
      wr.ownsRow (w.heap.size + 1) 9 1 v acc.length (acc.map Value.string) ∧ Blk wr w.heap.size 82 #[.int .i64 16, .int .i64 64, .int .i64 1024, .int .u32 255] ∧ Below w.heap.size w wr)
    (fun _ b _ => s.size - (intOf b).toNat)
  case atStart => exact ⟨0, [], rfl, Nat.zero_le _, Nat.le_refl _, Lib.hid rfl, hown0, hC2, hb02⟩
  case round =>
    clear hown0 hC2 hb02 hC1 hb01 hb0 hC0
    obtain ⟨a, acc, rfl, ha, hacc, hj, hown, hC, hb⟩ := hrel
    have hsz := hb.size
    obtain ⟨Av, cv, rfl, hcv⟩ := own_form hown
    by_cases hlt : a < s.size
    · have i1 : (a : Int) < (s.size : Int) := by omega
      have hne : (lb s).drop a ≠ [] := fun e => by have := congrArg List.length e; rw [List.length_drop, lb_len] at this; simp at this; omega
      have hnext := hj.out
      rw [cutS_step hne] at hnext
      have f1 := firstS_le ((lb s).drop a)
      have f2 := firstS_pos _ hne
      rw [List.length_drop, lb_len] at f1
      have hfr : Hid (firstS ((lb s).drop a) = refS ((lb s).drop a) 64) := Lib.hid (refS_first _).symm
      obtain ⟨F, hF⟩ : ∃ F, firstS ((lb s).drop a) = F := ⟨_, rfl⟩
      rw [hF] at hnext f1 f2 hfr
      have HN := Lib.hid hnext
      have cC0 := hC.cell 0
      have cC1 := hC.cell 1
      have cC2 := hC.cell 2
      have cC3 := hC.cell 3
      clear hF hnext hne hj
      go_wp2
      go_loopw [8] (fun nv wq => ∃ n : Nat, nv = .int .i64 n ∧ 64 ≤ n ∧ n ≤ 1024 ∧ Hid (F = refS ((lb s).drop a) n) ∧ wq.ownsRow (w.heap.size + 1) 9 1 (.slice Av acc.length cv) acc.length (acc.map Value.string) ∧ Blk wq w.heap.size 82 #[.int .i64 16, .int .i64 64, .int .i64 1024, .int .u32 255] ∧ Below w.heap.size w wq)
        (fun nv _ => 1024 - (intOf nv).toNat)
      case atStart => exact ⟨64, rfl, by omega, by omega, hfr, hown, hC, hb⟩
      case round =>
        clear cC0 cC1 cC2 cC3 hown hC hb hfr hsz
        obtain ⟨n, rfl, hn1, hn2, HF, hown, hC, hb⟩ := hrel
        have cC0 := hC.drew.cell 0
        have cC1 := hC.drew.cell 1
        have cC2 := hC.drew.cell 2
        have cC3 := hC.drew.cell 3
        have hst := HF.out
        rw [refS, List.length_drop, lb_len] at hst
        have hsz := hb.size
        have wan : IntKind.i64.wrap ((a : Int) + (n : Int)) = ((a + n : Nat) : Int) := by rw [show (a : Int) + (n : Int) = ((a + n : Nat) : Int) by omega]; exact IntWalk.i64_in _ (by omega)
        obtain ⟨p, hp⟩ : ∃ p, a + n = p := ⟨_, rfl⟩
        rw [hp] at wan
        by_cases h1 : p < s.size
        · have h1' : (p : Int) < (s.size : Int) := by omega
          by_cases h2 : n < 1024
          · have h2' : (n : Int) < 1024 := by omega
            have hx := win_ref s a n (by omega)
            have hwin : rsumS (lb (s.extract (a + n - 16) (a + n))) = winS ((lb s).drop a) n := by rw [hx]; rfl
            obtain ⟨l, hl⟩ : ∃ l, a + n - 16 = l := ⟨_, rfl⟩
            rw [hl, hp] at hwin
            have wl : IntKind.i64.wrap ((p : Int) - 16) = (l : Int) := by rw [show (p : Int) - 16 = (l : Int) by omega]; exact IntWalk.i64_in _ (by omega)
            have l1 : (0 : Int) ≤ (l : Int) := by omega
            have l2 : (l : Int) ≤ (p : Int) := by omega
            have l3 : (p : Int) ≤ (s.size : Int) := by omega
            have hsum := rrsum_any (s.extract l p) wr.drew (by simp; omega)
            rw [hwin] at hsum
            have HSUM := Lib.hid hsum
            have hga := hit_and (winS ((lb s).drop a) n)
            have hge := hit_eq (winS ((lb s).drop a) n)
            obtain ⟨q, hq⟩ : ∃ q : Nat, (winS ((lb s).drop a) n &&& 255).toNat = q := ⟨_, rfl⟩
            rw [hq] at hga hge
            have hgh : hitS ((lb s).drop a) n = ((q : Int) == 255) := hge.symm
            clear hge hq hx hwin hsum hl
            by_cases hh : q = 255
            · rw [if_pos (.inr (.inr (by rw [hgh, hh]; rfl))), if_neg (by omega)] at hst
              have HST := Lib.hid hst
              have hga' : bits .and .u32 ((winS ((lb s).drop a) n).toNat : Int) 255 = 255 := by rw [hga, hh]; rfl
              clear hst HF hgh hga hh
              go_wp2_with fail
              refine still_all (by kernel_rfl) (by kernel_rfl) (SH.out ?_)
              iterate 24 (refine sh_step (fun K hK => ?_); go_simp; refine hK _ ?_; clear hK K)
              refine sh_step (fun K hK => ?_)
              go_simp
              refine ⟨_, HSUM.out, hK _ ?_⟩
              clear hK K
              iterate 7 (refine sh_step (fun K hK => ?_); go_simp; refine hK _ ?_; clear hK K)
              refine sh_nil ?_
              have e1 : a ≤ p := by omega
              have e2 : p ≤ s.size := by omega
              have g1 : (0 : Int) ≤ (a : Int) := by omega
              have g2 : (a : Int) ≤ (p : Int) := by omega
              have g3 : (p : Int) ≤ (s.size : Int) := by omega
              have g4 : ((s.size : Int) < (p : Int)) = False := eq_false (by omega)
              have hfin : Hid (cutS (lb s) = (acc ++ [s.extract a p]).map lb ++ cutS ((lb s).drop p)) := Lib.hid (by
                rw [HN.out, HST.out, List.map_append, List.map_cons, List.map_nil, lb_extract, List.drop_drop, hp, show p - a = n by omega]
                simp)
              have hpa : a < p := by have := HST.out; omega
              clear HN
              go_wp2_with (at_builtin; go_must (refine wpList_append_own _ rfl _ _ 23 rfl (w.heap.size + 1) 9 i0 _ 1 16 Try.underlying23 hi hz0 hz1 hz2 rfl (by decide) _ _ _ rfl (hown.drew.alloc _) ⟨wr.heap.size, 0, none⟩ 1 1 _ rfl rfl (cell_one_new _ _ _) (by simp [Value.oneCell']) (by unfold maxLen; omega) (by omega) (by have := hC.lt; simp; omega) ?_))
              intro v3 w3 hown3 hg3 _
              have hb3 : Below w.heap.size w w3 := (hb.drew.alloc hsz _).grown hg3 (by simp; omega) (fun k hk => by have := (hown.lt k hk).1; omega)
              have hC3 := (hC.drew.alloc (.cells #[.string (s.extract a p)] 9)).grown hg3 (fun e => by have := (hown.lt _ e.symm).1; omega)
              go_wp2
              go_roundw
              case rel => exact ⟨p, acc ++ [s.extract a p], by first | rfl | go_num, e2, by simp; omega, hfin, by simpa using hown3, hC3, hb3⟩
              case measure => simp [intOf]; omega
            · rw [if_neg (by intro e; rcases e with e | e | e; (· omega); (· omega); rw [hgh, beq_iff_eq] at e; omega)] at hst
              have HST := Lib.hid hst
              have q1 : ((q : Int) == 255) = false := by rw [beq_eq_false_iff_ne]; omega
              have q2 : ((q : Int) != 255) = true := by rw [bne_iff_ne]; omega
              have q3 : ((q : Int) = 255) = False := eq_false (by omega)
              have wn1 : IntKind.i64.wrap ((n : Int) + 1) = ((n + 1 : Nat) : Int) := by rw [show (n : Int) + 1 = ((n + 1 : Nat) : Int) by omega]; exact IntWalk.i64_in _ (by omega)
              clear hst HF hgh
              go_wp2_with fail
              refine still_all (by kernel_rfl) (by kernel_rfl) (SH.out ?_)
              iterate 24 (refine sh_step (fun K hK => ?_); go_simp; refine hK _ ?_; clear hK K)
              refine sh_step (fun K hK => ?_)
              go_simp
              refine ⟨_, HSUM.out, hK _ ?_⟩
              clear hK K
              iterate 7 (refine sh_step (fun K hK => ?_); go_simp; refine hK _ ?_; clear hK K)
              refine sh_nil ?_
              go_wp2_with fail
              go_roundw
              case rel => exact ⟨n + 1, by go_num, by omega, by omega, HST, hown.drew, hC.drew, hb.drew⟩
              case measure => simp [intOf]; omega
          · have h2' : ((n : Int) < 1024) = False := eq_false (by omega)
            rw [if_pos (.inr (.inl (by omega))), if_neg (by omega)] at hst
            have HST := Lib.hid hst
            clear hst HF h2
            go_wp2_with fail
            refine still_all (by kernel_rfl) (by kernel_rfl) (SH.out ?_)
            iterate 32 (refine sh_step (fun K hK => ?_); go_simp; refine hK _ ?_; clear hK K)
            refine sh_nil ?_
            have e1 : a ≤ p := by omega
            have e2 : p ≤ s.size := by omega
            have g1 : (0 : Int) ≤ (a : Int) := by omega
            have g2 : (a : Int) ≤ (p : Int) := by omega
            have g3 : (p : Int) ≤ (s.size : Int) := by omega
            have g4 : ((s.size : Int) < (p : Int)) = False := eq_false (by omega)
            have hfin : Hid (cutS (lb s) = (acc ++ [s.extract a p]).map lb ++ cutS ((lb s).drop p)) := Lib.hid (by
              rw [HN.out, HST.out, List.map_append, List.map_cons, List.map_nil, lb_extract, List.drop_drop, hp, show p - a = n by omega]
              simp)
            have hpa : a < p := by have := HST.out; omega
            clear HN
            go_wp2_with (at_builtin; go_must (refine wpList_append_own _ rfl _ _ 23 rfl (w.heap.size + 1) 9 i0 _ 1 16 Try.underlying23 hi hz0 hz1 hz2 rfl (by decide) _ _ _ rfl (hown.drew.alloc _) ⟨wr.heap.size, 0, none⟩ 1 1 _ rfl rfl (cell_one_new _ _ _) (by simp [Value.oneCell']) (by unfold maxLen; omega) (by omega) (by have := hC.lt; simp; omega) ?_))
            intro v3 w3 hown3 hg3 _
            have hb3 : Below w.heap.size w w3 := (hb.drew.alloc hsz _).grown hg3 (by simp; omega) (fun k hk => by have := (hown.lt k hk).1; omega)
            have hC3 := (hC.drew.alloc (.cells #[.string (s.extract a p)] 9)).grown hg3 (fun e => by have := (hown.lt _ e.symm).1; omega)
            go_wp2
            go_roundw
            case rel => exact ⟨p, acc ++ [s.extract a p], by first | rfl | go_num, e2, by simp; omega, hfin, by simpa using hown3, hC3, hb3⟩
            case measure => simp [intOf]; omega
        · have h1' : ((p : Int) < (s.size : Int)) = False := eq_false (by omega)
          rw [if_pos (.inl (by omega))] at hst
          by_cases h3 : p = s.size
          · rw [if_neg (by omega)] at hst
            have HST := Lib.hid hst
            have h3' : p ≤ s.size := by omega
            clear hst HF h3
            go_wp2_with fail
            refine still_all (by kernel_rfl) (by kernel_rfl) (SH.out ?_)
            iterate 32 (refine sh_step (fun K hK => ?_); go_simp; refine hK _ ?_; clear hK K)
            refine sh_nil ?_
            have e1 : a ≤ p := by omega
            have e2 : p ≤ s.size := by omega
            have g1 : (0 : Int) ≤ (a : Int) := by omega
            have g2 : (a : Int) ≤ (p : Int) := by omega
            have g3 : (p : Int) ≤ (s.size : Int) := by omega
            have g4 : ((s.size : Int) < (p : Int)) = False := eq_false (by omega)
            have hfin : Hid (cutS (lb s) = (acc ++ [s.extract a p]).map lb ++ cutS ((lb s).drop p)) := Lib.hid (by
              rw [HN.out, HST.out, List.map_append, List.map_cons, List.map_nil, lb_extract, List.drop_drop, hp, show p - a = n by omega]
              simp)
            have hpa : a < p := by have := HST.out; omega
            clear HN
            go_wp2_with (at_builtin; go_must (refine wpList_append_own _ rfl _ _ 23 rfl (w.heap.size + 1) 9 i0 _ 1 16 Try.underlying23 hi hz0 hz1 hz2 rfl (by decide) _ _ _ rfl (hown.drew.alloc _) ⟨wr.heap.size, 0, none⟩ 1 1 _ rfl rfl (cell_one_new _ _ _) (by simp [Value.oneCell']) (by unfold maxLen; omega) (by omega) (by have := hC.lt; simp; omega) ?_))
            intro v3 w3 hown3 hg3 _
            have hb3 : Below w.heap.size w w3 := (hb.drew.alloc hsz _).grown hg3 (by simp; omega) (fun k hk => by have := (hown.lt k hk).1; omega)
            have hC3 := (hC.drew.alloc (.cells #[.string (s.extract a p)] 9)).grown hg3 (fun e => by have := (hown.lt _ e.symm).1; omega)
            go_wp2
            go_roundw
            case rel => exact ⟨p, acc ++ [s.extract a p], by first | rfl | go_num, e2, by simp; omega, hfin, by simpa using hown3, hC3, hb3⟩
            case measure => simp [intOf]; omega
          · rw [if_pos (by omega)] at hst
            obtain ⟨m, hm⟩ : ∃ m, s.size - a = m := ⟨_, rfl⟩
            rw [hm] at hst
            have HST := Lib.hid hst
            have wm : IntKind.i64.wrap ((s.size : Int) - (a : Int)) = (m : Int) := by rw [show (s.size : Int) - (a : Int) = (m : Int) by omega]; exact IntWalk.i64_in _ (by omega)
            have wam : IntKind.i64.wrap ((a : Int) + (m : Int)) = (s.size : Int) := by rw [show (a : Int) + (m : Int) = (s.size : Int) by omega]; exact IntWalk.i64_in _ (by omega)
            have g1 : (0 : Int) ≤ (a : Int) := by omega
            have g2 : (a : Int) ≤ (s.size : Int) := by omega
            have g4 : ((s.size : Int) < (p : Int)) = True := eq_true (by omega)
            have hfin : Hid (cutS (lb s) = (acc ++ [s.extract a s.size]).map lb ++ cutS ((lb s).drop s.size)) := Lib.hid (by
              rw [HN.out, HST.out, List.map_append, List.map_cons, List.map_nil, lb_extract, List.drop_drop, show a + m = s.size by omega, show s.size - a = m by omega]
              simp)
            clear hst HF HN hm
            go_wp2_with fail
            refine still_all (by kernel_rfl) (by kernel_rfl) (SH.out ?_)
            iterate 32 (refine sh_step (fun K hK => ?_); go_simp; refine hK _ ?_; clear hK K)
            refine sh_nil ?_
            go_wp2_with (at_builtin; go_must (refine wpList_append_own _ rfl _ _ 23 rfl (w.heap.size + 1) 9 i0 _ 1 16 Try.underlying23 hi hz0 hz1 hz2 rfl (by decide) _ _ _ rfl (hown.drew.alloc _) ⟨wr.heap.size, 0, none⟩ 1 1 _ rfl rfl (cell_one_new _ _ _) (by simp [Value.oneCell']) (by unfold maxLen; omega) (by omega) (by have := hC.lt; simp; omega) ?_))
            intro v3 w3 hown3 hg3 _
            have hb3 : Below w.heap.size w w3 := (hb.drew.alloc hsz _).grown hg3 (by simp; omega) (fun k hk => by have := (hown.lt k hk).1; omega)
            have hC3 := (hC.drew.alloc (.cells #[.string (s.extract a s.size)] 9)).grown hg3 (fun e => by have := (hown.lt _ e.symm).1; omega)
            go_wp2
            go_roundw
            case rel => exact ⟨s.size, acc ++ [s.extract a s.size], by first | rfl | go_num, Nat.le_refl _, by simp; omega, hfin, by simpa using hown3, hC3, hb3⟩
            case measure => simp [intOf]; omega
    · have hk9 : ¬ (a : Int) < (s.size : Int) := by omega
      have hfin : acc.map lb = cutS (lb s) := by rw [hj.out, List.drop_eq_nil_of_le (by rw [lb_len]; omega), cutS_nil, List.append_nil]
      clear hj
      go_wp2
      go_ret2
      exact ⟨_, rfl, acc, hfin, own_mono hown (by omega), hb⟩

set_option maxRecDepth 100000 in
set_option maxHeartbeats 2000000 in
theorem rccut_any (s : ByteArray) (w : World) (hs : s.size ≤ 1000000) :
    Calls Try.prog 18 #[.string s] w fun e w' => ∃ (v : Value) (rs : List ByteArray), e = .returned v ∧ rs.map lb = cutS (lb s) ∧
      w'.ownsRow w.heap.size 9 1 v rs.length (rs.map Value.string) ∧ Below w.heap.size w w' := by
  have hrc := fun w => rrcut_any s w hs
  unfold cutsV at hrc
  go_enter Try.func18, Try.ntmps18
  go_wp2_with fail
  refine (hrc _).mono ?_
  rintro e w2 ⟨v, rs, rfl, hv, hown, hb2⟩
  clear hrc
  go_wp2
  go_ret
  exact ⟨_, rs, rfl, hv, hown, hb2⟩

set_option maxRecDepth 100000 in
set_option maxHeartbeats 2000000 in
theorem rsame_any (A B : Option Addr) (c d : Nat) (rs : List ByteArray) (w : World) (hA : Reads w w.heap.size 1 A rs.length (rs.map Value.string)) (hB : Reads w w.heap.size 1 B rs.length (rs.map Value.string)) (hl : rs.length ≤ 1000000) :
    Calls Try.prog 17 #[.slice A rs.length c, .slice B rs.length d] w fun e w' => e = .returned (.bool true) ∧ Below w.heap.size w w' := by
  go_enter Try.func17, Try.ntmps17
  go_wp2
  go_loopw [5] (fun iv wr => ∃ k : Nat, iv = .int .i64 k ∧ k ≤ rs.length ∧ Below w.heap.size w wr) (fun iv _ => rs.length - (intOf iv).toNat)
  case atStart => exact ⟨0, rfl, Nat.zero_le _, Below.refl _ _⟩
  case round =>
    obtain ⟨k, rfl, hk, hb⟩ := hrel
    by_cases hlt : k < rs.length
    · have k1 : (k : Int) < (rs.length : Int) := by omega
      have k0 : (0 : Int) ≤ (k : Int) := by omega
      obtain ⟨a, u, rfl, ha, hu, hca⟩ := hA.at_ hlt
      obtain ⟨b, v, rfl, hbb, hv, hcb⟩ := hB.at_ hlt
      have hu' : u = .string rs[k] := by
        rw [List.getElem?_map, List.getElem?_eq_getElem hlt] at hu
        injection hu with hu; exact hu.symm
      have hv' : v = .string rs[k] := by
        rw [List.getElem?_map, List.getElem?_eq_getElem hlt] at hv
        injection hv with hv; exact hv.symm
      subst hu'
      subst hv'
      have c1 := (hb.drew.cell (p := a.add k) (by rw [block_add]; exact ha)).trans hca
      have c2 := (hb.drew.cell (p := b.add k) (by rw [block_add]; exact hbb)).trans hcb
      obtain ⟨r, hr⟩ : ∃ r, rs[k] = r := ⟨_, rfl⟩
      rw [hr] at c1 c2
      have hw1 : IntKind.i64.wrap ((k : Int) + 1) = (k : Int) + 1 := IntWalk.i64_in _ (by omega)
      clear hr hu hv hca hcb hA hB
      go_wp2_with fail
      refine still_all (by kernel_rfl) (by kernel_rfl) ?_
      iterate 9 still_step
      refine wpStill_nil ?_
      go_wp2
      go_roundw
      case rel => exact ⟨k + 1, by go_num, by omega, hb.drew⟩
      case measure => simp [intOf]; omega
    · have hk9 : ¬ (k : Int) < (rs.length : Int) := by omega
      clear hA hB
      go_wp2
      go_ret
      exact ⟨rfl, hb⟩
end Go.Proofs.Ytncoghoeeefjhaa
