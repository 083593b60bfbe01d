/- roll.first walked. Conditions: at most 10^9 bytes; the cuts 16, 64, 1024, 255. -/
import Derived.Test.YtncoghoeeefjhaaRollA
import Derived.Lib.Strings
namespace Go.Proofs.Ytncoghoeeefjhaa
open Go.RowKit
attribute [local go_sem] m_mulT m_addb m_inc32 m_incb m_mul32 m_sub32 w_mulT w_addb w_inc32 w_incb w_mul32 w_sub32

theorem w_b8 (b : UInt8) : IntKind.u32.wrap (b.toNat : Int) = (b.toNat : Int) := by rw [u32_wrap]; have := u8_lt b; omega
attribute [local go_sem] w_b8
/-- the sum, a byte further on -/
def onS (n o : UInt32) (y x : UInt8) : UInt32 := sub32 (inc32 (addb (mulT n) y)) (mul32 o (incb x))

set_option maxRecDepth 100000 in
set_option maxHeartbeats 2000000 in
theorem on_any (Bn Bd Bo Bc i j : Nat) (s : ByteArray) (n o : UInt32) (w : World) (hj : j + 16 = i) (hi : i < s.size) (hs : s.size ≤ 1000000000)
    (c1 : w.cell? ⟨Bn, 0, none⟩ = some (.int .u32 n.toNat)) (c2 : w.cell? ⟨Bd, 0, none⟩ = some (.string s)) (c3 : w.cell? ⟨Bo, 0, none⟩ = some (.int .u32 o.toNat)) (c4 : w.cell? ⟨Bc, 0, none⟩ = some (.int .i64 16)) :
    Calls Try.prog 110 #[.int .i64 i, .pointer (some ⟨Bn, 0, none⟩), .pointer (some ⟨Bd, 0, none⟩), .pointer (some ⟨Bo, 0, none⟩), .pointer (some ⟨Bc, 0, none⟩)] w
      fun e w' => e = .returned (.int .u32 (onS n o (s[i]) (s[j]'(by omega))).toNat) ∧ w' = w.drew := by
  have n0 : (0 : Int) ≤ (i : Int) := by omega
  have n1 : (i : Int) < (s.size : Int) := by omega
  have n2 : IntKind.i64.wrap ((i : Int) - 16) = (j : Int) := by rw [show (i : Int) - 16 = (j : Int) by omega]; exact IntWalk.i64_in _ (by omega)
  have n3 : (0 : Int) ≤ (j : Int) := by omega
  have n4 : (j : Int) < (s.size : Int) := by omega
  have n5 : j < s.size := by omega
  obtain ⟨R, hR⟩ : ∃ R, (onS n o (s[i]) (s[j]'n5)) = R := ⟨_, rfl⟩
  have HR := Lib.hid hR
  rw [hR]
  clear hR hj
  go_enter Try.func110, Try.ntmps110
  go_wp2_with fail
  refine still_all (by kernel_rfl) (by kernel_rfl) ?_
  iterate 20 still_step
  refine wpStill_nil ?_
  go_wp2
  have hr := HR.out
  subst hr
  go_ret
  exact ⟨rfl, rfl⟩

def cutsV : Value := .agg #[.int .i64 16, .int .i64 64, .int .i64 1024, .int .u32 255]
theorem hit_and (x : UInt32) : bits .and .u32 (x.toNat : Int) 255 = ((x &&& 255).toNat : Int) := by
  show IntKind.u32.wrap ((BitVec.ofInt 32 (x.toNat : Int) &&& BitVec.ofInt 32 255).toNat : Int) = _
  rw [BitVec.toNat_and, ofInt_nat 32 _ x.toNat_lt, u32_wrap, UInt32.toNat_and]
  show ((x.toNat &&& 255 : Nat) : Int) % 4294967296 = ((x.toNat &&& 255 : Nat) : Int)
  have : x.toNat &&& 255 ≤ 255 := Nat.and_le_right
  omega
theorem hit_eq (x : UInt32) : (((x &&& 255).toNat : Int) == 255) = (x &&& 255 == 255) := by
  rw [Bool.eq_iff_iff, beq_iff_eq, beq_iff_eq]
  constructor
  · intro h; apply UInt32.toNat_inj.1; show _ = 255; omega
  · intro h; rw [h]; rfl
theorem on_win (s : ByteArray) (i : Nat) (h : 16 ≤ i) (hi : i < s.size) : onS (winS (lb s) i) (powT 16) (s[i]) (s[i - 16]) = winS (lb s) (i + 1) := by
  rw [winS_next (lb s) i h (by rw [lb_len]; exact hi), lb_at s i hi, lb_at s (i - 16) (by omega), onS, sub32, inc32, addb, mulT, mul32, incb, powT_eq]

set_option maxRecDepth 100000 in
set_option maxHeartbeats 4000000 in
theorem first_any (s : ByteArray) (w : World) (hs : s.size ≤ 1000000000) :
    Calls Try.prog 74 #[.string s, cutsV] w fun e w' => e = .returned (.int .i64 (firstS (lb s))) ∧ Below w.heap.size w w' := by
  unfold cutsV
  by_cases hle : s.size ≤ 64
  · have hl : (s.size : Int) ≤ 64 := by omega
    have hf : firstS (lb s) = s.size := by rw [firstS, lb_len, if_pos hle]
    rw [hf]
    clear hf
    have hb0 := ((Below.refl w.heap.size w).alloc (Nat.le_refl _) (.cells #[.string s] 9)).alloc (by simp) (.cells #[.int .i64 16, .int .i64 64, .int .i64 1024, .int .u32 255] 82)
    go_enter Try.func74, Try.ntmps74
    go_wp2
    go_ret
    exact ⟨rfl, hb0⟩
  · have hl : ¬ (s.size : Int) ≤ 64 := by omega
    have hb0 := ((Below.refl w.heap.size w).alloc (Nat.le_refl _) (.cells #[.string s] 9)).alloc (by simp) (.cells #[.int .i64 16, .int .i64 64, .int .i64 1024, .int .u32 255] 82)
    go_enter Try.func74, Try.ntmps74
    go_wp2_with fail
    refine (power_any 16 _ (by decide)).mono ?_
    rintro e w' ⟨rfl, rfl⟩
    go_wp2_with fail
    have hx : lb (s.extract 48 64) = ((lb s).drop 48).take 16 := Lib.extract_data s 48 64
    refine (rsum_any (s.extract 48 64) _ (by simp; omega)).mono ?_
    rintro e w' ⟨rfl, rfl⟩
    have h64 : rsumS (lb (s.extract 48 64)) = winS (lb s) 64 := by rw [hx]; rfl
    rw [h64]
    clear hx h64
    have hfs : Hid (firstS (lb s) = fromS (lb s) 64) := Lib.hid (by rw [firstS, lb_len, if_neg hle])
    go_wp2_with fail
    go_loopw [8] (fun i wr => ∃ (k : Nat), i = .int .i64 k ∧ 64 ≤ k ∧ k ≤ s.size ∧ k ≤ 1024 ∧ Hid (firstS (lb s) = fromS (lb s) k) ∧ Blk wr w.heap.size 9 #[.string s] ∧ Blk wr (w.heap.size + 1) 82 #[.int .i64 16, .int .i64 64, .int .i64 1024, .int .u32 255] ∧
        Blk wr (w.heap.size + 1 + 1) 80 #[.int .u32 (powT 16).toNat] ∧ Blk wr (w.heap.size + 1 + 1 + 1) 80 #[.int .u32 (winS (lb s) k).toNat] ∧ Below w.heap.size w wr)
      (fun i _ => 1024 - (intOf i).toNat)
    case atStart => 
      have hD := Blk.new w 9 #[.string s]
      have hC := Blk.new (w.alloc (.cells #[.string s] 9)) 82 #[.int .i64 16, .int .i64 64, .int .i64 1024, .int .u32 255]
      have hO := Blk.new ((w.alloc (.cells #[.string s] 9)).alloc (.cells #[.int .i64 16, .int .i64 64, .int .i64 1024, .int .u32 255] 82)) 80 #[.int .u32 (powT 16).toNat]
      have hN := Blk.new (((w.alloc (.cells #[.string s] 9)).alloc (.cells #[.int .i64 16, .int .i64 64, .int .i64 1024, .int .u32 255] 82)).alloc (.cells #[.int .u32 (powT 16).toNat] 80)) 80 #[.int .u32 (winS (lb s) 64).toNat]
      simp only [World.size_alloc] at hC hO hN
      exact ⟨64, rfl, by omega, by omega, by omega, hfs, ((hD.alloc _).alloc _).alloc _, (hC.alloc _).alloc _, hO.alloc _, hN, (hb0.alloc (by simp; omega) _).alloc (by simp; omega) _⟩
    case round =>
      obtain ⟨k, rfl, hk1, hk2, hk3, HF, hD, hC, hO, hN, hb⟩ := hrel
      have cD := hD.cell 0
      have cC := hC.cell 0
      have cC2 := hC.cell 2
      have cC3 := hC.cell 3
      have cN := hN.cell 0
      have hga := hit_and (winS (lb s) k)
      have hge := hit_eq (winS (lb s) k)
      obtain ⟨q, hq⟩ : ∃ q : Nat, (winS (lb s) k &&& 255).toNat = q := ⟨_, rfl⟩
      rw [hq] at hga hge
      have hgh : hitS (lb s) k = ((q : Int) == 255) := hge.symm
      clear hge hq
      by_cases hh : q = 255
      · have hf := (HF.out).trans (fromS_stop (.inl (by rw [hgh, hh]; rfl)))
        have HFN := Lib.hid hf
        have hga' : bits .and .u32 ((winS (lb s) k).toNat : Int) 255 = 255 := by rw [hga, hh]; rfl
        clear hgh hf hfs HF hga
        subst hh
        go_wp2_with fail
        go_ret
        exact ⟨by rw [HFN.out]; rfl, hb⟩
      · have hh2 : ¬ (q : Int) = 255 := by omega
        have hn : hitS (lb s) k = false := by rw [hgh, beq_eq_false_iff_ne]; omega
        clear hgh
        by_cases hkm : k = 1024 ∨ k = s.size
        · have hf := (HF.out).trans (fromS_stop (.inr (by rw [lb_len]; omega)))
          have HFN := Lib.hid hf
          clear hf hfs HF
          rcases hkm with hkm | hkm
          · have hk' : (k : Int) = 1024 := by omega
            clear hn
            subst hkm
            go_wp2_with fail
            go_ret
            exact ⟨by rw [HFN.out]; rfl, hb⟩
          · by_cases hkk : k = 1024
            · clear hn hkm
              subst hkk
              go_wp2_with fail
              go_ret
              exact ⟨by rw [HFN.out]; rfl, hb⟩
            · have hk' : ¬ (k : Int) = 1024 := by omega
              clear hn
              subst hkm
              go_wp2_with fail
              go_ret
              exact ⟨by rw [HFN.out]; rfl, hb⟩
        · have hk1' : ¬ (k : Int) = 1024 := by omega
          have hk2' : ¬ (k : Int) = (s.size : Int) := by omega
          have hk4 : ((k : Int) == 1024) = false := by rw [beq_eq_false_iff_ne]; omega
          have hk5 : ((k : Int) == (s.size : Int)) = false := by rw [beq_eq_false_iff_ne]; omega
          have hk6 : ((q : Int) == 255) = false := by rw [beq_eq_false_iff_ne]; omega
          have hf := Lib.hid ((HF.out).trans (fromS_go (by rw [hn, lb_len]; simp; omega)))
          have hw1 : IntKind.i64.wrap ((k : Int) + 1) = (k : Int) + 1 := IntWalk.i64_in _ (by omega)
          have cO := hO.cell 0
          have fN : wr.drew.frozen? ⟨w.heap.size + 1 + 1 + 1, 0, none⟩ = false := hN.drew.frozen 0
          have fN' : wr.frozen? ⟨w.heap.size + 1 + 1 + 1, 0, none⟩ = false := hN.frozen 0
          clear hkm hn hfs HF
          go_wp2_with fail
          refine (on_any (w.heap.size + 1 + 1 + 1) w.heap.size (w.heap.size + 1 + 1) (w.heap.size + 1) k (k - 16) s _ _ wr (by omega) (by omega) hs cN cD cO cC).mono ?_
          rintro e w' ⟨rfl, rfl⟩
          rw [on_win s k (by omega) (by omega)]
          go_wp2_with fail
          go_roundw
          case rel =>
            exact ⟨k + 1, by go_num, by omega, by omega, by omega, hf, hD.drew.far (by first | (simp; done) | (simp; omega)) _, hC.drew.far (by first | (simp; done) | (simp; omega)) _, hO.drew.far (by first | (simp; done) | (simp; omega)) _, hN.drew.put 0 _, hb.drew.setCell (by first | (simp; done) | (simp; omega)) _⟩
          case measure => simp [intOf]; omega
end Go.Proofs.Ytncoghoeeefjhaa
