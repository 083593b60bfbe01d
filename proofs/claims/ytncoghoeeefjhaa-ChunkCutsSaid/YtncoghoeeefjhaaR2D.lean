/- hibernacleref02.digest walked. Conditions: eight numbers; a text of less than 2^46 bytes. -/
import Derived.Test.YtncoghoeeefjhaaR2T
import Derived.Test.YtncoghoeeefjhaaDigA
namespace Go.Proofs.Ytncoghoeeefjhaa
open Go.RowKit

theorem zeros_more (t : ByteArray) (j : Nat) : t ++ zeros j ++ ⟨#[0]⟩ = t ++ zeros (j + 1) := by
  have h : ∀ a b : ByteArray, bl a = bl b → a = b := fun a b h => by
    cases a; cases b
    simp only [bl] at h
    rw [Array.toList_inj.1 h]
  refine h _ _ ?_
  rw [dg_cat, dg_cat, dg_cat, bl_zeros, bl_zeros, List.append_assoc, List.replicate_succ']
theorem zeros_none (t : ByteArray) : t ++ zeros 0 = t := by
  have h : ∀ a b : ByteArray, bl a = bl b → a = b := fun a b h => by
    cases a; cases b
    simp only [bl] at h
    rw [Array.toList_inj.1 h]
  refine h _ _ ?_
  rw [dg_cat, bl_zeros]; simp
theorem pow256 (x j : Nat) : x / 256 ^ j / 256 = x / 256 ^ (j + 1) := by rw [Nat.div_div_eq_div_mul, Nat.pow_succ]
theorem dig_byte (L : List UInt32) (i : Nat) (hi : i < 32) : ((at32 L (i / 4)).toNat / 256 ^ (i % 4)) % 256 = (at8 (outS L) i).toNat := by
  rw [outS_at L i hi, UInt8.toNat_ofNat', Nat.pow_mul]

set_option maxRecDepth 100000 in
set_option maxHeartbeats 16000000 in
theorem rdigest_any (q8 : List UInt32) (s : ByteArray) (w : World) (hh : q8.length = 8) (hs : s.size ≤ 70368744177664) :
    Calls Try.prog 99 #[.agg (c32 q8), .string s] w fun e w' => e = .returned (.agg (c8 (digestS q8 (bl s)))) ∧ Below w.heap.size w w' := by
  go_enter Try.func99, Try.ntmps99
  go_wp2
  go_loopw [5] (fun c wr => ∃ (k : Nat), c = .int .i64 (64 * (k : Int)) ∧ 64 * k ≤ s.size ∧ (64 * k < s.size ∨ k = 0) ∧
      Blk wr w.heap.size 130 (c32 (afterS q8 (bl s) k)) ∧ Blk wr (w.heap.size + 1) 85 (c8 (List.replicate 32 0)) ∧ Below w.heap.size w wr ∧ w.heap.size + 2 ≤ wr.heap.size)
    (fun c _ => s.size - (intOf c).toNat)
  case atStart =>
    refine ⟨0, by go_num, by omega, by omega, ?_, ?_, ?_, by simp⟩
    · exact (Blk.new w 130 (c32 q8)).alloc _
    · have := Blk.new (w.alloc (.cells (c32 q8) 130)) 85 (c8 (List.replicate 32 0))
      rw [World.size_alloc] at this
      exact this
    · exact ((Below.refl _ _).alloc (Nat.le_refl _) _).alloc (by simp) _
  case round =>
    obtain ⟨k, rfl, hts, ht0, hH, hO, hbel, hsz⟩ := hrel
    have hw : IntKind.i64.wrap (64 * (k : Int) + 64) = 64 * (k : Int) + 64 := IntWalk.i64_in _ (by omega)
    have z0 : (0 : Int) ≤ 64 * (k : Int) := by omega
    have hi8 : ∀ j, (Try.prog.info? 130).map (·.size) = some (c32 (afterS q8 (bl s) j)).size := fun j => by rw [c32_size, afterS_length _ _ hh]; kernel_rfl
    by_cases hlt : 64 * k + 64 < s.size
    · as_aux_lemma =>
      have hi0 : ¬ (s.size : Int) ≤ 64 * (k : Int) + 64 := by omega
      have hi1 : 64 * (k : Int) + 64 ≤ (s.size : Int) := by omega
      have hi2 : 64 * (k : Int) ≤ 64 * (k : Int) + 64 := by omega
      have z1 : (0 : Int) ≤ 64 * (k : Int) + 64 := by omega
      have n1 : (64 * (k : Int)).toNat = 64 * k := by omega
      have n2 : (64 * (k : Int) + 64).toNat = 64 * k + 64 := by omega
      have hw2 : IntKind.u64.wrap (64 * (k : Int) + 64) = 64 * (k : Int) + 64 := IntWalk.u64_in _ (by omega)
      have hTK := rtake_any (afterS q8 (bl s) k) (s.extract (64 * k) (64 * k + 64)) (64 * (k + 1)) false
      have hbt : bl (s.extract (64 * k) (64 * k + 64)) = ((bl s).drop (64 * k)).take 64 := by
        have h := Lib.extract_data s (64 * k) (64 * k + 64)
        rw [show 64 * k + 64 - 64 * k = 64 by omega] at h
        exact h
      rw [hbt, show ((64 * (k + 1) : Nat) : Int) = 64 * (k : Int) + 64 by omega] at hTK
      have hsl : (afterS q8 (bl s) (k + 1)) = takeS (afterS q8 (bl s) k) (((bl s).drop (64 * k)).take 64) (64 * (k + 1)) false := rfl
      rw [← hsl] at hTK
      have HTK := Lib.hid (fun w => hTK w (afterS_length _ _ hh _) (by rw [ByteArray.size_extract]; omega) (by omega))
      clear hTK hsl hbt
      go_wp2_with (refine wpList_load_row rfl 130 _ rfl w.heap.size rfl 130 (c32 (afterS q8 (bl s) k)) (0, 0) _ hH Try.underlying130 rfl (hi8 k) ?_)
      refine (HTK.out _).mono ?_
      rintro e w2 ⟨rfl, hb2⟩
      have jH := hH.below hb2 hH.lt
      have jO := hO.below hb2 hO.lt
      have jb := hbel.trans (hb2.mono (by omega))
      have jsz : w.heap.size + 2 ≤ w2.heap.size := Nat.le_trans hsz hb2.size
      have nH := jH.row (c32 (afterS q8 (bl s) (k + 1)))
      have nO := jO.rowOf (k := w.heap.size) (show w.heap.size + 1 ≠ w.heap.size by omega) (c32 (afterS q8 (bl s) (k + 1)))
      have nb := below_setRow jb (Nat.le_refl _) (c32 (afterS q8 (bl s) (k + 1)))
      clear hb2 hH hO hbel jO jb
      go_wp2_with (refine wpList_store_rowTo rfl 130 _ _ rfl rfl w.heap.size (c32 (afterS q8 (bl s) (k + 1))) rfl rfl 130 (c32 (afterS q8 (bl s) k)) jH (hi8 (k + 1)) (by rw [c32_size, c32_size, afterS_length _ _ hh, afterS_length _ _ hh]) (c32_all _) ?_)
      go_roundw
      case rel => exact ⟨k + 1, by go_num, by omega, by omega, nH, nO, nb, by simpa using jsz⟩
      case measure => simp [intOf]; omega
    · have hk : (s.size - 1) / 64 = k := by omega
      have hl : (bl s).length = s.size := dg_len s
      have hi0 : (s.size : Int) ≤ 64 * (k : Int) + 64 := by omega
      have hi1 : 64 * (k : Int) ≤ (s.size : Int) := by omega
      have n1 : (64 * (k : Int)).toNat = 64 * k := by omega
      obtain ⟨t, ht⟩ : ∃ t, s.extract (64 * k) s.size = t := ⟨_, rfl⟩
      have htz : t.size = s.size - 64 * k := by rw [← ht, ByteArray.size_extract]; omega
      have hw2 : IntKind.u64.wrap (s.size : Int) = (s.size : Int) := IntWalk.u64_in _ (by omega)
      obtain ⟨L8, hL8⟩ : ∃ L8, lastS q8 (bl s) = L8 := ⟨_, rfl⟩
      have hLl : L8.length = 8 := by rw [← hL8, lastS_length]
      have HTK : Hid (∀ w, Calls Try.prog 124 #[.agg (c32 (afterS q8 (bl s) k)), .string (t ++ zeros (64 - t.size)), .int .u64 s.size, .bool true] w fun e w' => e = .returned (v32 L8) ∧ Below w.heap.size w w') := Lib.hid fun w => by
        have h1 := rtake_any (afterS q8 (bl s) k) (t ++ zeros (64 - t.size)) s.size true w (afterS_length _ _ hh _) (by rw [ByteArray.size_append, zeros_size]; omega) (by omega)
        have e1 : bl t = (bl s).drop (64 * k) := by rw [← ht]; exact dg_tail _ _
        rw [dg_cat, bl_zeros, e1] at h1
        rw [← hL8, lastS, hl, hk, ← htz]
        exact h1
      have HD : Hid (digestS q8 (bl s) = outS L8) := Lib.hid (by rw [digestS, hL8])
      have htle : t.size ≤ 64 := by omega
      clear hL8 hk hl
      go_wp2_with fail
      go_loopw [8] (fun b wr => ∃ (j : Nat) (T : ByteArray), b = .string T ∧ Hid (T = t ++ zeros j) ∧ T.size = t.size + j ∧ t.size + j ≤ 64 ∧
          Blk wr w.heap.size 130 (c32 (afterS q8 (bl s) k)) ∧ Blk wr (w.heap.size + 1) 85 (c8 (List.replicate 32 0)) ∧ Below w.heap.size w wr ∧ w.heap.size + 2 ≤ wr.heap.size)
        (fun b _ => (match b with | .string T => 64 - T.size | _ => 0))
      case atStart => exact ⟨0, t, rfl, Lib.hid (zeros_none t).symm, by omega, by omega, hH, hO, hbel, hsz⟩
      case round =>
        clear hH hO hbel hsz
        obtain ⟨j, T, rfl, HTT, hTs, hj, hH, hO, hbel, hsz⟩ := hrel
        by_cases hT : T.size < 64
        · as_aux_lemma =>
          have q1 : (T.size : Int) < 64 := by omega
          have hc : ¬ 9223372036854775807 < T.size + 1 := by omega
          have hz : (T ++ (⟨#[0]⟩ : ByteArray)).size = T.size + 1 := by rw [ByteArray.size_append]; rfl
          go_wp2_with fail
          go_roundw
          case rel => exact ⟨j + 1, T ++ ⟨#[0]⟩, rfl, Lib.hid (by rw [HTT.out, zeros_more]), by rw [hz]; omega, by omega, hH, hO, hbel, hsz⟩
          case measure => show 64 - (T ++ (⟨#[0]⟩ : ByteArray)).size < 64 - T.size; rw [hz]; omega
        · as_aux_lemma =>
          have q1 : ¬ (T.size : Int) < 64 := by omega
          have hje : j = 64 - t.size := by omega
          have hTe : T = t ++ zeros (64 - t.size) := by rw [HTT.out, hje]
          rw [← hTe] at HTK
          clear hTe hje HTT hj hTs htz htle hT hts ht0 hlt
          have hi9 : (Try.prog.info? 130).map (·.size) = some (c32 L8).size := by rw [c32_size, hLl]; kernel_rfl
          go_wp2_with (refine wpList_load_row rfl 130 _ rfl w.heap.size rfl 130 (c32 (afterS q8 (bl s) k)) (0, 0) _ hH Try.underlying130 rfl (hi8 k) ?_)
          refine (HTK.out _).mono ?_
          rintro e w3 ⟨rfl, hb3⟩
          have jH := hH.below hb3 hH.lt
          have jO := hO.below hb3 hO.lt
          have jb := hbel.trans (hb3.mono (by omega))
          have jsz : w.heap.size + 2 ≤ w3.heap.size := Nat.le_trans hsz hb3.size
          have kH := jH.row (c32 L8)
          have kO := jO.rowOf (k := w.heap.size) (show w.heap.size + 1 ≠ w.heap.size by omega) (c32 L8)
          have kb := below_setRow jb (Nat.le_refl _) (c32 L8)
          have ksz : w.heap.size + 2 ≤ (w3.setRow w.heap.size (c32 L8)).heap.size := by rw [size_setRow]; exact jsz
          have lH := kH.alloc (.cells (c8 (List.replicate 32 0)) 85)
          have lO := kO.alloc (.cells (c8 (List.replicate 32 0)) 85)
          have lG := Blk.new (w3.setRow w.heap.size (c32 L8)) 85 (c8 (List.replicate 32 0))
          have lb := kb.alloc (by omega) (.cells (c8 (List.replicate 32 0)) 85)
          clear kH kO kb hb3 hH hO hbel jO jb HTK
          go_wp2_with (refine wpList_store_rowTo rfl 130 _ _ rfl rfl w.heap.size (c32 L8) rfl rfl 130 (c32 (afterS q8 (bl s) k)) jH hi9 (by rw [c32_size, c32_size, afterS_length _ _ hh, hLl]) (c32_all _) ?_)
          have hwsz : (w3.setRow w.heap.size (c32 L8)).heap.size = w3.heap.size := size_setRow _ _ _
          rw [hwsz] at lG
          have hne : w3.heap.size ≠ w.heap.size + 1 := by omega
          have hgl : (w.heap.size + 1) < w3.heap.size := by omega
          have hOl := outS_length L8
          go_loopw [10] (fun i wr => ∃ k : Nat, i = .int .i64 k ∧ k ≤ 32 ∧ Blk wr w.heap.size 130 (c32 L8) ∧ Blk wr w3.heap.size 85 (c8 (part8 (outS L8) 32 k)) ∧ Blk wr (w.heap.size + 1) 85 (c8 (List.replicate 32 0)) ∧ Below w.heap.size w wr)
            (fun i _ => 32 - (intOf i).toNat)
          case atStart => exact ⟨0, rfl, by omega, lH, by rw [part8_zero]; exact lG, lO, lb⟩
          case round =>
            clear lH lO lG lb hwsz ksz
            obtain ⟨i, rfl, hi, mH, mG, mO, mb⟩ := hrel
            have wk : IntKind.i64.wrap ((i : Int) + 1) = (i : Int) + 1 := IntWalk.i64_in _ (by omega)
            by_cases hlt2 : i < 32
            · as_aux_lemma =>
              have i1 : (0 : Int) ≤ (i : Int) := by omega
              have i2 : (i : Int) < 32 := by omega
              obtain ⟨x, hx⟩ : ∃ x, at32 L8 (i / 4) = x := ⟨_, rfl⟩
              have cx := (mH.cell (i / 4)).trans (c32_at L8 (i / 4) (by omega))
              rw [hx] at cx
              have hv := dig_byte L8 i hlt2
              rw [hx] at hv
              obtain ⟨p, hp⟩ : ∃ p, i / 4 = p := ⟨_, rfl⟩
              obtain ⟨q, hq⟩ : ∃ q, i % 4 = q := ⟨_, rfl⟩
              rw [hp] at cx
              rw [hq] at hv
              have p1 : (i : Int) / 4 = (p : Int) := by omega
              have p2 : (i : Int).tdiv 4 = (p : Int) := by rw [Int.tdiv_eq_ediv_of_nonneg (by omega)]; exact p1
              have p3 : (0 : Int) ≤ (p : Int) := by omega
              have p4 : (p : Int) < 8 := by omega
              have p5 : IntKind.i64.wrap (p : Int) = (p : Int) := IntWalk.i64_in _ (by omega)
              have q1 : (i : Int) % 4 = (q : Int) := by omega
              have q2 : (i : Int).tmod 4 = (q : Int) := by rw [Int.tmod_eq_emod_of_nonneg (by omega)]; exact q1
              have q3 : IntKind.i64.wrap (q : Int) = (q : Int) := IntWalk.i64_in _ (by omega)
              have HV := Lib.hid hv
              have hq4 : q < 4 := by omega
              clear hv hx hp hq
              go_wp2_with fail
              go_loopw [11, 12] (fun xv jv wr => ∃ j : Nat, jv = .int .i64 j ∧ j ≤ q ∧ xv = .int .u32 ((x.toNat / 256 ^ j : Nat) : Int) ∧ Blk wr w.heap.size 130 (c32 L8) ∧ Blk wr w3.heap.size 85 (c8 (part8 (outS L8) 32 i)) ∧ Blk wr (w.heap.size + 1) 85 (c8 (List.replicate 32 0)) ∧ Below w.heap.size w wr)
                (fun _ jv _ => q - (intOf jv).toNat)
              case atStart => exact ⟨0, rfl, by omega, by simp, mH, mG, mO, mb⟩
              case round =>
                clear mH mG mO mb cx
                obtain ⟨j, rfl, hj2, rfl, mH, mG, mO, mb⟩ := hrel
                obtain ⟨y, hy⟩ : ∃ y, x.toNat / 256 ^ j = y := ⟨_, rfl⟩
                rw [hy]
                have hyl : y < 4294967296 := by
                  have := x.toNat_lt
                  have := Nat.div_le_self x.toNat (256 ^ j)
                  omega
                by_cases hjq : j < q
                · as_aux_lemma =>
                  have j1 : (j : Int) < (q : Int) := by omega
                  have j2 : IntKind.i64.wrap ((j : Int) + 1) = (j : Int) + 1 := IntWalk.i64_in _ (by omega)
                  obtain ⟨z, hz⟩ : ∃ z, y / 256 = z := ⟨_, rfl⟩
                  have y1 : (y : Int) / 256 = (z : Int) := by omega
                  have y2 : (y : Int).tdiv 256 = (z : Int) := by rw [Int.tdiv_eq_ediv_of_nonneg (by omega)]; exact y1
                  have y3 : IntKind.u32.wrap (z : Int) = (z : Int) := by rw [u32_wrap]; omega
                  have hy2 : Hid (x.toNat / 256 ^ (j + 1) = z) := Lib.hid (by rw [← pow256, hy, hz])
                  clear hy hz
                  go_wp2_with fail
                  go_roundw
                  case rel => exact ⟨j + 1, by go_num, by omega, by rw [hy2.out], mH, mG, mO, mb⟩
                  case measure => simp [intOf]; omega
                · as_aux_lemma =>
                  have j1 : ¬ (j : Int) < (q : Int) := by omega
                  have hjq2 : j = q := by omega
                  have hv := HV.out
                  rw [← hjq2, hy] at hv
                  have y1 : (y : Int) % 256 = ((at8 (outS L8) i).toNat : Int) := by omega
                  have y2 : (y : Int).tmod 256 = ((at8 (outS L8) i).toNat : Int) := by rw [Int.tmod_eq_emod_of_nonneg (by omega)]; exact y1
                  have y3 : IntKind.u32.wrap ((at8 (outS L8) i).toNat : Int) = ((at8 (outS L8) i).toNat : Int) := by have := (at8 (outS L8) i).toNat_lt; rw [u32_wrap]; omega
                  have y4 : IntKind.u8.wrap ((at8 (outS L8) i).toNat : Int) = ((at8 (outS L8) i).toNat : Int) := by have := (at8 (outS L8) i).toNat_lt; rw [u8_wrap]; omega
                  have hf := mG.frozen i
                  have hc := (mG.cell i).trans (c8_at _ _ (by rw [part8_length _ _ _ hOl (by omega)]; omega))
                  have nG := mG.put i (.int .u8 (at8 (outS L8) i).toNat)
                  rw [c8_set, part8_succ _ _ _ hOl (by omega)] at nG
                  clear hv hy HV hjq2
                  go_wp2_with fail
                  go_roundw
                  case rel => exact ⟨i + 1, by go_num, by omega, mH.far (show w.heap.size ≠ w3.heap.size by omega) _, nG, mO.far (show w.heap.size + 1 ≠ w3.heap.size by omega) _, mb.setCell (show w.heap.size ≤ w3.heap.size by omega) _⟩
                  case measure => simp [intOf]; omega
            · as_aux_lemma =>
              have hk8 : i = 32 := by omega
              have hk9 : ¬ (i : Int) < 32 := by omega
              rw [hk8, part8_all _ _ hOl] at mG
              clear hk8 hlt2 hi
              have hid : (Try.prog.info? 85).map (·.size) = some (c8 (outS L8)).size := by rw [c8_size, hOl]; kernel_rfl
              have nR := mO.row (c8 (outS L8))
              go_wp2_with (first
                | refine wpList_load_row rfl 85 _ rfl w3.heap.size rfl 85 (c8 (outS L8)) (0, 0) _ mG Try.underlying85 rfl hid ?_
                | refine wpList_store_rowTo rfl 85 _ _ rfl rfl (w.heap.size + 1) (c8 (outS L8)) rfl rfl 85 (c8 (List.replicate 32 0)) mO hid (by rw [c8_size, c8_size, hOl]; rfl) (c8_one _) ?_)
              refine bodyPost_ret (v := .agg (c8 (outS L8))) ?_ rfl ?_
              · exact results_cell_row Try.results99 _ _ (w.heap.size + 1) 85 (c8 (outS L8)) (0, 0) _ rfl nR Try.underlying85 rfl hid
              exact ⟨by rw [HD.out], below_setRow mb (by omega) _⟩
end Go.Proofs.Ytncoghoeeefjhaa
