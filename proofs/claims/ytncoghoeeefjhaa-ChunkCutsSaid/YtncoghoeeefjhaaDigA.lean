/- hash.digest walked. Conditions: eight numbers; a text of less than 2^46 bytes. -/
import Derived.Test.YtncoghoeeefjhaaDigS
import Derived.Test.YtncoghoeeefjhaaTakeA
import Derived.Test.YtncoghoeeefjhaaShelf
import Derived.Test.YtncoghoeeefjhaaHand
import Derived.Great.BuildSlice
namespace Go.Proofs.Ytncoghoeeefjhaa
open Go.RowKit

/-- so many null bytes -/
def zeros (n : Nat) : ByteArray := ⟨(List.replicate n (0 : UInt8)).toArray⟩
theorem bl_zeros (n : Nat) : bl (zeros n) = List.replicate n 0 := rfl
theorem repeat_zeros (n : Nat) (w : World) (hn : n ≤ 64) : Calls Try.prog 88 #[.string ⟨#[0]⟩, .int .i64 n] w fun e w' => e = .returned (.string (zeros n)) ∧ Below w.heap.size w w' := by
  match n, hn with
  | 0, _ =>
    refine (Try.strings_Repeat_zero ⟨#[0]⟩ w).mono ?_
    rintro e w' ⟨rfl, rfl⟩
    exact ⟨rfl, Below.refl _ _⟩
  | 1, _ =>
    refine (Try.strings_Repeat_one ⟨#[0]⟩ w).mono ?_
    rintro e w' ⟨rfl, rfl⟩
    exact ⟨rfl, Below.refl _ _⟩
  | k + 2, h =>
    refine (Try.strings_Repeat_main ⟨#[0]⟩ (k + 2) w (by omega) (by omega) (by show 1 * (k + 2) ≤ _; omega) (by decide)).mono ?_
    rintro e w' ⟨rfl, hb⟩
    refine ⟨?_, hb⟩
    have e : Lib.repeatL (⟨#[0]⟩ : ByteArray).data.toList (k + 2) = List.replicate (k + 2) 0 := by
      show Lib.repeatL [0] (k + 2) = _
      generalize k + 2 = n
      induction n with
      | zero => rfl
      | succ n ih => rw [List.replicate_succ, ← ih]; rfl
    rw [e]; rfl

theorem dg_head (t : ByteArray) (n : Nat) : bl (t.extract 0 n) = (bl t).take n := by
  have h := Lib.extract_data t 0 n
  rw [List.drop_zero, Nat.sub_zero] at h
  exact h
theorem dg_tail (t : ByteArray) (n : Nat) : bl (t.extract n t.size) = (bl t).drop n := Lib.extract_to_end t n
theorem dg_len (s : ByteArray) : (bl s).length = s.size := Array.length_toList
theorem dg_cat (a b : ByteArray) : bl (a ++ b) = bl a ++ bl b := by simp [bl]
theorem zeros_size (n : Nat) : (zeros n).size = n := by rw [← dg_len, bl_zeros, List.length_replicate]
theorem index_word (L : List UInt32) (k : Nat) (hk : k < 8) (hL : L.length = 8) (w : World) : (Instr.index 130 (.agg (c32 L)) (.int .i64 (k : Int))).run Try.prog w = .ok (.int .u32 (at32 L k).toNat) w := by
  have h1 := c32_at L k (by omega)
  simp [Instr.index, asIntOf, go_sem, part, hk, h1]
theorem out_byte (L : List UInt32) (k j : Nat) (hk : k < 8) (hj : j < 4) : ((at32 L k).toNat : Int) / 2 ^ (8 * j) % 256 = ((at8 (outS L) (4 * k + j)).toNat : Int) := by
  rw [outS_at L (4 * k + j) (by omega), show (4 * k + j) / 4 = k by omega, show (4 * k + j) % 4 = j by omega, UInt8.toNat_ofNat', Int.natCast_emod, Int.natCast_ediv, Int.natCast_pow]
  rfl
theorem c32_all (l : List UInt32) : (c32 l).all (·.oneCell') = true := by simp [c32, Value.oneCell']

set_option maxRecDepth 100000 in
set_option maxHeartbeats 16000000 in
theorem hdigest_any (q8 : List UInt32) (s : ByteArray) (w : World) (hh : q8.length = 8) (hs : s.size ≤ 70368744177664) :
    Calls Try.prog 87 #[.agg (c32 q8), .string s] w fun e w' => e = .returned (.agg (c8 (digestS q8 (bl s)))) ∧ Below w.heap.size w w' := by
  go_enter Try.func87, Try.ntmps87
  go_wp2
  go_loopw [1, 5] (fun sv c wr => ∃ (k : Nat) (t : ByteArray), sv = .string t ∧ c = .int .u64 (64 * (k : Int)) ∧ 64 * k + t.size = s.size ∧ (0 < t.size ∨ k = 0) ∧ Hid (bl t = (bl s).drop (64 * k)) ∧
      Blk wr w.heap.size 130 (c32 (afterS q8 (bl s) k)) ∧ Blk wr (w.heap.size + 1) 85 (c8 (List.replicate 32 0)) ∧ Below w.heap.size w wr ∧ w.heap.size + 2 ≤ wr.heap.size)
    (fun sv _ _ => (match sv with | .string t => t.size | _ => 0))
  case atStart =>
    refine ⟨0, s, rfl, rfl, by omega, by omega, Lib.hid (by simp), ?_, ?_, ?_, by simp⟩
    · exact (Blk.new w 130 (c32 q8)).alloc _
    · have := Blk.new (w.alloc (.cells (c32 q8) 130)) 85 (c8 (List.replicate 32 0))
      rw [World.size_alloc] at this
      exact this
    · exact ((Below.refl _ _).alloc (Nat.le_refl _) _).alloc (by simp) _
  case round =>
    obtain ⟨k, t, rfl, rfl, hts, ht0, HT, hH, hO, hbel, hsz⟩ := hrel
    by_cases hlt : 64 < t.size
    · as_aux_lemma =>
      have hi0 : (64 : Int) < (t.size : Int) := by omega
      have hi1 : (64 : Int) ≤ (t.size : Int) := by omega
      have hw : IntKind.u64.wrap (64 * (k : Int) + 64) = 64 * (k : Int) + 64 := IntWalk.u64_in _ (by omega)
      have hTK := htake_any (afterS q8 (bl s) k) (t.extract 0 64) (64 * (k + 1)) false
      have hbt : bl (t.extract 0 64) = ((bl s).drop (64 * k)).take 64 := by rw [← HT.out]; exact dg_head t 64
      rw [hbt, show ((64 * (k + 1) : Nat) : Int) = 64 * (k : Int) + 64 by omega] at hTK
      have hsl : (afterS q8 (bl s) (k + 1)) = takeS (afterS q8 (bl s) k) (((bl s).drop (64 * k)).take 64) (64 * (k + 1)) false := rfl
      rw [← hsl] at hTK
      have HTK := Lib.hid (fun w => hTK w (afterS_length _ _ hh _) (by rw [ByteArray.size_extract]; omega) (by omega))
      clear hTK hsl hbt
      go_wp2_with fail
      refine hand_start (by kernel_rfl) ?_
      refine hand_take (i := 1) (.string t) rfl rfl (by kernel_rfl) (by kernel_rfl) (by kernel_rfl) (fun _ _ _ h => h) (by intro w; go_simp) ?_
      refine hand_take (i := 2) (.string (t.extract 0 64)) rfl rfl (by kernel_rfl) (by kernel_rfl) (by kernel_rfl) (fun _ _ _ h => h) (by intro w; go_simp) ?_
      refine hand_take (i := 3) (.int .u64 (64 * (k : Int) + 64)) rfl rfl (by kernel_rfl) (by kernel_rfl) (by kernel_rfl) (fun _ _ _ h => h) (by intro w; go_simp) ?_
      refine hand_take (i := 5) (.string t) rfl rfl (by kernel_rfl) (by kernel_rfl) (by kernel_rfl) (fun _ _ _ h => h) (by intro w; go_simp) ?_
      refine hand_take (i := 6) (.string (t.extract 64 t.size)) rfl rfl (by kernel_rfl) (by kernel_rfl) (by kernel_rfl) (fun _ _ _ h => h) (by intro w; go_simp) ?_
      refine hand_one (i := 0) (by kernel_rfl) rfl rfl (fun K hK => wp_load_row 130 _ rfl w.heap.size rfl 130 (c32 (afterS q8 (bl s) k)) (0, 0) _ hH.drew Try.underlying130 rfl (by rw [c32_size, afterS_length _ _ hh]; kernel_rfl) (hK _ _ ?_))
      refine hand_one (i := 4) (by kernel_rfl) rfl rfl (fun K hK => ?_)
      go_simp
      refine (HTK.out _).mono ?_
      rintro e w2 ⟨rfl, hb2⟩
      refine hK _ _ ?_
      clear hK K
      have jH := hH.drew.below hb2 hH.lt
      have jO := hO.drew.below hb2 hO.lt
      have jb := hbel.drew.trans (hb2.mono (by simp; omega))
      have jsz : w.heap.size + 2 ≤ w2.heap.size := Nat.le_trans hsz hb2.size
      refine hand_one (i := 7) (by kernel_rfl) rfl rfl (fun K hK => wp_store_row 130 _ _ rfl w.heap.size (c32 (afterS q8 (bl s) (k + 1))) rfl rfl 130 (c32 (afterS q8 (bl s) k)) jH (by rw [c32_size, afterS_length _ _ hh]; kernel_rfl) (by rw [c32_size, c32_size, afterS_length _ _ hh, afterS_length _ _ hh]) (c32_all _) (hK _ _ ?_))
      refine hand_one (i := 8) (by kernel_rfl) rfl rfl (fun K hK => ?_)
      go_simp
      refine hK _ _ ?_
      clear hK K
      refine wpAny_done (by kernel_rfl) ?_ _
      have nH := jH.row (c32 (afterS q8 (bl s) (k + 1)))
      have nO := jO.rowOf (k := w.heap.size) (by simp) (c32 (afterS q8 (bl s) (k + 1)))
      have nb := below_setRow jb (Nat.le_refl _) (c32 (afterS q8 (bl s) (k + 1)))
      have HT2 : Hid (bl (t.extract 64 t.size) = (bl s).drop (64 * (k + 1))) := Lib.hid (by
        rw [dg_tail, HT.out, List.drop_drop]; congr 1)
      have hz : (t.extract 64 t.size).size = t.size - 64 := by rw [ByteArray.size_extract]; omega
      go_wp2_with fail
      go_roundw
      case rel => exact ⟨k + 1, t.extract 64 t.size, rfl, by go_num, by rw [hz]; omega, by rw [hz]; omega, HT2, nH, nO, nb, by simpa using jsz⟩
      case measure => show (t.extract 64 t.size).size < t.size; rw [hz]; omega
    · have hk : (s.size - 1) / 64 = k := by omega
      have hl : (bl s).length = s.size := dg_len s
      have hi0 : ¬ (64 : Int) < (t.size : Int) := by omega
      have hw1 : IntKind.u64.wrap (t.size : Int) = (t.size : Int) := IntWalk.u64_in _ (by omega)
      have hw2 : IntKind.u64.wrap (64 * (k : Int) + (t.size : Int)) = 64 * (k : Int) + (t.size : Int) := IntWalk.u64_in _ (by omega)
      have hw3 : IntKind.i64.wrap (64 - (t.size : Int)) = 64 - (t.size : Int) := IntWalk.i64_in _ (by omega)
      have hcat : ¬ 9223372036854775807 < t.size + (zeros (64 - t.size)).size := by rw [zeros_size]; omega
      have HR : Hid (∀ w, Calls Try.prog 88 #[.string ⟨#[0]⟩, .int .i64 (64 - (t.size : Int))] w fun e w' => e = .returned (.string (zeros (64 - t.size))) ∧ Below w.heap.size w w') := Lib.hid fun w => by
        have := repeat_zeros (64 - t.size) w (by omega)
        rw [show ((64 - t.size : Nat) : Int) = 64 - (t.size : Int) by omega] at this
        exact this
      obtain ⟨L8, hL8⟩ : ∃ L8, lastS q8 (bl s) = L8 := ⟨_, rfl⟩
      have hLl : L8.length = 8 := by rw [← hL8, lastS_length]
      have HTK : Hid (∀ w, Calls Try.prog 113 #[.agg (c32 (afterS q8 (bl s) k)), .string (t ++ zeros (64 - t.size)), .int .u64 (64 * (k : Int) + (t.size : Int)), .bool true] w fun e w' => e = .returned (v32 L8) ∧ Below w.heap.size w w') := Lib.hid fun w => by
        have h1 := htake_any (afterS q8 (bl s) k) (t ++ zeros (64 - t.size)) s.size true w (afterS_length _ _ hh _) (by rw [ByteArray.size_append, zeros_size]; omega) (by omega)
        rw [dg_cat, bl_zeros, HT.out, show (s.size : Int) = 64 * (k : Int) + (t.size : Int) by omega] at h1
        rw [← hL8, lastS, hl, hk, show s.size - 64 * k = t.size by omega]
        exact h1
      have HD : Hid (digestS q8 (bl s) = outS L8) := Lib.hid (by rw [digestS, hL8])
      clear hL8 HT hk hl
      generalize hA : afterS q8 (bl s) k = A8 at *
      have hAl : A8.length = 8 := by rw [← hA, afterS_length _ _ hh]
      clear hA
      go_wp2_with fail
      refine hand_start (by kernel_rfl) ?_
      refine hand_take (i := 1) (.string t) rfl rfl (by kernel_rfl) (by kernel_rfl) (by kernel_rfl) (fun _ _ _ h => h) (by intro w; go_simp) ?_
      refine hand_take (i := 2) (.string t) rfl rfl (by kernel_rfl) (by kernel_rfl) (by kernel_rfl) (fun _ _ _ h => h) (by intro w; go_simp) ?_
      refine hand_take (i := 3) (.int .i64 (t.size : Int)) rfl rfl (by kernel_rfl) (by kernel_rfl) (by kernel_rfl) (fun _ _ _ h => h) (by intro w; go_simp) ?_
      refine hand_take (i := 4) (.int .i64 (64 - (t.size : Int))) rfl rfl (by kernel_rfl) (by kernel_rfl) (by kernel_rfl) (fun _ _ _ h => h) (by intro w; go_simp) ?_
      refine hand_take (i := 7) (.int .u64 (64 * (k : Int) + (t.size : Int))) rfl rfl (by kernel_rfl) (by kernel_rfl) (by kernel_rfl) (fun _ _ _ h => h) (by intro w; go_simp) ?_
      have hi8 : (Try.prog.info? 130).map (·.size) = some (c32 A8).size := by rw [c32_size, hAl]; kernel_rfl
      have hi9 : (Try.prog.info? 130).map (·.size) = some (c32 L8).size := by rw [c32_size, hLl]; kernel_rfl
      refine hand_two (i := 0) (j := 5) (by kernel_rfl) rfl rfl rfl rfl (fun K hK => wp_load_row 130 _ rfl w.heap.size rfl 130 (c32 A8) (0, 0) _ hH.drew Try.underlying130 rfl hi8 (hK _ _ ?_)) (fun K hK => ?_)
      rotate_left
      · go_simp
        refine (HR.out _).mono ?_
        rintro e w2 ⟨rfl, hb2⟩
        refine hK _ _ ?_
        clear hK K
        refine hand_take (i := 6) (.string (t ++ zeros (64 - t.size))) rfl rfl (by kernel_rfl) (by kernel_rfl) (by kernel_rfl) (fun _ _ _ h => h) (by intro w; go_simp) ?_
        have jH := hH.drew.below hb2 hH.lt
        have jO := hO.drew.below hb2 hO.lt
        have jb := hbel.drew.trans (hb2.mono (by simp; omega))
        have jsz : w.heap.size + 2 ≤ w2.heap.size := Nat.le_trans hsz hb2.size
        refine hand_one (i := 0) (by kernel_rfl) rfl rfl (fun K hK => wp_load_row 130 _ rfl w.heap.size rfl 130 (c32 A8) (0, 0) _ jH Try.underlying130 rfl hi8 (hK _ _ ?_))
        clear hb2 hH hO hbel hsz HR
        as_aux_lemma =>
          refine hand_one (i := 8) (by kernel_rfl) rfl rfl (fun K hK => ?_)
          go_simp
          refine (HTK.out _).mono ?_
          rintro e w3 ⟨rfl, hb3⟩
          refine hK _ _ ?_
          clear hK K
          have kH := (jH.below hb3 jH.lt).row (c32 L8)
          have kO := (jO.below hb3 jO.lt).rowOf (k := w.heap.size) (by simp) (c32 L8)
          have kb := below_setRow (jb.trans (hb3.mono (by omega))) (Nat.le_refl _) (c32 L8)
          have ksz : w.heap.size + 2 ≤ (w3.setRow w.heap.size (c32 L8)).heap.size := by rw [size_setRow]; exact Nat.le_trans jsz hb3.size
          refine hand_one (i := 9) (by kernel_rfl) rfl rfl (fun K hK => wp_store_row 130 _ _ rfl w.heap.size (c32 L8) rfl rfl 130 (c32 A8) (jH.below hb3 jH.lt) hi9 (by rw [c32_size, c32_size, hAl, hLl]) (c32_all _) (hK _ _ ?_))
          refine wpAny_done (by kernel_rfl) ?_ _
          clear jH jO jb jsz hb3 HTK hi8
          generalize w3.setRow w.heap.size (c32 L8) = W at *
          have lH := kH.alloc (.cells (c8 (List.replicate 32 0)) 85)
          have lO := kO.alloc (.cells (c8 (List.replicate 32 0)) 85)
          have lG := Blk.new W 85 (c8 (List.replicate 32 0))
          have lb := kb.alloc (by omega) (.cells (c8 (List.replicate 32 0)) 85)
          clear kH kO kb
          go_wp2_with (refine wpList_load_row rfl 130 _ rfl w.heap.size rfl 130 (c32 L8) (0, 0) _ lH Try.underlying130 rfl hi9 ?_)
          have hne : W.heap.size ≠ w.heap.size + 1 := by omega
          have hgl : (w.heap.size + 1) < W.heap.size := by omega
          have hOl := outS_length L8
          go_loopw [37] (fun i wr => ∃ k : Nat, i = .int .i64 k ∧ k ≤ 8 ∧ Blk wr W.heap.size 85 (c8 (part8 (outS L8) 32 (4 * k))) ∧ Blk wr (w.heap.size + 1) 85 (c8 (List.replicate 32 0)) ∧ Below w.heap.size w wr)
            (fun i _ => 8 - (intOf i).toNat)
          case atStart => exact ⟨0, rfl, by omega, by rw [part8_zero]; exact lG, lO, lb⟩
          case round =>
            clear lH lO lG lb
            obtain ⟨k, rfl, hk, mG, mO, mb⟩ := hrel
            by_cases hlt : k < 8
            · as_aux_lemma =>
              have i1 : (0 : Int) ≤ (k : Int) := by omega
              have i2 : (k : Int) < 8 := by omega
              have hix := index_word L8 k hlt hLl
              go_wp2_with fail
              go_loopw [41] (fun i wr => ∃ j : Nat, i = .int .i64 j ∧ j ≤ 4 ∧ Blk wr W.heap.size 85 (c8 (part8 (outS L8) 32 (4 * k + j))) ∧ Blk wr (w.heap.size + 1) 85 (c8 (List.replicate 32 0)) ∧ Below w.heap.size w wr)
                (fun i _ => 4 - (intOf i).toNat)
              case atStart => exact ⟨0, rfl, by omega, mG, mO, mb⟩
              case round =>
                clear mG mO mb
                obtain ⟨j, rfl, hj, mG, mO, mb⟩ := hrel
                by_cases hjt : j < 4
                · as_aux_lemma =>
                  have j1 : (0 : Int) ≤ (j : Int) := by omega
                  have j2 : (j : Int) < 4 := by omega
                  have hf := mG.frozen (4 * k + j)
                  have hc := (mG.cell (4 * k + j)).trans (c8_at _ _ (by rw [part8_length _ _ _ hOl (by omega)]; omega))
                  have u1 : IntKind.i64.wrap (4 * (k : Int)) = 4 * (k : Int) := IntWalk.i64_in _ (by omega)
                  have u2 : IntKind.i64.wrap (4 * (k : Int) + (j : Int)) = 4 * (k : Int) + (j : Int) := IntWalk.i64_in _ (by omega)
                  have u3 : IntKind.i64.wrap (8 * (j : Int)) = 8 * (j : Int) := IntWalk.i64_in _ (by omega)
                  have u4 : (0 : Int) ≤ 4 * (k : Int) + (j : Int) := by omega
                  have u5 : 4 * (k : Int) + (j : Int) < 32 := by omega
                  have u6 : (0 : Int) ≤ 8 * (j : Int) := by omega
                  have u7 : (4 * (k : Int) + (j : Int)).toNat = 4 * k + j := by omega
                  have u8 : (8 * (j : Int)).toNat = 8 * j := by omega
                  have nG := mG.put (4 * k + j) (.int .u8 (at8 (outS L8) (4 * k + j)).toNat)
                  rw [c8_set, part8_succ _ _ _ hOl (by omega)] at nG
                  have hv := out_byte L8 k j hlt hjt
                  go_wp2
                  go_roundw
                  case rel => exact ⟨j + 1, by go_num, by omega, nG, mO.far (by simp; omega) _, mb.setCell (by simp; omega) _⟩
                  case measure => simp [intOf]; omega
                · have hj4 : j = 4 := by omega
                  have hj5 : ¬ (j : Int) < 4 := by omega
                  rw [hj4] at mG
                  clear hj4 hjt hj
                  go_wp2_with fail
                  go_roundw
                  case rel => exact ⟨k + 1, by go_num, by omega, mG, mO, mb⟩
                  case measure => simp [intOf]; omega
            · as_aux_lemma =>
              have hk8 : k = 8 := by omega
              have hk9 : ¬ (k : Int) < 8 := by omega
              rw [hk8, part8_all _ _ hOl] at mG
              clear hk8 hlt hk
              have hid : (Try.prog.info? 85).map (·.size) = some (c8 (outS L8)).size := by rw [c8_size, hOl]; kernel_rfl
              have nR := mO.row (c8 (outS L8))
              go_wp2_with (first
                | refine wpList_load_row rfl 85 _ rfl W.heap.size rfl 85 (c8 (outS L8)) (0, 0) _ mG Try.underlying85 rfl hid ?_
                | refine wpList_store_rowTo rfl 85 _ _ rfl rfl (w.heap.size + 1) (c8 (outS L8)) rfl rfl 85 (c8 (List.replicate 32 0)) mO hid (by rw [c8_size, c8_size, hOl]; rfl) (c8_one _) ?_)
              refine bodyPost_ret (v := .agg (c8 (outS L8))) ?_ rfl ?_
              · exact results_cell_row Try.results87 _ _ (w.heap.size + 1) 85 (c8 (outS L8)) (0, 0) _ rfl nR Try.underlying85 rfl hid
              exact ⟨by rw [HD.out], below_setRow mb (by omega) _⟩
      · refine hand_one (i := 5) (by kernel_rfl) rfl rfl (fun K hK => ?_)
        go_simp
        refine (HR.out _).mono ?_
        rintro e w2 ⟨rfl, hb2⟩
        refine hK _ _ ?_
        clear hK K
        refine hand_take (i := 6) (.string (t ++ zeros (64 - t.size))) rfl rfl (by kernel_rfl) (by kernel_rfl) (by kernel_rfl) (fun _ _ _ h => h) (by intro w; go_simp) ?_
        have jH := hH.drew.below hb2 hH.lt
        have jO := hO.drew.below hb2 hO.lt
        have jb := hbel.drew.trans (hb2.mono (by simp; omega))
        have jsz : w.heap.size + 2 ≤ w2.heap.size := Nat.le_trans hsz hb2.size
        clear hb2 hH hO hbel hsz HR
        as_aux_lemma =>
          refine hand_one (i := 8) (by kernel_rfl) rfl rfl (fun K hK => ?_)
          go_simp
          refine (HTK.out _).mono ?_
          rintro e w3 ⟨rfl, hb3⟩
          refine hK _ _ ?_
          clear hK K
          have kH := (jH.below hb3 jH.lt).row (c32 L8)
          have kO := (jO.below hb3 jO.lt).rowOf (k := w.heap.size) (by simp) (c32 L8)
          have kb := below_setRow (jb.trans (hb3.mono (by omega))) (Nat.le_refl _) (c32 L8)
          have ksz : w.heap.size + 2 ≤ (w3.setRow w.heap.size (c32 L8)).heap.size := by rw [size_setRow]; exact Nat.le_trans jsz hb3.size
          refine hand_one (i := 9) (by kernel_rfl) rfl rfl (fun K hK => wp_store_row 130 _ _ rfl w.heap.size (c32 L8) rfl rfl 130 (c32 A8) (jH.below hb3 jH.lt) hi9 (by rw [c32_size, c32_size, hAl, hLl]) (c32_all _) (hK _ _ ?_))
          refine wpAny_done (by kernel_rfl) ?_ _
          clear jH jO jb jsz hb3 HTK hi8
          generalize w3.setRow w.heap.size (c32 L8) = W at *
          have lH := kH.alloc (.cells (c8 (List.replicate 32 0)) 85)
          have lO := kO.alloc (.cells (c8 (List.replicate 32 0)) 85)
          have lG := Blk.new W 85 (c8 (List.replicate 32 0))
          have lb := kb.alloc (by omega) (.cells (c8 (List.replicate 32 0)) 85)
          clear kH kO kb
          go_wp2_with (refine wpList_load_row rfl 130 _ rfl w.heap.size rfl 130 (c32 L8) (0, 0) _ lH Try.underlying130 rfl hi9 ?_)
          have hne : W.heap.size ≠ w.heap.size + 1 := by omega
          have hgl : (w.heap.size + 1) < W.heap.size := by omega
          have hOl := outS_length L8
          go_loopw [37] (fun i wr => ∃ k : Nat, i = .int .i64 k ∧ k ≤ 8 ∧ Blk wr W.heap.size 85 (c8 (part8 (outS L8) 32 (4 * k))) ∧ Blk wr (w.heap.size + 1) 85 (c8 (List.replicate 32 0)) ∧ Below w.heap.size w wr)
            (fun i _ => 8 - (intOf i).toNat)
          case atStart => exact ⟨0, rfl, by omega, by rw [part8_zero]; exact lG, lO, lb⟩
          case round =>
            clear lH lO lG lb
            obtain ⟨k, rfl, hk, mG, mO, mb⟩ := hrel
            by_cases hlt : k < 8
            · as_aux_lemma =>
              have i1 : (0 : Int) ≤ (k : Int) := by omega
              have i2 : (k : Int) < 8 := by omega
              have hix := index_word L8 k hlt hLl
              go_wp2_with fail
              go_loopw [41] (fun i wr => ∃ j : Nat, i = .int .i64 j ∧ j ≤ 4 ∧ Blk wr W.heap.size 85 (c8 (part8 (outS L8) 32 (4 * k + j))) ∧ Blk wr (w.heap.size + 1) 85 (c8 (List.replicate 32 0)) ∧ Below w.heap.size w wr)
                (fun i _ => 4 - (intOf i).toNat)
              case atStart => exact ⟨0, rfl, by omega, mG, mO, mb⟩
              case round =>
                clear mG mO mb
                obtain ⟨j, rfl, hj, mG, mO, mb⟩ := hrel
                by_cases hjt : j < 4
                · as_aux_lemma =>
                  have j1 : (0 : Int) ≤ (j : Int) := by omega
                  have j2 : (j : Int) < 4 := by omega
                  have hf := mG.frozen (4 * k + j)
                  have hc := (mG.cell (4 * k + j)).trans (c8_at _ _ (by rw [part8_length _ _ _ hOl (by omega)]; omega))
                  have u1 : IntKind.i64.wrap (4 * (k : Int)) = 4 * (k : Int) := IntWalk.i64_in _ (by omega)
                  have u2 : IntKind.i64.wrap (4 * (k : Int) + (j : Int)) = 4 * (k : Int) + (j : Int) := IntWalk.i64_in _ (by omega)
                  have u3 : IntKind.i64.wrap (8 * (j : Int)) = 8 * (j : Int) := IntWalk.i64_in _ (by omega)
                  have u4 : (0 : Int) ≤ 4 * (k : Int) + (j : Int) := by omega
                  have u5 : 4 * (k : Int) + (j : Int) < 32 := by omega
                  have u6 : (0 : Int) ≤ 8 * (j : Int) := by omega
                  have u7 : (4 * (k : Int) + (j : Int)).toNat = 4 * k + j := by omega
                  have u8 : (8 * (j : Int)).toNat = 8 * j := by omega
                  have nG := mG.put (4 * k + j) (.int .u8 (at8 (outS L8) (4 * k + j)).toNat)
                  rw [c8_set, part8_succ _ _ _ hOl (by omega)] at nG
                  have hv := out_byte L8 k j hlt hjt
                  go_wp2
                  go_roundw
                  case rel => exact ⟨j + 1, by go_num, by omega, nG, mO.far (by simp; omega) _, mb.setCell (by simp; omega) _⟩
                  case measure => simp [intOf]; omega
                · have hj4 : j = 4 := by omega
                  have hj5 : ¬ (j : Int) < 4 := by omega
                  rw [hj4] at mG
                  clear hj4 hjt hj
                  go_wp2_with fail
                  go_roundw
                  case rel => exact ⟨k + 1, by go_num, by omega, mG, mO, mb⟩
                  case measure => simp [intOf]; omega
            · as_aux_lemma =>
              have hk8 : k = 8 := by omega
              have hk9 : ¬ (k : Int) < 8 := by omega
              rw [hk8, part8_all _ _ hOl] at mG
              clear hk8 hlt hk
              have hid : (Try.prog.info? 85).map (·.size) = some (c8 (outS L8)).size := by rw [c8_size, hOl]; kernel_rfl
              have nR := mO.row (c8 (outS L8))
              go_wp2_with (first
                | refine wpList_load_row rfl 85 _ rfl W.heap.size rfl 85 (c8 (outS L8)) (0, 0) _ mG Try.underlying85 rfl hid ?_
                | refine wpList_store_rowTo rfl 85 _ _ rfl rfl (w.heap.size + 1) (c8 (outS L8)) rfl rfl 85 (c8 (List.replicate 32 0)) mO hid (by rw [c8_size, c8_size, hOl]; rfl) (c8_one _) ?_)
              refine bodyPost_ret (v := .agg (c8 (outS L8))) ?_ rfl ?_
              · exact results_cell_row Try.results87 _ _ (w.heap.size + 1) 85 (c8 (outS L8)) (0, 0) _ rfl nR Try.underlying85 rfl hid
              exact ⟨by rw [HD.out], below_setRow mb (by omega) _⟩
end Go.Proofs.Ytncoghoeeefjhaa
