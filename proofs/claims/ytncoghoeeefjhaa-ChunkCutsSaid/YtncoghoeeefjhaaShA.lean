/- share.Split walked. Conditions: a secret of 32 bytes, 3 to 255 shares, 64 bytes of noise. -/
import Derived.Test.YtncoghoeeefjhaaGfB
import Derived.Test.YtncoghoeeefjhaaDigS
import Derived.Test.YtncoghoeeefjhaaHand
import Derived.Great.BuildSlice
import Derived.Laws.MakeOwn
namespace Go.Proofs.Ytncoghoeeefjhaa
open Go.RowKit

/-- the bytes of so many shares, one behind the other: each its place, then its 32 bytes -/
def shareB (s no : List UInt8) (m : Nat) : UInt8 :=
  if m % 33 = 0 then UInt8.ofNat (m / 33 + 1) else evS [at8 s (m % 33 - 1), at8 no (m % 33 - 1), at8 no (32 + (m % 33 - 1))] (UInt8.ofNat (m / 33 + 1))
def sharesL (s no : List UInt8) (n : Nat) : List UInt8 := (List.range (33 * n)).map (shareB s no)
theorem sharesL_length (s no : List UInt8) (n : Nat) : (sharesL s no n).length = 33 * n := by simp [sharesL]
theorem sharesL_at (s no : List UInt8) (n m : Nat) (h : m < 33 * n) : at8 (sharesL s no n) m = shareB s no m := by
  unfold at8 sharesL
  rw [List.getD_eq_getElem?_getD, List.getElem?_map, List.getElem?_range h]
  rfl
theorem shareB_x (s no : List UInt8) (k : Nat) : shareB s no (k * 33) = UInt8.ofNat (k + 1) := by
  unfold shareB
  rw [if_pos (by omega), show k * 33 / 33 = k by omega]
theorem shareB_d (s no : List UInt8) (k i : Nat) (hi : i < 32) : shareB s no (k * 33 + 1 + i) = evS [at8 s i, at8 no i, at8 no (32 + i)] (UInt8.ofNat (k + 1)) := by
  unfold shareB
  rw [if_neg (by omega), show (k * 33 + 1 + i) / 33 = k by omega, show (k * 33 + 1 + i) % 33 - 1 = i by omega]
theorem index_key (L : List UInt8) (k : Nat) (hk : k < 32) (hL : L.length = 32) (w : World) : (Instr.index 36 (.agg (c8 L)) (.int .i64 (k : Int))).run Try.prog w = .ok (.int .u8 (at8 L k).toNat) w := by
  have h1 := c8_at L k (by omega)
  simp [Instr.index, asIntOf, go_sem, part, hk, h1]
theorem infoShare : (Try.prog.info? 63).map (fun i => (i.zero, i.size, i.bytes)) = some (some (.agg (c8 (List.replicate 33 0))), 33, 33) := by kernel_rfl
theorem made_shares (n : Nat) : madeCells (c8 (List.replicate 33 0)) n = c8 (List.replicate n 0) := by
  have h : ∀ i, (c8 (List.replicate 33 0))[i % (c8 (List.replicate 33 0)).size]! = Value.int .u8 0 := fun i => by
    have hs : (c8 (List.replicate 33 0)).size = 33 := by rw [c8_size, List.length_replicate]
    rw [hs]
    have hl : i % 33 < (List.replicate 33 (0 : UInt8)).length := by rw [List.length_replicate]; omega
    have h1 := c8_at (List.replicate 33 0) (i % 33) hl
    have h2 : at8 (List.replicate 33 0) (i % 33) = 0 := by
      rw [at8, List.getD_eq_getElem?_getD, List.getElem?_eq_getElem hl, List.getElem_replicate]; rfl
    rw [h2] at h1
    rw [getElem!_def, h1]
    rfl
  unfold madeCells
  rw [show (fun x => (c8 (List.replicate 33 0))[x % (c8 (List.replicate 33 0)).size]!) = fun _ => Value.int .u8 0 from funext h]
  apply Array.ext
  · simp [c8]
  · intro i h1 h2
    simp [c8]
theorem Blk.rowed {w : World} {g : Nat} {t : TypeId} {cs : Array Value} (h : Blk w g t cs) (ds : Array Value) : Blk (w.setRow g ds) g t ds := setRow_heap w g _ _ t _ h
theorem make_shares (n : Nat) (hn : n ≤ 255) (w : World) : (Instr.makeSlice 40 (.int .i64 (n : Int)) (.int .i64 (n : Int))).run Try.prog w =
    .ok (.slice (some ⟨w.heap.size, 0, none⟩) n n) (w.alloc (.cells (c8 (List.replicate (33 * n) 0)) 63)) := by
  obtain ⟨i0, hi, hz0, hz1, hz2⟩ := info_parts infoShare
  have h := run_makeSlice (P := Try.prog) w 40 63 i0 _ Try.underlying40 hi hz0 .i64 .i64 n n (by omega) (Int.le_refl _) (by rw [hz1]; omega) (by rw [hz2]; omega) (by omega)
  rw [h, hz1]
  simp only [Int.toNat_natCast]
  rw [show (Value.agg (c8 (List.replicate 33 0))).cells = c8 (List.replicate 33 0) from rfl, made_shares, Nat.mul_comm n 33]

set_option maxRecDepth 100000 in
set_option maxHeartbeats 8000000 in
theorem split_any (s : List UInt8) (n : Nat) (noise : ByteArray) (w : World) (hs : s.length = 32) (hn3 : 3 ≤ n) (hn : n ≤ 255) (hno : noise.size = 64) :
    Calls Try.prog 51 #[.agg (c8 s), .int .i64 n, .string noise] w fun e w' => ∃ G, e = .returned (.tuple #[.slice (some ⟨G, 0, none⟩) n n, .int .i64 0]) ∧ w.heap.size ≤ G ∧
      Blk w' G 63 (c8 (sharesL s (bl noise) n)) ∧ Below w.heap.size w w' := by
  have g1 : ¬ (n : Int) < 3 := by omega
  have g2 : ¬ (255 : Int) < (n : Int) := by omega
  have hmk := make_shares n hn
  have hFl := sharesL_length s (bl noise) n
  obtain ⟨F, hF⟩ : ∃ F, sharesL s (bl noise) n = F := ⟨_, rfl⟩
  have HFX : Hid (∀ k, k < n → at8 F (k * 33) = UInt8.ofNat (k + 1)) := Lib.hid fun k hk => by rw [← hF, sharesL_at _ _ _ _ (by omega), shareB_x]
  have HFD : Hid (∀ k i, k < n → i < 32 → at8 F (k * 33 + 1 + i) = evS [at8 s i, at8 (bl noise) i, at8 (bl noise) (32 + i)] (UInt8.ofNat (k + 1))) := Lib.hid fun k i hk hi => by
    rw [← hF, sharesL_at _ _ _ _ (by omega), shareB_d _ _ _ _ hi]
  rw [hF] at hFl ⊢
  clear hF
  have hS0 := (Blk.new w 36 (c8 s)).alloc (.cells (c8 (List.replicate (33 * n) 0)) 63)
  have hG0 := Blk.new (w.alloc (.cells (c8 s) 36)) 63 (c8 (List.replicate (33 * n) 0))
  rw [World.size_alloc] at hG0
  have hb0 := ((Below.refl w.heap.size w).alloc (Nat.le_refl _) (.cells (c8 s) 36)).alloc (by simp) (.cells (c8 (List.replicate (33 * n) 0)) 63)
  go_enter Try.func51, Try.ntmps51
  go_wp2_with fail
  go_loopw [27] (fun i wr => ∃ k : Nat, i = .int .i64 k ∧ k ≤ n ∧ Blk wr w.heap.size 36 (c8 s) ∧ Blk wr (w.heap.size + 1) 63 (c8 (part8 F (33 * n) (k * 33))) ∧ Below w.heap.size w wr)
    (fun i _ => n - (intOf i).toNat)
  case atStart => exact ⟨0, rfl, Nat.zero_le _, hS0, by rw [part8_zero]; exact hG0, hb0⟩
  case round =>
    clear hS0 hG0 hb0 hmk
    obtain ⟨k, rfl, hk, hS, hG, hb⟩ := hrel
    by_cases hlt : k < n
    · have i0 : (0 : Int) ≤ (k : Int) := by omega
      have i1 : (k : Int) < (n : Int) := by omega
      have w1 : IntKind.i64.wrap ((k : Int) + 1) = (k : Int) + 1 := IntWalk.i64_in _ (by omega)
      have w2 : IntKind.u8.wrap ((k : Int) + 1) = ((at8 F (k * 33)).toNat : Int) := by
        rw [HFX.out k hlt, UInt8.toNat_ofNat', IntWalk.u8_in _ (by omega)]; omega
      have hid : (Try.prog.info? 36).map (·.size) = some (c8 s).size := by rw [c8_size, hs]; kernel_rfl
      have hf := hG.frozen (k * 33)
      have hc := (hG.cell (k * 33)).trans (c8_at _ _ (by rw [part8_length _ _ _ hFl (by omega)]; omega))
      have nG := hG.put (k * 33) (.int .u8 (at8 F (k * 33)).toNat)
      rw [c8_set, part8_succ _ _ _ hFl (by omega)] at nG
      have nS := hS.far (p := ⟨w.heap.size + 1, k * 33, none⟩) (show w.heap.size ≠ w.heap.size + 1 by omega) (.int .u8 (at8 F (k * 33)).toNat)
      have nb := hb.setCell (p := ⟨w.heap.size + 1, k * 33, none⟩) (show w.heap.size ≤ w.heap.size + 1 by omega) (.int .u8 (at8 F (k * 33)).toNat)
      go_wp2_with (refine wpList_load_row rfl 36 _ rfl w.heap.size rfl 36 (c8 s) (0, 0) _ nS Try.underlying36 rfl hid ?_)
      clear hS hG hb hf hc
      go_loopw [38] (fun iv wr => ∃ i : Nat, iv = .int .i64 i ∧ i ≤ 32 ∧ Blk wr w.heap.size 36 (c8 s) ∧ Blk wr (w.heap.size + 1) 63 (c8 (part8 F (33 * n) (k * 33 + 1 + i))) ∧ Below w.heap.size w wr)
        (fun iv _ => 32 - (intOf iv).toNat)
      case atStart => exact ⟨0, rfl, by omega, nS, nG, nb⟩
      case round =>
        clear nS nG nb
        obtain ⟨i, rfl, hi, mS, mG, mb⟩ := hrel
        by_cases hit : i < 32
        · as_aux_lemma =>
            have j0 : (0 : Int) ≤ (i : Int) := by omega
            have j1 : (i : Int) < 32 := by omega
            have j2 : (i : Int) < 64 := by omega
            have j3 : (0 : Int) ≤ 32 + (i : Int) := by omega
            have j4 : 32 + (i : Int) < 64 := by omega
            have j5 : (32 + (i : Int)).toNat = 32 + i := by omega
            have w3 : IntKind.i64.wrap (32 + (i : Int)) = 32 + (i : Int) := IntWalk.i64_in _ (by omega)
            have hix := index_key s i hit hs
            have hn1 : ∀ h, noise[i]'h = at8 (bl noise) i := fun h => at8_get _ _ h
            have hn2 : ∀ h, noise[32 + i]'h = at8 (bl noise) (32 + i) := fun h => at8_get _ _ h
            have hX : at8 (part8 F (33 * n) (k * 33 + 1 + i)) (k * 33) = UInt8.ofNat (k + 1) := by
              rw [← HFX.out k hlt]
              simp only [at8, part8, List.getD_eq_getElem?_getD]
              rw [List.getElem?_append_left (by rw [List.length_take]; omega), List.getElem?_take_of_lt (by omega)]
            have cX := (mG.drew.cell (k * 33)).trans (c8_at _ _ (by rw [part8_length _ _ _ hFl (by omega)]; omega))
            rw [hX] at cX
            have HE : Hid (∀ (W : World) (g : Nat), Blk W g 5 #[.int .u8 (at8 s i).toNat, .int .u8 (at8 (bl noise) i).toNat, .int .u8 (at8 (bl noise) (32 + i)).toNat] →
                Calls Try.prog 79 #[.slice (some ⟨g, 0, none⟩) 3 3, .int .u8 (UInt8.ofNat (k + 1)).toNat] W fun e w' => e = .returned (.int .u8 (at8 F (k * 33 + 1 + i)).toNat) ∧ Below W.heap.size W w') := Lib.hid fun W g hW => by
              have h := eval_any (some ⟨g, 0, none⟩) 3 [at8 s i, at8 (bl noise) i, at8 (bl noise) (32 + i)] (UInt8.ofNat (k + 1)) W ⟨rfl, fun _ => ⟨⟨g, 0, none⟩, rfl, hW.lt, fun j u hj => by
                match j, hj with
                | 0, hj => injection hj with hj; subst hj; exact hW.cell 0
                | 1, hj => injection hj with hj; subst hj; exact hW.cell 1
                | 2, hj => injection hj with hj; subst hj; exact hW.cell 2⟩⟩ (by show 3 ≤ _; omega)
              rw [← HFD.out k i hlt hit] at h
              exact h
            clear hX
            generalize UInt8.ofNat (k + 1) = X at *
            go_wp2_with fail
            refine hand_start (by kernel_rfl) ?_
            refine hand_take (i := 0) (.slice (some ⟨w.heap.size + 1, 0, none⟩) n n) rfl rfl (by kernel_rfl) (by kernel_rfl) (by kernel_rfl) (fun _ _ _ h => h) (by intro w; go_simp) ?_
            go_simp
            refine hand_take (i := 1) (.int .i64 k) rfl rfl (by kernel_rfl) (by kernel_rfl) (by kernel_rfl) (fun _ _ _ h => h) (by intro w; go_simp) ?_
            go_simp
            refine hand_take (i := 2) (.int .i64 i) rfl rfl (by kernel_rfl) (by kernel_rfl) (by kernel_rfl) (fun _ _ _ h => h) (by intro w; go_simp) ?_
            go_simp
            refine hand_take (i := 3) (.int .u8 (at8 s i).toNat) rfl rfl (by kernel_rfl) (by kernel_rfl) (by kernel_rfl) (fun _ _ _ h => h) (by intro w; go_simp) ?_
            go_simp
            refine hand_take (i := 4) (.string noise) rfl rfl (by kernel_rfl) (by kernel_rfl) (by kernel_rfl) (fun _ _ _ h => h) (by intro w; go_simp) ?_
            go_simp
            refine hand_take (i := 5) (.int .i64 i) rfl rfl (by kernel_rfl) (by kernel_rfl) (by kernel_rfl) (fun _ _ _ h => h) (by intro w; go_simp) ?_
            go_simp
            refine hand_take (i := 6) (.int .u8 (at8 (bl noise) i).toNat) rfl rfl (by kernel_rfl) (by kernel_rfl) (by kernel_rfl) (fun _ _ _ h => h) (by intro w; go_simp) ?_
            go_simp
            refine hand_take (i := 7) (.string noise) rfl rfl (by kernel_rfl) (by kernel_rfl) (by kernel_rfl) (fun _ _ _ h => h) (by intro w; go_simp) ?_
            go_simp
            refine hand_take (i := 8) (.int .i64 i) rfl rfl (by kernel_rfl) (by kernel_rfl) (by kernel_rfl) (fun _ _ _ h => h) (by intro w; go_simp) ?_
            go_simp
            refine hand_take (i := 9) (.int .i64 (32 + (i : Int))) rfl rfl (by kernel_rfl) (by kernel_rfl) (by kernel_rfl) (fun _ _ _ h => h) (by intro w; go_simp) ?_
            go_simp
            refine hand_take (i := 10) (.int .u8 (at8 (bl noise) (32 + i)).toNat) rfl rfl (by kernel_rfl) (by kernel_rfl) (by kernel_rfl) (fun _ _ _ h => h) (by intro w; go_simp) ?_
            go_simp
            refine hand_take (i := 12) (.slice (some ⟨w.heap.size + 1, 0, none⟩) n n) rfl rfl (by kernel_rfl) (by kernel_rfl) (by kernel_rfl) (fun _ _ _ h => h) (by intro w; go_simp) ?_
            go_simp
            refine hand_take (i := 13) (.int .i64 k) rfl rfl (by kernel_rfl) (by kernel_rfl) (by kernel_rfl) (fun _ _ _ h => h) (by intro w; go_simp) ?_
            go_simp
            refine hand_take (i := 14) (.pointer (some ⟨w.heap.size + 1, k * 33, none⟩)) rfl rfl (by kernel_rfl) (by kernel_rfl) (by kernel_rfl) (fun _ _ _ h => h) (by intro w; go_simp) ?_
            go_simp
            refine hand_take (i := 15) (.pointer (some ⟨w.heap.size + 1, k * 33, none⟩)) rfl rfl (by kernel_rfl) (by kernel_rfl) (by kernel_rfl) (fun _ _ _ h => h) (by intro w; go_simp) ?_
            go_simp
            have cX2 := ((mG.alloc (.cells #[.int .u8 (at8 s i).toNat, .int .u8 (at8 (bl noise) i).toNat, .int .u8 (at8 (bl noise) (32 + i)).toNat] 5)).cell (k * 33)).trans ((mG.drew.cell (k * 33)).symm.trans cX)
            refine hand_take (i := 18) (.pointer (some ⟨w.heap.size + 1, k * 33, none⟩)) rfl rfl (by kernel_rfl) (by kernel_rfl) (by kernel_rfl) (fun _ _ _ h => h) (by intro w; go_simp) ?_
            go_simp
            refine hand_take (i := 19) (.pointer (some ⟨w.heap.size + 1, k * 33 + 1, none⟩)) rfl rfl (by kernel_rfl) (by kernel_rfl) (by kernel_rfl) (fun _ _ _ h => h) (by intro w; go_simp) ?_
            go_simp
            refine hand_two (i := 11) (j := 16) (by kernel_rfl) rfl rfl rfl rfl (fun K hK => ?_) (fun K hK => ?_)
            · go_simp
              refine hK _ _ ?_
              clear hK K
              refine hand_one (i := 16) (by kernel_rfl) rfl rfl (fun K hK => ?_)
              go_simp
              refine hK _ _ ?_
              clear hK K
              refine hand_one (i := 17) (by kernel_rfl) rfl rfl (fun K hK => ?_)
              go_simp
              refine (HE.out _ _ (Blk.new wr _ _).drew).mono ?_
              rintro e w2 ⟨rfl, hb2⟩
              refine hK _ _ ?_
              clear hK K
              have jS := ((mS.alloc (.cells #[.int .u8 (at8 s i).toNat, .int .u8 (at8 (bl noise) i).toNat, .int .u8 (at8 (bl noise) (32 + i)).toNat] 5)).drew.below hb2 (by have := mS.lt; simp; omega))
              have jG := ((mG.alloc (.cells #[.int .u8 (at8 s i).toNat, .int .u8 (at8 (bl noise) i).toNat, .int .u8 (at8 (bl noise) (32 + i)).toNat] 5)).drew.below hb2 (by have := mG.lt; simp; omega))
              have jb := ((mb.alloc (by have := mS.lt; omega) (.cells #[.int .u8 (at8 s i).toNat, .int .u8 (at8 (bl noise) i).toNat, .int .u8 (at8 (bl noise) (32 + i)).toNat] 5)).drew.trans (hb2.mono (by have := mS.lt; simp; omega)))
              have hc2 := (jG.cell (k * 33 + 1 + i)).trans (c8_at _ _ (by rw [part8_length _ _ _ hFl (by omega)]; omega))
              have hf2 := jG.frozen (k * 33 + 1 + i)
              have nG2 := jG.put (k * 33 + 1 + i) (.int .u8 (at8 F (k * 33 + 1 + i)).toNat)
              rw [c8_set, part8_succ _ _ _ hFl (by omega)] at nG2
              have nS2 := jS.far (p := ⟨w.heap.size + 1, k * 33 + 1 + i, none⟩) (show w.heap.size ≠ w.heap.size + 1 by omega) (.int .u8 (at8 F (k * 33 + 1 + i)).toNat)
              have nb2 := jb.setCell (p := ⟨w.heap.size + 1, k * 33 + 1 + i, none⟩) (show w.heap.size ≤ w.heap.size + 1 by omega) (.int .u8 (at8 F (k * 33 + 1 + i)).toNat)
              clear hb2 mS mG mb jS jG jb HE
              refine hand_take (i := 20) (.pointer (some ⟨w.heap.size + 1, k * 33 + 1 + i, none⟩)) rfl rfl (by kernel_rfl) (by kernel_rfl) (by kernel_rfl) (fun _ _ _ h => h) (by intro w; go_simp) ?_
              go_simp
              refine hand_one (i := 21) (by kernel_rfl) rfl rfl (fun K hK => ?_)
              go_simp
              refine hK _ _ ?_
              clear hK K
              refine wpAny_done (by kernel_rfl) ?_ _
              go_wp2_with fail
              go_roundw
              case rel => exact ⟨i + 1, by go_num, by omega, nS2, nG2, nb2⟩
              case measure => simp [intOf]; omega
            · go_simp
              refine hK _ _ ?_
              clear hK K
              refine hand_one (i := 11) (by kernel_rfl) rfl rfl (fun K hK => ?_)
              go_simp
              refine hK _ _ ?_
              clear hK K
              refine hand_one (i := 17) (by kernel_rfl) rfl rfl (fun K hK => ?_)
              go_simp
              refine (HE.out _ _ (Blk.new wr _ _).drew).mono ?_
              rintro e w2 ⟨rfl, hb2⟩
              refine hK _ _ ?_
              clear hK K
              have jS := ((mS.alloc (.cells #[.int .u8 (at8 s i).toNat, .int .u8 (at8 (bl noise) i).toNat, .int .u8 (at8 (bl noise) (32 + i)).toNat] 5)).drew.below hb2 (by have := mS.lt; simp; omega))
              have jG := ((mG.alloc (.cells #[.int .u8 (at8 s i).toNat, .int .u8 (at8 (bl noise) i).toNat, .int .u8 (at8 (bl noise) (32 + i)).toNat] 5)).drew.below hb2 (by have := mG.lt; simp; omega))
              have jb := ((mb.alloc (by have := mS.lt; omega) (.cells #[.int .u8 (at8 s i).toNat, .int .u8 (at8 (bl noise) i).toNat, .int .u8 (at8 (bl noise) (32 + i)).toNat] 5)).drew.trans (hb2.mono (by have := mS.lt; simp; omega)))
              have hc2 := (jG.cell (k * 33 + 1 + i)).trans (c8_at _ _ (by rw [part8_length _ _ _ hFl (by omega)]; omega))
              have hf2 := jG.frozen (k * 33 + 1 + i)
              have nG2 := jG.put (k * 33 + 1 + i) (.int .u8 (at8 F (k * 33 + 1 + i)).toNat)
              rw [c8_set, part8_succ _ _ _ hFl (by omega)] at nG2
              have nS2 := jS.far (p := ⟨w.heap.size + 1, k * 33 + 1 + i, none⟩) (show w.heap.size ≠ w.heap.size + 1 by omega) (.int .u8 (at8 F (k * 33 + 1 + i)).toNat)
              have nb2 := jb.setCell (p := ⟨w.heap.size + 1, k * 33 + 1 + i, none⟩) (show w.heap.size ≤ w.heap.size + 1 by omega) (.int .u8 (at8 F (k * 33 + 1 + i)).toNat)
              clear hb2 mS mG mb jS jG jb HE
              refine hand_take (i := 20) (.pointer (some ⟨w.heap.size + 1, k * 33 + 1 + i, none⟩)) rfl rfl (by kernel_rfl) (by kernel_rfl) (by kernel_rfl) (fun _ _ _ h => h) (by intro w; go_simp) ?_
              go_simp
              refine hand_one (i := 21) (by kernel_rfl) rfl rfl (fun K hK => ?_)
              go_simp
              refine hK _ _ ?_
              clear hK K
              refine wpAny_done (by kernel_rfl) ?_ _
              go_wp2_with fail
              go_roundw
              case rel => exact ⟨i + 1, by go_num, by omega, nS2, nG2, nb2⟩
              case measure => simp [intOf]; omega
        · as_aux_lemma =>
            have hi32 : i = 32 := by omega
            have hi33 : ¬ (i : Int) < 32 := by omega
            rw [hi32, show k * 33 + 1 + 32 = (k + 1) * 33 by omega] at mG
            clear hi32 hit hi
            go_wp2_with fail
            go_roundw
            case rel => exact ⟨k + 1, by go_num, by omega, mS, mG, mb⟩
            case measure => simp [intOf]; omega
    · as_aux_lemma =>
        have hkn : k = n := by omega
        have hkn' : ¬ (k : Int) < (n : Int) := by omega
        rw [hkn, Nat.mul_comm n 33, part8_all _ _ hFl] at hG
        clear hkn hlt hk
        go_wp2_with fail
        go_ret2
        exact ⟨w.heap.size + 1, rfl, by omega, hG, hb⟩
end Go.Proofs.Ytncoghoeeefjhaa
