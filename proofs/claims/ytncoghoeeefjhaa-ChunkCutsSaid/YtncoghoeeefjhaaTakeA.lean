/- hash.take walked. Conditions: eight numbers, a block of at least 64 bytes. -/
import Derived.Test.YtncoghoeeefjhaaTakeB
import Derived.Lib.Strings
import Derived.Lib.IndexBytes
import Derived.Laws.CopyOwn
import Derived.Laws.Tables
import Derived.Great.BuildSlice
namespace Go.Proofs.Ytncoghoeeefjhaa
open Go.RowKit
attribute [local go_sem] w_xor32

theorem m16_at (b : List UInt8) (k : Nat) (h : k < 16) : at32 (m16 b) k = wordS (b.drop (4 * k)) := by
  unfold m16 at32
  rw [List.getD_eq_getElem?_getD, List.getElem?_map, List.getElem?_range h]
  rfl

theorem Blk.row {w : World} {g : Nat} {t : TypeId} {cs : Array Value} (h : Blk w g t cs) (ds : Array Value) : Blk (w.setRow g ds) g t ds := setRow_heap w g _ _ t _ h
theorem Blk.rowOf {w : World} {g k : Nat} {t : TypeId} {cs : Array Value} (h : Blk w g t cs) (hk : g ≠ k) (ds : Array Value) : Blk (w.setRow k ds) g t cs := (setRow_other w k g ds hk).trans h
theorem c32_one (us : List UInt32) : ∀ v ∈ (c32 us).toList, v.oneCell' = true := by
  intro v hv
  simp [c32] at hv
  obtain ⟨x, _, rfl⟩ := hv
  rfl
/-- words copied over words -/
theorem wpList_copy_words {ops : Array Oper} {rest : List Oper} {o : Oper} {a : Act} {Q : Exit → Act → World → Prop} {w : World} (hgd : o.guard = none) (d s : Operand) (dT sT : TypeId)
    (ho : o.op = .call { callee := .builtin .copy, args := #[d, s], argTypes := #[dT, sT] }) (hu : Try.prog.underlying dT = some (.slice 80))
    (D off dLen dCap S sLen sCap : Nat) (hd : a.eval d = .slice (some ⟨D, off, none⟩) dLen dCap) (hs : a.eval s = .slice (some ⟨S, 0, none⟩) sLen sCap)
    (vs us : List UInt32) (T T' : TypeId) (hD : Blk w D T (c32 vs)) (hS : Blk w S T' (c32 us)) (hl : us.length = Nat.min sLen dLen) (hfit : off + us.length ≤ vs.length)
    (ds : List UInt32) (hds : vs.take off ++ (us ++ vs.drop (off + us.length)) = ds)
    (h : ∀ w', Blk w' D T (c32 ds) → (∀ g t cs, g ≠ D → Blk w g t cs → Blk w' g t cs) → (∀ B w0, B ≤ D → Below B w0 w → Below B w0 w') → wpList Try.prog ops Q rest (a.put o.dst (goInt us.length)) w') : wpList Try.prog ops Q (o :: rest) a w := by
  have hcl : (c32 us).toList.length = us.length := by simp [c32]
  refine wpList_copy_own hgd d s dT sT ho 80 hu (by kernel_rfl) D off dLen dCap ⟨S, 0, none⟩ sLen sCap hd hs (c32 vs) T hD (c32 us).toList (hcl.trans hl) ?_ (by rw [hcl, c32_size]; exact hfit) (c32_one us) ?_
  · intro j v hj
    have h1 := hS.cell j
    rw [← Array.getElem?_toList, hj] at h1
    have h2 : (⟨S, 0, none⟩ : Addr).add j = ⟨S, j, none⟩ := by
      unfold Addr.add
      split
      · rename_i e; subst e; rfl
      · simp
    rw [h2]; exact h1
  · rw [hcl]
    have e : ((c32 vs).toList.take off ++ ((c32 us).toList ++ (c32 vs).toList.drop (off + us.length))).toArray = c32 ds := by
      rw [← hds]
      simp [c32, List.map_take, List.map_drop]
    rw [e]
    exact h _ (hD.row _) (fun g t cs hg hb => hb.rowOf hg _) (fun B w0 hB hb => below_setRow hb hB _)

theorem w_not32 (x : UInt32) : bits .xor .u32 IntKind.u32.max (x.toNat : Int) = ((not32 x).toNat : Int) := by
  have e : IntKind.u32.max = (((0xffffffff : UInt32).toNat : Nat) : Int) := by decide
  rw [e, u32_bits_xor]
  congr 2
attribute [local go_sem] w_not32

set_option maxRecDepth 100000 in
set_option maxHeartbeats 16000000 in
theorem htake_any (q8 : List UInt32) (b : ByteArray) (n : Nat) (last : Bool) (w : World) (hh : q8.length = 8) (hb : 64 ≤ b.size) (_hn : n < 18446744073709551616) :
    Calls Try.prog 113 #[.agg (c32 q8), .string b, .int .u64 n, .bool last] w fun e w' => e = .returned (v32 (takeS q8 (bl b) n last)) ∧ Below w.heap.size w w' := by
  obtain ⟨m, hm⟩ : ∃ m, m16 (bl b) = m := ⟨_, rfl⟩
  obtain ⟨V0, hV0⟩ : ∃ V0, startS q8 n last = V0 := ⟨_, rfl⟩
  have hml : m.length = 16 := by rw [← hm, m16_length]
  have HVL : Hid (V0.length = 16) := Lib.hid (by rw [← hV0, startS_length _ _ _ hh])
  have HT : Hid (∀ V, roundsS m V0 10 = V → takeS q8 (bl b) n last = endS q8 V) := Lib.hid (fun V hv => by rw [takeS, hm, hV0, hv])
  have HW : Hid (∀ (k : Nat) (wr : World), k < 16 → Calls Try.prog 127 #[.string (b.extract (4 * k) b.size)] wr fun e w' => e = .returned (.int .u32 (at32 m k).toNat) ∧ w' = wr.drew) := Lib.hid (fun k wr hlt => by
    have hbw : bl (b.extract (4 * k) b.size) = (bl b).drop (4 * k) := Lib.extract_to_end b _
    have hwd := word_any (b.extract (4 * k) b.size) wr (by rw [ByteArray.size_extract]; omega)
    rw [hbw, ← m16_at (bl b) k hlt, hm] at hwd
    exact hwd)
  have HM := Lib.hid hm
  have HV0 := Lib.hid hV0
  clear hm hV0
  go_enter Try.func113, Try.ntmps113
  go_wp2
  go_loopw [17] (fun i wr => ∃ k : Nat, i = .int .i64 k ∧ k ≤ 16 ∧ Blk wr w.heap.size 130 (c32 q8) ∧ Blk wr (w.heap.size + 1) 130 (c32 (List.replicate 8 0)) ∧
      Blk wr (w.heap.size + 1 + 1) 168 (c32 (partS m 16 k)) ∧ Below w.heap.size w wr ∧ wr.heap.size = w.heap.size + 3)
    (fun i _ => 16 - (intOf i).toNat)
  case atStart =>
    refine ⟨0, rfl, by omega, ?_, ?_, ?_, ?_, by simp⟩
    · exact ((Blk.new w 130 (c32 q8)).alloc _).alloc _
    · have := (Blk.new (w.alloc (.cells (c32 q8) 130)) 130 (c32 (List.replicate 8 0))).alloc (.cells (c32 (List.replicate 16 0)) 168)
      rw [World.size_alloc] at this
      exact this
    · have := Blk.new ((w.alloc (.cells (c32 q8) 130)).alloc (.cells (c32 (List.replicate 8 0)) 130)) 168 (c32 (List.replicate 16 0))
      rw [World.size_alloc, World.size_alloc] at this
      exact this
    · exact (((Below.refl _ _).alloc (Nat.le_refl _) _).alloc (by simp) _).alloc (by simp; omega) _
  case round =>
    obtain ⟨k, rfl, hk, hH, hR, hM, hbel, hsz⟩ := hrel
    by_cases hlt : k < 16
    · as_aux_lemma =>
      have hk0 : (0 : Int) ≤ (k : Int) := by omega
      have hk1 : (k : Int) < 16 := by omega
      have hw : IntKind.i64.wrap (4 * (k : Int)) = 4 * (k : Int) := IntWalk.i64_in _ (by omega)
      have hs0 : (0 : Int) ≤ 4 * (k : Int) := by omega
      have hs1 : 4 * (k : Int) ≤ (b.size : Int) := by omega
      have hpl := partS_length m 16 k hml hk
      have hf := hM.drew.frozen k
      have hc := (hM.drew.cell k).trans (c32_at _ k (by omega))
      have hM2 := hM.drew.put k (.int .u32 (at32 m k).toNat)
      rw [c32_set, partS_succ _ 16 k hml hlt] at hM2
      have HM2 := Lib.hid hM2
      clear hM2
      go_wp2_with fail
      refine (HW.out k _ hlt).mono ?_
      rintro e w' ⟨rfl, rfl⟩
      go_wp2
      go_roundw
      case rel =>
        refine ⟨k + 1, by go_num, by omega, hH.drew.far (by simp; omega) _, hR.drew.far (by simp) _, HM2.out, hbel.drew.setCell (by simp; omega) _, by simpa [World.setCell] using hsz⟩
      case measure => simp [intOf]; omega
    · obtain rfl : k = 16 := by omega
      rw [partS_all _ 16 hml] at hM
      clear HW
      have hV0 := Blk.new wr 168 (c32 (List.replicate 16 0))
      rw [hsz] at hV0
      go_wp2_with fail
      refine (eight_any _).mono ?_
      rintro e w1 ⟨rfl, hb1⟩
      rw [eight_val]
      have hs1 : w.heap.size + 3 < w1.heap.size := by
        have h1 := hb1.size
        have h2 := hV0.lt
        exact Nat.lt_of_lt_of_le h2 h1
      have jH := (hH.alloc _).below hb1 (by simp; omega)
      have jR := (hR.alloc _).below hb1 (by simp; omega)
      have jM := (hM.alloc _).below hb1 (by simp; omega)
      have jV := hV0.below hb1 hV0.lt
      have jb := (hbel.alloc (by omega) _).trans (hb1.mono (by simp; omega))
      clear hV0 hb1 hH hR hM hbel
      go_wp2_with fail
      refine still_tail 2 (by kernel_rfl) (by kernel_rfl) ?_
      simp only [List.take_succ_cons, List.take_zero, List.drop_succ_cons, List.drop_zero]
      iterate 2 still_step
      refine wpStill_nil ?_
      have kH := (jH.alloc (.cells (c32 eightS) 130)).drew
      have kR := (jR.alloc (.cells (c32 eightS) 130)).drew
      have kM := (jM.alloc (.cells (c32 eightS) 130)).drew
      have kV := (jV.alloc (.cells (c32 eightS) 130)).drew
      have kF := (Blk.new w1 130 (c32 eightS)).drew
      have kb := (jb.alloc (by omega) (.cells (c32 eightS) 130)).drew
      refine wpList_copy_words rfl _ _ _ _ rfl Try.underlying169 (w.heap.size + 3) 0 8 16 w.heap.size 8 8 rfl rfl (List.replicate 16 0) q8 _ _ kV kH (by rw [hh]; rfl) (by rw [hh]; decide) (q8 ++ List.replicate 8 0) (by rw [hh]; rfl) ?_
      clear jH jR jM jV jb
      intro W1 lV lk lB
      have lH := (lk _ _ _ (by omega) kH).drew
      have lR := (lk _ _ _ (by omega) kR).drew
      have lM := (lk _ _ _ (by omega) kM).drew
      have lF := (lk _ _ _ (by omega) kF).drew
      have lV := lV.drew
      have lb := (lB _ _ (by omega) kb).drew
      clear kH kR kM kV kF kb lk lB
      go_wp2_with fail
      refine still_tail 2 (by kernel_rfl) (by kernel_rfl) ?_
      simp only [List.take_succ_cons, List.take_zero, List.drop_succ_cons, List.drop_zero]
      iterate 2 still_step
      refine wpStill_nil ?_
      refine wpList_copy_words rfl _ _ _ _ rfl Try.underlying169 (w.heap.size + 3) 8 8 8 w1.heap.size 8 8 rfl rfl (q8 ++ List.replicate 8 0) eightS _ _ lV lF (by decide) (by simp [hh, eightS]) (q8 ++ eightS) (by
        rw [List.take_append_of_le_length (by omega), List.take_of_length_le (by omega), List.drop_of_length_le (by simp [hh, eightS]), List.append_nil]) ?_
      intro W mV mk mB
      have mH := mk _ _ _ (by omega) lH
      have mR := mk _ _ _ (by omega) lR
      have mM := mk _ _ _ (by omega) lM
      have mb := mB _ _ (by omega) lb
      clear lH lR lM lV lF lb mk mB
      have hvl : (q8 ++ eightS).length = 16 := by simp [hh, eightS]
      have c12 := (mV.cell 12).trans (c32_at _ 12 (by omega))
      have c13 := (mV.cell 13).trans (c32_at _ 13 (by omega))
      have c14 := (mV.cell 14).trans (c32_at _ 14 (by omega))
      have f12 := mV.frozen 12
      have f13 := mV.frozen 13
      have f14 := mV.frozen 14
      have hlo : IntKind.u32.wrap (n : Int) = ((lo32 n).toNat : Int) := by rw [u32_wrap, lo32, UInt32.toNat_ofNat']; omega
      have hhi : IntKind.u32.wrap ((n : Int) / 4294967296) = ((hi32 n).toNat : Int) := by rw [u32_wrap, hi32, UInt32.toNat_ofNat']; omega
      cases last with
      | true =>
        as_aux_lemma =>
        go_wp2_with fail
        go_loopw [53] (fun i wr => ∃ r : Nat, i = .int .i64 r ∧ r ≤ 10 ∧ Blk wr w.heap.size 130 (c32 q8) ∧ Blk wr (w.heap.size + 1) 130 (c32 (List.replicate 8 0)) ∧
            Blk wr (w.heap.size + 1 + 1) 168 (c32 m) ∧ Blk wr (w.heap.size + 3) 168 (c32 (roundsS m V0 r)) ∧ Below w.heap.size w wr)
          (fun i _ => 10 - (intOf i).toNat)
        case atStart =>
          refine ⟨0, rfl, by omega, ?_, ?_, ?_, ?_, ?_⟩
          · exact ((mH.far (by simp) _).far (by simp) _).far (by simp) _
          · exact ((mR.far (by simp) _).far (by simp) _).far (by simp) _
          · exact ((mM.far (by simp) _).far (by simp) _).far (by simp) _
          · rw [roundsS, ← HV0.out, startS, if_pos rfl]
            have h1 := ((mV.put 12 (.int .u32 (xor32 (at32 (q8 ++ eightS) 12) (lo32 n)).toNat)).put 13 (.int .u32 (xor32 (at32 (q8 ++ eightS) 13) (hi32 n)).toNat)).put 14 (.int .u32 (not32 (at32 (q8 ++ eightS) 14)).toNat)
            rw [c32_set, c32_set, c32_set] at h1
            exact h1
          · exact ((mb.setCell (by simp) _).setCell (by simp) _).setCell (by simp) _
        case round =>
          obtain ⟨r, rfl, hr, hH, hR, hM, hV, hbel⟩ := hrel
          clear mH mR mM mV mb c12 c13 c14 f12 f13 f14 hlo hhi HV0 HM
          by_cases hrlt : r < 10
          · have hri : (r : Int) < 10 := by omega
            go_wp2_with fail
            go_loopw [56] (fun i wr => ∃ k : Nat, i = .int .i64 k ∧ k ≤ 4 ∧ Blk wr w.heap.size 130 (c32 q8) ∧ Blk wr (w.heap.size + 1) 130 (c32 (List.replicate 8 0)) ∧
                Blk wr (w.heap.size + 1 + 1) 168 (c32 m) ∧ Blk wr (w.heap.size + 3) 168 (c32 (stepsS m r (roundsS m V0 r) k)) ∧ Below w.heap.size w wr)
              (fun i _ => 4 - (intOf i).toNat)
            case atStart => exact ⟨0, rfl, by omega, hH, hR, hM, hV, hbel⟩
            case round =>
              clear hH hR hM hV hbel
              obtain ⟨k, rfl, hk, iH, iR, iM, iV, ibel⟩ := hrel
              by_cases hlt : k < 4
              · as_aux_lemma =>
                obtain ⟨P1, P2, i1, i2, i3, i4, i5, i6, w1, w2, w3, w4, w5, R1, R2, C1, C2, MX⟩ := col_facts m (roundsS m V0 r) r k hrlt hlt hml (by rw [roundsS_length]; exact HVL.out)
                have cp1 := C1.out _ _ _ iM
                have cp2 := C2.out _ _ _ iM
                clear C1 C2
                go_wp2_with fail
                refine still_tail 20 (by kernel_rfl) (by kernel_rfl) ?_
                simp only [List.take_succ_cons, List.take_zero, List.drop_succ_cons, List.drop_zero]
                iterate 10 still_step
                refine wpStill_step (fun K hK => ?_)
                go_simp
                refine ⟨_, R1.out _, hK _ ?_⟩
                clear hK K
                iterate 6 still_step
                refine wpStill_step (fun K hK => ?_)
                go_simp
                refine ⟨_, R2.out _, hK _ ?_⟩
                clear hK K
                iterate 2 still_step
                refine wpStill_nil ?_
                go_wp2_with fail
                refine (MX.out _ _ _ iV.drew).mono ?_
                rintro e w5 ⟨rfl, jV, jg⟩
                have jH := iH.drew.grown jg (by simp)
                have jR := iR.drew.grown jg (by simp)
                have jM := iM.drew.grown jg (by simp)
                have jb := ibel.drew.trans (below_of_only jg (by have := iV.lt; simp; omega) (by omega))
                clear MX R1 R2 iH iR iM iV ibel cp1 cp2
                go_wp2
                go_roundw
                case rel =>
                  exact ⟨k + 1, by go_num, by omega, jH, jR, jM, jV, jb⟩
                case measure => simp [intOf]; omega
              · have hk4 : k = 4 := by omega
                have hk5 : ¬ (k : Int) < 4 := by omega
                rw [hk4] at iV
                clear hk4 hlt hk
                go_wp2_with fail
                go_loopw [81] (fun i wr => ∃ k : Nat, i = .int .i64 k ∧ k ≤ 4 ∧ Blk wr w.heap.size 130 (c32 q8) ∧ Blk wr (w.heap.size + 1) 130 (c32 (List.replicate 8 0)) ∧
                    Blk wr (w.heap.size + 1 + 1) 168 (c32 m) ∧ Blk wr (w.heap.size + 3) 168 (c32 (stepsS m r (roundsS m V0 r) (4 + k))) ∧ Below w.heap.size w wr)
                  (fun i _ => 4 - (intOf i).toNat)
                case atStart => exact ⟨0, rfl, by omega, iH, iR, iM, iV, ibel⟩
                case round =>
                  clear iH iR iM iV ibel
                  obtain ⟨k, rfl, hk, iH, iR, iM, iV, ibel⟩ := hrel
                  by_cases hlt : k < 4
                  · as_aux_lemma =>
                    obtain ⟨P1, P2, bb, cc, dd, i1, i2, i3, i4, i5, i6, u1, u2, u3, m1, m2, m3, m4, m5, m6, x1, x2, x3, w1, w2, w3, w4, w5, w6, R1, R2, C1, C2, MX⟩ := diag_facts m (roundsS m V0 r) r k hrlt hlt hml (by rw [roundsS_length]; exact HVL.out)
                    have cp1 := C1.out _ _ _ iM
                    have cp2 := C2.out _ _ _ iM
                    clear C1 C2
                    go_wp2_with fail
                    refine still_tail 27 (by kernel_rfl) (by kernel_rfl) ?_
                    simp only [List.take_succ_cons, List.take_zero, List.drop_succ_cons, List.drop_zero]
                    iterate 17 still_step
                    refine wpStill_step (fun K hK => ?_)
                    go_simp
                    refine ⟨_, R1.out _, hK _ ?_⟩
                    clear hK K
                    iterate 6 still_step
                    refine wpStill_step (fun K hK => ?_)
                    go_simp
                    refine ⟨_, R2.out _, hK _ ?_⟩
                    clear hK K
                    iterate 2 still_step
                    refine wpStill_nil ?_
                    go_wp2_with fail
                    refine (MX.out _ _ _ iV.drew).mono ?_
                    rintro e w5 ⟨rfl, jV, jg⟩
                    have jH := iH.drew.grown jg (by simp)
                    have jR := iR.drew.grown jg (by simp)
                    have jM := iM.drew.grown jg (by simp)
                    have jb := ibel.drew.trans (below_of_only jg (by have := iV.lt; simp; omega) (by omega))
                    clear MX R1 R2 iH iR iM iV ibel cp1 cp2
                    go_wp2
                    go_roundw
                    case rel => exact ⟨k + 1, by go_num, by omega, jH, jR, jM, jV, jb⟩
                    case measure => simp [intOf]; omega
                  · obtain rfl : k = 4 := by omega
                    go_wp2_with fail
                    go_roundw
                    case rel => exact ⟨r + 1, by go_num, by omega, iH, iR, iM, iV, ibel⟩
                    case measure => simp [intOf]; omega
          · have hr10 : r = 10 := by omega
            have hr11 : ¬ (r : Int) < 10 := by omega
            rw [hr10] at hV
            clear hr10 hrlt hr
            obtain ⟨V, hv⟩ : ∃ V, roundsS m V0 10 = V := ⟨_, rfl⟩
            rw [hv] at hV
            have hVl : V.length = 16 := by rw [← hv, roundsS_length]; exact HVL.out
            have HT2 := Lib.hid (HT.out V hv)
            clear HT HVL hv
            go_wp2_with fail
            go_loopw [114] (fun i wr => ∃ k : Nat, i = .int .i64 k ∧ k ≤ 8 ∧ Blk wr w.heap.size 130 (c32 (endP q8 V k)) ∧ Blk wr (w.heap.size + 1) 130 (c32 (List.replicate 8 0)) ∧
                Blk wr (w.heap.size + 3) 168 (c32 V) ∧ Below w.heap.size w wr)
              (fun i _ => 8 - (intOf i).toNat)
            case atStart => exact ⟨0, rfl, by omega, by rw [endP_zero]; exact hH, hR, hV, hbel⟩
            case round =>
              clear hH hR hM hV hbel
              obtain ⟨k, rfl, hk, iH, iR, iV, ibel⟩ := hrel
              by_cases hlt : k < 8
              · as_aux_lemma =>
                obtain ⟨i1, i2, i3, i4, i5, w1, i6, CH, CV⟩ := end_facts q8 V k hlt hh hVl
                have cp1 := (CH.out _ _ _ iH.drew).1
                have nH := Lib.hid (CH.out _ _ _ iH.drew).2
                have cp2 := (CV.out _ _ _ iV.drew).1
                have cp3 := (CV.out _ _ _ iV.drew).2
                have hf := iH.drew.frozen k
                clear CH CV
                go_wp2_with fail
                refine still_tail 13 (by kernel_rfl) (by kernel_rfl) ?_
                simp only [List.take_succ_cons, List.take_zero, List.drop_succ_cons, List.drop_zero]
                iterate 13 still_step
                refine wpStill_nil ?_
                go_wp2
                go_roundw
                case rel => exact ⟨k + 1, by go_num, by omega, nH.out, iR.drew.far (by simp) _, iV.drew.far (by simp) _, ibel.drew.setCell (by simp) _⟩
                case measure => simp [intOf]; omega
              · as_aux_lemma =>
                obtain rfl : k = 8 := by omega
                rw [endP_all _ _ hh] at iH
                obtain ⟨T8, ht⟩ : ∃ T8, endS q8 V = T8 := ⟨_, rfl⟩
                have hTl : T8.length = 8 := by rw [← ht, endS_length]
                rw [ht] at iH
                rw [ht] at HT2
                clear ht
                have hi8 : (Try.prog.info? 130).map (·.size) = some (c32 T8).size := by rw [c32_size, hTl]; kernel_rfl
                have h1 : (c32 T8).all (·.oneCell') = true := by simp [c32, Value.oneCell']
                have nR := (iR.row (c32 T8))
                go_wp2_with (first
                  | refine wpList_load_row rfl 130 _ rfl w.heap.size rfl 130 (c32 T8) (0, 0) _ iH Try.underlying130 rfl hi8 ?_
                  | refine wpList_store_rowTo rfl 130 _ _ rfl rfl (w.heap.size + 1) (c32 T8) rfl rfl 130 (c32 (List.replicate 8 0)) iR hi8 (by rw [c32_size, c32_size, hTl]; rfl) h1 ?_)
                refine bodyPost_ret (v := .agg (c32 T8)) ?_ rfl ?_
                · exact results_cell_row Try.results113 _ _ (w.heap.size + 1) 130 (c32 T8) (0, 0) _ rfl nR Try.underlying130 rfl hi8
                exact ⟨by rw [HT2.out]; rfl, below_setRow ibel (by omega) _⟩
      | false =>
        as_aux_lemma =>
        go_wp2_with fail
        go_loopw [53] (fun i wr => ∃ r : Nat, i = .int .i64 r ∧ r ≤ 10 ∧ Blk wr w.heap.size 130 (c32 q8) ∧ Blk wr (w.heap.size + 1) 130 (c32 (List.replicate 8 0)) ∧
            Blk wr (w.heap.size + 1 + 1) 168 (c32 m) ∧ Blk wr (w.heap.size + 3) 168 (c32 (roundsS m V0 r)) ∧ Below w.heap.size w wr)
          (fun i _ => 10 - (intOf i).toNat)
        case atStart =>
          refine ⟨0, rfl, by omega, ?_, ?_, ?_, ?_, ?_⟩
          · exact (mH.far (by simp) _).far (by simp) _
          · exact (mR.far (by simp) _).far (by simp) _
          · exact (mM.far (by simp) _).far (by simp) _
          · rw [roundsS, ← HV0.out, startS, if_neg (by decide)]
            have h1 := (mV.put 12 (.int .u32 (xor32 (at32 (q8 ++ eightS) 12) (lo32 n)).toNat)).put 13 (.int .u32 (xor32 (at32 (q8 ++ eightS) 13) (hi32 n)).toNat)
            rw [c32_set, c32_set] at h1
            exact h1
          · exact (mb.setCell (by simp) _).setCell (by simp) _
        case round =>
          obtain ⟨r, rfl, hr, hH, hR, hM, hV, hbel⟩ := hrel
          clear mH mR mM mV mb c12 c13 c14 f12 f13 f14 hlo hhi HV0 HM
          by_cases hrlt : r < 10
          · have hri : (r : Int) < 10 := by omega
            go_wp2_with fail
            go_loopw [56] (fun i wr => ∃ k : Nat, i = .int .i64 k ∧ k ≤ 4 ∧ Blk wr w.heap.size 130 (c32 q8) ∧ Blk wr (w.heap.size + 1) 130 (c32 (List.replicate 8 0)) ∧
                Blk wr (w.heap.size + 1 + 1) 168 (c32 m) ∧ Blk wr (w.heap.size + 3) 168 (c32 (stepsS m r (roundsS m V0 r) k)) ∧ Below w.heap.size w wr)
              (fun i _ => 4 - (intOf i).toNat)
            case atStart => exact ⟨0, rfl, by omega, hH, hR, hM, hV, hbel⟩
            case round =>
              clear hH hR hM hV hbel
              obtain ⟨k, rfl, hk, iH, iR, iM, iV, ibel⟩ := hrel
              by_cases hlt : k < 4
              · as_aux_lemma =>
                obtain ⟨P1, P2, i1, i2, i3, i4, i5, i6, w1, w2, w3, w4, w5, R1, R2, C1, C2, MX⟩ := col_facts m (roundsS m V0 r) r k hrlt hlt hml (by rw [roundsS_length]; exact HVL.out)
                have cp1 := C1.out _ _ _ iM
                have cp2 := C2.out _ _ _ iM
                clear C1 C2
                go_wp2_with fail
                refine still_tail 20 (by kernel_rfl) (by kernel_rfl) ?_
                simp only [List.take_succ_cons, List.take_zero, List.drop_succ_cons, List.drop_zero]
                iterate 10 still_step
                refine wpStill_step (fun K hK => ?_)
                go_simp
                refine ⟨_, R1.out _, hK _ ?_⟩
                clear hK K
                iterate 6 still_step
                refine wpStill_step (fun K hK => ?_)
                go_simp
                refine ⟨_, R2.out _, hK _ ?_⟩
                clear hK K
                iterate 2 still_step
                refine wpStill_nil ?_
                go_wp2_with fail
                refine (MX.out _ _ _ iV.drew).mono ?_
                rintro e w5 ⟨rfl, jV, jg⟩
                have jH := iH.drew.grown jg (by simp)
                have jR := iR.drew.grown jg (by simp)
                have jM := iM.drew.grown jg (by simp)
                have jb := ibel.drew.trans (below_of_only jg (by have := iV.lt; simp; omega) (by omega))
                clear MX R1 R2 iH iR iM iV ibel cp1 cp2
                go_wp2
                go_roundw
                case rel =>
                  exact ⟨k + 1, by go_num, by omega, jH, jR, jM, jV, jb⟩
                case measure => simp [intOf]; omega
              · have hk4 : k = 4 := by omega
                have hk5 : ¬ (k : Int) < 4 := by omega
                rw [hk4] at iV
                clear hk4 hlt hk
                go_wp2_with fail
                go_loopw [81] (fun i wr => ∃ k : Nat, i = .int .i64 k ∧ k ≤ 4 ∧ Blk wr w.heap.size 130 (c32 q8) ∧ Blk wr (w.heap.size + 1) 130 (c32 (List.replicate 8 0)) ∧
                    Blk wr (w.heap.size + 1 + 1) 168 (c32 m) ∧ Blk wr (w.heap.size + 3) 168 (c32 (stepsS m r (roundsS m V0 r) (4 + k))) ∧ Below w.heap.size w wr)
                  (fun i _ => 4 - (intOf i).toNat)
                case atStart => exact ⟨0, rfl, by omega, iH, iR, iM, iV, ibel⟩
                case round =>
                  clear iH iR iM iV ibel
                  obtain ⟨k, rfl, hk, iH, iR, iM, iV, ibel⟩ := hrel
                  by_cases hlt : k < 4
                  · as_aux_lemma =>
                    obtain ⟨P1, P2, bb, cc, dd, i1, i2, i3, i4, i5, i6, u1, u2, u3, m1, m2, m3, m4, m5, m6, x1, x2, x3, w1, w2, w3, w4, w5, w6, R1, R2, C1, C2, MX⟩ := diag_facts m (roundsS m V0 r) r k hrlt hlt hml (by rw [roundsS_length]; exact HVL.out)
                    have cp1 := C1.out _ _ _ iM
                    have cp2 := C2.out _ _ _ iM
                    clear C1 C2
                    go_wp2_with fail
                    refine still_tail 27 (by kernel_rfl) (by kernel_rfl) ?_
                    simp only [List.take_succ_cons, List.take_zero, List.drop_succ_cons, List.drop_zero]
                    iterate 17 still_step
                    refine wpStill_step (fun K hK => ?_)
                    go_simp
                    refine ⟨_, R1.out _, hK _ ?_⟩
                    clear hK K
                    iterate 6 still_step
                    refine wpStill_step (fun K hK => ?_)
                    go_simp
                    refine ⟨_, R2.out _, hK _ ?_⟩
                    clear hK K
                    iterate 2 still_step
                    refine wpStill_nil ?_
                    go_wp2_with fail
                    refine (MX.out _ _ _ iV.drew).mono ?_
                    rintro e w5 ⟨rfl, jV, jg⟩
                    have jH := iH.drew.grown jg (by simp)
                    have jR := iR.drew.grown jg (by simp)
                    have jM := iM.drew.grown jg (by simp)
                    have jb := ibel.drew.trans (below_of_only jg (by have := iV.lt; simp; omega) (by omega))
                    clear MX R1 R2 iH iR iM iV ibel cp1 cp2
                    go_wp2
                    go_roundw
                    case rel => exact ⟨k + 1, by go_num, by omega, jH, jR, jM, jV, jb⟩
                    case measure => simp [intOf]; omega
                  · obtain rfl : k = 4 := by omega
                    go_wp2_with fail
                    go_roundw
                    case rel => exact ⟨r + 1, by go_num, by omega, iH, iR, iM, iV, ibel⟩
                    case measure => simp [intOf]; omega
          · have hr10 : r = 10 := by omega
            have hr11 : ¬ (r : Int) < 10 := by omega
            rw [hr10] at hV
            clear hr10 hrlt hr
            obtain ⟨V, hv⟩ : ∃ V, roundsS m V0 10 = V := ⟨_, rfl⟩
            rw [hv] at hV
            have hVl : V.length = 16 := by rw [← hv, roundsS_length]; exact HVL.out
            have HT2 := Lib.hid (HT.out V hv)
            clear HT HVL hv
            go_wp2_with fail
            go_loopw [114] (fun i wr => ∃ k : Nat, i = .int .i64 k ∧ k ≤ 8 ∧ Blk wr w.heap.size 130 (c32 (endP q8 V k)) ∧ Blk wr (w.heap.size + 1) 130 (c32 (List.replicate 8 0)) ∧
                Blk wr (w.heap.size + 3) 168 (c32 V) ∧ Below w.heap.size w wr)
              (fun i _ => 8 - (intOf i).toNat)
            case atStart => exact ⟨0, rfl, by omega, by rw [endP_zero]; exact hH, hR, hV, hbel⟩
            case round =>
              clear hH hR hM hV hbel
              obtain ⟨k, rfl, hk, iH, iR, iV, ibel⟩ := hrel
              by_cases hlt : k < 8
              · as_aux_lemma =>
                obtain ⟨i1, i2, i3, i4, i5, w1, i6, CH, CV⟩ := end_facts q8 V k hlt hh hVl
                have cp1 := (CH.out _ _ _ iH.drew).1
                have nH := Lib.hid (CH.out _ _ _ iH.drew).2
                have cp2 := (CV.out _ _ _ iV.drew).1
                have cp3 := (CV.out _ _ _ iV.drew).2
                have hf := iH.drew.frozen k
                clear CH CV
                go_wp2_with fail
                refine still_tail 13 (by kernel_rfl) (by kernel_rfl) ?_
                simp only [List.take_succ_cons, List.take_zero, List.drop_succ_cons, List.drop_zero]
                iterate 13 still_step
                refine wpStill_nil ?_
                go_wp2
                go_roundw
                case rel => exact ⟨k + 1, by go_num, by omega, nH.out, iR.drew.far (by simp) _, iV.drew.far (by simp) _, ibel.drew.setCell (by simp) _⟩
                case measure => simp [intOf]; omega
              · as_aux_lemma =>
                obtain rfl : k = 8 := by omega
                rw [endP_all _ _ hh] at iH
                obtain ⟨T8, ht⟩ : ∃ T8, endS q8 V = T8 := ⟨_, rfl⟩
                have hTl : T8.length = 8 := by rw [← ht, endS_length]
                rw [ht] at iH
                rw [ht] at HT2
                clear ht
                have hi8 : (Try.prog.info? 130).map (·.size) = some (c32 T8).size := by rw [c32_size, hTl]; kernel_rfl
                have h1 : (c32 T8).all (·.oneCell') = true := by simp [c32, Value.oneCell']
                have nR := (iR.row (c32 T8))
                go_wp2_with (first
                  | refine wpList_load_row rfl 130 _ rfl w.heap.size rfl 130 (c32 T8) (0, 0) _ iH Try.underlying130 rfl hi8 ?_
                  | refine wpList_store_rowTo rfl 130 _ _ rfl rfl (w.heap.size + 1) (c32 T8) rfl rfl 130 (c32 (List.replicate 8 0)) iR hi8 (by rw [c32_size, c32_size, hTl]; rfl) h1 ?_)
                refine bodyPost_ret (v := .agg (c32 T8)) ?_ rfl ?_
                · exact results_cell_row Try.results113 _ _ (w.heap.size + 1) 130 (c32 T8) (0, 0) _ rfl nR Try.underlying130 rfl hi8
                exact ⟨by rw [HT2.out]; rfl, below_setRow ibel (by omega) _⟩
end Go.Proofs.Ytncoghoeeefjhaa
