/- share.Join walked. Conditions: three shares in one block, none of place 0. -/
import Derived.Test.YtncoghoeeefjhaaShA
import Derived.Deep.RegionHeld3
import Derived.Deep.MidRow
import Derived.Laws.CopyOwn
namespace Go.Proofs.Ytncoghoeeefjhaa
open Go.RowKit

/-- three points: what At answers at 0 -/
theorem atS_three (x y z p q r : UInt8) (hxy : x ≠ y) (hxz : x ≠ z) (hyz : y ≠ z) : atS [x, y, z] [p, q, r] 0 = some (at0 x y z p q r) := by
  have hyx : y ≠ x := fun e => hxy e.symm
  have hzx : z ≠ x := fun e => hxz e.symm
  have hzy : z ≠ y := fun e => hyz e.symm
  have e : ∀ a b : UInt8, xor8 a b = ga a b := fun _ _ => rfl
  simp [atS, ouS, inS, at8, hyx, hzx, hxy, hzy, hxz, hyz, e, zero_ga, at0]
theorem atS_equal (x y z p q r : UInt8) (h : x = y ∨ x = z ∨ y = z) : atS [x, y, z] [p, q, r] 0 = none := by
  by_cases hxy : y = x
  · simp [atS, ouS, inS, at8, hxy]
  · by_cases hxz : z = x
    · simp [atS, ouS, inS, at8, hxy, hxz]
    · have hyz : z = y := by
        rcases h with h | h | h
        · exact absurd h.symm hxy
        · exact absurd h.symm hxz
        · exact h.symm
      have hxy' : x ≠ y := fun e => hxy e.symm
      simp [atS, ouS, inS, at8, hxy, hyz, hxy']
/-- the secret that three shares tell, byte by byte -/
def joinL (L : List UInt8) : List UInt8 := (List.range 32).map fun i => (atS [at8 L 0, at8 L 33, at8 L 66] [at8 L (1 + i), at8 L (34 + i), at8 L (67 + i)] 0).getD 0
theorem joinL_length (L : List UInt8) : (joinL L).length = 32 := by simp [joinL]
theorem joinL_at (L : List UInt8) (i : Nat) (h : i < 32) : at8 (joinL L) i = (atS [at8 L 0, at8 L 33, at8 L 66] [at8 L (1 + i), at8 L (34 + i), at8 L (67 + i)] 0).getD 0 := by
  unfold at8 joinL
  rw [List.getD_eq_getElem?_getD, List.getElem?_map, List.getElem?_range h]
  rfl
/-- a part of a block of bytes -/
theorem Blk.range {w : World} {g : Nat} {t : TypeId} {l : List UInt8} (h : Blk w g t (c8 l)) (o n : Nat) : w.rangeAt g o (c8 ((l.drop o).take n)).toList := by
  intro j v hj
  rw [h.cell (o + j)]
  have e : (c8 ((l.drop o).take n)).toList = ((l.drop o).take n).map fun b => Value.int .u8 b.toNat := by simp [c8]
  rw [e, List.getElem?_map] at hj
  have e2 : (c8 l)[o + j]? = (l[o + j]?).map fun b => Value.int .u8 b.toNat := by simp [c8]
  rw [e2]
  rw [List.getElem?_take] at hj
  split at hj
  · rw [List.getElem?_drop] at hj; exact hj
  · cases hj
theorem Blk.rowedFar {w : World} {g k : Nat} {t : TypeId} {cs : Array Value} (h : Blk w g t cs) (hk : g ≠ k) (ds : Array Value) : Blk (w.setRow k ds) g t cs := (setRow_other w k g ds hk).trans h
theorem results_two_row {fn : Func} {p q : Tmp} {ty : TypeId} (h : fn.results = #[.cell p ty, .tmp q]) (tmps : Array Value) (w : World) (g : Nat) (t : TypeId) (cs : Array Value) (v : Value) (n : Nat) (e : TypeId)
    (hp : tmps.getD p undef = .pointer (some ⟨g, 0, none⟩)) (hq : tmps.getD q undef = v) (hg : Blk w g t cs)
    (hu : Try.prog.underlying ty = some (.array n e)) (hi : (Try.prog.info? ty).map (·.size) = some cs.size) :
    (results fn tmps).run Try.prog w = .ok (.tuple #[.agg cs, v]) w := by
  have hp' : tmps[p]?.getD undef = .pointer (some ⟨g, 0, none⟩) := by simpa using hp
  have hq' : tmps[q]?.getD undef = v := by simpa using hq
  have hl := run_loadVar_row (P := Try.prog) w g t ty cs (0, 0) (.array n e) hg hu rfl hi
  simp [results, h, hp', hq', asAddr, hl]

set_option maxRecDepth 100000 in
set_option maxHeartbeats 8000000 in
theorem join_any (B : Nat) (L : List UInt8) (w : World) (hL : L.length = 99) (hB : Blk w B 63 (c8 L)) (h1 : at8 L 0 ≠ 0) (h2 : at8 L 33 ≠ 0) (h3 : at8 L 66 ≠ 0) :
    Calls Try.prog 37 #[.slice (some ⟨B, 0, none⟩) 3 3] w fun e w' => Below w.heap.size w w' ∧
      e = .returned (if at8 L 0 = at8 L 33 ∨ at8 L 0 = at8 L 66 ∨ at8 L 33 = at8 L 66 then .tuple #[.agg (c8 (List.replicate 32 0)), .int .i64 1] else .tuple #[.agg (c8 (joinL L)), .int .i64 0]) := by
  have hBl := hB.lt
  have hJl := joinL_length L
  have HJ : Hid (∀ i, i < 32 → at8 (joinL L) i = (atS [at8 L 0, at8 L 33, at8 L 66] [at8 L (1 + i), at8 L (34 + i), at8 L (67 + i)] 0).getD 0) := Lib.hid (joinL_at L)
  obtain ⟨J, hJ⟩ : ∃ J, joinL L = J := ⟨_, rfl⟩
  rw [hJ] at hJl HJ ⊢
  clear hJ
  obtain ⟨RES, hRES⟩ : ∃ RES, (if at8 L 0 = at8 L 33 ∨ at8 L 0 = at8 L 66 ∨ at8 L 33 = at8 L 66 then (Value.tuple #[.agg (c8 (List.replicate 32 0)), .int .i64 1]) else .tuple #[.agg (c8 J), .int .i64 0]) = RES := ⟨_, rfl⟩
  have HRe : Hid (at8 L 0 = at8 L 33 ∨ at8 L 0 = at8 L 66 ∨ at8 L 33 = at8 L 66 → RES = .tuple #[.agg (c8 (List.replicate 32 0)), .int .i64 1]) := Lib.hid fun h => by rw [← hRES, if_pos h]
  have HRd : Hid (¬ (at8 L 0 = at8 L 33 ∨ at8 L 0 = at8 L 66 ∨ at8 L 33 = at8 L 66) → RES = .tuple #[.agg (c8 J), .int .i64 0]) := Lib.hid fun h => by rw [← hRES, if_neg h]
  rw [hRES]
  clear hRES
  have hR0 := (Blk.new w 36 (c8 (List.replicate 32 0))).alloc (.cells (c8 (List.replicate 3 0)) 56)
  have hX0 := Blk.new (w.alloc (.cells (c8 (List.replicate 32 0)) 36)) 56 (c8 (List.replicate 3 0))
  rw [World.size_alloc] at hX0
  have hb0 := ((Below.refl w.heap.size w).alloc (Nat.le_refl _) (.cells (c8 (List.replicate 32 0)) 36)).alloc (by simp) (.cells (c8 (List.replicate 3 0)) 56)
  have hid52 : ∀ S : List UInt8, S.length = 33 → (Try.prog.info? 63).map (·.size) = some (c8 S).size := fun S hS => by rw [c8_size, hS]; kernel_rfl
  go_enter Try.func37, Try.ntmps37
  go_wp2_with fail
  go_loopw [18] (fun iv wr => ∃ k : Nat, iv = .int .i64 k ∧ k ≤ 3 ∧ Blk wr w.heap.size 36 (c8 (List.replicate 32 0)) ∧ Blk wr (w.heap.size + 1) 56 (c8 (part8 [at8 L 0, at8 L 33, at8 L 66] 3 k)) ∧ Below w.heap.size w wr)
    (fun iv _ => 3 - (intOf iv).toNat)
  case atStart => exact ⟨0, rfl, by omega, hR0, by rw [part8_zero]; exact hX0, hb0⟩
  case round =>
    clear hR0 hX0 hb0
    obtain ⟨k, rfl, hk, hR, hX, hb⟩ := hrel
    by_cases hlt : k < 3
    · as_aux_lemma =>
        have i0 : (0 : Int) ≤ (k : Int) := by omega
        have i1 : (k : Int) < 3 := by omega
        obtain ⟨S, hS⟩ : ∃ S, (L.drop (k * 33)).take 33 = S := ⟨_, rfl⟩
        have hSl : S.length = 33 := by rw [← hS, List.length_take, List.length_drop]; omega
        have hrg := (hB.below hb hBl).range (k * 33) 33
        rw [hS] at hrg
        have hS0 : at8 S 0 = at8 [at8 L 0, at8 L 33, at8 L 66] k := by
          have e : at8 S 0 = at8 L (k * 33) := by
            rw [← hS]
            simp only [at8, List.getD_eq_getElem?_getD]
            rw [List.getElem?_take_of_lt (by omega), List.getElem?_drop, Nat.add_zero]
          rw [e]
          match k, hlt with
          | 0, _ => rfl
          | 1, _ => rfl
          | 2, _ => rfl
        have hx0 : at8 S 0 ≠ 0 := by
          rw [hS0]
          match k, hlt with
          | 0, _ => exact h1
          | 1, _ => exact h2
          | 2, _ => exact h3
        have hz : (((at8 S 0).toNat : Int) == 0) = false := by
          rw [beq_eq_false_iff_ne]
          intro h
          exact hx0 (UInt8.toNat_inj.1 (by show _ = 0; omega))
        have hz3 : ¬ (at8 S 0).toNat = 0 := fun h => hx0 (UInt8.toNat_inj.1 h)
        have hz2 : ¬ ((at8 S 0).toNat : Int) = 0 := by omega
        have hz4 : ((at8 S 0).toNat == 0) = false := by rw [beq_eq_false_iff_ne]; exact hz3
        have hz5 : (at8 S 0 == 0) = false := by rw [beq_eq_false_iff_ne]; exact hx0
        have hN := Blk.new wr 63 (c8 (List.replicate 33 0))
        have hlen3 : ([at8 L 0, at8 L 33, at8 L 66] : List UInt8).length = 3 := rfl
        have nS := (hN.rowed (c8 S))
        have cS := (nS.cell 0).trans (c8_at S 0 (by omega))
        have hXl : w.heap.size + 1 ≠ wr.heap.size := by have := hX.lt; omega
        have hRl : w.heap.size ≠ wr.heap.size := by have := hR.lt; omega
        have mX := (hX.alloc (.cells (c8 (List.replicate 33 0)) 63)).rowedFar hXl (c8 S)
        have hc := (mX.cell k).trans (c8_at _ _ (by rw [part8_length _ _ _ hlen3 (by omega)]; omega))
        have hf : ((wr.alloc (.cells (c8 (List.replicate 33 0)) 63)).setRow wr.heap.size (c8 S)).frozen? ⟨w.heap.size + 1, k, none⟩ = false := mX.frozen k
        have nX := mX.put k (.int .u8 (at8 S 0).toNat)
        rw [c8_set, hS0, part8_succ _ _ _ hlen3 (by omega), ← hS0] at nX
        have cS2 := ((nS.far (p := ⟨w.heap.size + 1, k, none⟩) (fun e => hXl e.symm) (.int .u8 (at8 S 0).toNat)).cell 0).trans (c8_at S 0 (by omega))
        have mR := (hR.alloc (.cells (c8 (List.replicate 33 0)) 63)).rowedFar hRl (c8 S)
        have nR := mR.far (p := ⟨w.heap.size + 1, k, none⟩) (show w.heap.size ≠ w.heap.size + 1 by omega) (.int .u8 (at8 S 0).toNat)
        have nb := (below_setRow (hb.alloc hb.size (.cells (c8 (List.replicate 33 0)) 63)) hb.size (c8 S)).setCell (p := ⟨w.heap.size + 1, k, none⟩) (show w.heap.size ≤ w.heap.size + 1 by omega) (.int .u8 (at8 S 0).toNat)
        have hi0 : (Try.prog.info? 63).map (·.size) = some (c8 S).toList.length := by rw [Array.length_toList, c8_size, hSl]; kernel_rfl
        obtain ⟨WW, hWW⟩ : ∃ WW, (wr.alloc (.cells (c8 (List.replicate 33 0)) 63)).setRow wr.heap.size (c8 S) = WW := ⟨_, rfl⟩
        rw [hWW] at cS hc hf nX cS2 nR nb
        obtain ⟨y, hy⟩ : ∃ y, at8 S 0 = y := ⟨_, rfl⟩
        rw [hy] at cS nX cS2 nR nb hz hz2 hz3 hz4 hz5
        clear hS0 hx0 hy
        clear nS mX mR
        go_wp2_with (first
          | refine wpList_load_mid rfl 63 _ rfl B (k * 33) rfl (c8 S).toList _ hrg Try.underlying63 rfl hi0 ?_
          | (refine wpList_store_rowTo rfl 63 _ _ rfl rfl wr.heap.size (c8 S) rfl rfl 63 (c8 (List.replicate 33 0)) hN (hid52 S hSl) (by rw [c8_size, c8_size, hSl]; rfl) (c8_one _) ?_; change wpList _ _ _ _ _ ((wr.alloc (.cells (c8 (List.replicate 33 0)) 63)).setRow wr.heap.size (c8 S)); rw [hWW]))
        go_roundw
        case rel => exact ⟨k + 1, by go_num, by omega, nR, nX, nb⟩
        case measure => simp [intOf]; omega
    · have hk3 : k = 3 := by omega
      have hk4 : ¬ (k : Int) < 3 := by omega
      rw [hk3, part8_all [at8 L 0, at8 L 33, at8 L 66] 3 rfl] at hX
      clear hk3 hlt hk
      have hXl := hX.lt
      have hRl := hR.lt
      obtain ⟨G, hGe⟩ : ∃ G, wr.heap.size = G := ⟨_, rfl⟩
      have jR := hR.alloc (.cells (c8 (List.replicate 32 0)) 36)
      have jX := hX.alloc (.cells (c8 (List.replicate 32 0)) 36)
      have jG := Blk.new wr 36 (c8 (List.replicate 32 0))
      have jb := hb.alloc hb.size (.cells (c8 (List.replicate 32 0)) 36)
      rw [hGe] at jG
      obtain ⟨x, hx⟩ : ∃ x, at8 L 0 = x := ⟨_, rfl⟩
      obtain ⟨y, hy⟩ : ∃ y, at8 L 33 = y := ⟨_, rfl⟩
      obtain ⟨z, hz⟩ : ∃ z, at8 L 66 = z := ⟨_, rfl⟩
      rw [hx, hy, hz] at jX HJ HRe HRd
      clear hX hR hb
      go_wp2_with fail
      go_loopw [32] (fun iv wr2 => ∃ i : Nat, iv = .int .i64 i ∧ i ≤ 32 ∧ (i = 0 ∨ ¬ (x = y ∨ x = z ∨ y = z)) ∧ Blk wr2 w.heap.size 36 (c8 (List.replicate 32 0)) ∧ Blk wr2 (w.heap.size + 1) 56 (c8 [x, y, z]) ∧
          Blk wr2 G 36 (c8 (part8 J 32 i)) ∧ Below w.heap.size w wr2)
        (fun iv _ => 32 - (intOf iv).toNat)
      case atStart => exact ⟨0, rfl, by omega, .inl rfl, jR, jX, by rw [part8_zero]; exact jG, jb⟩
      case round =>
        clear jR jX jG jb
        obtain ⟨i, rfl, hi, hD, hR, hX, hG, hb⟩ := hrel
        by_cases hlt : i < 32
        · have i0 : (0 : Int) ≤ (i : Int) := by omega
          have i1 : (i : Int) < 32 := by omega
          have hBB := hB.below hb hBl
          have hne1 : B ≠ wr.heap.size := by have := hBB.lt; omega
          have hne2 : wr.heap.size ≠ B := fun e => hne1 e.symm
          have hal := hBB.alloc (.cells #[.int .u8 0, .int .u8 0, .int .u8 0] 56)
          have a1 := (hal.cell (1 + i)).trans (c8_at L (1 + i) (by omega))
          have a2 := (hal.cell (34 + i)).trans (c8_at L (34 + i) (by omega))
          have a3 := (hal.cell (67 + i)).trans (c8_at L (67 + i) (by omega))
          have k1 := (hBB.cell (1 + i)).trans (c8_at L (1 + i) (by omega))
          have k2 := (hBB.cell (34 + i)).trans (c8_at L (34 + i) (by omega))
          have k3 := (hBB.cell (67 + i)).trans (c8_at L (67 + i) (by omega))
          have hJi := HJ.out i hlt
          obtain ⟨p, hp⟩ : ∃ p, at8 L (1 + i) = p := ⟨_, rfl⟩
          obtain ⟨q, hq⟩ : ∃ q, at8 L (34 + i) = q := ⟨_, rfl⟩
          obtain ⟨r, hr⟩ : ∃ r, at8 L (67 + i) = r := ⟨_, rfl⟩
          rw [hp] at k1 a1 hJi
          rw [hq] at k2 a2 hJi
          rw [hr] at k3 a3 hJi
          have HJi := Lib.hid hJi
          clear hp hq hr hJi
          go_wp2_with fail
          go_region_held3 (fun w' => w'.cell? ⟨B, 1 + i, none⟩ = some (.int .u8 p.toNat) ∧ w'.cell? ⟨B, 34 + i, none⟩ = some (.int .u8 q.toNat) ∧ w'.cell? ⟨B, 67 + i, none⟩ = some (.int .u8 r.toNat)) (go_keep) (fail)
          go_wp2_with fail
          have mR := (hR.alloc (.cells #[.int .u8 p.toNat, .int .u8 q.toNat, .int .u8 r.toNat] 56)).drew
          have mX := (hX.alloc (.cells #[.int .u8 p.toNat, .int .u8 q.toNat, .int .u8 r.toNat] 56)).drew
          have mG := (hG.alloc (.cells #[.int .u8 p.toNat, .int .u8 q.toNat, .int .u8 r.toNat] 56)).drew
          have mY := (Blk.new wr 56 #[.int .u8 p.toNat, .int .u8 q.toNat, .int .u8 r.toNat]).drew
          have mb := (hb.alloc hb.size (.cells #[.int .u8 p.toNat, .int .u8 q.toNat, .int .u8 r.toNat] 56)).drew
          have HA : Hid (∀ (W : World) (g : Nat), Blk W (w.heap.size + 1) 56 (c8 [x, y, z]) → Blk W g 56 #[.int .u8 p.toNat, .int .u8 q.toNat, .int .u8 r.toNat] →
              Calls Try.prog 68 #[.slice (some ⟨w.heap.size + 1, 0, none⟩) 3 3, .slice (some ⟨g, 0, none⟩) 3 3, .int .u8 0] W fun e w' => e = .returned (.tuple #[.int .u8 ((atS [x, y, z] [p, q, r] 0).getD 0).toNat, .bool (atS [x, y, z] [p, q, r] 0).isSome]) ∧ w' = W) := Lib.hid fun W g hx hy => by
            refine at_any (some ⟨w.heap.size + 1, 0, none⟩) (some ⟨g, 0, none⟩) 3 3 [x, y, z] [p, q, r] 0 W ⟨rfl, fun _ => ⟨_, rfl, hx.lt, fun j u hj => ?_⟩⟩ ⟨rfl, fun _ => ⟨_, rfl, hy.lt, fun j u hj => ?_⟩⟩ rfl (by show 3 ≤ _; omega)
            · match j, hj with
              | 0, hj => injection hj with hj; subst hj; exact hx.cell 0
              | 1, hj => injection hj with hj; subst hj; exact hx.cell 1
              | 2, hj => injection hj with hj; subst hj; exact hx.cell 2
            · match j, hj with
              | 0, hj => injection hj with hj; subst hj; exact hy.cell 0
              | 1, hj => injection hj with hj; subst hj; exact hy.cell 1
              | 2, hj => injection hj with hj; subst hj; exact hy.cell 2
          clear hR hX hG hb hBB hal a1 a2 a3 k1 k2 k3 hne1 hne2
          by_cases hdd : x = y ∨ x = z ∨ y = z
          · have hat := atS_equal x y z p q r hdd
            rw [hat] at HA
            have HK := Lib.hid (HRe.out hdd)
            clear hat hdd hD HJi HJ
            refine still_all (by kernel_rfl) (by kernel_rfl) ?_
            iterate 2 still_step
            refine wpStill_step (fun K hK => ?_)
            go_simp
            refine ⟨_, HA.out _ _ mX.drew mY.drew, hK _ ?_⟩
            clear hK K
            iterate 5 still_step
            refine wpStill_nil ?_
            have hi0 : (Try.prog.info? 36).map (·.size) = some (c8 (List.replicate 32 0)).size := by rw [c8_size, List.length_replicate]; kernel_rfl
            have nR := mR.drew.rowed (c8 (List.replicate 32 0))
            go_wp2_with (refine wpList_store_rowTo rfl 36 _ _ rfl rfl w.heap.size (c8 (List.replicate 32 0)) rfl rfl 36 (c8 (List.replicate 32 0)) mR.drew hi0 rfl (c8_one _) ?_)
            refine bodyPost_ret (v := .tuple #[.agg (c8 (List.replicate 32 0)), .int .i64 1]) ?_ rfl ?_
            · exact results_two_row Try.results37 _ _ w.heap.size 36 (c8 (List.replicate 32 0)) _ _ _ rfl rfl nR Try.underlying36 hi0
            exact ⟨below_setRow mb.drew (Nat.le_refl _) _, by rw [HK.out]⟩
          · have hat := atS_three x y z p q r (fun e => hdd (.inl e)) (fun e => hdd (.inr (.inl e))) (fun e => hdd (.inr (.inr e)))
            have hJi := HJi.out
            rw [hat] at HA hJi
            have hjv : at0 x y z p q r = at8 J i := hJi.symm
            rw [show (some (at0 x y z p q r)).getD 0 = at8 J i from hjv] at HA
            have nG := mG.drew.put i (.int .u8 (at8 J i).toNat)
            rw [c8_set, part8_succ _ _ _ hJl hlt] at nG
            have cG := (mG.drew.cell i).trans (c8_at _ _ (by rw [part8_length _ _ _ hJl (by omega)]; omega))
            have fG := mG.drew.frozen i
            have hDD : i + 1 = 0 ∨ ¬ (x = y ∨ x = z ∨ y = z) := .inr hdd
            have HDD := Lib.hid hDD
            clear hat hdd hD HJi hJi hjv hDD
            refine still_all (by kernel_rfl) (by kernel_rfl) ?_
            iterate 2 still_step
            refine wpStill_step (fun K hK => ?_)
            go_simp
            refine ⟨_, HA.out _ _ mX.drew mY.drew, hK _ ?_⟩
            clear hK K
            iterate 5 still_step
            refine wpStill_nil ?_
            go_wp2_with fail
            go_roundw
            case rel => exact ⟨i + 1, by go_num, by omega, HDD.out, mR.drew.far (show w.heap.size ≠ G by omega) _, mX.drew.far (show w.heap.size + 1 ≠ G by omega) _, nG, mb.drew.setCell (show w.heap.size ≤ G by omega) _⟩
            case measure => simp [intOf]; omega
        · have hi32 : i = 32 := by omega
          have hi33 : ¬ (i : Int) < 32 := by omega
          have hdd : ¬ (x = y ∨ x = z ∨ y = z) := by
            rcases hD with h | h
            · omega
            · exact h
          have HK := Lib.hid (HRd.out hdd)
          rw [hi32, part8_all _ 32 hJl] at hG
          have hiJ : (Try.prog.info? 36).map (·.size) = some (c8 J).size := by rw [c8_size, hJl]; kernel_rfl
          have nR := hR.rowed (c8 J)
          clear hi32 hlt hi hdd hD
          go_wp2_with (first
            | refine wpList_load_row rfl 36 _ rfl G rfl 36 (c8 J) (0, 0) _ hG Try.underlying36 rfl hiJ ?_
            | refine wpList_store_rowTo rfl 36 _ _ rfl rfl w.heap.size (c8 J) rfl rfl 36 (c8 (List.replicate 32 0)) hR hiJ (by rw [c8_size, c8_size, hJl]; rfl) (c8_one _) ?_)
          refine bodyPost_ret (v := .tuple #[.agg (c8 J), .int .i64 0]) ?_ rfl ?_
          · exact results_two_row Try.results37 _ _ w.heap.size 36 (c8 J) _ _ _ rfl rfl nR Try.underlying36 hiJ
          exact ⟨below_setRow hb (Nat.le_refl _) _, by rw [HK.out]⟩
end Go.Proofs.Ytncoghoeeefjhaa
