/- hibernacletop.splits walked. No condition. -/
import Derived.Test.YtojgmeonjgfpoaaShC
import Derived.Test.YtojgmeonjgfpoaaHandH
import Derived.Test.YtojgmeonjgfpoaaEqA
import Derived.Laws.IdiomStrings
namespace Go.Proofs.Ytojgmeonjgfpoaa
open Go.RowKit

def key0 : List UInt8 := [1, 2, 3, 0, 0, 0, 0, 0, 0, 0, 0, 0, 0, 0, 0, 0, 0, 0, 0, 0, 0, 0, 0, 0, 0, 0, 0, 0, 0, 0, 0, 0]
def nulL (n : Nat) : List UInt8 := List.replicate n 0
def nulls (n : Nat) : ByteArray := ⟨(List.replicate n (0 : UInt8)).toArray⟩
theorem nulls_size (n : Nat) : (nulls n).size = n := by
  have : (bl (nulls n)).length = (nulls n).size := Array.length_toList
  rw [← this]
  exact List.length_replicate
theorem info8k : (Try.prog.info? 5).map (fun i => (i.zero, i.size, i.bytes)) = some (some (.int .u8 0), 1, 1) := by kernel_rfl
theorem made_nulls (n : Nat) : madeCells #[Value.int .u8 0] n = c8 (List.replicate n 0) := by
  have h : ∀ i, (#[Value.int .u8 0] : Array Value)[i % (#[Value.int .u8 0] : Array Value).size]! = Value.int .u8 0 := fun i => by
    have e : i % (#[Value.int .u8 0] : Array Value).size = 0 := by show i % 1 = 0; omega
    rw [e]; rfl
  unfold madeCells
  rw [show (fun x => (#[Value.int .u8 0] : Array Value)[x % (#[Value.int .u8 0] : Array Value).size]!) = fun _ => Value.int .u8 0 from funext h]
  apply Array.ext
  · simp [c8]
  · intro i h1 h2
    simp [c8]
theorem make_nulls (w : World) : (Instr.makeSlice 50 (.int .i64 64) (.int .i64 64)).run Try.prog w = .ok (.slice (some ⟨w.heap.size, 0, none⟩) 64 64) (w.alloc (.cells (c8 (nulL 64)) 5)) := by
  obtain ⟨i0, hi, hz0, hz1, hz2⟩ := info_parts info8k
  have h := run_makeSlice (P := Try.prog) w 50 5 i0 _ Try.underlying50 hi hz0 .i64 .i64 64 64 (by decide) (by decide) (by rw [hz1]; decide) (by rw [hz2]; decide) (by decide)
  rw [h, hz1]
  rw [show (Value.int IntKind.u8 0).cells = #[Value.int .u8 0] from rfl, made_nulls]
  rfl
theorem conv_nulls (g n : Nat) (T : TypeId) (w : World) (h : Blk w g T (c8 (nulL n))) : (convert 50 9 (.slice (some ⟨g, 0, none⟩) n n)).run Try.prog w = .ok (.string (nulls n)) w := by
  have hl : (List.replicate n (0 : UInt8)).length = n := List.length_replicate
  have := run_convert_bytes_back (P := Try.prog) w 50 9 5 ⟨g, 0, none⟩ n (List.replicate n 0) Try.underlying50 Try.underlying5 Try.underlying9 (fun j hj => by
    rw [Addr.add_mid, Nat.zero_add, h.cell j, c8_at (nulL n) j hj, nulL, at8, List.getD_eq_getElem?_getD, List.getElem?_eq_getElem hj]
    rfl)
  rw [hl] at this
  exact this

theorem load_mid_yields {P : Program} {o : Oper} {a : Act} {w : World} (ty : TypeId) (x : Operand) (ho : o.op = .load ty x)
    (b off : Nat) (hx : a.eval x = .pointer (some ⟨b, off, none⟩)) (cs : List Value) (d : TypeDesc) (hc : w.rangeAt b off cs)
    (hu : P.underlying ty = some d) (hd : d.isRow = true) (hi : (P.info? ty).map (·.size) = some cs.length) : (execOp a.eval o).run P w = .ok (.value (.agg cs.toArray)) w := by
  unfold execOp
  simp only [ho, hx, Instr.loadAt, Instr.sureAddr, Sem.run_bind, Sem.run_pure, Result.andThen_ok, run_loadVar_mid w b off ty cs d hc hu hd hi]
theorem wp_three {o : Oper} {a : Act} {w : World} {K : Act → World → Prop} {Q : Exit → Act → World → Prop} (x y z : Operand) (ho : o.op = .buildSlice 47 3 #[(0, x), (1, y), (2, z)]) (S1 S2 S3 : List UInt8)
    (hx : a.eval x = .agg (c8 S1)) (hy : a.eval y = .agg (c8 S2)) (hz : a.eval z = .agg (c8 S3)) (h1 : S1.length = 33) (h2 : S2.length = 33) (h3 : S3.length = 33)
    (h : K (a.put o.dst (.slice (some ⟨w.heap.size, 0, none⟩) 3 3)) (w.alloc (.cells (c8 (S1 ++ S2 ++ S3)) 52))) : o.wp Try.prog a w K Q := by
  have hb := build_three S1 S2 S3 h1 h2 h3 w
  unfold Oper.wp execOp
  simp only [ho, List.map_toArray, List.map_cons, List.map_nil, hx, hy, hz, Sem.run_bind, hb, Result.andThen_ok]
  exact h
theorem wpList_load_row_g {P : Program} {ops : Array Oper} {rest : List Oper} {o : Oper} {a : Act} {w : World} {Q : Exit → Act → World → Prop} (hgd : Region.wanted o (yielded ops a.tmps) = true) (ty : TypeId) (x : Operand) (ho : o.op = .load ty x)
    (g : Nat) (hx : a.eval x = .pointer (some ⟨g, 0, none⟩)) (t : TypeId) (cs : Array Value) (n : Nat) (e : TypeId) (hg : w.heap[g]? = some (.cells cs t (0, 0)))
    (hu : P.underlying ty = some (.array n e)) (hi : (P.info? ty).map (·.size) = some cs.size)
    (h : wpList P ops Q rest (a.put o.dst (.agg cs)) w) : wpList P ops Q (o :: rest) a w :=
  wpList_step fun K hK => by rw [if_pos hgd]; exact wp_load_row ty x ho g hx t cs (0, 0) (.array n e) hg hu rfl hi (hK _ _ h)
theorem key0_eq (w : World) : (Op.equalIn 10000 45 (.agg (c8 key0)) (.agg #[.int .u8 1, .int .u8 2, .int .u8 3, .int .u8 0, .int .u8 0, .int .u8 0, .int .u8 0, .int .u8 0, .int .u8 0, .int .u8 0, .int .u8 0, .int .u8 0, .int .u8 0, .int .u8 0, .int .u8 0, .int .u8 0, .int .u8 0, .int .u8 0, .int .u8 0, .int .u8 0, .int .u8 0, .int .u8 0, .int .u8 0, .int .u8 0, .int .u8 0, .int .u8 0, .int .u8 0, .int .u8 0, .int .u8 0, .int .u8 0, .int .u8 0, .int .u8 0])).run Try.prog w = .ok true w := by
  have h := eq_keys 9998 key0 key0 w rfl rfl
  rw [decide_eq_true (rfl : key0 = key0)] at h
  exact h
def sh4 : List UInt8 := ((sharesL key0 (bl (nulls 64)) 5).drop 132).take 33
def sh0 : List UInt8 := ((sharesL key0 (bl (nulls 64)) 5).drop 0).take 33
def sh2 : List UInt8 := ((sharesL key0 (bl (nulls 64)) 5).drop 66).take 33
theorem sh4_len : sh4.length = 33 := by decide +kernel
theorem sh0_len : sh0.length = 33 := by decide +kernel
theorem sh2_len : sh2.length = 33 := by decide +kernel
theorem sh_join : joinL (sh4 ++ sh0 ++ sh2) = key0 := by decide +kernel
theorem sh_xs : at8 (sh4 ++ sh0 ++ sh2) 0 = 5 ∧ at8 (sh4 ++ sh0 ++ sh2) 33 = 1 ∧ at8 (sh4 ++ sh0 ++ sh2) 66 = 3 := by decide +kernel
theorem splits_join (W : World) (B : Nat) (h : Blk W B 52 (c8 (sh4 ++ sh0 ++ sh2))) : Calls Try.prog 20 #[.slice (some ⟨B, 0, none⟩) 3 3] W fun e w' => e = .returned (.tuple #[.agg (c8 key0), .int .i64 0]) ∧ Below W.heap.size W w' := by
  obtain ⟨x1, x2, x3⟩ := sh_xs
  refine (join_any B (sh4 ++ sh0 ++ sh2) W (by rw [List.length_append, List.length_append, sh4_len, sh0_len, sh2_len]) h (by rw [x1]; decide) (by rw [x2]; decide) (by rw [x3]; decide)).mono ?_
  rintro e w' ⟨hb, rfl⟩
  refine ⟨?_, hb⟩
  rw [x1, x2, x3, sh_join, if_neg (by decide)]

set_option maxRecDepth 100000 in
set_option maxHeartbeats 8000000 in
theorem splits_any (w : World) : Calls Try.prog 21 #[] w fun e w' => e = .returned (.bool true) ∧ Below w.heap.size w w' := by
  have hmk := make_nulls
  have hcv := conv_nulls w.heap.size 64 5 _ (Blk.new w 5 (c8 (nulL 64)))
  have hSP : ∀ w : World, Calls Try.prog 19 #[.agg (c8 key0), .int .i64 5, .string (nulls 64)] w fun e w' => ∃ G, e = .returned (.tuple #[.slice (some ⟨G, 0, none⟩) 5 5, .int .i64 0]) ∧ w.heap.size ≤ G ∧
      Blk w' G 52 (c8 (sharesL key0 (bl (nulls 64)) 5)) ∧ Below w.heap.size w w' := fun w => split_any key0 5 (nulls 64) w rfl (by decide) (by decide) (nulls_size 64)
  have HSP := Lib.hid hSP
  clear hSP
  go_enter Try.func21, Try.ntmps21
  go_wp2_with fail
  refine (HSP.out _).mono ?_
  rintro e w2 ⟨G, rfl, hGl, hG, hb2⟩
  have hGd := hG.drew
  have hu := Try.underlying52
  have i4 : (Try.prog.info? 52).map (·.size) = some (c8 sh4).toList.length := by rw [Array.length_toList, c8_size, sh4_len]; kernel_rfl
  have i0 : (Try.prog.info? 52).map (·.size) = some (c8 sh0).toList.length := by rw [Array.length_toList, c8_size, sh0_len]; kernel_rfl
  have i2 : (Try.prog.info? 52).map (·.size) = some (c8 sh2).toList.length := by rw [Array.length_toList, c8_size, sh2_len]; kernel_rfl
  have hb3 := build_three sh4 sh0 sh2 sh4_len sh0_len sh2_len
  go_wp2_with fail
  refine held_start (fun W => Blk W G 52 (c8 (sharesL key0 (bl (nulls 64)) 5))) (by kernel_rfl) ?_
  refine held_take (i := 0) (.slice (some ⟨G, 0, none⟩) 5 5) hGd rfl rfl (by kernel_rfl) (by kernel_rfl) (by kernel_rfl) (fun _ _ _ h => h) (by intro w _; go_simp) ?_
  go_simp
  refine held_take (i := 1) (.pointer (some ⟨G, 132, none⟩)) hGd rfl rfl (by kernel_rfl) (by kernel_rfl) (by kernel_rfl) (fun _ _ _ h => h) (by intro w _; go_simp) ?_
  go_simp
  refine held_take (i := 2) (.agg (c8 sh4)) hGd rfl rfl (by kernel_rfl) (by kernel_rfl) (by kernel_rfl) (fun _ _ _ h => h) (fun W hW => load_mid_yields 52 _ rfl G 132 rfl (c8 sh4).toList _ (Blk.range hW 132 33) hu rfl i4) ?_
  go_simp
  refine held_take (i := 3) (.slice (some ⟨G, 0, none⟩) 5 5) hGd rfl rfl (by kernel_rfl) (by kernel_rfl) (by kernel_rfl) (fun _ _ _ h => h) (by intro w _; go_simp) ?_
  go_simp
  refine held_take (i := 4) (.pointer (some ⟨G, 0, none⟩)) hGd rfl rfl (by kernel_rfl) (by kernel_rfl) (by kernel_rfl) (fun _ _ _ h => h) (by intro w _; go_simp) ?_
  go_simp
  refine held_take (i := 5) (.agg (c8 sh0)) hGd rfl rfl (by kernel_rfl) (by kernel_rfl) (by kernel_rfl) (fun _ _ _ h => h) (fun W hW => load_mid_yields 52 _ rfl G 0 rfl (c8 sh0).toList _ (Blk.range hW 0 33) hu rfl i0) ?_
  go_simp
  refine held_take (i := 6) (.slice (some ⟨G, 0, none⟩) 5 5) hGd rfl rfl (by kernel_rfl) (by kernel_rfl) (by kernel_rfl) (fun _ _ _ h => h) (by intro w _; go_simp) ?_
  go_simp
  refine held_take (i := 7) (.pointer (some ⟨G, 66, none⟩)) hGd rfl rfl (by kernel_rfl) (by kernel_rfl) (by kernel_rfl) (fun _ _ _ h => h) (by intro w _; go_simp) ?_
  go_simp
  refine held_take (i := 8) (.agg (c8 sh2)) hGd rfl rfl (by kernel_rfl) (by kernel_rfl) (by kernel_rfl) (fun _ _ _ h => h) (fun W hW => load_mid_yields 52 _ rfl G 66 rfl (c8 sh2).toList _ (Blk.range hW 66 33) hu rfl i2) ?_
  go_simp
  have hke := key0_eq
  have hik : (Try.prog.info? 45).map (·.size) = some (c8 key0).size := by kernel_rfl
  have hG := hGd
  have hGl2 : w.heap.size < G := by simp at hGl; omega
  have hbw : Below w.heap.size w w2 := ((Below.refl w.heap.size w).alloc (Nat.le_refl _) (.cells (c8 (nulL 64)) 5)).trans (hb2.mono (by simp))
  have hbs := hbw.size
  clear hb2 hGl
  refine held_two (i := 9) (j := 14) (by kernel_rfl) rfl rfl rfl rfl (fun K hK => ?_) (fun K hK => ?_)
  · refine wp_three _ _ _ rfl sh4 sh0 sh2 rfl rfl rfl sh4_len sh0_len sh2_len (hK _ _ ⟨hGd.alloc _, ?_⟩)
    clear hK K
    go_simp
    refine held_two (i := 10) (j := 14) (by kernel_rfl) rfl rfl rfl rfl (fun K hK => ?_) (fun K hK => ?_)
    rotate_left
    · go_simp
      refine hK _ _ ⟨(hGd.alloc _).alloc _, ?_⟩
      clear hK K
      go_simp
      have hS1 : Blk ((w2.alloc (.cells (c8 (sh4 ++ sh0 ++ sh2)) 52)).alloc (.cells (c8 (List.replicate 32 0)) 45)).drew w2.heap.size 52 (c8 (sh4 ++ sh0 ++ sh2)) := ((Blk.new w2 _ _).alloc _).drew
      have hR1 : Blk ((w2.alloc (.cells (c8 (sh4 ++ sh0 ++ sh2)) 52)).alloc (.cells (c8 (List.replicate 32 0)) 45)).drew (w2.heap.size + 1) 45 (c8 (List.replicate 32 0)) := by
        have h := Blk.new (w2.alloc (.cells (c8 (sh4 ++ sh0 ++ sh2)) 52)) 45 (c8 (List.replicate 32 0))
        rw [World.size_alloc] at h
        exact h
      refine held_one (i := 10) (by kernel_rfl) rfl rfl (fun K hK => ?_)
      go_simp
      refine (splits_join _ _ hS1).mono ?_
      rintro e w3 ⟨rfl, hb3'⟩
      have hG3 := ((hGd.alloc (.cells (c8 (sh4 ++ sh0 ++ sh2)) 52)).alloc (.cells (c8 (List.replicate 32 0)) 45)).below hb3' ((hGd.alloc (.cells (c8 (sh4 ++ sh0 ++ sh2)) 52)).alloc (.cells (c8 (List.replicate 32 0)) 45)).lt
      refine hK _ _ ⟨hG3, ?_⟩
      clear hK K
      go_simp
      refine held_take (i := 11) (.tuple #[.agg (c8 key0), .int .i64 0]) hG3 rfl rfl (by kernel_rfl) (by kernel_rfl) (by kernel_rfl) (fun _ _ _ h => h) (by intro w _; go_simp) ?_
      go_simp
      refine held_take (i := 12) (.agg (c8 key0)) hG3 rfl rfl (by kernel_rfl) (by kernel_rfl) (by kernel_rfl) (fun _ _ _ h => h) (by intro w _; go_simp) ?_
      go_simp
      refine held_take (i := 13) (.int .i64 0) hG3 rfl rfl (by kernel_rfl) (by kernel_rfl) (by kernel_rfl) (fun _ _ _ h => h) (by intro w _; go_simp) ?_
      go_simp
      have hR := hR1.below hb3' hR1.lt
      have hGR : G ≠ w2.heap.size + 1 := by have hlt : G < w2.heap.size := hGd.lt; omega
      refine held_one (i := 15) (by kernel_rfl) rfl rfl (fun K hK => wp_store_row 45 _ _ rfl (w2.heap.size + 1) (c8 key0) rfl rfl 45 _ hR hik rfl (c8_one _) (hK _ _ ⟨Blk.rowedFar (hG3) hGR _, ?_⟩))
      have nR := hR.rowed (c8 key0)
      have nb := below_setRow (((hbw.drew.alloc hbs (.cells (c8 (sh4 ++ sh0 ++ sh2)) 52)).alloc (by simp; omega) (.cells (c8 (List.replicate 32 0)) 45)).trans (hb3'.mono (by simp; omega))) (show w.heap.size ≤ w2.heap.size + 1 by omega) (c8 key0)
      have nG := Blk.rowedFar (hG3) hGR (c8 key0)
      refine held_one (i := 16) (by kernel_rfl) rfl rfl (fun K hK => ?_)
      go_simp
      refine hK _ _ ⟨nG, ?_⟩
      clear hK K
      refine wpAnyH_done (by kernel_rfl) ?_ _
      go_wp2_with (refine wpList_load_row_g (by rfl) 45 _ rfl (w2.heap.size + 1) rfl 45 (c8 key0) _ _ nR Try.underlying45 hik ?_)
      go_ret
      exact ⟨rfl, nb⟩
    go_simp
    refine (splits_join _ _ (Blk.new _ _ _).drew).mono ?_
    rintro e w3 ⟨rfl, hb3'⟩
    have hG3 := (hGd.alloc (.cells (c8 (sh4 ++ sh0 ++ sh2)) 52)).below hb3' (hGd.alloc (.cells (c8 (sh4 ++ sh0 ++ sh2)) 52)).lt
    refine hK _ _ ⟨hG3, ?_⟩
    clear hK K
    go_simp
    refine held_take (i := 11) (.tuple #[.agg (c8 key0), .int .i64 0]) hG3 rfl rfl (by kernel_rfl) (by kernel_rfl) (by kernel_rfl) (fun _ _ _ h => h) (by intro w _; go_simp) ?_
    go_simp
    refine held_take (i := 12) (.agg (c8 key0)) hG3 rfl rfl (by kernel_rfl) (by kernel_rfl) (by kernel_rfl) (fun _ _ _ h => h) (by intro w _; go_simp) ?_
    go_simp
    refine held_take (i := 13) (.int .i64 0) hG3 rfl rfl (by kernel_rfl) (by kernel_rfl) (by kernel_rfl) (fun _ _ _ h => h) (by intro w _; go_simp) ?_
    go_simp
    refine held_one (i := 14) (by kernel_rfl) rfl rfl (fun K hK => ?_)
    go_simp
    refine hK _ _ ⟨hG3.alloc _, ?_⟩
    clear hK K
    have hR := Blk.new w3 45 (c8 (List.replicate 32 0))
    have hGR : G ≠ w3.heap.size := by have := hG3.lt; omega
    refine held_one (i := 15) (by kernel_rfl) rfl rfl (fun K hK => wp_store_row 45 _ _ rfl (w3.heap.size) (c8 key0) rfl rfl 45 _ hR hik rfl (c8_one _) (hK _ _ ⟨Blk.rowedFar (hG3.alloc (.cells (c8 (List.replicate 32 0)) 45)) hGR _, ?_⟩))
    have nR := hR.rowed (c8 key0)
    have nb := below_setRow (((hbw.drew.alloc hbs (.cells (c8 (sh4 ++ sh0 ++ sh2)) 52)).trans (hb3'.mono (by simp; omega))).alloc (by have := hG3.lt; omega) (.cells (c8 (List.replicate 32 0)) 45)) (show w.heap.size ≤ w3.heap.size by have := hG3.lt; omega) (c8 key0)
    have nG := Blk.rowedFar (hG3.alloc (.cells (c8 (List.replicate 32 0)) 45)) hGR (c8 key0)
    refine held_one (i := 16) (by kernel_rfl) rfl rfl (fun K hK => ?_)
    go_simp
    refine hK _ _ ⟨nG, ?_⟩
    clear hK K
    refine wpAnyH_done (by kernel_rfl) ?_ _
    go_wp2_with (refine wpList_load_row_g (by rfl) 45 _ rfl (w3.heap.size) rfl 45 (c8 key0) _ _ nR Try.underlying45 hik ?_)
    go_ret
    exact ⟨rfl, nb⟩
  · go_simp
    refine hK _ _ ⟨hGd.alloc _, ?_⟩
    clear hK K
    go_simp
    refine held_one (i := 9) (by kernel_rfl) rfl rfl (fun K hK => wp_three _ _ _ rfl sh4 sh0 sh2 rfl rfl rfl sh4_len sh0_len sh2_len (hK _ _ ⟨(hGd.alloc _).alloc _, ?_⟩))
    go_simp
    have hS1 : Blk ((w2.alloc (.cells (c8 (List.replicate 32 0)) 45)).alloc (.cells (c8 (sh4 ++ sh0 ++ sh2)) 52)).drew (w2.heap.size + 1) 52 (c8 (sh4 ++ sh0 ++ sh2)) := by
      have h := Blk.new (w2.alloc (.cells (c8 (List.replicate 32 0)) 45)) 52 (c8 (sh4 ++ sh0 ++ sh2))
      rw [World.size_alloc] at h
      exact h
    have hR1 : Blk ((w2.alloc (.cells (c8 (List.replicate 32 0)) 45)).alloc (.cells (c8 (sh4 ++ sh0 ++ sh2)) 52)).drew w2.heap.size 45 (c8 (List.replicate 32 0)) := ((Blk.new w2 _ _).alloc _).drew
    refine held_one (i := 10) (by kernel_rfl) rfl rfl (fun K hK => ?_)
    go_simp
    refine (splits_join _ _ hS1).mono ?_
    rintro e w3 ⟨rfl, hb3'⟩
    have hG3 := ((hGd.alloc (.cells (c8 (List.replicate 32 0)) 45)).alloc (.cells (c8 (sh4 ++ sh0 ++ sh2)) 52)).below hb3' ((hGd.alloc (.cells (c8 (List.replicate 32 0)) 45)).alloc (.cells (c8 (sh4 ++ sh0 ++ sh2)) 52)).lt
    refine hK _ _ ⟨hG3, ?_⟩
    clear hK K
    go_simp
    refine held_take (i := 11) (.tuple #[.agg (c8 key0), .int .i64 0]) hG3 rfl rfl (by kernel_rfl) (by kernel_rfl) (by kernel_rfl) (fun _ _ _ h => h) (by intro w _; go_simp) ?_
    go_simp
    refine held_take (i := 12) (.agg (c8 key0)) hG3 rfl rfl (by kernel_rfl) (by kernel_rfl) (by kernel_rfl) (fun _ _ _ h => h) (by intro w _; go_simp) ?_
    go_simp
    refine held_take (i := 13) (.int .i64 0) hG3 rfl rfl (by kernel_rfl) (by kernel_rfl) (by kernel_rfl) (fun _ _ _ h => h) (by intro w _; go_simp) ?_
    go_simp
    have hR := hR1.below hb3' hR1.lt
    have hGR : G ≠ w2.heap.size := by have hlt : G < w2.heap.size := hGd.lt; omega
    refine held_one (i := 15) (by kernel_rfl) rfl rfl (fun K hK => wp_store_row 45 _ _ rfl (w2.heap.size) (c8 key0) rfl rfl 45 _ hR hik rfl (c8_one _) (hK _ _ ⟨Blk.rowedFar (hG3) hGR _, ?_⟩))
    have nR := hR.rowed (c8 key0)
    have nb := below_setRow (((hbw.drew.alloc hbs (.cells (c8 (List.replicate 32 0)) 45)).alloc (by simp; omega) (.cells (c8 (sh4 ++ sh0 ++ sh2)) 52)).trans (hb3'.mono (by simp; omega))) (show w.heap.size ≤ w2.heap.size by omega) (c8 key0)
    have nG := Blk.rowedFar (hG3) hGR (c8 key0)
    refine held_one (i := 16) (by kernel_rfl) rfl rfl (fun K hK => ?_)
    go_simp
    refine hK _ _ ⟨nG, ?_⟩
    clear hK K
    refine wpAnyH_done (by kernel_rfl) ?_ _
    go_wp2_with (refine wpList_load_row_g (by rfl) 45 _ rfl (w2.heap.size) rfl 45 (c8 key0) _ _ nR Try.underlying45 hik ?_)
    go_ret
    exact ⟨rfl, nb⟩
end Go.Proofs.Ytojgmeonjgfpoaa
