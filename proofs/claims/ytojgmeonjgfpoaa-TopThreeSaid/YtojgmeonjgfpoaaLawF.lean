/- TopThree walked (in work). -/
import Derived.Test.YtojgmeonjgfpoaaShD
import Derived.Test.YtojgmeonjgfpoaaThreeS
import Derived.Test.YtojgmeonjgfpoaaHandT
namespace Go.Proofs.Ytojgmeonjgfpoaa
open Go.RowKit

theorem load_row_yields {P : Program} {o : Oper} {a : Act} {w : World} (ty : TypeId) (x : Operand) (ho : o.op = .load ty x) (g : Nat) (hx : a.eval x = .pointer (some ⟨g, 0, none⟩)) (t : TypeId) (cs : Array Value) (n : Nat) (e : TypeId)
    (hg : Blk w g t cs) (hu : P.underlying ty = some (.array n e)) (hi : (P.info? ty).map (·.size) = some cs.size) : (execOp a.eval o).run P w = .ok (.value (.agg cs)) w := by
  unfold execOp
  simp only [ho, hx, Instr.loadAt, Instr.sureAddr, Sem.run_bind, Sem.run_pure, Result.andThen_ok, run_loadVar_row w g t ty cs (0, 0) (.array n e) hg hu rfl hi]
theorem conv_bytes (g : Nat) (T : TypeId) (l : List UInt8) (w : World) (h : Blk w g T (c8 l)) (n : Nat) (hl : l.length = n) : (convert 50 9 (.slice (some ⟨g, 0, none⟩) n n)).run Try.prog w = .ok (.string ⟨l.toArray⟩) w := by
  subst hl
  exact run_convert_bytes_back (P := Try.prog) w 50 9 5 ⟨g, 0, none⟩ l.length l Try.underlying50 Try.underlying5 Try.underlying9 (fun j hj => by
    rw [Addr.add_mid, Nat.zero_add, h.cell j, c8_at l j hj, at8, List.getD_eq_getElem?_getD, List.getElem?_eq_getElem hj]
    rfl)

theorem nul_eq (w : World) : (Op.equalIn 10000 45 (.agg (c8 (nulL 32))) (.agg #[.int .u8 0, .int .u8 0, .int .u8 0, .int .u8 0, .int .u8 0, .int .u8 0, .int .u8 0, .int .u8 0, .int .u8 0, .int .u8 0, .int .u8 0, .int .u8 0, .int .u8 0, .int .u8 0, .int .u8 0, .int .u8 0, .int .u8 0, .int .u8 0, .int .u8 0, .int .u8 0, .int .u8 0, .int .u8 0, .int .u8 0, .int .u8 0, .int .u8 0, .int .u8 0, .int .u8 0, .int .u8 0, .int .u8 0, .int .u8 0, .int .u8 0, .int .u8 0])).run Try.prog w = .ok true w := by
  have h := eq_keys 9998 (nulL 32) (nulL 32) w rfl rfl
  rw [decide_eq_true (rfl : nulL 32 = nulL 32)] at h
  exact h
theorem join_xs (S1 S2 S3 : List UInt8) (i j k : Nat) (B : Nat) (W : World) (h1 : S1.length = 33) (h2 : S2.length = 33) (h3 : S3.length = 33) (x1 : at8 S1 0 = UInt8.ofNat (i + 1)) (x2 : at8 S2 0 = UInt8.ofNat (j + 1)) (x3 : at8 S3 0 = UInt8.ofNat (k + 1))
    (hi : i < 255) (hj : j < 255) (hk : k < 255) (hW : Blk W B 52 (c8 (S1 ++ S2 ++ S3))) :
    Calls Try.prog 20 #[.slice (some ⟨B, 0, none⟩) 3 3] W fun e w' => Below W.heap.size W w' ∧
      e = .returned (if i = j ∨ i = k ∨ j = k then .tuple #[.agg (c8 (List.replicate 32 0)), .int .i64 1] else .tuple #[.agg (c8 (joinL (S1 ++ S2 ++ S3))), .int .i64 0]) := by
  have t0 := three_at S1 S2 S3 h1 h2 0 (by omega)
  rw [Nat.add_zero, Nat.add_zero] at t0
  have hx : ∀ {a b : Nat}, a < 255 → b < 255 → (UInt8.ofNat (a + 1) = UInt8.ofNat (b + 1) ↔ a = b) := fun {a b} ha hb => ⟨fun e => Decidable.byContradiction fun hn => x_inj ha hb hn e, fun e => by rw [e]⟩
  have h := join_any B (S1 ++ S2 ++ S3) W (by rw [List.length_append, List.length_append, h1, h2, h3]) hW (by rw [t0.1, x1]; exact x_ne hi) (by rw [t0.2.1, x2]; exact x_ne hj) (by rw [t0.2.2, x3]; exact x_ne hk)
  rw [t0.1, t0.2.1, t0.2.2, x1, x2, x3] at h
  simp only [hx hi hj, hx hi hk, hx hj hk] at h
  exact h

set_option maxRecDepth 100000 in
set_option maxHeartbeats 8000000 in
theorem three_any (s no : List UInt8) (n a b c : Nat) (w : World) (hs : s.length = 32) (hno : no.length = 64) (hn : n < 256) (ha : a < 256) (hb : b < 256) (hc : c < 256) :
    Calls Try.prog 8 #[.agg (c8 s), .agg (c8 no), .int .u8 n, .int .u8 a, .int .u8 b, .int .u8 c] w fun e w' => e = .returned (.bool true) ∧ Below w.heap.size w w' := by
  obtain ⟨m, hm⟩ : ∃ m, 3 + n % 200 = m := ⟨_, rfl⟩
  have m1 : (n : Int).tmod 200 = ((n % 200 : Nat) : Int) := by rw [Int.tmod_eq_emod_of_nonneg (by omega)]; rfl
  obtain ⟨q, hq⟩ : ∃ q, n % 200 = q := ⟨_, rfl⟩
  rw [hq] at m1 hm
  have m2 : (n : Int) % 200 = (q : Int) := by omega
  have m3 : IntKind.i64.wrap (q : Int) = (q : Int) := IntWalk.i64_in _ (by omega)
  have m4 : IntKind.i64.wrap (3 + (q : Int)) = (m : Int) := by rw [show 3 + (q : Int) = (m : Int) by omega]; exact IntWalk.i64_in _ (by omega)
  have m5 : IntKind.i64.wrap (n : Int) = (n : Int) := IntWalk.i64_in _ (by omega)
  have hmm : 3 ≤ m ∧ m ≤ 202 := by omega
  clear hm hq
  go_enter Try.func8, Try.ntmps8
  go_wp2_with fail
  have hK0 := ((Blk.new w 45 (c8 s)).alloc (.cells (c8 no) 46)).drew
  have hN0 : Blk ((w.alloc (.cells (c8 s) 45)).alloc (.cells (c8 no) 46)).drew (w.heap.size + 1) 46 (c8 no) := by
    have h := Blk.new (w.alloc (.cells (c8 s) 45)) 46 (c8 no)
    rw [World.size_alloc] at h
    exact h
  have hb0 := (((Below.refl w.heap.size w).alloc (Nat.le_refl _) (.cells (c8 s) 45)).alloc (by simp) (.cells (c8 no) 46)).drew
  have hS0 := And.intro hK0 hN0
  have hik : (Try.prog.info? 45).map (·.size) = some (c8 s).size := by rw [c8_size, hs]; kernel_rfl
  refine held_start (fun W => Blk W w.heap.size 45 (c8 s) ∧ Blk W (w.heap.size + 1) 46 (c8 no)) (by kernel_rfl) ?_
  refine held_take (i := 0) (.agg (c8 s)) hS0 rfl rfl (by kernel_rfl) (by kernel_rfl) (by kernel_rfl) (fun _ _ _ h => h) (fun W hW => load_row_yields 45 _ rfl w.heap.size rfl 45 (c8 s) _ _ hW.1 Try.underlying45 hik) ?_
  go_simp
  refine held_take (i := 1) (.int .i64 (m : Int)) hS0 rfl rfl (by kernel_rfl) (by kernel_rfl) (by kernel_rfl) (fun _ _ _ h => h) (by intro w _; go_simp) ?_
  go_simp
  refine held_take (i := 2) (.slice (some ⟨w.heap.size + 1, 0, none⟩) 64 64) hS0 rfl rfl (by kernel_rfl) (by kernel_rfl) (by kernel_rfl) (fun _ _ _ h => h) (by intro w _; go_simp) ?_
  go_simp
  refine held_take (i := 3) (.string ⟨no.toArray⟩) hS0 rfl rfl (by kernel_rfl) (by kernel_rfl) (by kernel_rfl) (fun _ _ _ h => h) (by intro W hW; have hcv := conv_bytes (w.heap.size + 1) _ no W hW.2 64 hno; go_simp) ?_
  go_simp
  refine held_one (i := 4) (by kernel_rfl) rfl rfl (fun K hK => ?_)
  go_simp
  refine (split_any s m ⟨no.toArray⟩ _ hs hmm.1 (by omega) (by show Array.size _ = 64; rw [List.size_toArray]; exact hno)).mono ?_
  rintro e w2 ⟨G, rfl, hGl, hG, hb2⟩
  have hK2 := hK0.below hb2 hK0.lt
  have hN2 := hN0.below hb2 hN0.lt
  have hS2 := And.intro hK2 hN2
  have hb02 := hb0.trans (hb2.mono hb0.size)
  have hGl2 : w.heap.size + 2 ≤ G := by have h := hGl; simp at h; omega
  refine hK _ _ ⟨hS2, ?_⟩
  clear hK K hS0 hK0 hN0 hb0 hb2 hGl
  go_simp
  refine held_take (i := 5) (.tuple #[.slice (some ⟨G, 0, none⟩) m m, .int .i64 0]) hS2 rfl rfl (by kernel_rfl) (by kernel_rfl) (by kernel_rfl) (fun _ _ _ h => h) (by intro w _; go_simp) ?_
  go_simp
  refine held_take (i := 6) (.slice (some ⟨G, 0, none⟩) m m) hS2 rfl rfl (by kernel_rfl) (by kernel_rfl) (by kernel_rfl) (fun _ _ _ h => h) (by intro w _; go_simp) ?_
  go_simp
  refine held_take (i := 7) (.int .i64 0) hS2 rfl rfl (by kernel_rfl) (by kernel_rfl) (by kernel_rfl) (fun _ _ _ h => h) (by intro w _; go_simp) ?_
  go_simp
  refine held_take (i := 8) (.slice (some ⟨G, 0, none⟩) m m) hS2 rfl rfl (by kernel_rfl) (by kernel_rfl) (by kernel_rfl) (fun _ _ _ h => h) (by intro w _; go_simp) ?_
  go_simp
  refine held_take (i := 9) (.int .i64 0) hS2 rfl rfl (by kernel_rfl) (by kernel_rfl) (by kernel_rfl) (fun _ _ _ h => h) (by intro w _; go_simp) ?_
  go_simp
  refine wpAnyH_done (by kernel_rfl) ?_ _
  go_wp2_with fail
  obtain ⟨ia, hia⟩ : ∃ z, a % m = z := ⟨_, rfl⟩
  have hiam : ia < m := by rw [← hia]; exact Nat.mod_lt _ (by omega)
  have hial := shareL_length s no m ia hiam
  have ra1 : (a : Int).tmod (m : Int) = (ia : Int) := by rw [Int.tmod_eq_emod_of_nonneg (by omega), ← hia]; simp
  have ra2 : IntKind.i64.wrap (a : Int) = (a : Int) := IntWalk.i64_in _ (by omega)
  have ra3 : IntKind.i64.wrap (ia : Int) = (ia : Int) := IntWalk.i64_in _ (by omega)
  have ra4 : (0 : Int) ≤ (ia : Int) := by omega
  have ra5 : (ia : Int) < (m : Int) := by omega
  have ra6 : (a : Int) % (m : Int) = (ia : Int) := by rw [← hia]; simp
  obtain ⟨ib, hib⟩ : ∃ z, b % m = z := ⟨_, rfl⟩
  have hibm : ib < m := by rw [← hib]; exact Nat.mod_lt _ (by omega)
  have hibl := shareL_length s no m ib hibm
  have rb1 : (b : Int).tmod (m : Int) = (ib : Int) := by rw [Int.tmod_eq_emod_of_nonneg (by omega), ← hib]; simp
  have rb2 : IntKind.i64.wrap (b : Int) = (b : Int) := IntWalk.i64_in _ (by omega)
  have rb3 : IntKind.i64.wrap (ib : Int) = (ib : Int) := IntWalk.i64_in _ (by omega)
  have rb4 : (0 : Int) ≤ (ib : Int) := by omega
  have rb5 : (ib : Int) < (m : Int) := by omega
  have rb6 : (b : Int) % (m : Int) = (ib : Int) := by rw [← hib]; simp
  obtain ⟨ic, hic⟩ : ∃ z, c % m = z := ⟨_, rfl⟩
  have hicm : ic < m := by rw [← hic]; exact Nat.mod_lt _ (by omega)
  have hicl := shareL_length s no m ic hicm
  have rc1 : (c : Int).tmod (m : Int) = (ic : Int) := by rw [Int.tmod_eq_emod_of_nonneg (by omega), ← hic]; simp
  have rc2 : IntKind.i64.wrap (c : Int) = (c : Int) := IntWalk.i64_in _ (by omega)
  have rc3 : IntKind.i64.wrap (ic : Int) = (ic : Int) := IntWalk.i64_in _ (by omega)
  have rc4 : (0 : Int) ≤ (ic : Int) := by omega
  have rc5 : (ic : Int) < (m : Int) := by omega
  have rc6 : (c : Int) % (m : Int) = (ic : Int) := by rw [← hic]; simp
  have rm : ((m : Int) == 0) = false := by rw [beq_eq_false_iff_ne]; omega
  have rm2 : ¬ m = 0 := by omega
  have hi33 : ∀ S : List UInt8, S.length = 33 → (Try.prog.info? 52).map (·.size) = some (c8 S).toList.length := fun S hS => by rw [Array.length_toList, c8_size, hS]; kernel_rfl
  clear hia hib hic
  refine held_start (fun W => Blk W G 52 (c8 (sharesL s no m))) (by kernel_rfl) ?_
  refine held_take (i := 0) (.slice (some ⟨G, 0, none⟩) m m) hG rfl rfl (by kernel_rfl) (by kernel_rfl) (by kernel_rfl) (fun _ _ _ h => h) (by intro w _; go_simp) ?_
  go_simp
  refine held_take (i := 1) (.int .u8 (a : Int)) hG rfl rfl (by kernel_rfl) (by kernel_rfl) (by kernel_rfl) (fun _ _ _ h => h) (by intro w _; go_simp) ?_
  go_simp
  refine held_take (i := 2) (.int .i64 (a : Int)) hG rfl rfl (by kernel_rfl) (by kernel_rfl) (by kernel_rfl) (fun _ _ _ h => h) (by intro w _; go_simp) ?_
  go_simp
  refine held_take (i := 3) (.int .i64 (m : Int)) hG rfl rfl (by kernel_rfl) (by kernel_rfl) (by kernel_rfl) (fun _ _ _ h => h) (by intro w _; go_simp) ?_
  go_simp
  refine held_take (i := 4) (.int .i64 (ia : Int)) hG rfl rfl (by kernel_rfl) (by kernel_rfl) (by kernel_rfl) (fun _ _ _ h => h) (by intro w _; go_simp) ?_
  go_simp
  refine held_take (i := 5) (.pointer (some ⟨G, ia * 33, none⟩)) hG rfl rfl (by kernel_rfl) (by kernel_rfl) (by kernel_rfl) (fun _ _ _ h => h) (by intro w _; go_simp) ?_
  go_simp
  refine held_take (i := 6) (.agg (c8 (shareL s no m ia))) hG rfl rfl (by kernel_rfl) (by kernel_rfl) (by kernel_rfl) (fun _ _ _ h => h) (fun W hW => load_mid_yields 52 _ rfl G (ia * 33) rfl (c8 (shareL s no m ia)).toList _ (Blk.range hW (ia * 33) 33) Try.underlying52 rfl (hi33 _ hial)) ?_
  go_simp
  refine held_take (i := 7) (.slice (some ⟨G, 0, none⟩) m m) hG rfl rfl (by kernel_rfl) (by kernel_rfl) (by kernel_rfl) (fun _ _ _ h => h) (by intro w _; go_simp) ?_
  go_simp
  refine held_take (i := 8) (.int .u8 (b : Int)) hG rfl rfl (by kernel_rfl) (by kernel_rfl) (by kernel_rfl) (fun _ _ _ h => h) (by intro w _; go_simp) ?_
  go_simp
  refine held_take (i := 9) (.int .i64 (b : Int)) hG rfl rfl (by kernel_rfl) (by kernel_rfl) (by kernel_rfl) (fun _ _ _ h => h) (by intro w _; go_simp) ?_
  go_simp
  refine held_take (i := 10) (.int .i64 (m : Int)) hG rfl rfl (by kernel_rfl) (by kernel_rfl) (by kernel_rfl) (fun _ _ _ h => h) (by intro w _; go_simp) ?_
  go_simp
  refine held_take (i := 11) (.int .i64 (ib : Int)) hG rfl rfl (by kernel_rfl) (by kernel_rfl) (by kernel_rfl) (fun _ _ _ h => h) (by intro w _; go_simp) ?_
  go_simp
  refine held_take (i := 12) (.pointer (some ⟨G, ib * 33, none⟩)) hG rfl rfl (by kernel_rfl) (by kernel_rfl) (by kernel_rfl) (fun _ _ _ h => h) (by intro w _; go_simp) ?_
  go_simp
  refine held_take (i := 13) (.agg (c8 (shareL s no m ib))) hG rfl rfl (by kernel_rfl) (by kernel_rfl) (by kernel_rfl) (fun _ _ _ h => h) (fun W hW => load_mid_yields 52 _ rfl G (ib * 33) rfl (c8 (shareL s no m ib)).toList _ (Blk.range hW (ib * 33) 33) Try.underlying52 rfl (hi33 _ hibl)) ?_
  go_simp
  refine held_take (i := 14) (.slice (some ⟨G, 0, none⟩) m m) hG rfl rfl (by kernel_rfl) (by kernel_rfl) (by kernel_rfl) (fun _ _ _ h => h) (by intro w _; go_simp) ?_
  go_simp
  refine held_take (i := 15) (.int .u8 (c : Int)) hG rfl rfl (by kernel_rfl) (by kernel_rfl) (by kernel_rfl) (fun _ _ _ h => h) (by intro w _; go_simp) ?_
  go_simp
  refine held_take (i := 16) (.int .i64 (c : Int)) hG rfl rfl (by kernel_rfl) (by kernel_rfl) (by kernel_rfl) (fun _ _ _ h => h) (by intro w _; go_simp) ?_
  go_simp
  refine held_take (i := 17) (.int .i64 (m : Int)) hG rfl rfl (by kernel_rfl) (by kernel_rfl) (by kernel_rfl) (fun _ _ _ h => h) (by intro w _; go_simp) ?_
  go_simp
  refine held_take (i := 18) (.int .i64 (ic : Int)) hG rfl rfl (by kernel_rfl) (by kernel_rfl) (by kernel_rfl) (fun _ _ _ h => h) (by intro w _; go_simp) ?_
  go_simp
  refine held_take (i := 19) (.pointer (some ⟨G, ic * 33, none⟩)) hG rfl rfl (by kernel_rfl) (by kernel_rfl) (by kernel_rfl) (fun _ _ _ h => h) (by intro w _; go_simp) ?_
  go_simp
  refine held_take (i := 20) (.agg (c8 (shareL s no m ic))) hG rfl rfl (by kernel_rfl) (by kernel_rfl) (by kernel_rfl) (fun _ _ _ h => h) (fun W hW => load_mid_yields 52 _ rfl G (ic * 33) rfl (c8 (shareL s no m ic)).toList _ (Blk.range hW (ic * 33) 33) Try.underlying52 rfl (hi33 _ hicl)) ?_
  go_simp
  have hshz : ∀ W : World, (Instr.alloc 52 true (.tuple #[])).run Try.prog W = .ok (.pointer (some ⟨W.heap.size, 0, none⟩)) (W.alloc (.cells (c8 (nulL 33)) 52)) := by
    intro W
    go_simp
    rfl
  have hszr : (w2.drew).heap.size = w2.heap.size := rfl
  refine three_allocs (i := 21) (j := 22) (k := 23) hshz rfl rfl rfl rfl rfl rfl rfl rfl rfl rfl rfl rfl (by decide) (by decide) (by decide) (by decide) (by decide) (by decide) (by kernel_rfl) (by kernel_rfl) (by kernel_rfl) (by kernel_rfl) (by kernel_rfl) (by kernel_rfl) (by kernel_rfl) hG (fun W hW => hW.alloc _) (fun X Y Z hXY hXZ hYZ hX hY hZ => ?_)
  clear hshz
  have hK3 := ((hK2.drew.alloc (.cells (c8 (nulL 33)) 52)).alloc (.cells (c8 (nulL 33)) 52)).alloc (.cells (c8 (nulL 33)) 52)
  have hG3 := ((hG.drew.alloc (.cells (c8 (nulL 33)) 52)).alloc (.cells (c8 (nulL 33)) 52)).alloc (.cells (c8 (nulL 33)) 52)
  have hsz2 := hb02.size
  have hb3 := ((hb02.drew.alloc hsz2 (.cells (c8 (nulL 33)) 52)).alloc (by simp; omega) (.cells (c8 (nulL 33)) 52)).alloc (by simp; omega) (.cells (c8 (nulL 33)) 52)
  have hnew := three_new w2.drew 52 (c8 (nulL 33))
  have hX3 := hnew X hX
  have hY3 := hnew Y hY
  have hZ3 := hnew Z hZ
  have hGlt : G < w2.heap.size := hG.lt
  have hKlt : w.heap.size < w2.heap.size := hK2.lt
  obtain ⟨W3, hW3⟩ : ∃ W3, ((w2.drew.alloc (.cells (c8 (nulL 33)) 52)).alloc (.cells (c8 (nulL 33)) 52)).alloc (.cells (c8 (nulL 33)) 52) = W3 := ⟨_, rfl⟩
  rw [hW3] at hK3 hG3 hb3 hX3 hY3 hZ3 ⊢
  rw [hszr] at hX hY hZ
  have hXw : w.heap.size < X := by omega
  have hYw : w.heap.size < Y := by omega
  have hZw : w.heap.size < Z := by omega
  have hXG : G ≠ X := by omega
  have hYG : G ≠ Y := by omega
  have hZG : G ≠ Z := by omega
  clear hX hY hZ hnew hW3 hszr
  have plain1 := share_x s no m ia hiam
  have plain2 := share_x s no m ib hibm
  have plain3 := share_x s no m ic hicm
  have PT := Lib.hid (three_tell s no m ia ib ic hs hiam hibm hicm (by omega))
  have PO := Lib.hid (fun b' => three_other s no m ia ib ic b' hiam hibm hicm (by omega))
  clear ra1 ra2 ra3 ra4 ra5 ra6 rb1 rb2 rb3 rb4 rb5 rb6 rc1 rc2 rc3 rc4 rc5 rc6 rm rm2
  go_simp
  refine held_one (i := 24) (by kernel_rfl) rfl rfl (fun K hK => wp_store_row 52 _ _ rfl X (c8 (shareL s no m ia)) rfl rfl 52 (c8 (nulL 33)) hX3 (by rw [← Array.length_toList]; exact hi33 _ hial) (by rw [c8_size, c8_size, hial]; rfl) (c8_one _) (hK _ _ ⟨hG3.rowedFar hXG _, ?_⟩))
  have hG4 := hG3.rowedFar hXG (c8 (shareL s no m ia))
  have hK4 := hK3.rowedFar (Nat.ne_of_lt hXw) (c8 (shareL s no m ia))
  have hX4 := hX3.rowed (c8 (shareL s no m ia))
  have hY4 := hY3.rowedFar hXY.symm (c8 (shareL s no m ia))
  have hZ4 := hZ3.rowedFar hXZ.symm (c8 (shareL s no m ia))
  have hb4 := below_setRow hb3 (Nat.le_of_lt hXw) (c8 (shareL s no m ia))
  refine held_one (i := 25) (by kernel_rfl) rfl rfl (fun K hK => wp_store_row 52 _ _ rfl Y (c8 (shareL s no m ib)) rfl rfl 52 (c8 (nulL 33)) hY4 (by rw [← Array.length_toList]; exact hi33 _ hibl) (by rw [c8_size, c8_size, hibl]; rfl) (c8_one _) (hK _ _ ⟨hG4.rowedFar hYG _, ?_⟩))
  have hG5 := hG4.rowedFar hYG (c8 (shareL s no m ib))
  have hK5 := hK4.rowedFar (Nat.ne_of_lt hYw) (c8 (shareL s no m ib))
  have hX5 := hX4.rowedFar hXY (c8 (shareL s no m ib))
  have hY5 := hY4.rowed (c8 (shareL s no m ib))
  have hZ5 := hZ4.rowedFar hYZ.symm (c8 (shareL s no m ib))
  have hb5 := below_setRow hb4 (Nat.le_of_lt hYw) (c8 (shareL s no m ib))
  refine held_one (i := 26) (by kernel_rfl) rfl rfl (fun K hK => wp_store_row 52 _ _ rfl Z (c8 (shareL s no m ic)) rfl rfl 52 (c8 (nulL 33)) hZ5 (by rw [← Array.length_toList]; exact hi33 _ hicl) (by rw [c8_size, c8_size, hicl]; rfl) (c8_one _) (hK _ _ ⟨hG5.rowedFar hZG _, ?_⟩))
  have hK6 := hK5.rowedFar (Nat.ne_of_lt hZw) (c8 (shareL s no m ic))
  have hX6 := hX5.rowedFar hXZ (c8 (shareL s no m ic))
  have hY6 := hY5.rowedFar hYZ (c8 (shareL s no m ic))
  have hZ6 := hZ5.rowed (c8 (shareL s no m ic))
  have hb6 := below_setRow hb5 (Nat.le_of_lt hZw) (c8 (shareL s no m ic))
  obtain ⟨W6, hW6⟩ : ∃ W6, ((W3.setRow X (c8 (shareL s no m ia))).setRow Y (c8 (shareL s no m ib))).setRow Z (c8 (shareL s no m ic)) = W6 := ⟨_, rfl⟩
  rw [hW6] at hK6 hX6 hY6 hZ6 hb6 ⊢
  clear hK3 hG3 hb3 hX3 hY3 hZ3 hG4 hK4 hX4 hY4 hZ4 hb4 hG5 hK5 hX5 hY5 hZ5 hb5 hW6
  refine wpAnyH_done (by kernel_rfl) ?_ _
  clear hi33 hG hS2
  generalize shareL s no m ia = S1 at *
  generalize shareL s no m ib = S2 at *
  generalize shareL s no m ic = S3 at *
  have hiS : ∀ S : List UInt8, S.length = 33 → (Try.prog.info? 52).map (·.size) = some (c8 S).size := fun S hS => by rw [c8_size, hS]; kernel_rfl
  have hsz6 := hb6.size
  have hJ6 : ∀ W, Blk W W6.heap.size 52 (c8 (S1 ++ S2 ++ S3)) → Calls Try.prog 20 #[.slice (some ⟨W6.heap.size, 0, none⟩) 3 3] W fun e w' => Below W.heap.size W w' ∧
      e = .returned (if ia = ib ∨ ia = ic ∨ ib = ic then .tuple #[.agg (c8 (nulL 32)), .int .i64 1] else .tuple #[.agg (c8 (joinL (S1 ++ S2 ++ S3))), .int .i64 0]) := fun W hW => join_xs S1 S2 S3 ia ib ic W6.heap.size W hial hibl hicl plain1 plain2 plain3 (by omega) (by omega) (by omega) hW
  have HJ6 := Lib.hid hJ6
  clear hJ6
  have hX0 : (c8 S1)[0]? = some (.int .u8 ((ia + 1 : Nat) : Int)) := by rw [c8_at S1 0 (by omega), plain1, UInt8.toNat_ofNat', Nat.mod_eq_of_lt (by omega)]
  have hY0 : (c8 S2)[0]? = some (.int .u8 ((ib + 1 : Nat) : Int)) := by rw [c8_at S2 0 (by omega), plain2, UInt8.toNat_ofNat', Nat.mod_eq_of_lt (by omega)]
  have hZ0 : (c8 S3)[0]? = some (.int .u8 ((ic + 1 : Nat) : Int)) := by rw [c8_at S3 0 (by omega), plain3, UInt8.toNat_ofNat', Nat.mod_eq_of_lt (by omega)]
  obtain ⟨xa, hxa⟩ : ∃ xa, ia + 1 = xa := ⟨_, rfl⟩
  obtain ⟨xb, hxb⟩ : ∃ xb, ib + 1 = xb := ⟨_, rfl⟩
  obtain ⟨xc, hxc⟩ : ∃ xc, ic + 1 = xc := ⟨_, rfl⟩
  rw [hxa] at hX0
  rw [hxb] at hY0
  rw [hxc] at hZ0
  go_simp
  go_wp2_with (first
    | refine wpList_load_row rfl 52 _ rfl X rfl 52 (c8 S1) (0, 0) _ hX6 Try.underlying52 rfl (hiS _ hial) ?_
    | refine wpList_load_row rfl 52 _ rfl Y rfl 52 (c8 S2) (0, 0) _ hY6 Try.underlying52 rfl (hiS _ hibl) ?_
    | refine wpList_load_row rfl 52 _ rfl Z rfl 52 (c8 S3) (0, 0) _ hZ6 Try.underlying52 rfl (hiS _ hicl) ?_
    | refine wpList_plain rfl (fun K hK => wp_three _ _ _ rfl S1 S2 S3 rfl rfl rfl hial hibl hicl (hK _ _ ?_)))
  have hS6 := Blk.new W6 52 (c8 (S1 ++ S2 ++ S3))
  rw [List.append_assoc] at hS6
  refine (HJ6.out _ (by rw [List.append_assoc]; exact hS6)).mono ?_
  rintro e w7 ⟨hb7, rfl⟩
  have hK7 := (hK6.alloc (.cells (c8 (S1 ++ (S2 ++ S3))) 52)).below hb7 (hK6.alloc _).lt
  have hX7 := (hX6.alloc (.cells (c8 (S1 ++ (S2 ++ S3))) 52)).below hb7 (hX6.alloc _).lt
  have hY7 := (hY6.alloc (.cells (c8 (S1 ++ (S2 ++ S3))) 52)).below hb7 (hY6.alloc _).lt
  have hZ7 := (hZ6.alloc (.cells (c8 (S1 ++ (S2 ++ S3))) 52)).below hb7 (hZ6.alloc _).lt
  have hb07 := (hb6.alloc hsz6 (.cells (c8 (S1 ++ (S2 ++ S3))) 52)).trans (hb7.mono (by simp; omega))
  have hsz7 := hb07.size
  have hR7 := Blk.new w7 45 (c8 (nulL 32))
  have hikk : ∀ l : List UInt8, l.length = 32 → (Try.prog.info? 45).map (·.size) = some (c8 l).size := fun l hl => by rw [c8_size, hl]; kernel_rfl
  clear hS6 hK6 hX6 hY6 hZ6 hb6 hb7 HJ6
  by_cases heq : ia = ib ∨ ia = ic ∨ ib = ic
  · rw [if_pos heq]
    have hR8 := hR7.rowed (c8 (nulL 32))
    have hX8 := (hX7.alloc (.cells (c8 (nulL 32)) 45)).rowedFar (Nat.ne_of_lt hX7.lt) (c8 (nulL 32))
    have hY8 := (hY7.alloc (.cells (c8 (nulL 32)) 45)).rowedFar (Nat.ne_of_lt hY7.lt) (c8 (nulL 32))
    have hZ8 := (hZ7.alloc (.cells (c8 (nulL 32)) 45)).rowedFar (Nat.ne_of_lt hZ7.lt) (c8 (nulL 32))
    have hb8 := below_setRow (hb07.alloc hsz7 (.cells (c8 (nulL 32)) 45)) hsz7 (c8 (nulL 32))
    obtain ⟨W8, hW8⟩ : ∃ W8, (w7.alloc (.cells (c8 (nulL 32)) 45)).setRow w7.heap.size (c8 (nulL 32)) = W8 := ⟨_, rfl⟩
    rw [hW8] at hR8 hX8 hY8 hZ8 hb8
    have cX := (hX8.cell 0).trans hX0
    have cY := (hY8.cell 0).trans hY0
    have cZ := (hZ8.cell 0).trans hZ0
    have hke := nul_eq
    have hik32 := hikk (nulL 32) rfl
    have hsz8 := hb8.size
    clear hX8 hY8 hZ8 hK7 hX7 hY7 hZ7 hb07 hX0 hY0 hZ0 hikk PT PO
    by_cases q1 : ia = ib
    · have e1 : ((xa : Int) == (xb : Int)) = true := by rw [beq_iff_eq]; omega
      clear hxa hxb hxc q1 heq
      go_wp2_with (first
        | (refine wpList_store_rowTo rfl 45 _ _ rfl rfl w7.heap.size (c8 (nulL 32)) rfl rfl 45 (c8 (nulL 32)) hR7 hik32 rfl (c8_one _) ?_; change wpList _ _ _ _ _ ((w7.alloc (.cells (c8 (nulL 32)) 45)).setRow w7.heap.size (c8 (nulL 32))); rw [hW8])
        | refine wpList_load_row_g (by rfl) 45 _ rfl w7.heap.size rfl 45 (c8 (nulL 32)) _ _ hR8 Try.underlying45 hik32 ?_
        | (go_at_call 21; refine (splits_any _).mono ?_; rintro e w9 ⟨rfl, hb9⟩))
      go_ret
      exact ⟨rfl, hb8.trans (hb9.mono hsz8)⟩
    · by_cases q2 : ia = ic
      · have e1 : ((xa : Int) == (xb : Int)) = false := by rw [beq_eq_false_iff_ne]; omega
        have e2 : ((xa : Int) == (xc : Int)) = true := by rw [beq_iff_eq]; omega
        clear hxa hxb hxc q1 q2 heq
        go_wp2_with (first
          | (refine wpList_store_rowTo rfl 45 _ _ rfl rfl w7.heap.size (c8 (nulL 32)) rfl rfl 45 (c8 (nulL 32)) hR7 hik32 rfl (c8_one _) ?_; change wpList _ _ _ _ _ ((w7.alloc (.cells (c8 (nulL 32)) 45)).setRow w7.heap.size (c8 (nulL 32))); rw [hW8])
          | refine wpList_load_row_g (by rfl) 45 _ rfl w7.heap.size rfl 45 (c8 (nulL 32)) _ _ hR8 Try.underlying45 hik32 ?_
          | (go_at_call 21; refine (splits_any _).mono ?_; rintro e w9 ⟨rfl, hb9⟩))
        go_ret
        exact ⟨rfl, hb8.trans (hb9.mono hsz8)⟩
      · have e1 : ((xa : Int) == (xb : Int)) = false := by rw [beq_eq_false_iff_ne]; omega
        have e2 : ((xa : Int) == (xc : Int)) = false := by rw [beq_eq_false_iff_ne]; omega
        have e3 : ((xb : Int) == (xc : Int)) = true := by rw [beq_iff_eq]; omega
        clear hxa hxb hxc q1 q2 heq
        go_wp2_with (first
          | (refine wpList_store_rowTo rfl 45 _ _ rfl rfl w7.heap.size (c8 (nulL 32)) rfl rfl 45 (c8 (nulL 32)) hR7 hik32 rfl (c8_one _) ?_; change wpList _ _ _ _ _ ((w7.alloc (.cells (c8 (nulL 32)) 45)).setRow w7.heap.size (c8 (nulL 32))); rw [hW8])
          | refine wpList_load_row_g (by rfl) 45 _ rfl w7.heap.size rfl 45 (c8 (nulL 32)) _ _ hR8 Try.underlying45 hik32 ?_
          | (go_at_call 21; refine (splits_any _).mono ?_; rintro e w9 ⟨rfl, hb9⟩))
        go_ret
        exact ⟨rfl, hb8.trans (hb9.mono hsz8)⟩
  · rw [if_neg heq]
    have u1 : ia ≠ ib := fun e => heq (.inl e)
    have u2 : ia ≠ ic := fun e => heq (.inr (.inl e))
    have u3 : ib ≠ ic := fun e => heq (.inr (.inr e))
    have e1 : ((xa : Int) == (xb : Int)) = false := by rw [beq_eq_false_iff_ne]; omega
    have e2 : ((xa : Int) == (xc : Int)) = false := by rw [beq_eq_false_iff_ne]; omega
    have e3 : ((xb : Int) == (xc : Int)) = false := by rw [beq_eq_false_iff_ne]; omega
    rw [PT.out u1 u2 u3]
    have hR8 := hR7.rowed (c8 s)
    have hK8 := (hK7.alloc (.cells (c8 (nulL 32)) 45)).rowedFar (Nat.ne_of_lt hK7.lt) (c8 s)
    have hX8 := (hX7.alloc (.cells (c8 (nulL 32)) 45)).rowedFar (Nat.ne_of_lt hX7.lt) (c8 s)
    have hY8 := (hY7.alloc (.cells (c8 (nulL 32)) 45)).rowedFar (Nat.ne_of_lt hY7.lt) (c8 s)
    have hZ8 := (hZ7.alloc (.cells (c8 (nulL 32)) 45)).rowedFar (Nat.ne_of_lt hZ7.lt) (c8 s)
    have hb8 := below_setRow (hb07.alloc hsz7 (.cells (c8 (nulL 32)) 45)) hsz7 (c8 s)
    obtain ⟨W8, hW8⟩ : ∃ W8, (w7.alloc (.cells (c8 (nulL 32)) 45)).setRow w7.heap.size (c8 s) = W8 := ⟨_, rfl⟩
    have hR7lt : w7.heap.size < W8.heap.size := by rw [← hW8]; have := hR8.lt; exact this
    rw [hW8] at hR8 hK8 hX8 hY8 hZ8 hb8
    have cX := (hX8.cell 0).trans hX0
    have cY := (hY8.cell 0).trans hY0
    have cZ := (hZ8.cell 0).trans hZ0
    have cZ1 := (hZ8.cell 1).trans (c8_at S3 1 (by omega))
    have fZ1 := hZ8.frozen 1
    obtain ⟨b', hb'⟩ : ∃ b', at8 S3 1 + 1 = b' := ⟨_, rfl⟩
    obtain ⟨d, hd⟩ : ∃ d, at8 S3 1 = d := ⟨_, rfl⟩
    have hdb : d ≠ b' := by
      intro e
      rw [hd] at hb'
      have := congrArg UInt8.toNat (hb'.trans e.symm)
      rw [UInt8.toNat_add] at this
      have h1 : (1 : UInt8).toNat = 1 := rfl
      have := d.toNat_lt
      omega
    have hwr : IntKind.u8.wrap ((d.toNat : Int) + 1) = (b'.toNat : Int) := by
      rw [hd] at hb'
      rw [u8_wrap, ← hb', UInt8.toNat_add]
      rfl
    rw [hd] at cZ1
    have PO2 := Lib.hid (PO.out b' u1 u2 u3 (by rw [hd]; exact hdb))
    have hZ7lt := hZ7.lt
    have e0 := hb'
    clear hX7 hY7 hZ7 hK7 hX0 hY0 hZ0 hb' hd hdb PO PT
    have hZ9 := hZ8.put 1 (.int .u8 (b'.toNat : Int))
    rw [c8_set] at hZ9
    have hX9 : Blk (W8.setCell ⟨Z, 1, none⟩ (.int .u8 (b'.toNat : Int))) X 52 (c8 S1) := hX8.far hXZ _
    have hY9 : Blk (W8.setCell ⟨Z, 1, none⟩ (.int .u8 (b'.toNat : Int))) Y 52 (c8 S2) := hY8.far hYZ _
    have hZw7 : w7.heap.size ≠ Z := (Nat.ne_of_lt hZ7lt).symm
    have hR9 : Blk (W8.setCell ⟨Z, 1, none⟩ (.int .u8 (b'.toNat : Int))) w7.heap.size 45 (c8 s) := hR8.far hZw7 _
    have hK9 : Blk (W8.setCell ⟨Z, 1, none⟩ (.int .u8 (b'.toNat : Int))) w.heap.size 45 (c8 s) := hK8.far (Nat.ne_of_lt hZw) _
    have hb9 := hb8.setCell (p := ⟨Z, 1, none⟩) (Nat.le_of_lt hZw) (.int .u8 (b'.toNat : Int))
    have hl3 : (S3.set 1 b').length = 33 := by rw [List.length_set]; exact hicl
    have p3 : at8 (S3.set 1 b') 0 = UInt8.ofNat (ic + 1) := by
      rw [← plain3]
      simp only [at8, List.getD_eq_getElem?_getD]
      rw [List.getElem?_set_ne (by omega)]
    have HJ9 : Hid (∀ W B, Blk W B 52 (c8 (S1 ++ S2 ++ S3.set 1 b')) → Calls Try.prog 20 #[.slice (some ⟨B, 0, none⟩) 3 3] W fun e w' => Below W.heap.size W w' ∧ e = .returned (.tuple #[.agg (c8 (joinL (S1 ++ S2 ++ S3.set 1 b'))), .int .i64 0])) := Lib.hid fun W B hW => by
      have h := join_xs S1 S2 (S3.set 1 b') ia ib ic B W hial hibl hl3 plain1 plain2 p3 (by omega) (by omega) (by omega) hW
      rw [if_neg (fun e => by rcases e with e | e | e <;> omega)] at h
      exact h
    have hJl := joinL_length (S1 ++ S2 ++ S3.set 1 b')
    obtain ⟨R2, hR2⟩ : ∃ R2, joinL (S1 ++ S2 ++ S3.set 1 b') = R2 := ⟨_, rfl⟩
    rw [hR2] at HJ9 PO2 hJl
    have hs8 : W8.heap.size = (W8.setCell ⟨Z, 1, none⟩ (.int .u8 (b'.toNat : Int))).heap.size := by simp [World.setCell]
    obtain ⟨W9, hW9⟩ : ∃ W9, W8.setCell ⟨Z, 1, none⟩ (.int .u8 (b'.toNat : Int)) = W9 := ⟨_, rfl⟩
    obtain ⟨T3, hT3⟩ : ∃ T3, S3.set 1 b' = T3 := ⟨_, rfl⟩
    rw [hW9] at hZ9 hX9 hY9 hR9 hK9 hb9 hs8
    rw [hT3] at hZ9 HJ9 hl3
    have hsz9 := hb9.size
    clear hR2 hT3 p3 hxa hxb hxc u1 u2 u3 heq hX8 hY8 hZ8 hb8 hR8 hK8 plain1 plain2 plain3 e0
    go_wp2_with (first
      | (refine wpList_store_rowTo rfl 45 _ _ rfl rfl w7.heap.size (c8 s) rfl rfl 45 (c8 (nulL 32)) hR7 hik (by rw [c8_size, c8_size, hs]; rfl) (c8_one _) ?_; change wpList _ _ _ _ _ ((w7.alloc (.cells (c8 (nulL 32)) 45)).setRow w7.heap.size (c8 s)); rw [hW8])
      | refine wpList_load_row rfl 52 _ rfl X rfl 52 (c8 S1) (0, 0) _ hX9 Try.underlying52 rfl (hiS _ hial) ?_
      | refine wpList_load_row rfl 52 _ rfl Y rfl 52 (c8 S2) (0, 0) _ hY9 Try.underlying52 rfl (hiS _ hibl) ?_
      | refine wpList_load_row rfl 52 _ rfl Z rfl 52 (c8 T3) (0, 0) _ hZ9 Try.underlying52 rfl (hiS _ hl3) ?_
      | refine wpList_plain rfl (fun K hK => wp_three _ _ _ rfl S1 S2 T3 rfl rfl rfl hial hibl hl3 (hK _ _ ?_)))
    have hS9 := Blk.new W9 52 (c8 (S1 ++ S2 ++ T3))
    rw [List.append_assoc] at hS9
    refine (HJ9.out _ _ (by rw [List.append_assoc]; exact hS9)).mono ?_
    rintro e wA ⟨hbA, rfl⟩
    have hKA := (hK9.alloc (.cells (c8 (S1 ++ (S2 ++ T3))) 52)).below hbA (hK9.alloc _).lt
    have hRA := (hR9.alloc (.cells (c8 (S1 ++ (S2 ++ T3))) 52)).below hbA (hR9.alloc _).lt
    have hb0A := (hb9.alloc hsz9 (.cells (c8 (S1 ++ (S2 ++ T3))) 52)).trans (hbA.mono (by simp; omega))
    have hszA := hb0A.size
    have hQA := Blk.new wA 45 (c8 (nulL 32))
    have hQB := hQA.rowed (c8 R2)
    have hKB := (hKA.alloc (.cells (c8 (nulL 32)) 45)).rowedFar (Nat.ne_of_lt hKA.lt) (c8 R2)
    have hRB := (hRA.alloc (.cells (c8 (nulL 32)) 45)).rowedFar (Nat.ne_of_lt hRA.lt) (c8 R2)
    have hbB := below_setRow (hb0A.alloc hszA (.cells (c8 (nulL 32)) 45)) hszA (c8 R2)
    obtain ⟨WB, hWB⟩ : ∃ WB, (wA.alloc (.cells (c8 (nulL 32)) 45)).setRow wA.heap.size (c8 R2) = WB := ⟨_, rfl⟩
    rw [hWB] at hQB hKB hRB hbB
    have hszB := hbB.size
    have hik2 := hikk R2 hJl
    have q1 : (Op.equalIn 10000 45 (.agg (c8 s)) (.agg (c8 s))).run Try.prog WB = .ok true WB := by
      have h := eq_keys 9998 s s WB hs hs
      rw [decide_eq_true rfl] at h
      exact h
    have q2 : (Op.equalIn 10000 45 (.agg (c8 R2)) (.agg (c8 s))).run Try.prog WB = .ok false WB := by
      have h := eq_keys 9998 R2 s WB hJl hs
      rw [decide_eq_false PO2.out] at h
      exact h
    clear hX9 hY9 hZ9 hK9 hR9 hb9 HJ9 hbA hKA hRA hb0A hS9 hW9 hW8 PO2 cX cY cZ cZ1
    go_wp2_with (first
      | (refine wpList_store_rowTo rfl 45 _ _ rfl rfl wA.heap.size (c8 R2) rfl rfl 45 (c8 (nulL 32)) hQA hik2 (by rw [c8_size, c8_size, hJl]; rfl) (c8_one _) ?_; change wpList _ _ _ _ _ ((wA.alloc (.cells (c8 (nulL 32)) 45)).setRow wA.heap.size (c8 R2)); rw [hWB])
      | refine wpList_load_row_g (by rfl) 45 _ rfl w7.heap.size rfl 45 (c8 s) _ _ hRB Try.underlying45 hik ?_
      | refine wpList_load_row_g (by rfl) 45 _ rfl w.heap.size rfl 45 (c8 s) _ _ hKB Try.underlying45 hik ?_
      | refine wpList_load_row_g (by rfl) 45 _ rfl wA.heap.size rfl 45 (c8 R2) _ _ hQB Try.underlying45 hik2 ?_
      | (go_at_call 21; refine (splits_any _).mono ?_; rintro e wC ⟨rfl, hbC⟩))
    go_ret
    exact ⟨rfl, hbB.trans (hbC.mono hszB)⟩
theorem topThree_row (s no : List UInt8) (n a b c : Nat) (w : World) (hs : s.length = 32) (hno : no.length = 64) (hn : n < 256) (ha : a < 256) (hb : b < 256) (hc : c < 256) :
    Calls Try.prog 8 #[.agg (c8 s), .agg (c8 no), .int .u8 n, .int .u8 a, .int .u8 b, .int .u8 c] w fun e w' => e = .returned (.bool true) ∧ Below w.heap.size w w' := three_any s no n a b c w hs hno hn ha hb hc
end Go.Proofs.Ytojgmeonjgfpoaa
