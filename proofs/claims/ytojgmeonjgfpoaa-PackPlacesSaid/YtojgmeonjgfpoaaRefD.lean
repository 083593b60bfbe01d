/- hibernacleref40.bytes and names walked. Condition: at most 10^9 boxes, the row has at most 2^47 bytes. -/
import Derived.Test.YtojgmeonjgfpoaaRefC
import Derived.Test.YtojgmeonjgfpoaaPackA
namespace Go.Proofs.Ytojgmeonjgfpoaa
open Go.RowKit

set_option maxRecDepth 100000 in
set_option maxHeartbeats 4000000 in
theorem refbytes_any (A : Option Addr) (c : Nat) (l : List BB) (w : World) (hr : Reads w w.heap.size 2 A l.length (bx l)) (hlen : (rowS (packRow (l.map bb))).length ≤ 140737488355328) (hll : l.length ≤ 1000000000) :
    Calls Try.prog 25 #[.slice A l.length c] w fun e w' => e = .returned (.string ⟨(rowS (packRow (l.map bb))).toArray⟩) ∧ Below w.heap.size w w' := by
  obtain ⟨i0, hi, hz0, hz1, hz2⟩ := info_parts info9
  have hO0 : (w.alloc (.cells #[.string hibpB] 9)).ownsRow w.heap.size 9 1 (.slice (some ⟨w.heap.size, 0, none⟩) 1 1) 1 (.string hibpB :: bx (l.take 0)) :=
    ⟨rfl, .inr ⟨w.heap.size, 1, #[.string hibpB], rfl, by omega, by have := heap_alloc_new w (.cells #[.string hibpB] 9); simpa using this, Nat.le_refl _, by unfold maxLen; omega, rfl, rfl⟩⟩
  have hB0 : Below w.heap.size w (w.alloc (.cells #[.string hibpB] 9)) := (Below.refl _ _).alloc (Nat.le_refl _) _
  unfold hibpB at hO0 hB0
  go_enter Try.func25, Try.ntmps25
  go_wp2
  go_loopw [3, 8] (fun v i wr => ∃ k : Nat, i = .int .i64 k ∧ k ≤ l.length ∧ wr.ownsRow w.heap.size 9 1 v (1 + 2 * k) (.string hibpB :: bx (l.take k)) ∧ Below w.heap.size w wr)
    (fun _ i _ => l.length - (intOf i).toNat)
  case atStart => exact ⟨0, rfl, Nat.zero_le _, hO0, hB0⟩
  case round =>
    clear hO0 hB0
    obtain ⟨k, rfl, hk, hown, hb⟩ := hrel
    have hsz := hb.size
    obtain ⟨Av, cv, rfl, hcv⟩ := own_form hown
    by_cases hlt : k < l.length
    · obtain ⟨ad, rfl, hadB, hc1, hc2⟩ := box_at hr rfl hlt
      have hx1 := (hb.cell (p := ad.add (k * 2)) (by rw [block_add]; exact hadB)).trans hc1
      have hx2 := (hb.cell (p := ⟨(ad.add (k * 2)).block, (ad.add (k * 2)).off + 1, none⟩) (by rw [block_add]; exact hadB)).trans hc2
      clear hc1 hc2 hr
      generalize hl1 : l[k].1 = s1 at *
      generalize hl2 : l[k].2 = s2 at *
      have HL1 := Lib.hid hl1
      have HL2 := Lib.hid hl2
      have hk0 : (0 : Int) ≤ (k : Int) := by omega
      have hk1 : (k : Int) < (l.length : Int) := by omega
      clear hl1 hl2
      go_wp2_with fail
      go_region_held3 (fun w' => w'.cell? (ad.add (k * 2)) = some (.string s1) ∧ w'.cell? ⟨(ad.add (k * 2)).block, (ad.add (k * 2)).off + 1, none⟩ = some (.string s2))
        (first
          | go_keep
          | (go_split_ands
             refine ⟨?_, ?_⟩
             · (rw [hgrow.cell_far _ (by simp [block_add]; omega) (fun e => by have := (hown.lt _ e.symm).1; simp [block_add] at this; omega)]; assumption)
             · (rw [hgrow.cell_far _ (by simp [block_add]; omega) (fun e => by have := (hown.lt _ e.symm).1; simp [block_add] at this; omega)]; assumption)))
        ((refine step_append_lies _ (by rfl) _ _ _ (by rfl) w.heap.size 9 i0 _ 1 16 Try.underlying58 hi hz0 hz1 hz2 rfl (by omega) _ _ _ (by rfl) ((hown.alloc _).drew)
              ⟨wr.heap.size, 0, none⟩ 2 2 [.string s1, .string s2] (by rfl) (by rfl) (World.news_of_block (cs := #[.string s1, .string s2]) (t := 9) (fr := (0, 0)) (heap_alloc_new wr _)) (by simp [Value.oneCell'])
              (by omega) (by unfold maxLen; omega) (by omega) (by simp; omega) (wr.heap.size + 1) (by simp) ?_; intro gg cap w2 hown2 hgrow hat hlt2))
      go_wp2_with fail
      have hb2 : Below w.heap.size w w2 := ((hb.alloc hsz _).drew).grown hgrow (by simp; omega) (fun k hk => (hown.lt k hk).1)
      go_roundw
      case rel =>
        refine ⟨k + 1, by go_num, by omega, ?_, hb2⟩
        rw [bx_take _ _ hlt, HL1.out, HL2.out]
        have e : 1 + 2 * (k + 1) = 1 + 2 * k + 2 := by omega
        rw [e]
        simpa using hown2
      case measure => simp [intOf]; omega
    · obtain rfl : k = l.length := by omega
      have hrl : 1 + 2 * l.length = (rowB l).length := by rw [rowB_length]; omega
      have hown' : wr.ownsRow w.heap.size 9 1 (.slice Av (rowB l).length cv) (rowB l).length ((rowB l).map Value.string) := by
        rw [rowB_cells, ← hrl]
        rw [List.take_length] at hown
        exact hown
      have hrd : Reads wr wr.heap.size 1 Av (rowB l).length ((rowB l).map Value.string) := Reads.of_own hown'
      have hlb : (rowS ((rowB l).map bl)).length ≤ 140737488355328 := by rw [rowB_bl]; exact hlen
      have hln : (rowB l).length ≤ 140737488355328 := by rw [rowB_length]; omega
      have HRL := Lib.hid hrl
      clear hrl hown hown'
      go_wp2_with fail
      rw [HRL.out]
      refine (refrow_any Av cv (rowB l) wr hrd hlb hln).mono ?_
      rintro e w1 ⟨rfl, hb1⟩
      have hb2 := hb.trans (hb1.mono hsz)
      rw [rowB_bl]
      clear hlb hrd hln hb1
      go_wp2
      go_ret
      exact ⟨rfl, hb2⟩
end Go.Proofs.Ytojgmeonjgfpoaa
