/- strings.Builder at this dump: WriteByte on a builder that the call itself made. Condition: the new length is at most 2^47 bytes. -/
import Derived.Test.YtncoghoeeefjhaaBuild
import Derived.Laws.OwnMore
namespace Go.Proofs.Ytncoghoeeefjhaa
open Go.RowKit

theorem isB_fresh (B : Nat) (w : World) (hB : B ≤ w.heap.size) : IsB B w.heap.size [] (w.alloc (.cells #[.pointer none, .slice none 0 0] 121)) :=
  .inl ⟨hB, .slice none 0 0, heap_alloc_new w _, ⟨rfl, .inl ⟨rfl, rfl⟩⟩, by simp [Value.ownBlock]⟩

set_option maxRecDepth 100000 in
set_option maxHeartbeats 1000000 in
theorem writeByte_any (B b : Nat) (bs : List Value) (x : Int) (w : World) (h : IsB B b bs w) (hlen : bs.length + 1 ≤ 140737488355328) (hBw : B ≤ w.heap.size) :
    Calls Try.prog 77 #[.pointer (some ⟨b, 0, none⟩), .int .u8 x] w fun e w' => e = .returned .nilIface ∧ AtB B b (bs ++ [.int .u8 x]) w' ∧ Below B w w' := by
  obtain ⟨i0, hi, hz0, hz1, hz2⟩ := info_parts info8
  go_enter Try.func77, Try.ntmps77
  go_wp2_with (go_at_call 111; refine (copyCheck_any B b bs _ h).mono ?_)
  rintro e w1 ⟨rfl, h1', hg1, hs1⟩
  obtain ⟨hB, v, hbk, hown, hne⟩ := h1'
  have c0 : w1.cell? ⟨b, 0, none⟩ = some (.pointer (some ⟨b, 0, none⟩)) := by rw [Lib.cell_of_heap hbk]; rfl
  have c1 : w1.cell? ⟨b, 1, none⟩ = some v := by rw [Lib.cell_of_heap hbk]; rfl
  have hb1 : Below B w w1 := below_of_only hg1 hBw hB
  have hBw1 : B ≤ w1.heap.size := by omega
  clear hs1
  have hownA := hown.alloc (.cells #[.int .u8 x] 5)
  have hnewsA := World.news_of_block (cs := #[.int .u8 x]) (t := 5) (fr := (0, 0)) (heap_alloc_new w1 (.cells #[.int .u8 x] 5))
  go_wp2_with (at_builtin; refine wpList_append_own _ rfl _ _ 61 rfl B 5 i0 (.int .u8 0) 1 1 Try.underlying61 hi hz0 hz1 hz2 rfl (by decide) _ _ _ rfl hownA ⟨w1.heap.size, 0, none⟩ 1 1 [.int .u8 x] rfl (by rfl) hnewsA (by simp [Value.oneCell']) ?c3 ?c4 ?c5 ?_)
  case c3 => unfold maxLen; omega
  case c4 => omega
  case c5 => simp; omega
  intro v' w2 hown' hgrow _
  have hlt : b < w1.heap.size := by
    rcases Nat.lt_or_ge b w1.heap.size with h' | h'
    · exact h'
    · simp [Array.getElem?_eq_none h'] at hbk
  have hb2 : w2.heap[b]? = some (.cells #[.pointer (some ⟨b, 0, none⟩), v] 121 (0, 0)) := by
    rw [hgrow.block b (by simp; omega) (fun e => hne e.symm)]
    exact (Below.heap_alloc w1 _ b hlt).trans hbk
  have d0 : w2.cell? ⟨b, 0, none⟩ = some (.pointer (some ⟨b, 0, none⟩)) := by rw [Lib.cell_of_heap hb2]; rfl
  have d1 : w2.cell? ⟨b, 1, none⟩ = some v := by rw [Lib.cell_of_heap hb2]; rfl
  have f1 : w2.frozen? ⟨b, 1, none⟩ = false := Lib.frozen_of_heap hb2 1
  obtain ⟨ao, n', cap, rfl⟩ : ∃ ao n' cap, v' = .slice ao n' cap := by
    rcases hown'.2 with ⟨hv, _⟩ | ⟨g, cap, cur, hv, _⟩
    · exact ⟨_, _, _, hv⟩
    · exact ⟨_, _, _, hv⟩
  go_wp2
  go_ret
  refine ⟨rfl, ?_, ?_⟩
  · exact Lib.BuilderAt.put (T := 121) (e := 5) hB hb2 (bs' := bs ++ [.int .u8 x]) (by simpa using hown') (by decide)
  · exact ((hb1.alloc hBw1 _).grown hgrow (by simp; omega) (fun k hk => (hown.lt k hk).1)).setCell (p := ⟨b, 1, none⟩) hB _
end Go.Proofs.Ytncoghoeeefjhaa
