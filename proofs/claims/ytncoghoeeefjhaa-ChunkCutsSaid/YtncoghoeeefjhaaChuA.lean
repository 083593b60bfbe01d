/- The examples of layer 39 walked: a text of 63 noughts is one chunk; no keys seal nothing. No condition. -/
import Derived.Test.YtncoghoeeefjhaaRollC
import Derived.Test.YtncoghoeeefjhaaShB
import Derived.Laws.IdiomStrings
import Derived.Laws.MakeOwn
namespace Go.Proofs.Ytncoghoeeefjhaa
open Go.RowKit

theorem hikey (l : List UInt8) (h : l.length = 32) : (Try.prog.info? 36).map (·.size) = some (c8 l).size := by rw [c8_size, h]; kernel_rfl
def noKey : List UInt8 := List.replicate 32 0
set_option maxRecDepth 100000 in
set_option maxHeartbeats 2000000 in
theorem box_none (w : World) :
    Calls Try.prog 38 #[.agg #[.slice none 0 0], .int .i64 (-1)] w fun e w' => e = .returned (.tuple #[.agg (c8 noKey), .int .i64 1]) ∧ Below w.heap.size w w' := by
  have hK := Blk.new (w.alloc (.cells #[.slice none 0 0] 31)) 36 (c8 noKey)
  rw [World.size_alloc] at hK
  have hb0 := ((Below.refl w.heap.size w).alloc (Nat.le_refl _) (.cells #[.slice none 0 0] 31)).alloc (by simp) (.cells (c8 noKey) 36)
  have nK := hK.rowed (c8 noKey)
  have hi := hikey noKey rfl
  go_enter Try.func38, Try.ntmps38
  go_wp2_with (refine wpList_store_rowTo rfl 36 _ _ rfl rfl (w.heap.size + 1) (c8 noKey) rfl rfl 36 (c8 noKey) hK hi rfl (c8_one _) ?_)
  refine bodyPost_ret (v := .tuple #[.agg (c8 noKey), .int .i64 1]) ?_ rfl ?_
  · exact results_two_row Try.results38 _ _ (w.heap.size + 1) 36 (c8 noKey) _ _ _ rfl rfl nK Try.underlying36 hi
  exact ⟨rfl, below_setRow hb0 (by omega) _⟩

set_option maxRecDepth 100000 in
set_option maxHeartbeats 2000000 in
theorem seal_none (w : World) :
    Calls Try.prog 42 #[.agg #[.slice none 0 0], .string ⟨#[97]⟩] w fun e w' => e = .returned (.tuple #[.agg #[.string ⟨#[]⟩, .string ⟨#[]⟩], .int .i64 1]) ∧ Below w.heap.size w w' := by
  have hb0 := ((Below.refl w.heap.size w).alloc (Nat.le_refl _) (.cells #[.slice none 0 0] 31)).alloc (by simp) (.cells #[.string ⟨#[]⟩, .string ⟨#[]⟩] 75)
  have hB := Blk.new (w.alloc (.cells #[.slice none 0 0] 31)) 75 #[.string ⟨#[]⟩, .string ⟨#[]⟩]
  rw [World.size_alloc] at hB
  have hs0 := hb0.size
  go_enter Try.func42, Try.ntmps42
  go_wp2_with fail
  refine (box_none _).mono ?_
  rintro e w1 ⟨rfl, hb1⟩
  have hB1 := hB.below hb1 hB.lt
  have hb01 := hb0.trans (hb1.mono hs0)
  have hs1 := hb01.size
  have hK := Blk.new w1 36 (c8 noKey)
  have nK := hK.rowed (c8 noKey)
  have hi := hikey noKey rfl
  have hB2 : Blk ((w1.alloc (.cells (c8 noKey) 36)).setRow w1.heap.size (c8 noKey)) (w.heap.size + 1) 75 #[.string ⟨#[]⟩, .string ⟨#[]⟩] := (hB1.alloc _).rowedFar (by have := hB1.lt; omega) _
  have hb2 := below_setRow (hb01.alloc hs1 (.cells (c8 noKey) 36)) hs1 (c8 noKey)
  obtain ⟨W, hW⟩ : ∃ W, (w1.alloc (.cells (c8 noKey) 36)).setRow w1.heap.size (c8 noKey) = W := ⟨_, rfl⟩
  rw [hW] at hB2 hb2
  have c0 := hB2.cell 0
  have c1 := hB2.cell 1
  have f0 := hB2.frozen 0
  have f1 := hB2.frozen 1
  go_wp2_with (refine wpList_store_rowTo rfl 36 _ _ rfl rfl w1.heap.size (c8 noKey) rfl rfl 36 (c8 noKey) hK hi rfl (c8_one _) ?_; change wpList _ _ _ _ _ ((w1.alloc (.cells (c8 noKey) 36)).setRow w1.heap.size (c8 noKey)); rw [hW])
  have hB3 := (hB2.put 0 (.string ⟨#[]⟩)).put 1 (.string ⟨#[]⟩)
  have y0 := hB3.cell 0
  have y1 := hB3.cell 1
  refine bodyPost_ret (v := .tuple #[.agg #[.string ⟨#[]⟩, .string ⟨#[]⟩], .int .i64 1]) (by simp [results, Try.results42, go_sem, y0, y1]) rfl ?_
  exact ⟨rfl, (hb2.setCell (by simp) _).setCell (by simp) _⟩

def null63 : ByteArray := ⟨(List.replicate 63 (0 : UInt8)).toArray⟩
theorem null63_cut : cutS (lb null63) = [List.replicate 63 0] := by
  have e : lb null63 = List.replicate 63 0 := rfl
  have hf : firstS (List.replicate 63 (0 : UInt8)) = 63 := by rw [firstS, if_pos (by decide)]; rfl
  rw [e, cutS_step (by decide), hf, show List.drop 63 (List.replicate 63 (0 : UInt8)) = [] by decide, cutS_nil]
  rfl
theorem info8n : (Try.prog.info? 5).map (fun i => (i.zero, i.size, i.bytes)) = some (some (.int .u8 0), 1, 1) := by kernel_rfl
theorem made_nul (n : Nat) : madeCells #[Value.int .u8 0] n = c8 (List.replicate n 0) := by
  have h : ∀ i, (#[Value.int .u8 0] : Array Value)[i % (#[Value.int .u8 0] : Array Value).size]! = Value.int .u8 0 := fun i => by
    have e : i % (#[Value.int .u8 0] : Array Value).size = 0 := by show i % 1 = 0; omega
    rw [e]; rfl
  unfold madeCells
  rw [show (fun x => (#[Value.int .u8 0] : Array Value)[x % (#[Value.int .u8 0] : Array Value).size]!) = fun _ => Value.int .u8 0 from funext h]
  apply Array.ext
  · simp [c8]
  · intro i h1 h2
    simp [c8]
def nuls (n : Nat) : List UInt8 := List.replicate n 0
theorem make_nul63 (w : World) : (Instr.makeSlice 61 (.int .i64 63) (.int .i64 63)).run Try.prog w = .ok (.slice (some ⟨w.heap.size, 0, none⟩) 63 63) (w.alloc (.cells (c8 (nuls 63)) 5)) := by
  obtain ⟨i0, hi, hz0, hz1, hz2⟩ := lb_info info8n
  have h := run_makeSlice (P := Try.prog) w 61 5 i0 _ Try.underlying61 hi hz0 .i64 .i64 63 63 (by decide) (by decide) (by rw [hz1]; decide) (by rw [hz2]; decide) (by decide)
  rw [h, hz1]
  rw [show (Value.int IntKind.u8 0).cells = #[Value.int .u8 0] from rfl, made_nul]
  rfl
theorem conv_nul63 (g : Nat) (T : TypeId) (w : World) (h : Blk w g T (c8 (nuls 63))) : (convert 61 9 (.slice (some ⟨g, 0, none⟩) 63 63)).run Try.prog w = .ok (.string null63) w :=
  run_convert_bytes_back (P := Try.prog) w 61 9 5 ⟨g, 0, none⟩ 63 (List.replicate 63 0) Try.underlying61 Try.underlying5 Try.underlying9 (fun j hj => by
    rw [Addr.add_mid, Nat.zero_add, h.cell j, c8_at (nuls 63) j hj, nuls, at8, List.getD_eq_getElem?_getD, List.getElem?_eq_getElem hj]
    rfl)

set_option maxRecDepth 100000 in
set_option maxHeartbeats 4000000 in
theorem fixed_any (w : World) : Calls Try.prog 14 #[] w fun e w' => e = .returned (.bool true) ∧ Below w.heap.size w w' := by
  have hmk := make_nul63
  have hcv := conv_nul63 w.heap.size 5 _ (Blk.new w 5 (c8 (nuls 63)))
  have hb0 := (Below.refl w.heap.size w).alloc (Nat.le_refl _) (.cells (c8 (nuls 63)) 5)
  have hcc := ccut_any null63 (w.alloc (.cells (c8 (nuls 63)) 5)) (by decide)
  rw [null63_cut] at hcc
  generalize null63 = N at *
  go_enter Try.func14, Try.ntmps14
  go_wp2_with fail
  refine hcc.mono ?_
  rintro e w1 ⟨v, rs, rfl, hrs, hown, hb1⟩
  obtain ⟨r, rfl⟩ : ∃ r, rs = [r] := List.length_eq_one_iff.1 (by rw [← List.length_map (f := lb), hrs]; rfl)
  have hr : r.size = 63 := by
    have : lb r = List.replicate 63 0 := by simpa using hrs
    rw [← lb_len, this]; rfl
  obtain ⟨g, c, rfl, hc1, hgb, hgl, hcell⟩ := own_addr hown (by simp)
  have hcell0 := hcell 0 _ rfl
  have hcell0 : w1.cell? ⟨g, 0, none⟩ = some (.string r) := by simpa [Addr.add] using hcell0
  have hb01 := hb0.trans (hb1.mono (by simp))
  have hs1 := hb01.size
  clear hrs hcc hown hcell hmk hcv
  dsimp only [List.length_cons, List.length_nil]
  go_wp2_with fail
  refine (seal_none _).mono ?_
  rintro e w2 ⟨rfl, hb2⟩
  have hb02 := hb01.trans (hb2.mono hs1)
  have hcell2 := (hb2.cell (p := ⟨g, 0, none⟩) hgl).trans hcell0
  have hs2 := hb2.size
  have hg2 : g < w2.heap.size := by omega
  have hg3 : ¬ g = w2.heap.size := by omega
  go_wp2
  go_ret
  exact ⟨rfl, hb02.alloc (by omega) _⟩
end Go.Proofs.Ytncoghoeeefjhaa
