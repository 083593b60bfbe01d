/- pack.Of walked. Condition: at most 10^8 bytes. -/
import Derived.Test.YtojgmeonjgfpoaaPackB
namespace Go.Proofs.Ytojgmeonjgfpoaa
open Go.RowKit

/-- the cells of boxes' places, the first box's row beginning behind so many bytes -/
def px (a : Nat) : List BB → List Value
  | [] => []
  | x :: r => .string x.1 :: .int .i64 ((a + (rowS [bl x.1, bl x.2]).length : Nat) - (x.2.size : Int)) :: .int .i64 x.2.size :: px (a + (rowS [bl x.1, bl x.2]).length) r
theorem px_snoc : ∀ (l : List BB) (a : Nat) (x : BB), px a (l ++ [x]) = px a l ++ [.string x.1, .int .i64 ((a + (rowS (flatS (l.map bb))).length + (rowS [bl x.1, bl x.2]).length : Nat) - (x.2.size : Int)), .int .i64 x.2.size]
  | [], a, x => by simp [px, flatS, rowS_nil]
  | y :: l, a, x => by
    rw [List.cons_append, px, px_snoc l, px, List.map_cons, flatS_cons]
    have e : rowS ((bb y).1 :: (bb y).2 :: flatS (l.map bb)) = rowS [bl y.1, bl y.2] ++ rowS (flatS (l.map bb)) := by
      rw [← rowS_append]; rfl
    rw [e, List.length_append]
    simp only [List.cons_append, Nat.add_assoc]
theorem flat_take (l : List BB) (k : Nat) (h : k < l.length) : rowS (flatS ((l.take (k + 1)).map bb)) = rowS (flatS ((l.take k).map bb)) ++ rowS [bl l[k].1, bl l[k].2] := by
  rw [List.take_succ_eq_append_getElem h, List.map_append, flatS_append, rowS_append]
  rfl
theorem flat_take_le (l : List BB) (k : Nat) : (rowS (flatS ((l.take k).map bb))).length ≤ (rowS (flatS (l.map bb))).length := by
  conv => rhs; rw [← List.take_append_drop k l, List.map_append, flatS_append, rowS_append, List.length_append]
  omega
theorem row2_len (x y : Bs) : (rowS [x, y]).length = (lenS x.length).length + x.length + ((lenS y.length).length + y.length) := by
  rw [rowS_length_cons, rowS_length_cons]; simp [rowS_nil]
theorem flat_ge : ∀ l : List BB, 2 * l.length ≤ (rowS (flatS (l.map bb))).length
  | [] => by simp
  | x :: l => by
    rw [List.map_cons, flatS_cons, rowS_length_cons, rowS_length_cons]
    have := flat_ge l
    have h1 := lenS_length_pos (bb x).1.length
    have h2 := lenS_length_pos (bb x).2.length
    simp only [List.length_cons]
    omega
theorem info39 : (Try.prog.info? 39).map (fun i => (i.zero, i.size, i.bytes)) = some (some (.agg #[.string ⟨#[]⟩, .int .i64 0, .int .i64 0]), 3, 32) := by kernel_rfl

/-- what pack.Of answers -/
def OfP (s : ByteArray) (w : World) (e : Ending) (w' : World) : Prop :=
  ∃ (v : Value) (rs : List BB) (err : Int), e = .returned (.tuple #[v, .int .i64 err]) ∧ w'.ownsRow w.heap.size 39 3 v rs.length (px 5 rs) ∧ Below w.heap.size w w' ∧
      ((boxesS (bl s) = none ∧ err = 3 ∧ rs = []) ∨ (boxesS (bl s) = some (rs.map bb) ∧ err = 0))

set_option maxRecDepth 100000 in
set_option maxHeartbeats 4000000 in
theorem of_any (s : ByteArray) (w : World) (hs : s.size ≤ 100000000) :
    Calls Try.prog 12 #[.string s] w (OfP s w) := by
  obtain ⟨i0, hi, hz0, hz1, hz2⟩ := info_parts info39
  go_enter Try.func12, Try.ntmps12
  go_wp2_with fail
  refine (boxes_any s w hs).mono ?_
  rintro e w1 ⟨v1, rs, err, rfl, hown1, hb1, hcase⟩
  have hsz1 := hb1.size
  obtain ⟨Av, cv, rfl, hcv⟩ := own_form hown1
  have hrd := Reads.of_own hown1
  rcases hcase with ⟨hnone, rfl, rfl⟩ | ⟨hsome, rfl⟩
  · have HF := Lib.hid hnone
    clear hnone hown1 hrd
    go_wp2
    go_ret2
    exact ⟨_, [], 3, rfl, World.ownsRow_nil _ _ _ _, hb1, .inl ⟨HF.out, rfl, rfl⟩⟩
  · have hrow := (boxesS_some hsome).2
    have hrl := congrArg List.length hrow
    rw [packRow_len, bl_len] at hrl
    have hle : (rowS (flatS (rs.map bb))).length ≤ s.size := by omega
    have HS := Lib.hid hsome
    have h5 : (rowS ([hibpB].map bl)).length = 5 := by rw [List.map_cons, List.map_nil, rowS_one, List.length_append, lenS_lt (by decide)]; rfl
    clear hsome hrow hrl hown1
    have hrow1 := row_any (some ⟨w1.heap.size, 0, none⟩) 1 [hibpB] (w1.alloc (.cells #[.string hibpB] 9))
      ⟨rfl, fun _ => ⟨_, rfl, by simp, fun j u hj => by
        match j, hj with
        | 0, hj => simp at hj; subst hj; simp [Addr.add]⟩⟩ (by rw [h5]; decide) (by decide)
    unfold hibpB at hrow1 h5
    have HR1 := Lib.hid hrow1
    clear hrow1
    go_wp2_with fail
    refine HR1.out.mono ?_
    rintro e w2 ⟨rfl, hb2⟩
    have hb12 : Below w1.heap.size w1 w2 := ((Below.refl _ _).alloc (Nat.le_refl _) _).trans (hb2.mono (by simp))
    have h5' : (((rowS (List.map bl [({ data := #[104, 105, 98, 112] } : ByteArray)])).length : Nat) : Int) = 5 := by omega
    clear HR1 hb2
    have H5 := Lib.hid h5
    have H5' := Lib.hid h5'
    clear h5 h5'
    go_wp2
    go_loopw [6, 7, 23] (fun v a i wr => ∃ k t : Nat, i = .int .i64 k ∧ k ≤ rs.length ∧ a = .int .i64 t ∧ Hid (t = 5 + (rowS (flatS ((rs.take k).map bb))).length) ∧ wr.ownsRow w1.heap.size 39 3 v k (px 5 (rs.take k)) ∧ Below w1.heap.size w1 wr)
      (fun _ _ i _ => rs.length - (intOf i).toNat)
    case atStart => exact ⟨0, _, rfl, Nat.zero_le _, rfl, Lib.hid (by rw [List.take_zero]; have := H5.out; simpa [flatS, rowS_nil] using this), World.ownsRow_nil _ _ _ _, hb12⟩
    case round =>
      obtain ⟨k, t, rfl, hk, rfl, ht, hown, hb⟩ := hrel
      have hsz := hb.size
      obtain ⟨Ao, co, rfl, hco⟩ := own_form hown
      have ht' := ht.out
      have htle := flat_take_le rs k
      have htb : t ≤ 100000005 := by omega
      by_cases hlt : k < rs.length
      · obtain ⟨ad, rfl, hadB, hc1, hc2⟩ := box_at hrd rfl hlt
        have hx1 := (hb.cell (p := ad.add (k * 2)) (by rw [block_add]; exact hadB)).trans hc1
        have hx2 := (hb.cell (p := ⟨(ad.add (k * 2)).block, (ad.add (k * 2)).off + 1, none⟩) (by rw [block_add]; exact hadB)).trans hc2
        have hft := flat_take rs k hlt
        have hft2 := flat_take_le rs (k + 1)
        have hft3 := congrArg List.length hft
        rw [List.length_append] at hft3
        have hr2 := row2_len (bl rs[k].1) (bl rs[k].2)
        rw [bl_len, bl_len] at hr2
        have hkb : k < 1000000000 := by
          have h1 := flat_ge rs
          omega
        have hsnoc := px_snoc (rs.take k) 5 rs[k]
        rw [← List.take_succ_eq_append_getElem hlt, ← ht'] at hsnoc
        generalize hs1 : rs[k].1 = s1 at *
        generalize hs2 : rs[k].2 = s2 at *
        have hrl : (rowS [bl s1, bl s2]).length ≤ 100000000 := by omega
        have hs2l : s2.size ≤ (rowS [bl s1, bl s2]).length := by omega
        have hT : t + (rowS [bl s1, bl s2]).length = 5 + (rowS (flatS ((rs.take (k + 1)).map bb))).length := by omega
        have HT := Lib.hid hT
        have HSN := Lib.hid hsnoc
        have hrow2 := row_any (some ⟨wr.heap.size + 1, 0, none⟩) 2 [s1, s2] ((wr.alloc (.cells #[.string s1, .string s2] 29)).alloc (.cells #[.string s1, .string s2] 9))
          ⟨rfl, fun _ => ⟨_, rfl, by simp, fun j u hj => by
            match j, hj with
            | 0, hj => simp at hj; subst hj; simp [Addr.add]
            | 1, hj => simp at hj; subst hj; simp [Addr.add]⟩⟩ (by simp only [List.map_cons, List.map_nil]; omega) (by simp)
        have HR2 := Lib.hid hrow2
        have hrowc : ((rowS [bl s1, bl s2]).length : Int) ≤ 100000000 := by omega
        clear hT hsnoc hrow2 hft hft2 hft3 hr2 htle hs1 hs2 hc1 hc2 ht' H5 H5'
        go_wp2_with fail
        refine HR2.out.mono ?_
        rintro e w3 ⟨rfl, hb3⟩
        clear HR2
        have hy1 : w3.cell? ⟨wr.heap.size, 0, none⟩ = some (.string s1) := by
          rw [hb3.cell (p := ⟨wr.heap.size, 0, none⟩) (by simp; omega)]; go_simp
        have hy2 : w3.cell? ⟨wr.heap.size, 1, none⟩ = some (.string s2) := by
          rw [hb3.cell (p := ⟨wr.heap.size, 1, none⟩) (by simp; omega)]; go_simp
        have hbw3 : Below wr.heap.size wr w3 := (((Below.refl _ _).alloc (Nat.le_refl _) _).alloc (by simp) _).trans (hb3.mono (by simp; omega))
        have hbw : Below w1.heap.size w1 w3 := hb.trans (hbw3.mono hsz)
        have hown3 := hown.kept (only_of_below hbw3 none) (Classical.em _)
        have hsz3 := hbw.size
        have hlc : (rowS (List.map bl [s1, s2])).length = (rowS [bl s1, bl s2]).length := rfl
        clear hb3 hbw3 hown hlc
        go_wp2_with (at_builtin; go_must (refine wpList_append_own _ rfl _ _ 32 rfl w1.heap.size 39 i0 _ 3 32 Try.underlying32 hi hz0 hz1 hz2 rfl (by decide) _ _ _ rfl (hown3.alloc _) ⟨w3.heap.size, 0, none⟩ 1 1 [.string s1, .int .i64 ((t : Int) + ((rowS [bl s1, bl s2]).length : Int) - (s2.size : Int)), .int .i64 s2.size] rfl rfl ?c1 ?c2 (by unfold maxLen; omega) (by omega) (by simp; omega) ?_))
        case c1 => exact World.news_of_block (fr := (0, 0)) (heap_alloc_new w3 _)
        case c2 => simp [Value.oneCell']
        intro v2 w4 hown4 hg4 _
        have hb4 : Below w1.heap.size w1 w4 := (hbw.alloc hsz3 _).grown hg4 (by simp; omega) (fun k hk => (hown3.lt k hk).1)
        clear hown3
        go_wp2
        go_roundw
        case rel =>
          refine ⟨k + 1, t + (rowS [bl s1, bl s2]).length, by go_num, by omega, by go_num, HT, ?_, hb4⟩
          rw [HSN.out]
          simpa using hown4
        case measure => simp [intOf]; omega
      · obtain rfl : k = rs.length := by omega
        rw [List.take_length] at hown
        go_wp2
        go_ret2
        exact ⟨_, rs, 0, rfl, own_mono hown hsz1, hb1.trans (hb.mono hsz1), .inr ⟨HS.out, rfl⟩⟩
end Go.Proofs.Ytojgmeonjgfpoaa
