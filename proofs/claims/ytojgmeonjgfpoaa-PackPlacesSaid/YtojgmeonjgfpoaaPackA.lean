/- pack.Make walked. Condition: the row of the boxes has at most 2^47 bytes. -/
import Derived.Test.YtojgmeonjgfpoaaNumB
import Derived.Test.YtojgmeonjgfpoaaPackS
import Derived.Test.YtojgmeonjgfpoaaSet
namespace Go.Proofs.Ytojgmeonjgfpoaa
open Go.RowKit

/-- a box's two texts as bytes; boxes' cells -/
abbrev BB := ByteArray × ByteArray
def bb (x : BB) : Bs × Bs := (bl x.1, bl x.2)
def bx (l : List BB) : List Value := l.flatMap fun x => [Value.string x.1, Value.string x.2]
theorem bx_cons (x : BB) (l : List BB) : bx (x :: l) = .string x.1 :: .string x.2 :: bx l := by simp [bx]
theorem bx_length (l : List BB) : (bx l).length = l.length * 2 := by
  induction l with
  | nil => rfl
  | cons x l ih => rw [bx_cons]; simp only [List.length_cons, ih]; omega
theorem bx_at (l : List BB) (k : Nat) (h : k < l.length) : (bx l)[k * 2]? = some (.string l[k].1) ∧ (bx l)[k * 2 + 1]? = some (.string l[k].2) := by
  induction l generalizing k with
  | nil => simp at h
  | cons x l ih =>
    rw [bx_cons]
    cases k with
    | zero => simp
    | succ k =>
      have := ih k (by simpa using h)
      have e1 : (k + 1) * 2 = k * 2 + 1 + 1 := by omega
      rw [e1]
      simpa using this

/-- box k of a slice of boxes -/
theorem box_at {w : World} {B n : Nat} {A : Option Addr} {l : List BB} (h : Reads w B 2 A n (bx l)) (hn : n = l.length) {k : Nat} (hk : k < n) :
    ∃ ad, A = some ad ∧ ad.block < B ∧ w.cell? (ad.add (k * 2)) = some (.string (l[k]'(by omega)).1) ∧ w.cell? ⟨(ad.add (k * 2)).block, (ad.add (k * 2)).off + 1, none⟩ = some (.string (l[k]'(by omega)).2) := by
  obtain ⟨ad, rfl, hb, hc⟩ := h.2 (by omega)
  have h2 := bx_at l k (by omega)
  have h3 := hc _ _ h2.2
  rw [← add_add', add_pos _ (by omega)] at h3
  exact ⟨ad, rfl, hb, hc _ _ h2.1, h3⟩

def hibpB : ByteArray := ⟨#[104, 105, 98, 112]⟩
def rowB (l : List BB) : List ByteArray := hibpB :: l.flatMap fun x => [x.1, x.2]
theorem rowB_bl (l : List BB) : (rowB l).map bl = packRow (l.map bb) := by
  unfold rowB packRow
  rw [List.map_cons]
  congr 1
  induction l with
  | nil => rfl
  | cons x l ih => rw [List.map_cons, flatS_cons, ← ih]; simp [bb]
theorem rowB_cells (l : List BB) : (rowB l).map Value.string = .string hibpB :: bx l := by
  unfold rowB
  rw [List.map_cons]
  congr 1
  induction l with
  | nil => rfl
  | cons x l ih => rw [bx_cons, ← ih]; simp
theorem rowB_length (l : List BB) : (rowB l).length = 2 * l.length + 1 := by
  have := congrArg List.length (rowB_cells l)
  rw [List.length_map, List.length_cons, bx_length] at this
  omega
def seenS (L : List (Bs × Bs)) (k : Nat) : List Bs := ((L.take k).map Prod.fst).reverse
theorem seenS_succ (L : List (Bs × Bs)) (k : Nat) (h : k < L.length) : seenS L (k + 1) = L[k].1 :: seenS L k := by
  unfold seenS
  rw [List.take_succ_eq_append_getElem h, List.map_append, List.reverse_append]
  rfl
theorem seenS_length (L : List (Bs × Bs)) (k : Nat) (h : k ≤ L.length) : (seenS L k).length = k := by
  unfold seenS; simp; omega
theorem checkS_drop (L : List (Bs × Bs)) (k : Nat) (h : k < L.length) (seen : List Bs) :
    checkS seen (L.drop k) = if L[k].1.length < 1 ∨ 100 < L[k].1.length then 7 else if L[k].1 ∈ seen then 8 else checkS (L[k].1 :: seen) (L.drop (k + 1)) := by
  rw [List.drop_eq_getElem_cons h, checkS]
theorem bx_take (l : List BB) (k : Nat) (h : k < l.length) : bx (l.take (k + 1)) = bx (l.take k) ++ [.string l[k].1, .string l[k].2] := by
  unfold bx; rw [List.take_succ_eq_append_getElem h, List.flatMap_append]; rfl

theorem info9 : (Try.prog.info? 9).map (fun i => (i.zero, i.size, i.bytes)) = some (some (.string ⟨#[]⟩), 1, 16) := by kernel_rfl

set_option maxRecDepth 100000 in
set_option maxHeartbeats 4000000 in
theorem make_any (A : Option Addr) (c : Nat) (l : List BB) (w : World) (hr : Reads w w.heap.size 2 A l.length (bx l)) (hlen : (rowS (packRow (l.map bb))).length ≤ 140737488355328) (hll : l.length ≤ 1000000000) :
    Calls Try.prog 11 #[.slice A l.length c] w fun e w' => e = .returned (.tuple #[.string ⟨(makeS (l.map bb)).1.toArray⟩, .int .i64 (makeS (l.map bb)).2]) ∧ Below w.heap.size w w' := by
  have hmm := @run_makeMap Try.prog
  obtain ⟨i0, hi, hz0, hz1, hz2⟩ := info_parts info9
  by_cases hnil : l = []
  · subst hnil
    go_enter Try.func11, Try.ntmps11
    go_wp2
    go_ret2
    exact ⟨rfl, Below.refl _ _⟩
  · have hpos : 0 < l.length := List.length_pos_iff.2 hnil
    have hn0 : ((l.length : Int) == 0) = false := by rw [beq_eq_false_iff_ne]; omega
    have hS0 : SetAt ((w.alloc (.map #[] 0)).alloc (.cells #[.string hibpB] 9)) w.heap.size (seenS (l.map bb) 0) :=
      set_kept (row := none) (set_made w) (only_alloc (only_refl _ _) _) (by simp)
    have hO0 : ((w.alloc (.map #[] 0)).alloc (.cells #[.string hibpB] 9)).ownsRow w.heap.size 9 1 (.slice (some ⟨w.heap.size + 1, 0, none⟩) 1 1) 1 (.string hibpB :: bx (l.take 0)) :=
      ⟨rfl, .inr ⟨w.heap.size + 1, 1, #[.string hibpB], rfl, by omega, by have := heap_alloc_new (w.alloc (.map #[] 0)) (.cells #[.string hibpB] 9); simpa using this, Nat.le_refl _, by unfold maxLen; omega, rfl, rfl⟩⟩
    have hB0 : Below w.heap.size w ((w.alloc (.map #[] 0)).alloc (.cells #[.string hibpB] 9)) := ((Below.refl _ _).alloc (Nat.le_refl _) _).alloc (by simp) _
    unfold hibpB at hS0 hO0 hB0
    go_enter Try.func11, Try.ntmps11
    go_wp2
    go_loopw [5, 16] (fun v i wr => ∃ k : Nat, i = .int .i64 k ∧ k ≤ l.length ∧ SetAt wr w.heap.size (seenS (l.map bb) k) ∧ wr.ownsRow w.heap.size 9 1 v (1 + 2 * k) (.string hibpB :: bx (l.take k)) ∧
        Hid (checkS [] (l.map bb) = checkS (seenS (l.map bb) k) ((l.map bb).drop k)) ∧ Below w.heap.size w wr)
      (fun _ i _ => l.length - (intOf i).toNat)
    case atStart => exact ⟨0, rfl, Nat.zero_le _, hS0, hO0, Lib.hid rfl, hB0⟩
    case round =>
      clear hS0 hO0 hB0
      obtain ⟨k, rfl, hk, hset, hown, hchk, hb⟩ := hrel
      have hsz := hb.size
      have hMlt := set_lt hset
      obtain ⟨Av, cv, rfl, hcv⟩ := own_form hown
      by_cases hlt : k < l.length
      · have hkL : k < (l.map bb).length := by simpa using hlt
        have hck := checkS_drop (l.map bb) k hkL (seenS (l.map bb) k)
        rw [← hchk.out] at hck
        have hLk : (l.map bb)[k] = bb l[k] := by simp
        rw [hLk] at hck
        have HCK := Lib.hid hck
        obtain ⟨ad, rfl, hadB, hc1, hc2⟩ := box_at hr rfl hlt
        have hx1 := (hb.cell (p := ad.add (k * 2)) (by rw [block_add]; exact hadB)).trans hc1
        have hx2 := (hb.cell (p := ⟨(ad.add (k * 2)).block, (ad.add (k * 2)).off + 1, none⟩) (by rw [block_add]; exact hadB)).trans hc2
        clear hc1 hc2 hck hLk
        generalize hl1 : l[k].1 = s1 at *
        generalize hl2 : l[k].2 = s2 at *
        have HL1 := Lib.hid hl1
        have HL2 := Lib.hid hl2
        clear hl1 hl2 hn0
        by_cases hbad : s1.size < 1 ∨ 100 < s1.size
        · have hfin : makeS (l.map bb) = ([], 7) := by
            have h7 : checkS [] (l.map bb) = 7 := by
              rw [HCK.out, if_pos]
              show (bl l[k].1).length < 1 ∨ 100 < (bl l[k].1).length
              rw [HL1.out, bl_len]; exact hbad
            unfold makeS
            rw [if_neg (by simpa using hnil), h7, if_pos (by decide)]
          have HF := Lib.hid hfin
          clear hfin
          go_wp2_with fail
          all_goals
            go_ret2
            exact ⟨by rw [HF.out]; rfl, hb.alloc hsz _⟩
        · have hs1 : (1 : Int) ≤ (s1.size : Int) := by omega
          have hs2 : (s1.size : Int) ≤ 100 := by omega
          by_cases hmem : bl s1 ∈ seenS (l.map bb) k
          · have hd : decide (s1.data.toList ∈ seenS (l.map bb) k) = true := decide_eq_true hmem
            have hfin : makeS (l.map bb) = ([], 8) := by
              have h8 : checkS [] (l.map bb) = 8 := by
                rw [HCK.out, if_neg, if_pos]
                · show bl l[k].1 ∈ _
                  rw [HL1.out]; exact hmem
                · show ¬ ((bl l[k].1).length < 1 ∨ 100 < (bl l[k].1).length)
                  rw [HL1.out, bl_len]; exact hbad
              unfold makeS
              rw [if_neg (by simpa using hnil), h8, if_pos (by decide)]
            have HF := Lib.hid hfin
            clear hfin hbad hmem
            go_wp2_with (at_lookup; refine wpList_set_look _ rfl _ _ rfl (set_kept (row := none) hset (only_alloc (only_refl _ _) _) (by simp)) s1 (by unfold maxLen; omega) rfl rfl ?_)
            go_ret2
            exact ⟨by rw [HF.out]; rfl, hb.alloc hsz _⟩
          · have hd : decide (s1.data.toList ∈ seenS (l.map bb) k) = false := decide_eq_false hmem
            have hnext : checkS [] (l.map bb) = checkS (seenS (l.map bb) (k + 1)) ((l.map bb).drop (k + 1)) := by
              rw [HCK.out, if_neg, if_neg, seenS_succ _ _ hkL]
              · simp
              · show ¬ bl l[k].1 ∈ _
                rw [HL1.out]; exact hmem
              · show ¬ ((bl l[k].1).length < 1 ∨ 100 < (bl l[k].1).length)
                rw [HL1.out, bl_len]; exact hbad
            have HN := Lib.hid hnext
            clear hnext hbad hmem
            have hsl : (seenS (l.map bb) k).length = k := seenS_length _ _ (by simpa using hk)
            have hsm : (seenS (l.map bb) k).length < maxLen := by unfold maxLen; omega
            have HSL := Lib.hid hsl
            clear hsl
            go_wp2_with (first | (at_lookup; refine wpList_set_look _ rfl _ _ rfl (set_kept (row := none) hset (only_alloc (only_refl _ _) _) (by simp)) s1 (by unfold maxLen; omega) rfl rfl ?_) | (at_mapUpdate; go_must (refine wpList_set_put _ rfl _ _ _ rfl (set_kept (row := none) hset (only_alloc (only_refl _ _) _) (by simp)) s1 (by unfold maxLen; omega) hsm rfl rfl rfl ?_)))
            intro w1 hset1 hg1
            have hx1' : w1.cell? ⟨wr.heap.size, 0, none⟩ = some (.string s1) := hg1.cell (a := ⟨wr.heap.size, 0, none⟩) (by go_simp) (by simp; omega)
            have hx2' : w1.cell? ⟨wr.heap.size, 1, none⟩ = some (.string s2) := hg1.cell (a := ⟨wr.heap.size, 1, none⟩) (by go_simp) (by simp; omega)
            have hb1 : Below w.heap.size w w1 := (hb.alloc hsz _).grown hg1 (by simp; omega) (fun k e => by injection e with e; omega)
            have hsz1 : wr.heap.size + 1 ≤ w1.heap.size := by have := hg1.size; simpa using this
            have hown1 := (hown.alloc (.cells #[.string s1, .string s2] 29)).kept hg1 (.inr (own_ne_set hset hown))
            go_wp2_with (at_builtin; refine wpList_append_own _ rfl _ _ 58 rfl w.heap.size 9 i0 _ 1 16 Try.underlying58 hi hz0 hz1 hz2 rfl (by decide) _ _ _ rfl (hown1.alloc _) ⟨w1.heap.size, 0, none⟩ 2 2 [.string s1, .string s2] rfl rfl ?c1 (by simp [Value.oneCell']) (by unfold maxLen; omega) (by omega) (by simp; omega) ?_)
            case c1 =>
              intro j u hj
              match j, hj with
              | 0, hj => simp at hj; subst hj; simp [Addr.add]
              | 1, hj => simp at hj; subst hj; simp [Addr.add]
            intro v2 w2 hown2 hg2 _
            have hset2 : SetAt w2 w.heap.size (bl s1 :: seenS (l.map bb) k) := set_kept (set_kept (row := none) hset1 (only_alloc (only_refl _ _) _) (by simp)) hg2 (fun e => own_ne_set hset1 hown1 e.symm)
            have hb2 : Below w.heap.size w w2 := (hb1.alloc (by omega) _).grown hg2 (by simp; omega) (fun k hk => (hown1.lt k hk).1)
            clear hown1 hset1
            go_wp2
            go_roundw
            case rel =>
              refine ⟨k + 1, by go_num, by omega, ?_, ?_, HN, hb2⟩
              · rw [seenS_succ _ _ hkL]
                simpa [bb, HL1.out] using hset2
              · rw [bx_take _ _ hlt, HL1.out, HL2.out]
                have e : 1 + 2 * (k + 1) = 1 + 2 * k + 2 := by omega
                rw [e]
                simpa using hown2
            case measure => simp [intOf]; omega
      · obtain rfl : k = l.length := by omega
        have hrl : 1 + 2 * l.length = (rowB l).length := by rw [rowB_length]; omega
        have hown' : wr.ownsRow w.heap.size 9 1 (.slice Av (rowB l).length cv) (rowB l).length ((rowB l).map Value.string) := by
          rw [rowB_cells, ← hrl]
          rw [List.take_length] at hown
          exact hown
        have hrd : Reads wr wr.heap.size 1 Av (rowB l).length ((rowB l).map Value.string) := Reads.of_own hown'
        have hlb : (rowS ((rowB l).map bl)).length ≤ 140737488355328 := by rw [rowB_bl]; exact hlen
        have hln : (rowB l).length ≤ 140737488355328 := by rw [rowB_length]; omega
        have hck : checkS [] (l.map bb) = 0 := by
          rw [hchk.out]
          have : (l.map bb).length = l.length := by simp
          rw [← this, List.drop_length]
          rfl
        have hmk : makeS (l.map bb) = if 65536 < (rowS (packRow (l.map bb))).length then ([], 6) else (rowS (packRow (l.map bb)), 0) := by
          unfold makeS
          rw [if_neg (by simpa using hnil), hck, if_neg (by decide)]
        have HMK := Lib.hid hmk
        have HRL := Lib.hid hrl
        clear hmk hck hrl hown hown' hset
        go_wp2_with fail
        rw [HRL.out]
        refine (row_any Av cv (rowB l) wr hrd hlb hln).mono ?_
        rintro e w1 ⟨rfl, hb1⟩
        have hb2 := hb.trans (hb1.mono hsz)
        rw [rowB_bl]
        have HLEN := Lib.hid hlen
        by_cases hbig : 65536 < (rowS (packRow (l.map bb))).length
        · rw [if_pos hbig] at HMK
          have hbig' : (65536 : Int) < ((rowS (packRow (l.map bb))).length : Int) := by omega
          clear hlb hrd hln hb1
          go_wp2
          go_ret2
          exact ⟨by first | (rw [HMK.out]; done) | (rw [HMK.out]; rfl), hb2⟩
        · rw [if_neg hbig] at HMK
          have hbig' : ¬ (65536 : Int) < ((rowS (packRow (l.map bb))).length : Int) := by omega
          clear hlb hrd hln hb1
          go_wp2
          go_ret2
          exact ⟨by first | (rw [HMK.out]; done) | (rw [HMK.out]; rfl), hb2⟩
end Go.Proofs.Ytojgmeonjgfpoaa
