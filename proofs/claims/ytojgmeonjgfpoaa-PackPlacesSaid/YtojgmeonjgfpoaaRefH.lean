/- hibernacleref40.Of walked. Condition: at most 10^8 bytes. -/
import Derived.Test.YtojgmeonjgfpoaaRefG
import Derived.Test.YtojgmeonjgfpoaaPackC
namespace Go.Proofs.Ytojgmeonjgfpoaa
open Go.RowKit

theorem bx_append (l m : List BB) : bx (l ++ m) = bx l ++ bx m := by simp [bx]
theorem reads_take {w : World} {B : Nat} {A : Option Addr} {l : List BB} (h : Reads w B 2 A l.length (bx l)) (k : Nat) (hk : k ≤ l.length) : Reads w B 2 A k (bx (l.take k)) := by
  refine ⟨by rw [bx_length, List.length_take]; omega, fun hp => ?_⟩
  obtain ⟨ad, e, hb, hc⟩ := h.2 (by omega)
  refine ⟨ad, e, hb, fun j u hj => hc j u ?_⟩
  have e2 : bx l = bx (l.take k) ++ bx (l.drop k) := by rw [← bx_append, List.take_append_drop]
  rw [e2, List.getElem?_append_left (by
    have := (List.getElem?_eq_some_iff.1 hj).1
    exact this)]
  exact hj
theorem reads_drew {w : World} {B size n : Nat} {A : Option Addr} {xs : List Value} (h : Reads w B size A n xs) : Reads w.drew B size A n xs := h.keep fun _ _ => rfl

/-- what the document's Of answers -/
def RefOfP (s : ByteArray) (w : World) (e : Ending) (w' : World) : Prop :=
  ∃ (v : Value) (rs : List BB) (err : Int), e = .returned (.tuple #[v, .int .i64 err]) ∧ w'.ownsRow w.heap.size 39 3 v rs.length (px 5 rs) ∧ Below w.heap.size w w' ∧
      ((boxesS (bl s) = none ∧ err = 3 ∧ rs = []) ∨ (boxesS (bl s) = some (rs.map bb) ∧ err = 0))

set_option maxRecDepth 100000 in
set_option maxHeartbeats 4000000 in
theorem refof_any (s : ByteArray) (w : World) (hs : s.size ≤ 100000000) :
    Calls Try.prog 13 #[.string s] w (RefOfP s w) := by
  obtain ⟨i0, hi, hz0, hz1, hz2⟩ := info_parts info39
  go_enter Try.func13, Try.ntmps13
  go_wp2_with fail
  refine (refboxes_any s _ hs).mono ?_
  rintro e w1 ⟨v1, rs, ok, rfl, hown1', hb1', hcase⟩
  have hown1 := own_mono hown1' (by show w.heap.size ≤ (w.alloc _).heap.size; simp)
  have hb1 : Below w.heap.size w w1 := ((Below.refl w.heap.size w).alloc (Nat.le_refl _) _).trans (hb1'.mono (by show w.heap.size ≤ (w.alloc _).heap.size; simp))
  have hemp : w1.ownsRow w.heap.size 39 3 (.slice (some ⟨w.heap.size, 0, none⟩) 0 0) 0 [] :=
    (World.ownsRow_made w #[] 0 (Nat.le_refl _) (by unfold maxLen; omega) (by simp)).kept (only_of_below hb1' none) (Classical.em _)
  have hab := fun hn => own_addr hown1' hn
  have hw1s : w.heap.size < w1.heap.size := by have h := hb1'.size; have h2 : (w.alloc (.cells #[] 39)).heap.size = w.heap.size + 1 := by simp
                                               omega
  clear hown1' hb1'
  have hsz1 := hb1.size
  obtain ⟨Av, cv, rfl, hcv⟩ := own_form hown1
  have hrd := Reads.of_own hown1
  rcases hcase with ⟨hnone, rfl⟩ | ⟨hsome, rfl⟩
  · have HF := Lib.hid hnone
    clear hnone hown1 hrd hab
    go_wp2
    go_ret2
    exact ⟨_, [], 3, rfl, hemp, hb1, .inl ⟨HF.out, rfl, rfl⟩⟩
  · have hrow := (boxesS_some hsome).2
    have hrl := congrArg List.length hrow
    rw [packRow_len, bl_len] at hrl
    have hle : (rowS (flatS (rs.map bb))).length ≤ s.size := by omega
    have HS := Lib.hid hsome
    clear hsome hrow hrl hown1
    go_wp2
    go_loopw [4, 20] (fun v i wr => ∃ k : Nat, i = .int .i64 k ∧ k ≤ rs.length ∧ wr.ownsRow w.heap.size 39 3 v k (px 5 (rs.take k)) ∧ Hid (∀ g, v.ownBlock = some g → g = w.heap.size ∨ w1.heap.size ≤ g) ∧ w1.grownBy wr (some w.heap.size))
      (fun _ i _ => rs.length - (intOf i).toNat)
    case atStart => exact ⟨0, rfl, Nat.zero_le _, hemp, Lib.hid (fun g e => .inl (by simpa [Value.ownBlock] using e.symm)), only_refl _ _⟩
    case round =>
      obtain ⟨k, rfl, hk, hown, hfar, hb⟩ := hrel
      have hsz := hb.size
      have hbB : Below w.heap.size w wr := hb1.trans (below_of_only hb hsz1 (Nat.le_refl _))
      obtain ⟨Ao, co, rfl, hco⟩ := own_form hown
      by_cases hlt : k < rs.length
      · obtain ⟨ad, rfl, hadB, hc1, hc2⟩ := box_at hrd rfl hlt
        have hadG : w.heap.size < ad.block := by
          obtain ⟨g, c, e1, _, h1, _⟩ := hab (by omega)
          injection e1 with e1
          injection e1 with e1
          subst e1
          have h2 : (w.alloc (.cells #[] 39)).heap.size = w.heap.size + 1 := by simp
          show w.heap.size < g
          omega
        have hkc : ∀ p : Addr, p.block = ad.block → wr.cell? p = w1.cell? p := fun p hp => World.cell?_of_block (a := p) (hb.block _ (by rw [hp]; exact hadB) (by rw [hp]; intro e; injection e with e; omega))
        have hx1 := (hkc (ad.add (k * 2)) (block_add _ _)).trans hc1
        have hx2 := (hkc ⟨(ad.add (k * 2)).block, (ad.add (k * 2)).off + 1, none⟩ (block_add _ _)).trans hc2
        have hrk : Reads wr wr.heap.size 2 (some ad) (k + 1) (bx (rs.take (k + 1))) := by
          have h := reads_take hrd (k + 1) hlt
          refine ⟨h.1, fun hp => ?_⟩
          obtain ⟨ad2, e2, hb2, hc⟩ := h.2 hp
          injection e2 with e2
          subst e2
          exact ⟨_, rfl, by omega, fun j u hj => (hkc _ (block_add _ _)).trans (hc j u hj)⟩
        have hlen1 : (rs.take (k + 1)).length = k + 1 := by rw [List.length_take]; omega
        have hft2 := flat_take_le rs (k + 1)
        have hpl := packRow_len ((rs.take (k + 1)).map bb)
        have hft3 := congrArg List.length (flat_take rs k hlt)
        rw [List.length_append] at hft3
        have hr2 := row2_len (bl rs[k].1) (bl rs[k].2)
        rw [bl_len, bl_len] at hr2
        have hkb : k < 1000000000 := by
          have h1 := flat_ge rs
          omega
        have hsnoc := px_snoc (rs.take k) 5 rs[k]
        rw [← List.take_succ_eq_append_getElem hlt, show 5 + (rowS (flatS ((rs.take k).map bb))).length + (rowS [bl rs[k].1, bl rs[k].2]).length = (rowS (packRow ((rs.take (k + 1)).map bb))).length by omega] at hsnoc
        have hby : ∀ (c : Nat) (w' : World), Reads w' w'.heap.size 2 (some ad) (k + 1) (bx (rs.take (k + 1))) → Calls Try.prog 25 #[.slice (some ad) (k + 1 : Nat) c] w' fun e w'' => e = .returned (.string ⟨(rowS (packRow ((rs.take (k + 1)).map bb))).toArray⟩) ∧ Below w'.heap.size w' w'' := by
          intro c w' h
          have := refbytes_any (some ad) c (rs.take (k + 1)) w' (by rw [hlen1]; exact h) (by omega) (by omega)
          rw [hlen1] at this
          exact this
        generalize hR : rowS (packRow ((rs.take (k + 1)).map bb)) = R at *
        generalize hs1 : rs[k].1 = s1 at *
        generalize hs2 : rs[k].2 = s2 at *
        have hRb : R.length ≤ 100000005 := by omega
        have hs2l : s2.size ≤ R.length := by omega
        have hRi : (R.length : Int) ≤ 100000005 := by omega
        have hs2i : (s2.size : Int) ≤ (R.length : Int) := by omega
        have hwr : IntKind.i64.wrap ((R.length : Int) - (s2.size : Int)) = (R.length : Int) - (s2.size : Int) := IntWalk.i64_in _ (by omega)
        have hk0 : (0 : Int) ≤ (k : Int) := by omega
        have hk1 : (k : Int) < (rs.length : Int) := by omega
        have hk2 : (0 : Int) ≤ (k : Int) + 1 := by omega
        have hk3 : (k : Int) + 1 ≤ (cv : Int) := by omega
        have hk4 : IntKind.i64.wrap ((k : Int) + 1) = (k : Int) + 1 := IntWalk.i64_in _ (by omega)
        have hfar' := hfar.out
        have HBY := Lib.hid hby
        have HRK := Lib.hid hrk
        have HSN := Lib.hid hsnoc
        clear hby hrk hsnoc hR hs1 hs2 hft2 hft3 hpl hr2 hc1 hc2 hkc hlen1 hab hrd
        go_wp2_with fail
        go_region_law (first
          | (refine step_append_lies _ (by rfl) _ _ _ (by rfl) w.heap.size 39 i0 _ 3 32 Try.underlying32 hi hz0 hz1 hz2 rfl (by omega) _ _ _ (by rfl) (hown2.alloc _)
                ⟨w2.heap.size, 0, none⟩ 1 1 [.string s1, .int .i64 ((R.length : Int) - (s2.size : Int)), .int .i64 s2.size] (by rfl) (by rfl) (World.news_of_block (cs := #[.string s1, .int .i64 ((R.length : Int) - (s2.size : Int)), .int .i64 s2.size]) (t := 39) (fr := (0, 0)) (heap_alloc_new w2 _)) (by simp [Value.oneCell'])
                (by omega) (by unfold maxLen; omega) (by omega) (by simp; omega) (w2.heap.size + 1) (by simp) ?_; intro gg cap w3 hown3 hgrow hat hlt2)
          | (go_simp; go_at_call 25; refine (HBY.out _ _ (reads_drew HRK.out)).mono ?_; rintro e w2 ⟨rfl, hb2⟩
             have hsz2 : wr.heap.size ≤ w2.heap.size := hb2.size
             have hy1 := (hb2.cell (p := ad.add (k * 2)) (by rw [block_add]; show ad.block < wr.heap.size; omega)).trans hx1
             have hown2 := hown.drew.kept (only_of_below hb2 none) (Classical.em _)))
        all_goals
          go_wp2_with fail
          have hb3 : w1.grownBy w3 (some w.heap.size) := by
            have h1 : w1.grownBy w2 (some w.heap.size) := only_trans (only_drew hb) (only_of_below hb2 _)
            have h2 := only_alloc h1 (.cells #[.string s1, .int .i64 ((R.length : Int) - (s2.size : Int)), .int .i64 s2.size] 39)
            exact ⟨hgrow.os.trans h2.os, hgrow.tape.trans h2.tape, hgrow.output.trans h2.output, Nat.le_trans h2.size hgrow.size, fun i hi hne => (hgrow.block i (by have := h2.size; omega) (fun e => by
              have := hfar' _ e.symm
              rcases this with h | h
              · exact hne (by rw [h])
              · omega)).trans (h2.block i hi hne)⟩
          have hfar2 : ∀ g', (Value.slice (some ⟨gg, 0, none⟩) (k + 1) cap).ownBlock = some g' → g' = w.heap.size ∨ w1.heap.size ≤ g' := by
            intro g' e
            have e' : gg = g' := by simpa [Value.ownBlock] using e
            subst e'
            rcases hat with h | h
            · exact hfar' _ h
            · right; omega
          have HFAR := Lib.hid hfar2
          clear hfar2 hfar'
          go_roundw
          case rel =>
            refine ⟨k + 1, by go_num, by omega, ?_, HFAR, hb3⟩
            rw [HSN.out]
            exact hown3
          case measure => simp [intOf]; omega
      · obtain rfl : k = rs.length := by omega
        rw [List.take_length] at hown
        clear hab hrd
        go_wp2
        go_ret2
        exact ⟨_, rs, 0, rfl, hown, hbB, .inr ⟨HS.out, rfl⟩⟩
end Go.Proofs.Ytojgmeonjgfpoaa
