/- hibernacleref40.Boxes walked. Condition: at most 10^8 bytes. -/
import Derived.Test.YtojgmeonjgfpoaaRefF
import Derived.Test.YtojgmeonjgfpoaaPackB
namespace Go.Proofs.Ytojgmeonjgfpoaa
open Go.RowKit

/-- what the document's Boxes answers -/
def RefBoxesP (s : ByteArray) (w : World) (e : Ending) (w' : World) : Prop :=
  ∃ (v : Value) (rs : List BB) (ok : Bool), e = .returned (.tuple #[v, .bool ok]) ∧ w'.ownsRow w.heap.size 29 2 v rs.length (bx rs) ∧ Below w.heap.size w w' ∧
      ((boxesS (bl s) = none ∧ ok = false) ∨ (boxesS (bl s) = some (rs.map bb) ∧ ok = true))

set_option maxRecDepth 100000 in
set_option maxHeartbeats 4000000 in
theorem refboxes_any (s : ByteArray) (w : World) (hs : s.size ≤ 100000000) :
    Calls Try.prog 24 #[.string s] w (RefBoxesP s w) := by
  obtain ⟨i0, hi, hz0, hz1, hz2⟩ := info_parts info29
  have htl := texts_le s.size (bl s) (by rw [bl_len]; omega) (by rw [bl_len]; omega)
  rw [bl_len] at htl
  go_enter Try.func24, Try.ntmps24
  go_wp2_with fail
  refine (reftexts_any s _ (by omega)).mono ?_
  rintro e w1 ⟨v1, rs, rfl, hrs, hrl, hown1', hb1'⟩
  have hown1 := own_mono hown1' (by show w.heap.size ≤ (w.alloc _).heap.size; simp)
  have hb1 : Below w.heap.size w w1 := ((Below.refl w.heap.size w).alloc (Nat.le_refl _) _).trans (hb1'.mono (by show w.heap.size ≤ (w.alloc _).heap.size; simp))
  have hemp : w1.ownsRow w.heap.size 29 2 (.slice (some ⟨w.heap.size, 0, none⟩) 0 0) 0 [] :=
    (World.ownsRow_made w #[] 0 (Nat.le_refl _) (by unfold maxLen; omega) (by simp)).kept (only_of_below hb1' none) (Classical.em _)
  have hab := fun hn => own_addr hown1' hn
  have hw1s : w.heap.size < w1.heap.size := by have h := hb1'.size; have h2 : (w.alloc (.cells #[] 29)).heap.size = w.heap.size + 1 := by simp
                                               omega
  clear hown1' hb1'
  have hsz1 := hb1.size
  obtain ⟨Av, cv, rfl, hcv⟩ := own_form hown1
  have hrd := Reads.of_own hown1
  have hbx : boxesS (bl s) = if (textsS (bl s)).2 ≠ 0 ∨ rs.length % 2 = 0 ∨ (rs.map bl).head? ≠ some hibp then none
      else if (makeS ((pairS rs.tail).map bb)).2 = 0 ∧ (makeS ((pairS rs.tail).map bb)).1 = bl s then some ((pairS rs.tail).map bb) else none := by
    unfold boxesS
    rw [pairB_bb, List.map_tail, hrs, ← hrs, List.length_map]
  generalize hte : (textsS (bl s)).2 = te at *
  have HB := Lib.hid hbx
  have HTE := Lib.hid hte
  have HRS := Lib.hid hrs
  clear hbx hte hrs
  by_cases he : te = 0
  · subst he
    by_cases hodd : rs.length % 2 = 0
    · have ho' : (((rs.length : Int) % 2) == 0) = true := by rw [beq_iff_eq]; omega
      have hfin : boxesS (bl s) = none := by rw [HB.out, if_pos (.inr (.inl hodd))]
      have HF := Lib.hid hfin
      clear hfin hown1 hrd hodd
      go_wp2
      go_ret2
      exact ⟨_, [], false, rfl, hemp, hb1, .inl ⟨HF.out, rfl⟩⟩
    · have ho' : (((rs.length : Int) % 2) == 0) = false := by rw [beq_eq_false_iff_ne]; omega
      have hpos : 0 < rs.length := by omega
      obtain ⟨ad, u, rfl, hadB, hu, hcell⟩ := hrd.at_ (k := 0) hpos
      have hadG : w.heap.size < ad.block := by
        obtain ⟨g, c, e1, _, h1, _⟩ := hab hpos
        injection e1 with e1
        injection e1 with e1
        subst e1
        have h2 : (w.alloc (.cells #[] 29)).heap.size = w.heap.size + 1 := by simp
        show w.heap.size < g
        omega
      clear hab
      have hu' : u = .string (rs[0]'hpos) := by
        rw [List.getElem?_map, List.getElem?_eq_getElem hpos] at hu
        injection hu with hu; exact hu.symm
      subst hu'
      have hc0 : w1.cell? ad = some (.string (rs[0]'hpos)) := by simpa [Addr.add] using hcell
      clear hcell
      generalize hr0 : rs[0]'hpos = r0 at *
      have HR0 := Lib.hid hr0
      clear hr0
      by_cases hm : bl r0 = hibp
      · have hm' := str_ne_false hm
        unfold hibp at hm'
        have hbx2 : boxesS (bl s) = if (makeS ((pairS rs.tail).map bb)).2 = 0 ∧ (makeS ((pairS rs.tail).map bb)).1 = bl s then some ((pairS rs.tail).map bb) else none := by
          rw [HB.out, if_neg]
          rintro (h | h | h)
          · exact h rfl
          · exact hodd h
          · apply h
            rw [List.head?_eq_getElem?, List.getElem?_map, List.getElem?_eq_getElem hpos, HR0.out]
            simp [hm]
        have HB2 := Lib.hid hbx2
        have hmlen : (pairS rs.tail).length * 2 + 1 = rs.length := by
          rw [pairS_length, List.length_tail]; omega
        have hrow : (rowS (packRow ((pairS rs.tail).map bb))).length ≤ 10 * s.size := by
          have e : packRow ((pairS rs.tail).map bb) = rs.map bl := by
            rw [pairB_bb]
            unfold packRow
            rw [flat_pair _ (by rw [List.length_map, List.length_tail]; omega)]
            cases rs with
            | nil => simp at hodd
            | cons a t =>
              have ha : a = r0 := by simpa using HR0.out
              rw [List.tail_cons, List.map_cons, ha, hm]
          rw [e, HRS.out]; exact htl
        have HML := Lib.hid hmlen
        have HM := Lib.hid hm
        clear hbx2 hm hmlen ho' htl
        go_wp2
        go_loopw [4, 7] (fun v i wr => ∃ k j : Nat, i = .int .i64 j ∧ Hid (j = 1 + 2 * k) ∧ k ≤ (pairS rs.tail).length ∧ wr.ownsRow w.heap.size 29 2 v k (bx ((pairS rs.tail).take k)) ∧ Hid (∀ g, v.ownBlock = some g → g = w.heap.size ∨ w1.heap.size ≤ g) ∧ w1.grownBy wr (some w.heap.size))
          (fun _ i _ => rs.length - (intOf i).toNat)
        case atStart => exact ⟨0, 1, rfl, Lib.hid rfl, Nat.zero_le _, hemp, Lib.hid (fun g e => .inl (by simpa [Value.ownBlock] using e.symm)), only_refl _ _⟩
        case round =>
          obtain ⟨k, j, rfl, hj, hk, hown, hfar, hb⟩ := hrel
          have hsz := hb.size
          have hbB : Below w.heap.size w wr := hb1.trans (below_of_only hb hsz1 (Nat.le_refl _))
          obtain ⟨Ao, co, rfl, hco⟩ := own_form hown
          have hj' := hj.out
          have hml' := HML.out
          by_cases hlt : k < (pairS rs.tail).length
          · have hkb : k < 1000000000 := by omega
            have hj1 : (j : Int) < (rs.length : Int) := by omega
            have hj2 : (j : Int) + 1 < (rs.length : Int) := by omega
            have hj3 : j + 1 < rs.length := by omega
            have hzj1 : (0 : Int) ≤ (j : Int) := by omega
            have hzj2 : (0 : Int) ≤ (j : Int) + 1 := by omega
            have hw1 : IntKind.i64.wrap ((j : Int) + 1) = (j : Int) + 1 := IntWalk.i64_in _ (by omega)
            obtain ⟨ad', u1, e1, _, hu1, hcell1⟩ := hrd.at_ (k := j) (by omega)
            obtain ⟨ad'', u2, e2, _, hu2, hcell2⟩ := hrd.at_ (k := j + 1) (by omega)
            injection e1 with e1
            injection e2 with e2
            subst e1
            subst e2
            rw [List.getElem?_map, List.getElem?_eq_getElem (by omega)] at hu1 hu2
            injection hu1 with hu1
            injection hu2 with hu2
            have hx1 := (World.cell?_of_block (a := ad.add j) (hb.block _ (by rw [block_add]; exact hadB) (by rw [block_add]; intro e; injection e with e; omega))).trans hcell1
            have hx2 := (World.cell?_of_block (a := ad.add (j + 1)) (hb.block _ (by rw [block_add]; exact hadB) (by rw [block_add]; intro e; injection e with e; omega))).trans hcell2
            have hfar' := hfar.out
            rw [← hu1] at hx1
            rw [← hu2] at hx2
            rw [add_pos _ (by omega)] at hx2
            have hpk : (pairS rs.tail)[k] = (rs[j]'(by omega), rs[j + 1]'(by omega)) := by
              rw [pairS_get _ _ hlt (by rw [List.length_tail]; omega) (by rw [List.length_tail]; omega)]
              simp only [List.getElem_tail, hj']
              congr 1 <;> congr 1 <;> omega
            generalize hs1 : rs[j]'(by omega) = s1 at *
            generalize hs2 : rs[j + 1]'(by omega) = s2 at *
            have HPK := Lib.hid hpk
            clear hpk hs1 hs2 hu1 hu2 hcell1 hcell2 hj' hml' hc0
            go_wp2_with fail
            go_region_held3 (fun w' => w'.cell? (ad.add j) = some (.string s1) ∧ w'.cell? ⟨ad.block, ad.off + (j + 1), none⟩ = some (.string s2))
              (first
                | go_keep
                | (go_split_ands
                   refine ⟨?_, ?_⟩
                   · (rw [hgrow.cell_far _ (by simp [block_add]; omega) (fun e => by have := hfar' _ e.symm; simp [block_add] at this; omega)]; assumption)
                   · (rw [hgrow.cell_far _ (by simp; omega) (fun e => by have := hfar' _ e.symm; simp at this; omega)]; assumption)))
              ((refine step_append_lies _ (by rfl) _ _ _ (by rfl) w.heap.size 29 i0 _ 2 32 Try.underlying22 hi hz0 hz1 hz2 rfl (by omega) _ _ _ (by rfl) ((hown.alloc _).drew)
                    ⟨wr.heap.size, 0, none⟩ 1 1 [.string s1, .string s2] (by rfl) (by rfl) (World.news_of_block (cs := #[.string s1, .string s2]) (t := 29) (fr := (0, 0)) (heap_alloc_new wr _)) (by simp [Value.oneCell'])
                    (by omega) (by unfold maxLen; omega) (by omega) (by simp; omega) (wr.heap.size + 1) (by simp) ?_; intro gg cap w2 hown2 hgrow hat hlt2))
            go_wp2_with fail
            have hb2 : w1.grownBy w2 (some w.heap.size) := by
              have h1 := only_drew (only_alloc hb (.cells #[.string s1, .string s2] 29))
              exact ⟨hgrow.os.trans h1.os, hgrow.tape.trans h1.tape, hgrow.output.trans h1.output, Nat.le_trans h1.size hgrow.size, fun i hi hne => (hgrow.block i (by have := h1.size; omega) (fun e => by
                have := hfar' _ e.symm
                rcases this with h | h
                · exact hne (by rw [h])
                · omega)).trans (h1.block i hi hne)⟩
            have hfar2 : ∀ g', (Value.slice (some ⟨gg, 0, none⟩) (k + 1) cap).ownBlock = some g' → g' = w.heap.size ∨ w1.heap.size ≤ g' := by
              intro g' e
              have e' : gg = g' := by simpa [Value.ownBlock] using e
              subst e'
              rcases hat with h | h
              · exact hfar' _ h
              · right; omega
            have HFAR := Lib.hid hfar2
            clear hfar2 hfar'
            go_roundw
            case rel =>
              refine ⟨k + 1, j + 2, by go_num, Lib.hid (by have := hj.out; omega), by omega, ?_, HFAR, hb2⟩
              rw [bx_take _ _ hlt, HPK.out]
              exact hown2
            case measure => simp [intOf]; omega
          · obtain rfl : k = (pairS rs.tail).length := by omega
            rw [List.take_length] at hown
            have hrd2 := Reads.of_own hown
            have hown3 := hown
            have hjn : ¬ (j : Int) < (rs.length : Int) := by omega
            have hll : (pairS rs.tail).length ≤ 1000000000 := by omega
            have hmk := refmake_any Ao co (pairS rs.tail) wr hrd2 (by omega) hll
            have hbw : Below w.heap.size w wr := hbB
            generalize hM : makeS ((pairS rs.tail).map bb) = M at *
            obtain ⟨m1, m2⟩ := M
            dsimp only at hmk
            have hbf := HB2.out
            dsimp only at hbf
            have HBF := Lib.hid hbf
            clear hbf
            have HMK := Lib.hid hmk
            have HO3 := Lib.hid hown3
            clear hown hown3 hc0 hrd hrd2 hown1 hrow hmk HB2 hj' hml' hlt hll
            go_wp2_with fail
            refine HMK.out.mono ?_
            rintro e w3 ⟨rfl, hb3⟩
            have hO3 := HO3.out.kept (only_of_below hb3 none) (Classical.em _)
            have hbw3 := hbw.trans (hb3.mono hbw.size)
            have HOO := Lib.hid hO3
            clear hO3 HMK HO3
            by_cases hm2 : m2 = 0
            · subst hm2
              by_cases hm1 : m1 = bl s
              · have hs1 : (m1 == s.toList) = true := by rw [ByteArray.toList_eq]; simp [hm1]
                go_wp2
                go_ret2
                exact ⟨_, pairS rs.tail, true, rfl, HOO.out, hbw3, .inr ⟨by rw [HBF.out, if_pos ⟨trivial, hm1⟩], rfl⟩⟩
              · have hs1 : (m1 == s.toList) = false := by rw [ByteArray.toList_eq]; simpa using hm1
                go_wp2
                go_ret2
                exact ⟨_, pairS rs.tail, false, rfl, HOO.out, hbw3, .inl ⟨by rw [HBF.out, if_neg (fun h => hm1 h.2)], rfl⟩⟩
            · have hm2' : (m2 == 0) = false := by rw [beq_eq_false_iff_ne]; exact hm2
              have hfin : boxesS (bl s) = none := by rw [HBF.out, if_neg (fun h => hm2 h.1)]
              have HF := Lib.hid hfin
              clear hfin hm2
              go_wp2
              go_ret2
              exact ⟨_, pairS rs.tail, false, rfl, HOO.out, hbw3, .inl ⟨HF.out, rfl⟩⟩
      · have hm' := str_ne_true hm
        unfold hibp at hm'
        have hfin : boxesS (bl s) = none := by
          have hc : (rs.map bl).head? ≠ some hibp := by
            rw [List.head?_eq_getElem?, List.getElem?_map, List.getElem?_eq_getElem hpos, HR0.out]
            exact fun e => hm (by injection e)
          rw [HB.out, if_pos (.inr (.inr hc))]
        have HF := Lib.hid hfin
        clear hfin hown1 hrd hm hodd
        go_wp2
        go_ret2
        exact ⟨_, [], false, rfl, hemp, hb1, .inl ⟨HF.out, rfl⟩⟩
  · have hre2 : ((te != 0) = true) := by rw [bne_iff_ne]; exact he
    have hfin : boxesS (bl s) = none := by rw [HB.out, if_pos (.inl he)]
    have HF := Lib.hid hfin
    clear hfin hown1 hrd he
    go_wp2
    go_ret2
    exact ⟨_, [], false, rfl, hemp, hb1, .inl ⟨HF.out, rfl⟩⟩
end Go.Proofs.Ytojgmeonjgfpoaa
