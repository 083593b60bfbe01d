/- ChunkWhole walked: true for every text. No condition. -/
import Derived.Test.YtncoghoeeefjhaaChuA
namespace Go.Proofs.Ytncoghoeeefjhaa
open Go.RowKit

theorem rs_size {rs : List ByteArray} {d : List UInt8} (h : rs.map lb = cutS d) (k : Nat) (hk : k < rs.length) : 1 ≤ rs[k].size ∧ rs[k].size ≤ 1024 ∧ (k + 1 < rs.length → 64 ≤ rs[k].size) := by
  have hl : (cutS d).length = rs.length := by rw [← h, List.length_map]
  have hs : (cutS d)[k]? = some (lb rs[k]) := by rw [← h, List.getElem?_map, List.getElem?_eq_getElem hk]; rfl
  have := cutS_sizes d k _ hs
  rw [lb_len, hl] at this
  exact this
theorem lb_inj {s t : ByteArray} (h : lb s = lb t) : s.toList = t.toList := by rw [ByteArray.toList_eq, ByteArray.toList_eq]; exact h
theorem lb_append (s t : ByteArray) : lb (s ++ t) = lb s ++ lb t := by simp [lb, ByteArray.data_append]
theorem flat_take (rs : List ByteArray) (k : Nat) (hk : k < rs.length) : ((rs.take (k + 1)).map lb).flatten = ((rs.take k).map lb).flatten ++ lb rs[k] := by
  rw [List.take_succ_eq_append_getElem hk, List.map_append, List.flatten_append]; simp
theorem flat_le (rs : List ByteArray) (k : Nat) : ((rs.take k).map lb).flatten.length ≤ (rs.map lb).flatten.length := by
  conv => rhs; rw [← List.take_append_drop k rs, List.map_append, List.flatten_append, List.length_append]
  omega

set_option maxRecDepth 100000 in
set_option maxHeartbeats 4000000 in
theorem whole_any (s : ByteArray) (w : World) :
    Calls Try.prog 3 #[.string s] w fun e w' => e = .returned (.bool true) ∧ Below w.heap.size w w' := by
  by_cases hgt : 9000 < s.size
  · have hg : (9000 : Int) < (s.size : Int) := by omega
    go_enter Try.func3, Try.ntmps3
    go_wp2_with fail
    refine (fixed_any _).mono ?_
    rintro e w1 ⟨rfl, hb1⟩
    go_wp2
    go_ret
    exact ⟨rfl, hb1⟩
  · have hg : ¬ (9000 : Int) < (s.size : Int) := by omega
    go_enter Try.func3, Try.ntmps3
    go_wp2_with fail
    refine (ccut_any s _ (by omega)).mono ?_
    rintro e w1 ⟨v, rs, rfl, hrs, hown, hb1⟩
    have hflat : (rs.map lb).flatten = lb s := by rw [hrs, cutS_flat]
    have hsz := Lib.hid (fun k hk => rs_size hrs k hk)
    have hn : rs.length ≤ s.size := by
      have := cutS_length (lb s)
      rw [← hrs, List.length_map, lb_len] at this
      exact this
    obtain ⟨A, c, rfl, hcc⟩ := own_form hown
    have hr := Reads.of_own hown
    have HF := Lib.hid hflat
    have hs1 := hb1.size
    have hs9 : s.size ≤ 9000 := by omega
    clear hown hrs hflat hgt hg
    go_wp2
    go_loopw [4, 15] (fun av i wr => ∃ (k : Nat) (all : ByteArray), i = .int .i64 k ∧ k ≤ rs.length ∧ av = .string all ∧ Hid (lb all = ((rs.take k).map lb).flatten) ∧ Below w1.heap.size w1 wr)
      (fun _ i _ => rs.length - (intOf i).toNat)
    case atStart => exact ⟨0, ⟨#[]⟩, rfl, Nat.zero_le _, rfl, Lib.hid rfl, Below.refl _ _⟩
    case round =>
      obtain ⟨k, all, rfl, hk, rfl, HA, hb⟩ := hrel
      by_cases hlt : k < rs.length
      · have i1 : (k : Int) < (rs.length : Int) := by omega
        have i0 : (0 : Int) ≤ (k : Int) := by omega
        obtain ⟨ad, u, rfl, hadB, hu, hcell⟩ := hr.at_ hlt
        have hu' : u = .string rs[k] := by
          rw [List.getElem?_map, List.getElem?_eq_getElem hlt] at hu
          injection hu with hu; exact hu.symm
        subst hu'
        have hc := (hb.cell (p := ad.add k) (by rw [block_add]; exact hadB)).trans hcell
        obtain ⟨z1, z2, z3⟩ := hsz.out k hlt
        have hfl := flat_take rs k hlt
        rw [← HA.out, ← lb_append] at hfl
        have hfle := flat_le rs (k + 1)
        rw [hfl, HF.out, lb_len, lb_len] at hfle
        have HFL := Lib.hid hfl.symm
        obtain ⟨r, hr2⟩ : ∃ r, rs[k] = r := ⟨_, rfl⟩
        rw [hr2] at z1 z2 z3 hc HFL hfle
        have y1 : ¬ (r.size : Int) < 1 := by omega
        have y2 : ¬ (1024 : Int) < (r.size : Int) := by omega
        have hw1 : IntKind.i64.wrap ((k : Int) + 1) = (k : Int) + 1 := IntWalk.i64_in _ (by omega)
        have y5 : all.size + r.size ≤ 9000 := by rw [ByteArray.size_append] at hfle; omega
        clear hfl hcell hu hr2 HA hfle
        by_cases hlast : k + 1 < rs.length
        · have y3 : ¬ (r.size : Int) < 64 := by have := z3 hlast; omega
          have y4 : (k : Int) + 1 < (rs.length : Int) := by omega
          clear z3
          go_wp2
          go_roundw
          case rel => exact ⟨k + 1, _, by go_num, by omega, rfl, HFL, hb⟩
          case measure => simp [intOf]; omega
        · have y4 : ¬ (k : Int) + 1 < (rs.length : Int) := by omega
          clear z3
          go_wp2
          go_roundw
          case rel => exact ⟨k + 1, _, by go_num, by omega, rfl, HFL, hb⟩
          case measure => simp [intOf]; omega
      · have hkk : k = rs.length := by omega
        have hk9 : ¬ (k : Int) < (rs.length : Int) := by omega
        have he := HA.out
        rw [hkk, List.take_length, HF.out] at he
        have he2 := lb_inj he
        have hbw := hb1.trans (hb.mono hs1)
        have hsw := hbw.size
        clear hkk hlt hk HA he
        go_wp2_with (go_at_call 14; refine (fixed_any _).mono ?_; rintro e w3 ⟨rfl, hb3⟩)
        go_ret
        exact ⟨rfl, hbw.trans (hb3.mono hsw)⟩
theorem chunkWhole_row (s : ByteArray) (w : World) : Calls Try.prog 3 #[.string s] w fun e w' => e = .returned (.bool true) ∧ Below w.heap.size w w' := whole_any s w
end Go.Proofs.Ytncoghoeeefjhaa
