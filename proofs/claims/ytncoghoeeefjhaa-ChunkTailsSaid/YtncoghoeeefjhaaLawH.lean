/- ChunkTails walked: true for every three texts. No condition. -/
import Derived.Test.YtncoghoeeefjhaaLawG
namespace Go.Proofs.Ytncoghoeeefjhaa
open Go.RowKit

theorem intInfo : (Try.prog.info? 3).map (fun i => (i.zero, i.size, i.bytes)) = some (some (.int .i64 0), 1, 8) := by kernel_rfl
def i64s (l : List Nat) : List Value := l.map fun (n : Nat) => Value.int .i64 (n : Int)
theorem i64s_at {l : List Nat} {k : Nat} {u : Value} (h : (i64s l)[k]? = some u) (hk : k < l.length) : u = .int .i64 (l[k] : Nat) := by
  rw [i64s, List.getElem?_map, List.getElem?_eq_getElem hk] at h
  injection h with h; exact h.symm
theorem endsS_le (m : Nat) : ∀ (l : List (List UInt8)) (n : Nat), ∀ x ∈ endsS m l n, x ≤ n
  | [], _, x, h => by simp [endsS] at h
  | s :: l, n, x, h => by
    rw [endsS, List.mem_append] at h
    rcases h with h | h
    · split at h
      · simp at h; omega
      · simp at h
    · have := endsS_le m l (n - s.length) x h; omega
theorem ends_step (m n : Nat) (rs : List ByteArray) (k : Nat) (hk : k < rs.length) :
    endsS m ((rs.drop k).map lb) n = (if n - rs[k].size ≤ m then [n - rs[k].size] else []) ++ endsS m ((rs.drop (k + 1)).map lb) (n - rs[k].size) := by
  rw [List.drop_eq_getElem_cons hk, List.map_cons, endsS, lb_len]
theorem flat_drop (rs : List ByteArray) (k : Nat) (hk : k < rs.length) : rs[k].size ≤ ((rs.drop k).map lb).flatten.length ∧ ((rs.drop (k + 1)).map lb).flatten.length = ((rs.drop k).map lb).flatten.length - rs[k].size := by
  rw [List.drop_eq_getElem_cons hk, List.map_cons, List.flatten_cons, List.length_append, lb_len]
  omega

set_option maxRecDepth 100000 in
set_option maxHeartbeats 4000000 in
theorem ends_any (s : ByteArray) (m : Nat) (w : World) (hs : s.size ≤ 1000000) :
    Calls Try.prog 16 #[.string s, .int .i64 m] w fun e w' => ∃ v, e = .returned v ∧
      w'.ownsRow w.heap.size 3 1 v (endsS m (cutS (lb s)) (lb s).length).length (i64s (endsS m (cutS (lb s)) (lb s).length)) ∧ Below w.heap.size w w' := by
  obtain ⟨i0, hi, hz0, hz1, hz2⟩ := lb_info intInfo
  obtain ⟨EE, hEE⟩ : ∃ EE, endsS m (cutS (lb s)) (lb s).length = EE := ⟨_, rfl⟩
  rw [hEE]
  rw [lb_len] at hEE
  go_enter Try.func16, Try.ntmps16
  go_wp2_with fail
  refine (ccut_any s _ (by omega)).mono ?_
  rintro e w1 ⟨v, rs, rfl, hrs, hown, hb1⟩
  have hn : rs.length ≤ s.size := by
    have := cutS_length (lb s)
    rw [← hrs, List.length_map, lb_len] at this
    exact this
  have hfl : (rs.map lb).flatten.length = s.size := by rw [hrs, cutS_flat, lb_len]
  obtain ⟨A, c, rfl, hcc⟩ := own_form hown
  have hr := Reads.of_own hown
  have hs1 := hb1.size
  rw [← hrs] at hEE
  have HEE := Lib.hid hEE
  clear hown hrs hEE
  go_wp2
  go_loopw [5, 6, 14] (fun ov lv i wr => ∃ (k n : Nat) (acc : List Nat), i = .int .i64 k ∧ k ≤ rs.length ∧ lv = .int .i64 n ∧ n = ((rs.drop k).map lb).flatten.length ∧ n ≤ s.size ∧ acc.length ≤ k ∧
      Hid (endsS m (rs.map lb) s.size = acc ++ endsS m ((rs.drop k).map lb) n) ∧ wr.ownsRow w1.heap.size 3 1 ov acc.length (i64s acc) ∧ Below w1.heap.size w1 wr)
    (fun _ _ i _ => rs.length - (intOf i).toNat)
  case atStart => exact ⟨0, s.size, [], rfl, Nat.zero_le _, rfl, hfl.symm, Nat.le_refl _, Nat.le_refl _, Lib.hid rfl, World.ownsRow_nil _ _ _ _, Below.refl _ _⟩
  case round =>
    obtain ⟨k, n, acc, rfl, hk, rfl, hnf, hns, hac, HE, hown, hb⟩ := hrel
    obtain ⟨Av, cv, rfl, hcv⟩ := own_form hown
    have hszr := hb.size
    have hbw := hb1.trans (hb.mono hs1)
    by_cases hlt : k < rs.length
    · have i1 : (k : Int) < (rs.length : Int) := by omega
      have i0' : (0 : Int) ≤ (k : Int) := by omega
      obtain ⟨ad, u, rfl, hadB, hu, hcell⟩ := hr.at_ hlt
      have hu' : u = .string rs[k] := by
        rw [List.getElem?_map, List.getElem?_eq_getElem hlt] at hu
        injection hu with hu; exact hu.symm
      subst hu'
      have hc := (hb.cell (p := ad.add k) (by rw [block_add]; exact hadB)).trans hcell
      have hst := ends_step m n rs k hlt
      have hfd := flat_drop rs k hlt
      rw [← hnf] at hfd
      obtain ⟨r, hr2⟩ : ∃ r, rs[k] = r := ⟨_, rfl⟩
      rw [hr2] at hc hst hfd
      obtain ⟨q, hq⟩ : ∃ q, n - r.size = q := ⟨_, rfl⟩
      rw [hq] at hst hfd
      have y0 : IntKind.i64.wrap ((n : Int) - (r.size : Int)) = (q : Int) := by rw [show (n : Int) - (r.size : Int) = (q : Int) by omega]; exact IntWalk.i64_in _ (by omega)
      have hw1 : IntKind.i64.wrap ((k : Int) + 1) = (k : Int) + 1 := IntWalk.i64_in _ (by omega)
      by_cases hqm : q ≤ m
      · have y1 : (q : Int) ≤ (m : Int) := by omega
        rw [if_pos hqm] at hst
        have HN : Hid (endsS m (rs.map lb) s.size = (acc ++ [q]) ++ endsS m ((rs.drop (k + 1)).map lb) q) := Lib.hid (by rw [HE.out, hst, List.append_assoc])
        have HQ := Lib.hid hfd.2
        have hqs : q ≤ s.size := by omega
        clear hst hfd hcell hu hr2 hq HE hnf
        go_wp2_with (at_builtin; go_must (refine wpList_append_own _ rfl _ _ 26 rfl w1.heap.size 3 i0 _ 1 8 Try.underlying26 hi hz0 hz1 hz2 rfl (by decide) _ _ _ rfl (hown.alloc _) ⟨wr.heap.size, 0, none⟩ 1 1 _ rfl rfl (cell_one_new _ _ _) (by simp [Value.oneCell']) (by unfold maxLen; omega) (by omega) (by simp; omega) ?_))
        intro v2 w2 hown2 hg2 _
        have hb2 : Below w1.heap.size w1 w2 := (hb.alloc hszr _).grown hg2 (by simp; omega) (fun k hk => (hown.lt k hk).1)
        go_wp2
        go_roundw
        case rel => exact ⟨k + 1, q, acc ++ [q], by go_num, by omega, rfl, HQ.out.symm, hqs, by simp; omega, HN, by simpa [i64s] using hown2, hb2⟩
        case measure => simp [intOf]; omega
      · have y1 : ¬ (q : Int) ≤ (m : Int) := by omega
        rw [if_neg hqm, List.nil_append] at hst
        have HN : Hid (endsS m (rs.map lb) s.size = acc ++ endsS m ((rs.drop (k + 1)).map lb) q) := Lib.hid (by rw [HE.out, hst])
        have HQ := Lib.hid hfd.2
        have hqs : q ≤ s.size := by omega
        clear hst hfd hcell hu hr2 hq HE hnf
        go_wp2
        go_roundw
        case rel => exact ⟨k + 1, q, acc, by go_num, by omega, rfl, HQ.out.symm, hqs, by omega, HN, hown, hb⟩
        case measure => simp [intOf]; omega
    · have hkk : k = rs.length := by omega
      have hk9 : ¬ (k : Int) < (rs.length : Int) := by omega
      have he := HE.out
      rw [hkk, List.drop_length, List.map_nil, endsS, List.append_nil, HEE.out] at he
      subst he
      clear hkk hlt hk HE
      go_wp2
      go_ret
      exact ⟨_, rfl, own_mono hown hs1, hbw⟩

theorem drop_same {X Y : List Nat} {i k : Nat} (h : X.drop i = Y.drop k) (hi : i ≤ X.length) (hk : k ≤ Y.length) : X.length - i = Y.length - k ∧ ∀ j, i + j < X.length → ∃ h1 : i + j < X.length, ∃ h2 : k + j < Y.length, X[i + j] = Y[k + j] := by
  have hl := congrArg List.length h
  rw [List.length_drop, List.length_drop] at hl
  refine ⟨hl, fun j hj => ⟨hj, by omega, ?_⟩⟩
  have h1 := congrArg (fun l => l[j]?) h
  simp only [List.getElem?_drop] at h1
  rw [List.getElem?_eq_getElem hj, List.getElem?_eq_getElem (by omega)] at h1
  exact Option.some.inj h1

set_option maxRecDepth 100000 in
set_option maxHeartbeats 8000000 in
theorem chunkTails_row (a b t : ByteArray) (w : World) :
    Calls Try.prog 4 #[.string a, .string b, .string t] w fun e w' => e = .returned (.bool true) ∧ Below w.heap.size w w' := by
  by_cases hbig : 3000 < a.size ∨ 3000 < b.size ∨ 3000 < t.size
  · by_cases h1 : (3000 : Int) < (a.size : Int)
    · go_enter Try.func4, Try.ntmps4
      go_wp2_with fail
      refine (fixed_any _).mono ?_
      rintro e w1 ⟨rfl, hb1⟩
      go_wp2
      go_ret
      exact ⟨rfl, hb1⟩
    · by_cases h2 : (3000 : Int) < (b.size : Int)
      · go_enter Try.func4, Try.ntmps4
        go_wp2_with fail
        refine (fixed_any _).mono ?_
        rintro e w1 ⟨rfl, hb1⟩
        go_wp2
        go_ret
        exact ⟨rfl, hb1⟩
      · have h3 : (3000 : Int) < (t.size : Int) := by omega
        go_enter Try.func4, Try.ntmps4
        go_wp2_with fail
        refine (fixed_any _).mono ?_
        rintro e w1 ⟨rfl, hb1⟩
        go_wp2
        go_ret
        exact ⟨rfl, hb1⟩
  · have h1 : ¬ (3000 : Int) < (a.size : Int) := by omega
    have h2 : ¬ (3000 : Int) < (b.size : Int) := by omega
    have h3 : ¬ (3000 : Int) < (t.size : Int) := by omega
    have g1 : a.size ≤ 3000 := by omega
    have g2 : b.size ≤ 3000 := by omega
    have g3 : t.size ≤ 3000 := by omega
    have sA : (a ++ t).size ≤ 1000000 := by rw [ByteArray.size_append]; omega
    have sB : (b ++ t).size ≤ 1000000 := by rw [ByteArray.size_append]; omega
    obtain ⟨X, hX⟩ : ∃ X, endsS t.size (cutS (lb (a ++ t))) (lb (a ++ t)).length = X := ⟨_, rfl⟩
    obtain ⟨Y, hY⟩ : ∃ Y, endsS t.size (cutS (lb (b ++ t))) (lb (b ++ t)).length = Y := ⟨_, rfl⟩
    have hXY : ∀ i k n : Nat, X[i]? = some n → Y[k]? = some n → X.drop i = Y.drop k := by
      intro i k n hx hy
      have := ends_alike (lb a) (lb b) (lb t) i k n
      rw [← lb_append, ← lb_append, lb_len t, hX, hY] at this
      exact this hx hy
    have HXY := Lib.hid hXY
    have lX : X.length ≤ 6000 := by
      have e1 := endsS_length t.size (cutS (lb (a ++ t))) (lb (a ++ t)).length
      have e2 := cutS_length (lb (a ++ t))
      rw [hX] at e1
      rw [lb_len, ByteArray.size_append] at e2
      omega
    have lY : Y.length ≤ 6000 := by
      have e1 := endsS_length t.size (cutS (lb (b ++ t))) (lb (b ++ t)).length
      have e2 := cutS_length (lb (b ++ t))
      rw [hY] at e1
      rw [lb_len, ByteArray.size_append] at e2
      omega
    have hEA := fun w => ends_any (a ++ t) t.size w sA
    have hEB := fun w => ends_any (b ++ t) t.size w sB
    rw [hX] at hEA
    rw [hY] at hEB
    have HEA := Lib.hid hEA
    have HEB := Lib.hid hEB
    clear hEA hEB hX hY hXY hbig sA sB
    go_enter Try.func4, Try.ntmps4
    go_wp2_with fail
    refine (HEA.out _).mono ?_
    rintro e w1 ⟨vX, rfl, hoX, hb1⟩
    go_wp2_with fail
    refine (HEB.out _).mono ?_
    rintro e w2 ⟨vY, rfl, hoY, hb2⟩
    obtain ⟨AX, cX, rfl, hcX⟩ := own_form hoX
    obtain ⟨AY, cY, rfl, hcY⟩ := own_form hoY
    have hs1 := hb1.size
    have hs2 := hb2.size
    have hrX := ((Reads.of_own hoX).below hb2).more hs2
    have hrY := Reads.of_own hoY
    have hb02 := hb1.trans (hb2.mono hs1)
    have hs02 := hb02.size
    clear hoX hoY HEA HEB
    go_wp2
    go_loopw [42] (fun iv wr => ∃ i : Nat, iv = .int .i64 i ∧ i ≤ X.length ∧ Below w2.heap.size w2 wr) (fun iv _ => X.length - (intOf iv).toNat)
    case atStart => exact ⟨0, rfl, Nat.zero_le _, Below.refl _ _⟩
    case round =>
      obtain ⟨i, rfl, hi, hb⟩ := hrel
      have hsr := hb.size
      by_cases hlt : i < X.length
      · have i1 : (i : Int) < (X.length : Int) := by omega
        have i0 : (0 : Int) ≤ (i : Int) := by omega
        obtain ⟨adX, u, rfl, hadX, hu, hcell⟩ := hrX.at_ hlt
        have hu' := i64s_at hu hlt
        subst hu'
        have hc := (hb.cell (p := adX.add i) (by rw [block_add]; exact hadX)).trans hcell
        have hw1 : IntKind.i64.wrap ((i : Int) + 1) = (i : Int) + 1 := IntWalk.i64_in _ (by omega)
        obtain ⟨n, hn⟩ : ∃ n, X[i] = n := ⟨_, rfl⟩
        rw [hn] at hc
        have HXn : Hid (X[i]? = some n) := Lib.hid (by rw [List.getElem?_eq_getElem hlt, hn])
        clear hn hu hcell
        go_wp2
        go_loopw [49] (fun kv wq => ∃ k : Nat, kv = .int .i64 k ∧ k ≤ Y.length ∧ Below w2.heap.size w2 wq) (fun kv _ => Y.length - (intOf kv).toNat)
        case atStart => exact ⟨0, rfl, Nat.zero_le _, hb⟩
        case round =>
          clear hb hc
          obtain ⟨k, rfl, hk, hb⟩ := hrel
          have hsr := hb.size
          by_cases hltk : k < Y.length
          · have k1 : (k : Int) < (Y.length : Int) := by omega
            have k0 : (0 : Int) ≤ (k : Int) := by omega
            obtain ⟨adY, u, rfl, hadY, hu, hcell⟩ := hrY.at_ hltk
            have hu' := i64s_at hu hltk
            subst hu'
            have hc := (hb.cell (p := adY.add k) (by rw [block_add]; exact hadY)).trans hcell
            have hw2 : IntKind.i64.wrap ((k : Int) + 1) = (k : Int) + 1 := IntWalk.i64_in _ (by omega)
            by_cases hm : Y[k] = n
            · rw [hm] at hc
              have hds := drop_same (HXY.out i k n HXn.out (by rw [List.getElem?_eq_getElem hltk, hm])) (by omega) (by omega)
              have d1 : IntKind.i64.wrap ((X.length : Int) - (i : Int)) = ((X.length - i : Nat) : Int) := by rw [show (X.length : Int) - (i : Int) = ((X.length - i : Nat) : Int) by omega]; exact IntWalk.i64_in _ (by omega)
              have d2 : IntKind.i64.wrap ((Y.length : Int) - (k : Int)) = ((X.length - i : Nat) : Int) := by rw [hds.1, show (Y.length : Int) - (k : Int) = ((Y.length - k : Nat) : Int) by omega]; exact IntWalk.i64_in _ (by omega)
              obtain ⟨D, hD⟩ : ∃ D, X.length - i = D := ⟨_, rfl⟩
              have hD2 := hds.1.symm.trans hD
              rw [hD] at d1 d2
              have HDS := Lib.hid hds.2
              clear hu hcell hm hds
              go_wp2
              go_loopw [70] (fun jv wq => ∃ j : Nat, jv = .int .i64 j ∧ j ≤ D ∧ Below w2.heap.size w2 wq) (fun jv _ => D - (intOf jv).toNat)
              case atStart => exact ⟨0, rfl, Nat.zero_le _, hb⟩
              case round =>
                clear hb hc
                obtain ⟨j, rfl, hj, hb⟩ := hrel
                have hsr := hb.size
                by_cases hltj : j < D
                · have j1 : (j : Int) < (D : Int) := by omega
                  obtain ⟨q1, q2, hq⟩ := HDS.out j (by omega)
                  obtain ⟨bX, u, eX, hbX, huX, hcX⟩ := hrX.at_ q1
                  obtain ⟨bY, v, eY, hbY, huY, hcY⟩ := hrY.at_ q2
                  injection eX with eX
                  injection eY with eY
                  subst eX
                  subst eY
                  have hu1 := i64s_at huX q1
                  have hv1 := i64s_at huY q2
                  subst hu1
                  subst hv1
                  rw [← hq] at hcY
                  have hc1 := (hb.drew.cell (p := adX.add (i + j)) (by rw [block_add]; exact hbX)).trans hcX
                  have hc2 := (hb.drew.cell (p := adY.add (k + j)) (by rw [block_add]; exact hbY)).trans hcY
                  obtain ⟨x, hx⟩ : ∃ x, X[i + j] = x := ⟨_, rfl⟩
                  rw [hx] at hc1 hc2
                  have e1 : IntKind.i64.wrap ((i : Int) + (j : Int)) = ((i + j : Nat) : Int) := by rw [show (i : Int) + (j : Int) = ((i + j : Nat) : Int) by omega]; exact IntWalk.i64_in _ (by omega)
                  have e2 : IntKind.i64.wrap ((k : Int) + (j : Int)) = ((k + j : Nat) : Int) := by rw [show (k : Int) + (j : Int) = ((k + j : Nat) : Int) by omega]; exact IntWalk.i64_in _ (by omega)
                  obtain ⟨p, hp⟩ : ∃ p, i + j = p := ⟨_, rfl⟩
                  obtain ⟨r, hr⟩ : ∃ r, k + j = r := ⟨_, rfl⟩
                  rw [hp] at hc1 e1
                  rw [hr] at hc2 e2
                  have p0 : (0 : Int) ≤ (p : Int) := by omega
                  have p1 : (p : Int) < (X.length : Int) := by omega
                  have r0 : (0 : Int) ≤ (r : Int) := by omega
                  have r1 : (r : Int) < (Y.length : Int) := by omega
                  have hw3 : IntKind.i64.wrap ((j : Int) + 1) = (j : Int) + 1 := IntWalk.i64_in _ (by omega)
                  clear hx hq huX huY hcX hcY hp hr
                  go_wp2_with fail
                  refine still_all (by kernel_rfl) (by kernel_rfl) ?_
                  iterate 13 still_step
                  refine wpStill_nil ?_
                  go_wp2
                  go_roundw
                  case rel => exact ⟨j + 1, by go_num, by omega, hb.drew⟩
                  case measure => simp [intOf]; omega
                · have hk9 : ¬ (j : Int) < (D : Int) := by omega
                  have hbw := hb02.trans (hb.mono hs02)
                  have hsw := hbw.size
                  go_wp2_with fail
                  refine (fixed_any _).mono ?_
                  rintro e w3 ⟨rfl, hb3⟩
                  go_wp2
                  go_ret
                  exact ⟨rfl, hbw.trans (hb3.mono hsw)⟩
            · have hne : ((n : Int) == ((Y[k] : Nat) : Int)) = false := by rw [beq_eq_false_iff_ne]; omega
              obtain ⟨y, hy⟩ : ∃ y, Y[k] = y := ⟨_, rfl⟩
              rw [hy] at hc hne
              clear hu hcell hm hy
              go_wp2
              go_roundw
              case rel => exact ⟨k + 1, by go_num, by omega, hb⟩
              case measure => simp [intOf]; omega
          · have hk9 : ¬ (k : Int) < (Y.length : Int) := by omega
            clear hrY
            go_wp2
            go_roundw
            case rel => exact ⟨i + 1, by go_num, by omega, hb⟩
            case measure => simp [intOf]; omega
      · have hk9 : ¬ (i : Int) < (X.length : Int) := by omega
        have hbw := hb02.trans (hb.mono hs02)
        have hsw := hbw.size
        go_wp2_with fail
        refine (fixed_any _).mono ?_
        rintro e w3 ⟨rfl, hb3⟩
        go_wp2
        go_ret
        exact ⟨rfl, hbw.trans (hb3.mono hsw)⟩
end Go.Proofs.Ytncoghoeeefjhaa
