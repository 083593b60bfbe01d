/- Arguments opened: the keys of a ring. No condition. -/
import Derived.Test.YtncoghoeeefjhaaOpenA
import Derived.Test.YtncoghoeeefjhaaNamA
import Derived.ChangeSame
namespace Go.Proofs.Ytncoghoeeefjhaa
open Go.ChangeShapes Go.WideShapes Go.ChangeAt Go.RowKit Go.Deep

theorem byteOf_c8 (l : List UInt8) : (c8 l).toList.map byteOf = l := by
  simp only [c8, List.map_map]
  conv => rhs; rw [← List.map_id l]
  refine List.map_congr_left (fun b _ => ?_)
  simp [byteOf]
theorem bytes_of_trod {H : Type} {enc : TypeId × Value → H} {P : Program} {W : World} {base : Nat} {sp : Nat → Bool} {held : Bool} {t e : TypeId} {n fuel : Nat} {cs : List Value} {x : DataW H × List MemPlace}
    (ht : P.underlying t = some (.array n e)) (he : P.underlying e = some (.int .u8)) (hce : P.cellsOf e = 1) (hct : P.cellsOf t = n)
    (hf : DataW.trod enc P W base sp held fuel t cs = some x) : ∃ l : List UInt8, l.length = n ∧ cs = (c8 l).toList := by
  obtain ⟨xs, m, _, _, hl, hxl, hel⟩ := DataW.trod_array ht hf
  have hone : ∀ i, i < n → ∃ b : UInt8, cs[i]? = some (.int .u8 b.toNat) := by
    intro i hi
    have h := hel i hi
    rw [List.getElem?_eq_getElem (by omega : i < xs.length), hce, Nat.mul_one] at h
    obtain ⟨k, hk, _, hw⟩ := DataW.trod_int he h
    have hil : i < cs.length := by omega
    rw [List.drop_eq_getElem_cons hil, List.take_succ_cons, List.take_zero] at hk
    have hk' : cs[i] = .int .u8 k := by injection hk
    have hb := byte_wf hw
    refine ⟨UInt8.ofNat k.toNat, ?_⟩
    rw [List.getElem?_eq_getElem hil, hk', UInt8.toNat_ofNat']
    congr 2
    omega
  refine ⟨cs.map byteOf, by rw [List.length_map]; omega, ?_⟩
  refine List.ext_getElem? (fun i => ?_)
  rcases Nat.lt_or_ge i n with hi | hi
  · obtain ⟨b, hb⟩ := hone i hi
    have e1 : (c8 (cs.map byteOf)).toList[i]? = ((cs[i]?).map byteOf).map (fun b => Value.int .u8 b.toNat) := by simp [c8]
    rw [e1, hb]
    simp [byteOf]
  · rw [List.getElem?_eq_none (by omega), List.getElem?_eq_none (by simp [c8]; omega)]

theorem addr_eq {a : Addr} (h : a.spot = none) : a = ⟨a.block, a.off, none⟩ := by
  obtain ⟨b, o, s⟩ := a
  cases h
  rfl
theorem addr_add {a : Addr} (h : a.spot = none) (n : Nat) : a.add n = ⟨a.block, a.off + n, none⟩ := by
  obtain ⟨b, o, s⟩ := a
  cases h
  rw [Addr.add_mid]

set_option maxRecDepth 100000 in
theorem open_keylist {H : Type} {enc : TypeId × Value → H} {W : World} {sp : Nat → Bool} {held : Bool} {fuel : Nat} {v : Value} {x : DataW H × List MemPlace}
    (h : DataW.trod enc Try.prog W 0 sp held fuel 29 [v] = some x) : ∃ A c ks, v = .slice A (List.length ks) c ∧ KeysIn W W.heap.size A ks := by
  rcases open_slice Try.underlying29 h with ⟨hcs, _⟩ | ⟨ad, len, cap, m, n, D, Pl, hcs, _, hlc, hcm, hm, _, hel⟩
  · injection hcs with hcs
    subst hcs
    exact ⟨none, 0, [], rfl, fun k hk => by simp at hk, fun hn => by simp at hn⟩
  · injection hcs with hcs
    subst hcs
    have hml : len ≤ m := by rw [hm]; split <;> omega
    have c36 : Try.prog.cellsOf 36 = 32 := by kernel_rfl
    rw [c36] at hel
    have hone : ∀ i, i < len → ∃ l : List UInt8, l.length = 32 ∧ W.cells? 0 (ad.add (i * 32)) 32 = some (c8 l).toList := by
      intro i hi
      obtain ⟨cs', hc, ht⟩ := hel i (by omega)
      obtain ⟨l, hl, rfl⟩ := bytes_of_trod Try.underlying36 Try.underlying5 (by kernel_rfl) c36 ht
      exact ⟨l, hl, hc⟩
    have hkf : ∀ i, i < len → (((W.cells? 0 (ad.add (i * 32)) 32).getD []).map byteOf).length = 32 ∧ W.cells? 0 (ad.add (i * 32)) 32 = some (c8 (((W.cells? 0 (ad.add (i * 32)) 32).getD []).map byteOf)).toList := by
      intro i hi
      obtain ⟨l, hl, hc⟩ := hone i hi
      rw [hc, Option.getD_some, byteOf_c8]
      exact ⟨hl, rfl⟩
    refine ⟨some ad, cap, (List.range len).map (fun i => ((W.cells? 0 (ad.add (i * 32)) 32).getD []).map byteOf), by simp, ?_, ?_⟩
    · intro k hk
      rw [List.mem_map] at hk
      obtain ⟨i, hi, rfl⟩ := hk
      exact (hkf i (List.mem_range.1 hi)).1
    · intro hn
      rw [List.length_map, List.length_range] at hn
      obtain ⟨_, hcl, hat⟩ := World.cells?_some (hkf 0 hn).2
      have h0 := hat 0 (by omega)
      rw [List.getElem?_eq_getElem (by rw [hcl]; omega)] at h0
      have hb := World.block_lt_of_cell? W _ h0
      have hs : ad.spot = none := by
        have e : ((ad.add (0 * 32)).add 0) = ad := by rw [Nat.zero_mul]; rfl
        rw [e] at h0
        cases hsp : ad.spot with
        | none => rfl
        | some z =>
          unfold World.cell? at h0
          rw [hsp] at h0
          split at h0
          · simp only [Option.isSome_some, if_true] at h0
            cases h0
          · cases h0
      rw [block_add, block_add] at hb
      refine ⟨ad.block, ad.off, congrArg some (addr_eq hs), hb, fun i hi j v hj => ?_⟩
      rw [List.length_map, List.length_range] at hi
      obtain ⟨_, hcl, hat⟩ := World.cells?_some (hkf i hi).2
      rw [List.getElem_map, List.getElem_range] at hj
      have hjl : j < 32 := by
        rcases Nat.lt_or_ge j 32 with h' | h'
        · exact h'
        · rw [List.getElem?_eq_none (by rw [hcl]; exact h')] at hj; cases hj
      have h1 := hat j hjl
      rw [addr_add hs, Addr.add_mid] at h1
      rw [h1, ← hj, addr_add hs]
set_option maxRecDepth 100000 in
theorem open_keys {H : Type} {enc : TypeId × Value → H} {W : World} {b0 : Nat} {sp : Nat → Bool} {held : Bool} {r : Reach} {v : Value} {d : DataW H} {ps : List MemPlace}
    (hval : Value.okWide Try.prog W r b0 31 v) (hd : DataW.Trod enc Try.prog W 0 sp held 31 v d ps) : ∃ A c ks, v = .agg #[.slice A (List.length ks) c] ∧ KeysIn W W.heap.size A ks := by
  obtain ⟨cs, rfl, hsz⟩ := okWide_struct Try.underlying31 hval
  have c31 : Try.prog.cellsOf 31 = 1 := by kernel_rfl
  have c29 : Try.prog.cellsOf 29 = 1 := by kernel_rfl
  rw [c31] at hsz
  obtain ⟨u, rfl⟩ : ∃ u, cs = #[u] := by
    obtain ⟨u, hu⟩ := List.length_eq_one_iff.1 ((Array.length_toList (xs := cs)).trans hsz)
    exact ⟨u, Array.ext' hu⟩
  obtain ⟨fuel, hf⟩ := hd
  obtain ⟨y0, n, _, _, h0⟩ := trod_struct1 Try.underlying31 hf
  simp only [c29] at h0
  obtain ⟨A, c, ks, rfl, hk⟩ := open_keylist h0
  exact ⟨A, c, ks, rfl, hk⟩
end Go.Proofs.Ytncoghoeeefjhaa
