/- Arguments opened: an array of bytes by value; a number of one byte. No condition. -/
import Derived.Test.YtncoghoeeefjhaaOpenK
import Derived.Test.YtncoghoeeefjhaaDigS
import Derived.OpenShut
namespace Go.Proofs.Ytncoghoeeefjhaa
open Go.ChangeShapes Go.WideShapes Go.ChangeAt Go.RowKit Go.Deep

def byteOf : Value → UInt8 | .int .u8 n => UInt8.ofNat n.toNat | _ => 0
theorem byte_wf {n : Int} (h : (Lit.int .u8 n).wf = true) : 0 ≤ n ∧ n < 256 := by
  simp [Lit.wf, IntKind.min, IntKind.max, IntKind.signed, IntKind.bits] at h
  omega
theorem open_bytes {H : Type} {enc : TypeId × Value → H} {P : Program} {W : World} {base b0 : Nat} {sp : Nat → Bool} {held : Bool} {r : Reach} {t e : TypeId} {n : Nat} {v : Value} {d : DataW H} {ps : List MemPlace}
    (ht : P.underlying t = some (.array n e)) (he : P.underlying e = some (.int .u8)) (hce : P.cellsOf e = 1) (hct : P.cellsOf t = n)
    (hval : Value.okWide P W r b0 t v) (hd : DataW.Trod enc P W base sp held t v d ps) : ∃ l : List UInt8, v = .agg (c8 l) ∧ l.length = n := by
  unfold Value.okWide at hval
  rw [ht] at hval
  obtain ⟨cs, rfl, hsz, _⟩ := hval
  obtain ⟨fuel, hf⟩ := hd
  obtain ⟨xs, m, _, _, hl, hxl, hel⟩ := DataW.trod_array ht hf
  simp only [Value.cells] at hl hel
  have hone : ∀ i, i < n → ∃ b : UInt8, cs.toList[i]? = some (.int .u8 b.toNat) := by
    intro i hi
    have h := hel i hi
    rw [List.getElem?_eq_getElem (by omega : i < xs.length), hce, Nat.mul_one] at h
    obtain ⟨k, hk, _, hw⟩ := DataW.trod_int he h
    have hil : i < cs.toList.length := by omega
    rw [List.drop_eq_getElem_cons hil, List.take_succ_cons, List.take_zero] at hk
    have hk' : cs.toList[i] = .int .u8 k := by injection hk
    have hb := byte_wf hw
    refine ⟨UInt8.ofNat k.toNat, ?_⟩
    rw [List.getElem?_eq_getElem hil, hk', UInt8.toNat_ofNat']
    congr 2
    omega
  refine ⟨cs.toList.map byteOf, ?_, by rw [List.length_map]; omega⟩
  congr 1
  apply Array.ext'
  refine List.ext_getElem? (fun i => ?_)
  rcases Nat.lt_or_ge i n with hi | hi
  · obtain ⟨b, hb⟩ := hone i hi
    have e1 : (c8 (cs.toList.map byteOf)).toList[i]? = ((cs.toList[i]?).map byteOf).map (fun b => Value.int .u8 b.toNat) := by simp [c8]
    rw [e1, hb]
    simp [byteOf]
  · rw [List.getElem?_eq_none (by omega), List.getElem?_eq_none (by simp [c8]; simp at hl; omega)]
theorem open_u8 {H : Type} {enc : TypeId × Value → H} {P : Program} {W : World} {base b0 : Nat} {sp : Nat → Bool} {held : Bool} {r : Reach} {t : TypeId} {v : Value} {d : DataW H} {ps : List MemPlace}
    (ht : P.underlying t = some (.int .u8)) (hval : Value.okWide P W r b0 t v) (hd : DataW.Trod enc P W base sp held t v d ps) : ∃ n : Nat, v = .int .u8 n ∧ n < 256 := by
  obtain ⟨k, rfl, _, _, hw⟩ := open_int ht hval hd
  have hb := byte_wf hw
  exact ⟨k.toNat, by congr 1; omega, by omega⟩
end Go.Proofs.Ytncoghoeeefjhaa
