/- Two arrays of bytes compared. Condition: each has as many bytes as its type says. -/
import Derived.Test.YtojgmeonjgfpoaaDigS
import Derived.ChangeKeysEq
import Derived.Laws.StructEq
namespace Go.Proofs.Ytojgmeonjgfpoaa
open Go.RowKit

theorem info8q : (Try.prog.info? 5).map (fun i => (i.zero, i.size, i.bytes)) = some (some (.int .u8 0), 1, 1) := by kernel_rfl
theorem part_byte (l : List UInt8) (i : Nat) (h : i < l.length) (w : World) : (part 5 (c8 l) i).run Try.prog w = .ok (.int .u8 (at8 l i).toNat) w := by
  have h1 := c8_at l i h
  simp [part, go_sem, h1]
theorem eqItems_bytes (d : Nat) (l m : List UInt8) (w : World) : ∀ is : List Nat, (∀ i ∈ is, i < l.length ∧ i < m.length) →
    (Op.eqItems (d + 1) 5 1 (c8 l) (c8 m) is).run Try.prog w = .ok (is.all fun i => at8 l i == at8 m i) w
  | [], _ => by simp [Op.eqItems]
  | i :: is, h => by
    have hi := h i (by simp)
    have ih := eqItems_bytes d l m w is (fun j hj => h j (by simp [hj]))
    have e := run_equalIn_int (P := Try.prog) w d 5 .u8 .u8 (at8 l i).toNat (at8 m i).toNat Try.underlying5
    have hb : (((at8 l i).toNat : Int) == ((at8 m i).toNat : Int)) = (at8 l i == at8 m i) := by
      by_cases hh : at8 l i = at8 m i
      · rw [hh]; simp
      · have : ¬ (at8 l i).toNat = (at8 m i).toNat := fun e => hh (UInt8.toNat_inj.1 e)
        rw [beq_eq_false_iff_ne.2 hh, beq_eq_false_iff_ne]
        omega
    rw [hb] at e
    simp only [Op.eqItems, Sem.run_bind, Nat.mul_one, part_byte l i hi.1, part_byte m i hi.2, Result.andThen_ok, e]
    cases hc : (at8 l i == at8 m i)
    · simp [hc]
    · simp [hc, ih]
theorem bytes_ext {l m : List UInt8} (hl : l.length = m.length) (h : ∀ i, i < l.length → at8 l i = at8 m i) : l = m := by
  refine List.ext_getElem hl (fun i h1 h2 => ?_)
  have := h i h1
  rw [at8, at8, List.getD_eq_getElem?_getD, List.getD_eq_getElem?_getD, List.getElem?_eq_getElem h1, List.getElem?_eq_getElem h2] at this
  exact this
theorem eq_keys (d : Nat) (l m : List UInt8) (w : World) (hl : l.length = 32) (hm : m.length = 32) : (Op.equalIn (d + 2) 45 (.agg (c8 l)) (.agg (c8 m))).run Try.prog w = .ok (decide (l = m)) w := by
  obtain ⟨i0, hi, _⟩ := info_parts info8q
  rw [run_equalIn_array (P := Try.prog) w (d + 1) (c8 l) (c8 m) Try.underlying45 hi]
  have hc : Try.prog.cellsOf 5 = 1 := by kernel_rfl
  rw [hc, eqItems_bytes d l m w (List.range 32) (fun i hi => by rw [List.mem_range] at hi; omega)]
  have e : ((List.range 32).all fun i => at8 l i == at8 m i) = decide (l = m) := by
    rw [Bool.eq_iff_iff, List.all_eq_true, decide_eq_true_iff]
    constructor
    · intro h
      exact bytes_ext (by omega) (fun i hi => by simpa using h i (List.mem_range.2 (by omega)))
    · rintro rfl i _
      simp
  rw [e]
end Go.Proofs.Ytojgmeonjgfpoaa
