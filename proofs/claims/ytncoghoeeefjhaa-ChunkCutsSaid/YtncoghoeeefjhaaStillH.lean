/- Regions that only read, with many guarded operations that are skipped: the walk's word behind a box, so that nothing unfolds it. No condition. -/
import Derived.Test.YtncoghoeeefjhaaWalk
namespace Go.Proofs.Ytncoghoeeefjhaa
open Go.RowKit

structure SH (P : Program) (ops : Array Oper) (w : World) (Q : Act → Prop) (l : List Oper) (a : Act) : Prop where
  out : wpStill P ops w Q l a
section
variable {P : Program} {ops : Array Oper} {w : World} {Q : Act → Prop}
theorem sh_step {a : Act} {o : Oper} {rest : List Oper}
    (h : ∀ K : Act → Prop, (∀ a, SH P ops w Q rest a → K a) → if Region.wanted o (yielded ops a.tmps) then o.still P a w K else K (a.put o.dst undef)) : SH P ops w Q (o :: rest) a :=
  ⟨h (wpStill P ops w Q rest) (fun _ h => h.out)⟩
theorem sh_nil {a : Act} (h : Q a) : SH P ops w Q [] a := ⟨wpStill_nil h⟩
end
end Go.Proofs.Ytncoghoeeefjhaa
