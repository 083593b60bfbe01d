/- A region that draws its order, led by hand, with a property of the world that every operation keeps: loads of what it speaks of are taken first. No condition. -/
import Derived.Test.YtncoghoeeefjhaaHand
import Derived.OrdersHeld
import Derived.Deep.MidRow
namespace Go.Proofs.Ytncoghoeeefjhaa
open Go.RowKit

section
variable {P : Program} {ops : Array Oper} {Q : Exit → Act → World → Prop} {md : Region.Mode} {S : World → Prop}
theorem held_start {id : Nat} {a : Act} {w : World} (S : World → Prop) (hm : P.follows .mixedOrders = true) (h : wpAnyH P .any ops Q S ops.size (Array.replicate ops.size false) a w.drew) : (Code.region id ops true).wp P Q a w := wp_region_held hm h
theorem held_take {i : Nat} {oi : Oper} (v : Value) {fuel : Nat} {listed : Array Bool} {a : Act} {w : World} (hS : S w) (hi : ops[i]? = some oi) (hg : oi.guard = none)
    (hs : Region.noSelect ops = true) (hf : Region.free md ops listed i = true) (hr : (Region.ready md ops listed).contains i = true)
    (hQ : ∀ c a w, Q (.panic c) (a.put oi.dst v) w → Q (.panic c) a w) (hy : ∀ w, S w → (execOp a.eval oi).run P w = .ok (.value v) w)
    (h : wpAnyH P md ops Q S fuel (listed.setIfInBounds i true) (a.put oi.dst v) w) : wpAnyH P md ops Q S (fuel + 1) listed a w :=
  wpAnyH_take hi hs hf hr hQ (Or.inl ⟨by simp [Region.wanted, hg], hy⟩) hS h
theorem held_step {i : Nat} {o : Oper} {a : Act} {w : World} {K : Act → World → Prop} (ho : ops[i]? = some o) (hg : o.guard = none) (h : ∀ K' : Act → World → Prop, (∀ a w, K a w → K' a w) → Oper.wp P o a w K' Q) : wpOp P ops Q i K a w :=
  wpOp_step ho (fun K' hK => by simp only [Region.wanted, hg, if_true]; exact h K' hK)
theorem held_one {i : Nat} {o : Oper} {fuel : Nat} {listed : Array Bool} {a : Act} {w : World} (hr : Region.ready md ops listed = [i]) (ho : ops[i]? = some o) (hg : o.guard = none)
    (h : ∀ K : Act → World → Prop, (∀ a w, S w ∧ wpAnyH P md ops Q S fuel (listed.setIfInBounds i true) a w → K a w) → Oper.wp P o a w K Q) : wpAnyH P md ops Q S (fuel + 1) listed a w :=
  wpAnyH_all hr (by simp) (fun j hj => by
    rw [List.mem_singleton] at hj
    subst hj
    exact held_step ho hg h)
theorem held_two {i j : Nat} {o u : Oper} {fuel : Nat} {listed : Array Bool} {a : Act} {w : World} (hr : Region.ready md ops listed = [i, j]) (ho : ops[i]? = some o) (hg : o.guard = none) (hu : ops[j]? = some u) (hgu : u.guard = none)
    (h : ∀ K : Act → World → Prop, (∀ a w, S w ∧ wpAnyH P md ops Q S fuel (listed.setIfInBounds i true) a w → K a w) → Oper.wp P o a w K Q)
    (h' : ∀ K : Act → World → Prop, (∀ a w, S w ∧ wpAnyH P md ops Q S fuel (listed.setIfInBounds j true) a w → K a w) → Oper.wp P u a w K Q) : wpAnyH P md ops Q S (fuel + 1) listed a w :=
  wpAnyH_all hr (by simp) (fun k hk => by
    rcases List.mem_cons.1 hk with rfl | hk
    · exact held_step ho hg h
    · rw [List.mem_singleton] at hk
      subst hk
      exact held_step hu hgu h')
end
end Go.Proofs.Ytncoghoeeefjhaa
