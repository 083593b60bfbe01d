/- Three new variables of one type in a region that draws its order: whichever comes first, they are three unlike blocks. No condition. -/
import Derived.Test.YtojgmeonjgfpoaaHandH
import Derived.Test.YtojgmeonjgfpoaaMem
namespace Go.Proofs.Ytojgmeonjgfpoaa
open Go.RowKit

section
variable {P : Program} {ops : Array Oper} {Q : Exit → Act → World → Prop} {md : Region.Mode} {S : World → Prop}
theorem alloc_step {i : Nat} {o : Oper} {T ty : TypeId} {cs : Array Value} {K : Act → World → Prop} {a : Act} {w : World}
    (hrun : ∀ w, (Instr.alloc T true (.tuple #[])).run P w = .ok (.pointer (some ⟨w.heap.size, 0, none⟩)) (w.alloc (.cells cs ty)))
    (ho : ops[i]? = some o) (hg : o.guard = none) (hop : o.op = .alloc T)
    (h : K (a.put o.dst (.pointer (some ⟨w.heap.size, 0, none⟩))) (w.alloc (.cells cs ty))) : wpOp P ops Q i K a w :=
  held_step ho hg fun K' hK => by
    unfold Oper.wp execOp
    simp only [hop, Sem.run_bind, hrun w, Result.andThen_ok]
    exact hK _ _ h
theorem set_set (l : Array Bool) (i j : Nat) (h : i ≠ j) : (l.setIfInBounds i true).setIfInBounds j true = (l.setIfInBounds j true).setIfInBounds i true := Array.setIfInBounds_comm _ _ h
theorem put_put (a : Act) {d e : Nat} (h : d ≠ e) (v u : Value) : (a.put (some d) v).put (some e) u = (a.put (some e) u).put (some d) v :=
  Act.put_comm a v u fun d' hd => by injection hd with hd; subst hd; intro he; injection he with he; exact h he.symm
theorem three_allocs {fuel : Nat} {listed : Array Bool} {a : Act} {w : World} {i j k : Nat} {oi oj ok : Oper} {T ty : TypeId} {cs : Array Value} {di dj dk : Nat}
    (hrun : ∀ w, (Instr.alloc T true (.tuple #[])).run P w = .ok (.pointer (some ⟨w.heap.size, 0, none⟩)) (w.alloc (.cells cs ty)))
    (hi : ops[i]? = some oi) (hj : ops[j]? = some oj) (hk : ops[k]? = some ok) (gi : oi.guard = none) (gj : oj.guard = none) (gk : ok.guard = none)
    (pi : oi.op = .alloc T) (pj : oj.op = .alloc T) (pk : ok.op = .alloc T) (ei : oi.dst = some di) (ej : oj.dst = some dj) (ek : ok.dst = some dk)
    (ij : i ≠ j) (ik : i ≠ k) (jk : j ≠ k) (dij : di ≠ dj) (dik : di ≠ dk) (djk : dj ≠ dk)
    (r0 : Region.ready md ops listed = [i, j, k]) (r1 : Region.ready md ops (listed.setIfInBounds i true) = [j, k]) (r2 : Region.ready md ops (listed.setIfInBounds j true) = [i, k]) (r3 : Region.ready md ops (listed.setIfInBounds k true) = [i, j])
    (r12 : Region.ready md ops ((listed.setIfInBounds i true).setIfInBounds j true) = [k]) (r13 : Region.ready md ops ((listed.setIfInBounds i true).setIfInBounds k true) = [j]) (r23 : Region.ready md ops ((listed.setIfInBounds j true).setIfInBounds k true) = [i])
    (hS0 : S w) (hS : ∀ w, S w → S (w.alloc (.cells cs ty)))
    (h : ∀ X Y Z, X ≠ Y → X ≠ Z → Y ≠ Z → (X = w.heap.size ∨ X = w.heap.size + 1 ∨ X = w.heap.size + 2) → (Y = w.heap.size ∨ Y = w.heap.size + 1 ∨ Y = w.heap.size + 2) → (Z = w.heap.size ∨ Z = w.heap.size + 1 ∨ Z = w.heap.size + 2) →
      wpAnyH P md ops Q S fuel (((listed.setIfInBounds i true).setIfInBounds j true).setIfInBounds k true)
        (((a.put (some di) (.pointer (some ⟨X, 0, none⟩))).put (some dj) (.pointer (some ⟨Y, 0, none⟩))).put (some dk) (.pointer (some ⟨Z, 0, none⟩))) (((w.alloc (.cells cs ty)).alloc (.cells cs ty)).alloc (.cells cs ty))) :
    wpAnyH P md ops Q S (fuel + 3) listed a w := by
  have r21 : Region.ready md ops ((listed.setIfInBounds j true).setIfInBounds i true) = [k] := by rw [set_set _ _ _ ij.symm]; exact r12
  have r31 : Region.ready md ops ((listed.setIfInBounds k true).setIfInBounds i true) = [j] := by rw [set_set _ _ _ ik.symm]; exact r13
  have r32 : Region.ready md ops ((listed.setIfInBounds k true).setIfInBounds j true) = [i] := by rw [set_set _ _ _ jk.symm]; exact r23
  have h1 := hS _ hS0
  have h2 := hS _ h1
  have h3 := hS _ h2
  have s1 : (w.alloc (.cells cs ty)).heap.size = w.heap.size + 1 := by simp
  have s2 : ((w.alloc (.cells cs ty)).alloc (.cells cs ty)).heap.size = w.heap.size + 2 := by simp
  refine wpAnyH_all r0 (by simp) (fun n hn => ?_)
  simp only [List.mem_cons, List.not_mem_nil, or_false] at hn
  rcases hn with rfl | rfl | rfl
  · refine alloc_step hrun hi gi pi ⟨h1, wpAnyH_all r1 (by simp) (fun n hn => ?_)⟩
    simp only [List.mem_cons, List.not_mem_nil, or_false] at hn
    rcases hn with rfl | rfl
    · refine alloc_step hrun hj gj pj ⟨h2, wpAnyH_all r12 (by simp) (fun n hn => ?_)⟩
      simp only [List.mem_cons, List.not_mem_nil, or_false] at hn
      subst hn
      refine alloc_step hrun hk gk pk ⟨h3, ?_⟩
      rw [ei, ej, ek, s1, s2]
      exact h _ _ _ (by omega) (by omega) (by omega) (by omega) (by omega) (by omega)
    · refine alloc_step hrun hk gk pk ⟨h2, wpAnyH_all r13 (by simp) (fun n hn => ?_)⟩
      simp only [List.mem_cons, List.not_mem_nil, or_false] at hn
      subst hn
      refine alloc_step hrun hj gj pj ⟨h3, ?_⟩
      rw [ei, ej, ek, s1, s2, put_put _ djk.symm, set_set _ _ _ jk.symm]
      exact h _ _ _ (by omega) (by omega) (by omega) (by omega) (by omega) (by omega)
  · refine alloc_step hrun hj gj pj ⟨h1, wpAnyH_all r2 (by simp) (fun n hn => ?_)⟩
    simp only [List.mem_cons, List.not_mem_nil, or_false] at hn
    rcases hn with rfl | rfl
    · refine alloc_step hrun hi gi pi ⟨h2, wpAnyH_all r21 (by simp) (fun n hn => ?_)⟩
      simp only [List.mem_cons, List.not_mem_nil, or_false] at hn
      subst hn
      refine alloc_step hrun hk gk pk ⟨h3, ?_⟩
      rw [ei, ej, ek, s1, s2, put_put a dij.symm, set_set _ _ _ ij.symm]
      exact h _ _ _ (by omega) (by omega) (by omega) (by omega) (by omega) (by omega)
    · refine alloc_step hrun hk gk pk ⟨h2, wpAnyH_all r23 (by simp) (fun n hn => ?_)⟩
      simp only [List.mem_cons, List.not_mem_nil, or_false] at hn
      subst hn
      refine alloc_step hrun hi gi pi ⟨h3, ?_⟩
      rw [ei, ej, ek, s1, s2, put_put _ dik.symm, put_put a dij.symm, set_set _ _ _ ik.symm, set_set listed _ _ ij.symm]
      exact h _ _ _ (by omega) (by omega) (by omega) (by omega) (by omega) (by omega)
  · refine alloc_step hrun hk gk pk ⟨h1, wpAnyH_all r3 (by simp) (fun n hn => ?_)⟩
    simp only [List.mem_cons, List.not_mem_nil, or_false] at hn
    rcases hn with rfl | rfl
    · refine alloc_step hrun hi gi pi ⟨h2, wpAnyH_all r31 (by simp) (fun n hn => ?_)⟩
      simp only [List.mem_cons, List.not_mem_nil, or_false] at hn
      subst hn
      refine alloc_step hrun hj gj pj ⟨h3, ?_⟩
      rw [ei, ej, ek, s1, s2, put_put a dik.symm, put_put _ djk.symm, set_set listed _ _ ik.symm, set_set _ _ _ jk.symm]
      exact h _ _ _ (by omega) (by omega) (by omega) (by omega) (by omega) (by omega)
    · refine alloc_step hrun hj gj pj ⟨h2, wpAnyH_all r32 (by simp) (fun n hn => ?_)⟩
      simp only [List.mem_cons, List.not_mem_nil, or_false] at hn
      subst hn
      refine alloc_step hrun hi gi pi ⟨h3, ?_⟩
      rw [ei, ej, ek, s1, s2, put_put a djk.symm, put_put _ dik.symm, put_put a dij.symm, set_set listed _ _ jk.symm, set_set _ _ _ ik.symm, set_set listed _ _ ij.symm]
      exact h _ _ _ (by omega) (by omega) (by omega) (by omega) (by omega) (by omega)
end
theorem three_new (w : World) (t : TypeId) (cs : Array Value) (X : Nat) (h : X = w.heap.size ∨ X = w.heap.size + 1 ∨ X = w.heap.size + 2) :
    Blk (((w.alloc (.cells cs t)).alloc (.cells cs t)).alloc (.cells cs t)) X t cs := by
  have h1 := Blk.new w t cs
  have h2 := Blk.new (w.alloc (.cells cs t)) t cs
  have h3 := Blk.new ((w.alloc (.cells cs t)).alloc (.cells cs t)) t cs
  rw [World.size_alloc] at h2
  rw [World.size_alloc, World.size_alloc] at h3
  rcases h with rfl | rfl | rfl
  · exact (h1.alloc _).alloc _
  · exact h2.alloc _
  · exact h3
end Go.Proofs.Ytojgmeonjgfpoaa
