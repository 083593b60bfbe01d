/- The laws' example walked: a pack of one box x without bytes. No condition. -/
import Derived.Test.YtojgmeonjgfpoaaPackD
import Derived.Test.YtojgmeonjgfpoaaPackT
namespace Go.Proofs.Ytojgmeonjgfpoaa
open Go.RowKit

theorem awake_make : makeS [([120], [])] = ([4, 104, 105, 98, 112, 1, 120, 0], 0) := by
  simp [makeS, checkS, packRow, flatS, rowS, hibp, lenS_lt]
theorem awake_row : rowS [hibp, [120], []] = [4, 104, 105, 98, 112, 1, 120, 0] := by
  simp [rowS, hibp, lenS_lt]
theorem awake_len : (rowS [([120] : Bs), []]).length = 3 := by
  simp [rowS, lenS_lt]

theorem ba_ext {s : ByteArray} {l : List UInt8} (h : bl s = l) : s = ⟨l.toArray⟩ := by subst h; rfl

set_option maxRecDepth 100000 in
set_option maxHeartbeats 4000000 in
theorem awake_any (w : World) : Calls Try.prog 10 #[] w fun e w' => e = .returned (.bool true) ∧ Below w.heap.size w w' := by
  have hmk := make_any (some ⟨w.heap.size, 0, none⟩) 1 [(⟨#[120]⟩, ⟨#[]⟩)] (w.alloc (.cells #[.string ⟨#[120]⟩, .string ⟨#[]⟩] 29))
    ⟨rfl, fun _ => ⟨_, rfl, by simp, fun j u hj => by
      match j, hj with
      | 0, hj => simp [bx] at hj; subst hj; simp [Addr.add]
      | 1, hj => simp [bx] at hj; subst hj; simp [Addr.add]⟩⟩
    (by show (rowS [hibp, [120], []]).length ≤ _; rw [awake_row]; decide) (by decide)
  have e0 : List.map bb [((⟨#[120]⟩, ⟨#[]⟩) : BB)] = [([120], [])] := rfl
  rw [e0, awake_make] at hmk
  have HMK := Lib.hid hmk
  clear hmk e0
  go_enter Try.func10, Try.ntmps10
  go_wp2_with fail
  refine HMK.out.mono ?_
  rintro e w1 ⟨rfl, hb1⟩
  clear HMK
  have hb01 : Below w.heap.size w w1 := ((Below.refl _ _).alloc (Nat.le_refl _) _).trans (hb1.mono (by simp))
  go_wp2_with fail
  refine (of_any _ w1 ?_).mono ?_
  · show 8 ≤ _
    decide
  rintro e w2 ⟨v2, rs, err, rfl, hown2, hb2, hcase⟩
  have hb02 := hb01.trans (hb2.mono hb01.size)
  have hbs : boxesS (bl ⟨#[4, 104, 105, 98, 112, 1, 120, 0]⟩) = some [([120], [])] := by
    have := boxesS_make (l := [([120], [])]) (by rw [awake_make])
    rw [awake_make] at this
    exact this
  rcases hcase with ⟨hnone, _, _⟩ | ⟨hsome, rfl⟩
  · exact absurd (hbs.symm.trans hnone) (by simp)
  · have hrs : rs.map bb = [([120], [])] := by
      have := hbs.symm.trans hsome
      injection this with this
      exact this.symm
    have hrs2 : rs = [(⟨#[120]⟩, ⟨#[]⟩)] := by
      match rs, hrs with
      | [], hrs => simp at hrs
      | _ :: _ :: _, hrs => simp at hrs
      | [x], hrs =>
        injection hrs with hx _
        have h1 := ba_ext (congrArg Prod.fst hx)
        have h2 := ba_ext (congrArg Prod.snd hx)
        rw [show x = (x.1, x.2) from rfl, h1, h2]
    clear hrs hsome hbs
    subst hrs2
    have hpx : px 5 [(⟨#[120]⟩, ⟨#[]⟩)] = [.string ⟨#[120]⟩, .int .i64 8, .int .i64 0] := by
      unfold px px
      show [_, Value.int .i64 (((5 + (rowS [([120] : Bs), []]).length : Nat) : Int) - 0), _] = _
      rw [awake_len]
      rfl
    rw [hpx] at hown2
    clear hpx
    obtain ⟨g, c, rfl, hc1, hg1, hg2, hcells⟩ := own_addr hown2 (by decide)
    have hx1 : w2.cell? ⟨g, 1, none⟩ = some (.int .i64 8) := by simpa [Addr.add] using hcells 1 _ rfl
    have hx2 : w2.cell? ⟨g, 2, none⟩ = some (.int .i64 0) := by simpa [Addr.add] using hcells 2 _ rfl
    clear hcells hown2
    have hrow := row_any (some ⟨w2.heap.size, 0, none⟩) 3 [hibpB, ⟨#[120]⟩, ⟨#[]⟩] (w2.alloc (.cells #[.string hibpB, .string ⟨#[120]⟩, .string ⟨#[]⟩] 9))
      ⟨rfl, fun _ => ⟨_, rfl, by simp, fun j u hj => by
        match j, hj with
        | 0, hj => simp at hj; subst hj; simp [Addr.add]
        | 1, hj => simp at hj; subst hj; simp [Addr.add]
        | 2, hj => simp at hj; subst hj; simp [Addr.add]⟩⟩
      (by show (rowS [hibp, [120], []]).length ≤ _; rw [awake_row]; decide) (by decide)
    have e1 : List.map bl [hibpB, ⟨#[120]⟩, ⟨#[]⟩] = [hibp, [120], []] := rfl
    rw [e1, awake_row] at hrow
    unfold hibpB at hrow
    have HR := Lib.hid hrow
    clear hrow e1
    go_wp2_with fail
    refine HR.out.mono ?_
    rintro e w3 ⟨rfl, hb3⟩
    clear HR
    have hy1 := (hb3.cell (p := ⟨g, 1, none⟩) (by simp; omega)).trans ((World.cell?_alloc_lt w2 _ ⟨g, 1, none⟩ (by simpa using hg2)).trans hx1)
    have hy2 := (hb3.cell (p := ⟨g, 2, none⟩) (by simp; omega)).trans ((World.cell?_alloc_lt w2 _ ⟨g, 2, none⟩ (by simpa using hg2)).trans hx2)
    have hb03 : Below w.heap.size w w3 := (hb02.alloc hb02.size _).trans (hb3.mono (by have := hb02.size; simp; omega))
    clear hx1 hx2 hb3
    go_wp2
    go_ret
    exact ⟨rfl, hb03⟩
end Go.Proofs.Ytojgmeonjgfpoaa
