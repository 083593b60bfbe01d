/- PackBent walked: true for every list of boxes, every number and every text behind. Condition: a slice's greatest length. -/
import Derived.Test.YtojgmeonjgfpoaaLawC
import Derived.Test.YtojgmeonjgfpoaaRefH
namespace Go.Proofs.Ytojgmeonjgfpoaa
open Go.RowKit

theorem errs_eq {s : ByteArray} {err err' : Int} {rs rs' : List BB}
    (h : (boxesS (bl s) = none ∧ err = 3 ∧ rs = []) ∨ (boxesS (bl s) = some (rs.map bb) ∧ err = 0)) (h' : (boxesS (bl s) = none ∧ err' = 3 ∧ rs' = []) ∨ (boxesS (bl s) = some (rs'.map bb) ∧ err' = 0)) : err = err' := by
  rcases h with ⟨a, b, _⟩ | ⟨a, b⟩ <;> rcases h' with ⟨a', b', _⟩ | ⟨a', b'⟩
  · rw [b, b']
  · rw [a] at a'; cases a'
  · rw [a] at a'; cases a'
  · rw [b, b']

set_option maxRecDepth 1000000 in
set_option maxHeartbeats 8000000 in
theorem bent_any (A : Option Addr) (c : Nat) (l : List BB) (n : Nat) (o : ByteArray) (w : World) (hr : Reads w w.heap.size 2 A l.length (bx l)) (hl : l.length ≤ 9223372036854775807) (hn : n < 65536) :
    Calls Try.prog 4 #[.slice A l.length c, .int .u16 n, .string o] w fun e w' => e = .returned (.bool true) ∧ Below w.heap.size w w' := by
  have hg1 := great_any A c l w w.heap.size hr hl
  by_cases h1 : greatB l = 0
  · have hz1 := great_zero h1
    have hrow1 := great_row h1
    rw [h1] at hg1
    have hm1 := make_any A c l w hr (by omega) (by omega)
    have HG1 := Lib.hid hg1
    have HM1 := Lib.hid hm1
    have hl12 := hz1.1
    clear hg1 hm1 hz1 h1 hl
    by_cases ho : o.size ≤ 300
    · have ho' : ¬ (300 : Int) < (o.size : Int) := by omega
      by_cases hoe : bl o = []
      · have hoe' : (o.toList == []) = true := str_eq_true hoe
        clear hoe
        go_enter Try.func4, Try.ntmps4
        go_wp2_with fail
        refine HG1.out.mono ?_
        rintro e w' ⟨rfl, rfl⟩
        go_wp2_with (go_at_call 10; refine (awake_any _).mono ?_; rintro e w3 ⟨rfl, hb3⟩)
        go_ret
        exact ⟨rfl, hb3⟩
      · have hoe' : (o.toList == []) = false := str_eq_false hoe
        generalize hM1 : makeS (l.map bb) = M1 at *
        obtain ⟨a1, e1⟩ := M1
        have HI1 := Lib.hid hM1
        clear hM1 hoe
        by_cases he1 : e1 = 0
        · subst he1
          have hok := makeS_ok (l := l.map bb) (by rw [HI1.out])
          have ha1 : rowS (packRow (l.map bb)) = a1 := by
            have h2 := hok.2.2.2.symm.trans HI1.out
            exact congrArg Prod.fst h2
          have ha1l : a1.length ≤ 7000 := by rw [← ha1]; exact hrow1
          have ha1p : 5 ≤ a1.length := by rw [← ha1, packRow_len]; omega
          clear ha1 hok hrow1
          have hne : ((a1.length : Int) == 0) = false := by rw [beq_eq_false_iff_ne]; omega
          have hmod : (n : Int).tmod (a1.length : Int) = ((n % a1.length : Nat) : Int) := by rw [Int.tmod_eq_emod_of_nonneg (by omega)]; simp
          have hmlt : n % a1.length < a1.length := Nat.mod_lt _ (by omega)
          generalize hq : n % a1.length = q at *
          have hw1 : IntKind.i64.wrap (n : Int) = (n : Int) := IntWalk.i64_in _ (by omega)
          have hw2 : IntKind.i64.wrap (q : Int) = (q : Int) := IntWalk.i64_in _ (by omega)
          have hq0 : (0 : Int) ≤ (q : Int) := by omega
          have hq1 : (q : Int) ≤ (a1.length : Int) := by omega
          have hcat : ¬ 9223372036854775807 < a1.length + o.size := by omega
          clear hq
          go_enter Try.func4, Try.ntmps4
          go_wp2_with fail
          refine HG1.out.mono ?_
          rintro e w' ⟨rfl, rfl⟩
          go_wp2_with fail
          refine HM1.out.mono ?_
          rintro e w1 ⟨rfl, hb1⟩
          have hsz1 := hb1.size
          clear hr
          have hcs : (((⟨a1.toArray⟩ : ByteArray).extract 0 q).size) ≤ 100000000 := by
            rw [ByteArray.size_extract, size_of]; omega
          have hcs2 : ((⟨a1.toArray⟩ : ByteArray) ++ o).size ≤ 100000000 := by
            rw [ByteArray.size_append, size_of]; omega
          generalize hcut : ((⟨a1.toArray⟩ : ByteArray).extract 0 q) = cut at *
          generalize hmore : ((⟨a1.toArray⟩ : ByteArray) ++ o) = more at *
          go_wp2_with fail
          refine (of_any cut w1 hcs).mono ?_
          rintro e w2 ⟨v2, rs2, err2, rfl, _, hb2, hc2⟩
          have hb02 := hb1.trans (hb2.mono hsz1)
          have hsz2 := hb02.size
          go_wp2_with fail
          refine (refof_any cut w2 hcs).mono ?_
          rintro e w3 ⟨v3, rs3, err3, rfl, _, hb3, hc3⟩
          have e23 := errs_eq hc2 hc3
          subst e23
          have hb03 := hb02.trans (hb3.mono hsz2)
          have hsz3 := hb03.size
          clear hc2 hc3 hb2 hb3
          go_wp2_with fail
          refine (of_any more w3 hcs2).mono ?_
          rintro e w4 ⟨v4, rs4, err4, rfl, _, hb4, hc4⟩
          have hb04 := hb03.trans (hb4.mono hsz3)
          have hsz4 := hb04.size
          go_wp2_with fail
          refine (refof_any more w4 hcs2).mono ?_
          rintro e w5 ⟨v5, rs5, err5, rfl, _, hb5, hc5⟩
          have e45 := errs_eq hc4 hc5
          subst e45
          have hb05 := hb04.trans (hb5.mono hsz4)
          clear hc4 hc5 hb4 hb5 HG1 HM1
          go_wp2_with (go_at_call 10; refine (awake_any _).mono ?_; rintro e w6 ⟨rfl, hb6⟩)
          go_ret
          exact ⟨rfl, hb05.trans (hb6.mono hb05.size)⟩
        · have he1' : (e1 != 0) = true := by rw [bne_iff_ne]; exact he1
          have ha1 : a1 = [] := by
            have h2 := HI1.out
            unfold makeS at h2
            repeat' split at h2
            all_goals first
              | (injection h2 with h3 h4; exact h3.symm)
              | (injection h2 with h3 h4; exact absurd h4.symm he1)
          subst ha1
          clear he1 hr
          go_enter Try.func4, Try.ntmps4
          go_wp2_with fail
          refine HG1.out.mono ?_
          rintro e w' ⟨rfl, rfl⟩
          go_wp2_with fail
          refine HM1.out.mono ?_
          rintro e w1 ⟨rfl, hb1⟩
          go_wp2_with (go_at_call 10; refine (awake_any _).mono ?_; rintro e w3 ⟨rfl, hb3⟩)
          go_ret
          exact ⟨rfl, hb1.trans (hb3.mono hb1.size)⟩
    · have ho' : (300 : Int) < (o.size : Int) := by omega
      go_enter Try.func4, Try.ntmps4
      go_wp2_with fail
      refine HG1.out.mono ?_
      rintro e w' ⟨rfl, rfl⟩
      go_wp2_with (go_at_call 10; refine (awake_any _).mono ?_; rintro e w3 ⟨rfl, hb3⟩)
      go_ret
      exact ⟨rfl, hb3⟩
  · rw [great_one h1] at hg1
    have HG1 := Lib.hid hg1
    clear hg1 h1
    go_enter Try.func4, Try.ntmps4
    go_wp2_with fail
    refine HG1.out.mono ?_
    rintro e w' ⟨rfl, rfl⟩
    go_wp2_with (go_at_call 10; refine (awake_any _).mono ?_; rintro e w3 ⟨rfl, hb3⟩)
    go_ret
    exact ⟨rfl, hb3⟩
theorem packBent_row (A : Option Addr) (c : Nat) (l : List BB) (n : Int) (o : ByteArray) (w : World) (hr : Reads w w.heap.size 2 A l.length (bx l)) (hl : l.length ≤ 9223372036854775807) (hn : (Lit.int .u16 n).wf = true) :
    Calls Try.prog 4 #[.slice A l.length c, .int .u16 n, .string o] w fun e w' => e = .returned (.bool true) ∧ Below w.heap.size w w' := by
  have h0 : 0 ≤ n ∧ n < 65536 := by
    have h : IntKind.u16.min ≤ n ∧ n ≤ IntKind.u16.max := by simpa [Lit.wf] using hn
    have e1 : IntKind.u16.min = 0 := by decide
    have e2 : IntKind.u16.max = 65535 := by decide
    omega
  obtain ⟨k, rfl⟩ : ∃ k : Nat, n = (k : Int) := ⟨n.toNat, by omega⟩
  exact bent_any A c l k o w hr hl (by omega)
end Go.Proofs.Ytojgmeonjgfpoaa
