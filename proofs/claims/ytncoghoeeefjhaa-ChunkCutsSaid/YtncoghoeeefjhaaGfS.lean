/- The field of 256 elements as the program reckons it, and three points of a polynomial of degree two. No program in sight; no condition. -/
import Derived.WalkKit
namespace Go.Proofs.Ytncoghoeeefjhaa

/-- times x, less the modulus -/
def xt (a : UInt8) : UInt8 := (a <<< 1) ^^^ ((a >>> 7) * 29)
/-- so many rounds of the product -/
def mulL : Nat → UInt8 → UInt8 → UInt8 → UInt8
  | 0, _, _, out => out
  | n + 1, a, b, out => mulL n (xt a) (b >>> 1) (if b &&& 1 = 1 then out ^^^ a else out)
def gm (a b : UInt8) : UInt8 := mulL 8 a b 0
def ga (a b : UInt8) : UInt8 := a ^^^ b
def invL : Nat → UInt8 → UInt8 → UInt8
  | 0, _, out => out
  | n + 1, a, out => invL n (gm a a) (gm out (gm a a))
def ginv (a : UInt8) : UInt8 := invL 7 a 1

theorem ga_comm (a b : UInt8) : ga a b = ga b a := UInt8.xor_comm a b
theorem ga_assoc (a b c : UInt8) : ga (ga a b) c = ga a (ga b c) := UInt8.xor_assoc a b c
theorem ga_left (a b c : UInt8) : ga a (ga b c) = ga b (ga a c) := by rw [← ga_assoc, ga_comm a b, ga_assoc]
theorem ga_self (a : UInt8) : ga a a = 0 := UInt8.xor_self
theorem ga_zero (a : UInt8) : ga a 0 = a := UInt8.xor_zero
theorem zero_ga (a : UInt8) : ga 0 a = a := UInt8.zero_xor
theorem ga_self_left (a b : UInt8) : ga a (ga a b) = b := by rw [← ga_assoc, ga_self, zero_ga]
theorem ga_eq_zero {a b : UInt8} (h : ga a b = 0) : a = b := by
  have := congrArg (ga a) h
  rw [ga_self_left, ga_zero] at this
  exact this.symm

/-! all bytes: by their numbers -/
theorem all_u8 {P : UInt8 → Prop} (h : ∀ i : Fin 256, P (UInt8.ofFin i)) (a : UInt8) : P a := by
  have := h a.toFin
  simpa using this

theorem xt_ga : ∀ a b : UInt8, xt (ga a b) = ga (xt a) (xt b) := by
  intro a b
  have h7 : (a ^^^ b) >>> 7 = (a >>> 7) ^^^ (b >>> 7) := UInt8.shiftRight_xor
  have h1 : (a ^^^ b) <<< 1 = (a <<< 1) ^^^ (b <<< 1) := UInt8.shiftLeft_xor
  have hm : ∀ c d : Fin 2, ((UInt8.ofNat c.val) ^^^ (UInt8.ofNat d.val)) * 29 = ((UInt8.ofNat c.val) * 29) ^^^ ((UInt8.ofNat d.val) * 29) := by decide +kernel
  have hb : ∀ c : UInt8, ∃ i : Fin 2, c >>> 7 = UInt8.ofNat i.val := all_u8 (by decide +kernel)
  obtain ⟨i, hi⟩ := hb a
  obtain ⟨j, hj⟩ := hb b
  unfold xt ga
  rw [h7, h1, hi, hj, hm]
  simp only [UInt8.xor_assoc]
  congr 1
  rw [← UInt8.xor_assoc, UInt8.xor_comm (b <<< 1), UInt8.xor_assoc]
theorem mulL_out : ∀ (n : Nat) (a b o : UInt8), mulL n a b o = ga o (mulL n a b 0)
  | 0, a, b, o => (ga_zero o).symm
  | n + 1, a, b, o => by
    rw [mulL, mulL, mulL_out n, mulL_out n _ _ (if b &&& 1 = 1 then 0 ^^^ a else 0)]
    split
    · show ga (ga o a) _ = ga o (ga (ga 0 a) _)
      rw [zero_ga, ga_assoc]
    · rw [zero_ga]
theorem mulL_step (n : Nat) (a b : UInt8) : mulL (n + 1) a b 0 = ga (if b &&& 1 = 1 then a else 0) (mulL n (xt a) (b >>> 1) 0) := by
  rw [mulL, mulL_out]
  congr 1
  split
  · exact UInt8.zero_xor
  · rfl
theorem mulL_ga : ∀ (n : Nat) (a a' b : UInt8), mulL n (ga a a') b 0 = ga (mulL n a b 0) (mulL n a' b 0)
  | 0, _, _, _ => (ga_zero 0).symm
  | n + 1, a, a', b => by
    rw [mulL_step, mulL_step, mulL_step, xt_ga, mulL_ga n]
    split
    · simp only [ga_assoc]
      rw [ga_left a']
    · simp only [zero_ga]
theorem gm_ga (a a' b : UInt8) : gm (ga a a') b = ga (gm a b) (gm a' b) := mulL_ga 8 a a' b
theorem bit_nat : ∀ c : UInt8, (c &&& 1 = 1) ↔ c.toNat % 2 = 1 := all_u8 (by decide +kernel)
theorem bit_ga (b b' : UInt8) : (ga b b' &&& 1 = 1) ↔ ¬ ((b &&& 1 = 1) ↔ (b' &&& 1 = 1)) := by
  rw [bit_nat, bit_nat, bit_nat, ga, UInt8.toNat_xor]
  exact Nat.xor_mod_two_eq_one
theorem mulL_ga2 : ∀ (n : Nat) (a b b' : UInt8), mulL n a (ga b b') 0 = ga (mulL n a b 0) (mulL n a b' 0)
  | 0, _, _, _ => (ga_zero 0).symm
  | n + 1, a, b, b' => by
    have hs : (ga b b') >>> 1 = ga (b >>> 1) (b' >>> 1) := UInt8.shiftRight_xor
    rw [mulL_step, mulL_step, mulL_step, hs, mulL_ga2 n]
    have hx := bit_ga b b'
    by_cases h1 : b &&& 1 = 1 <;> by_cases h2 : b' &&& 1 = 1
    · rw [if_neg (by rw [hx]; simp [h1, h2]), if_pos h1, if_pos h2]
      simp only [zero_ga, ga_assoc]
      rw [ga_left _ a, ga_self_left]
    · rw [if_pos (by rw [hx]; simp [h1, h2]), if_pos h1, if_neg h2]
      simp only [zero_ga, ga_assoc]
    · rw [if_pos (by rw [hx]; simp [h1, h2]), if_neg h1, if_pos h2]
      simp only [zero_ga]
      rw [ga_left]
    · rw [if_neg (by rw [hx]; simp [h1, h2]), if_neg h1, if_neg h2]
      simp only [zero_ga]
theorem gm_ga2 (a b b' : UInt8) : gm a (ga b b') = ga (gm a b) (gm a b') := mulL_ga2 8 a b b'

/-- a byte is the sum of its bits -/
def bitOf (a : UInt8) (i : Nat) : UInt8 := if (a >>> UInt8.ofNat i) &&& 1 = 1 then 1 <<< UInt8.ofNat i else 0
theorem bits_sum : ∀ a : UInt8, a = ga (bitOf a 0) (ga (bitOf a 1) (ga (bitOf a 2) (ga (bitOf a 3) (ga (bitOf a 4) (ga (bitOf a 5) (ga (bitOf a 6) (bitOf a 7))))))) := all_u8 (by decide +kernel)
/-- two sums' maps that agree on eight bytes agree -/
theorem add_ext {f g : UInt8 → UInt8} (hf : ∀ a b, f (ga a b) = ga (f a) (f b)) (hg : ∀ a b, g (ga a b) = ga (g a) (g b)) (h : ∀ i : Fin 8, f (1 <<< UInt8.ofNat i.val) = g (1 <<< UInt8.ofNat i.val)) (a : UInt8) : f a = g a := by
  have z : ∀ k : UInt8 → UInt8, (∀ a b, k (ga a b) = ga (k a) (k b)) → k 0 = 0 := fun k hk => by
    have := hk 0 0
    rw [ga_self, ga_self] at this
    exact this
  have hb : ∀ i : Fin 8, f (bitOf a i.val) = g (bitOf a i.val) := fun i => by
    unfold bitOf
    split
    · exact h i
    · rw [z f hf, z g hg]
  rw [bits_sum a]
  simp only [hf, hg]
  have e0 : f (bitOf a 0) = g (bitOf a 0) := hb 0
  have e1 : f (bitOf a 1) = g (bitOf a 1) := hb 1
  have e2 : f (bitOf a 2) = g (bitOf a 2) := hb 2
  have e3 : f (bitOf a 3) = g (bitOf a 3) := hb 3
  have e4 : f (bitOf a 4) = g (bitOf a 4) := hb 4
  have e5 : f (bitOf a 5) = g (bitOf a 5) := hb 5
  have e6 : f (bitOf a 6) = g (bitOf a 6) := hb 6
  have e7 : f (bitOf a 7) = g (bitOf a 7) := hb 7
  rw [e0, e1, e2, e3, e4, e5, e6, e7]
theorem gm_comm (a b : UInt8) : gm a b = gm b a := by
  refine add_ext (f := fun a => gm a b) (g := fun a => gm b a) (fun x y => gm_ga x y b) (fun x y => gm_ga2 b x y) (fun i => ?_) a
  refine add_ext (f := fun b => gm (1 <<< UInt8.ofNat i.val) b) (g := fun b => gm b (1 <<< UInt8.ofNat i.val)) (fun x y => gm_ga2 _ x y) (fun x y => gm_ga x y _) (fun j => ?_) b
  have : ∀ i j : Fin 8, gm (1 <<< UInt8.ofNat i.val) (1 <<< UInt8.ofNat j.val) = gm (1 <<< UInt8.ofNat j.val) (1 <<< UInt8.ofNat i.val) := by decide +kernel
  exact this i j
theorem gm_assoc (a b c : UInt8) : gm (gm a b) c = gm a (gm b c) := by
  refine add_ext (f := fun a => gm (gm a b) c) (g := fun a => gm a (gm b c)) (fun x y => by simp only [gm_ga]) (fun x y => by simp only [gm_ga]) (fun i => ?_) a
  refine add_ext (f := fun b => gm (gm (1 <<< UInt8.ofNat i.val) b) c) (g := fun b => gm (1 <<< UInt8.ofNat i.val) (gm b c)) (fun x y => by simp only [gm_ga2, gm_ga]) (fun x y => by simp only [gm_ga2, gm_ga]) (fun j => ?_) b
  refine add_ext (f := fun c => gm (gm (1 <<< UInt8.ofNat i.val) (1 <<< UInt8.ofNat j.val)) c) (g := fun c => gm (1 <<< UInt8.ofNat i.val) (gm (1 <<< UInt8.ofNat j.val) c)) (fun x y => by simp only [gm_ga2]) (fun x y => by simp only [gm_ga2]) (fun k => ?_) c
  have : ∀ i j k : Fin 8, gm (gm (1 <<< UInt8.ofNat i.val) (1 <<< UInt8.ofNat j.val)) (1 <<< UInt8.ofNat k.val) = gm (1 <<< UInt8.ofNat i.val) (gm (1 <<< UInt8.ofNat j.val) (1 <<< UInt8.ofNat k.val)) := by decide +kernel
  exact this i j k
theorem gm_left (a b c : UInt8) : gm a (gm b c) = gm b (gm a c) := by rw [← gm_assoc, gm_comm a b, gm_assoc]
theorem gm_one (a : UInt8) : gm a 1 = a := by
  refine add_ext (f := fun a => gm a 1) (g := fun a => a) (fun x y => gm_ga x y 1) (fun _ _ => rfl) (fun i => ?_) a
  have : ∀ i : Fin 8, gm (1 <<< UInt8.ofNat i.val) 1 = 1 <<< UInt8.ofNat i.val := by decide +kernel
  exact this i
theorem one_gm (a : UInt8) : gm 1 a = a := by rw [gm_comm, gm_one]
theorem gm_zero (a : UInt8) : gm a 0 = 0 := by
  have := gm_ga2 a 0 0
  rw [ga_self, ga_self] at this
  exact this
theorem zero_gm (a : UInt8) : gm 0 a = 0 := by rw [gm_comm, gm_zero]
theorem gm_inv : ∀ a : UInt8, a ≠ 0 → gm a (ginv a) = 1 := all_u8 (by decide +kernel)
theorem gm_eq_zero {a b : UInt8} (h : gm a b = 0) (ha : a ≠ 0) : b = 0 := by
  have e : gm (ginv a) (gm a b) = b := by rw [← gm_assoc, gm_comm (ginv a), gm_inv a ha, one_gm]
  rw [← e, h, gm_zero]
theorem gm_ne {a b : UInt8} (ha : a ≠ 0) (hb : b ≠ 0) : gm a b ≠ 0 := fun h => hb (gm_eq_zero h ha)
theorem ginv_ne {a : UInt8} (ha : a ≠ 0) : ginv a ≠ 0 := fun h => by
  have := gm_inv a ha
  rw [h, gm_zero] at this
  exact absurd this (by decide)
theorem ga_ne {a b : UInt8} (h : a ≠ b) : ga a b ≠ 0 := fun e => h (ga_eq_zero e)

/-- a polynomial of degree two, the lowest coefficient first -/
def ev (c n1 n2 x : UInt8) : UInt8 := ga (gm (ga (gm n2 x) n1) x) c
/-- what the points' sum at 0 is -/
def at0 (x y z p q r : UInt8) : UInt8 :=
  ga (ga (gm (gm p (gm y (ginv (ga x y)))) (gm z (ginv (ga x z)))) (gm (gm q (gm x (ginv (ga y x)))) (gm z (ginv (ga y z))))) (gm (gm r (gm x (ginv (ga z x)))) (gm y (ginv (ga z y))))

theorem at0_clear (x y z p q r : UInt8) (hxy : x ≠ y) (hxz : x ≠ z) (hyz : y ≠ z) :
    gm (gm (gm (ga x y) (ga x z)) (ga y z)) (at0 x y z p q r) = ga (ga (gm p (gm y (gm z (ga y z)))) (gm q (gm x (gm z (ga x z))))) (gm r (gm x (gm y (ga x y)))) := by
  unfold at0
  rw [ga_comm y x, ga_comm z x, ga_comm z y]
  have hu := gm_inv _ (ga_ne hxy)
  have hv := gm_inv _ (ga_ne hxz)
  have ht := gm_inv _ (ga_ne hyz)
  generalize ginv (ga x y) = U at *
  generalize ginv (ga x z) = V at *
  generalize ginv (ga y z) = T at *
  generalize ga x y = u at *
  generalize ga x z = v at *
  generalize ga y z = t at *
  rw [gm_ga2, gm_ga2]
  have e1 : gm (gm (gm u v) t) (gm (gm p (gm y U)) (gm z V)) = gm (gm u U) (gm (gm v V) (gm p (gm y (gm z t)))) := by
    simp only [gm_comm, gm_left]
  have e2 : gm (gm (gm u v) t) (gm (gm q (gm x U)) (gm z T)) = gm (gm u U) (gm (gm t T) (gm q (gm x (gm z v)))) := by
    simp only [gm_comm, gm_left]
  have e3 : gm (gm (gm u v) t) (gm (gm r (gm x V)) (gm y T)) = gm (gm v V) (gm (gm t T) (gm r (gm x (gm y u)))) := by
    simp only [gm_comm, gm_left]
  rw [e1, e2, e3, hu, hv, ht]
  simp only [one_gm]
/-- three points of a polynomial of degree two tell its value at 0 -/
theorem at0_ev (c n1 n2 x y z : UInt8) (hxy : x ≠ y) (hxz : x ≠ z) (hyz : y ≠ z) : at0 x y z (ev c n1 n2 x) (ev c n1 n2 y) (ev c n1 n2 z) = c := by
  have h := at0_clear x y z (ev c n1 n2 x) (ev c n1 n2 y) (ev c n1 n2 z) hxy hxz hyz
  have hn : gm (gm (ga x y) (ga x z)) (ga y z) ≠ 0 := gm_ne (gm_ne (ga_ne hxy) (ga_ne hxz)) (ga_ne hyz)
  have k : ga (ga (gm (ev c n1 n2 x) (gm y (gm z (ga y z)))) (gm (ev c n1 n2 y) (gm x (gm z (ga x z))))) (gm (ev c n1 n2 z) (gm x (gm y (ga x y)))) = gm (gm (gm (ga x y) (ga x z)) (ga y z)) c := by
    unfold ev
    simp only [gm_ga2, gm_comm, gm_left, ga_assoc, ga_comm, ga_left, ga_self, ga_self_left, zero_ga]
  rw [k] at h
  refine ga_eq_zero ?_
  refine gm_eq_zero (a := gm (gm (ga x y) (ga x z)) (ga y z)) ?_ hn
  rw [gm_ga2, h, ga_self]
/-- another third value tells another -/
theorem at0_other (x y z p q r r' : UInt8) (hx : x ≠ 0) (hy : y ≠ 0) (hxz : x ≠ z) (hyz : y ≠ z) (hr : r ≠ r') : at0 x y z p q r ≠ at0 x y z p q r' := by
  intro h
  have h2 := ga_self (at0 x y z p q r)
  rw [h] at h2
  conv at h2 => lhs; lhs; rw [← h]
  unfold at0 at h2
  generalize gm (gm p (gm y (ginv (ga x y)))) (gm z (ginv (ga x z))) = P at h2
  generalize gm (gm q (gm x (ginv (ga y x)))) (gm z (ginv (ga y z))) = Q at h2
  have e : ∀ s s' : UInt8, ga (ga (ga P Q) s) (ga (ga P Q) s') = ga s s' := fun s s' => by
    generalize ga P Q = R
    rw [ga_comm R s, ga_assoc, ga_self_left]
  rw [e, ← gm_ga, ← gm_ga] at h2
  have a1 : gm x (ginv (ga z x)) ≠ 0 := gm_ne hx (ginv_ne (ga_ne (fun e => hxz e.symm)))
  have a2 : gm y (ginv (ga z y)) ≠ 0 := gm_ne hy (ginv_ne (ga_ne (fun e => hyz e.symm)))
  exact gm_ne (gm_ne (ga_ne hr) a1) a2 h2
end Go.Proofs.Ytncoghoeeefjhaa
