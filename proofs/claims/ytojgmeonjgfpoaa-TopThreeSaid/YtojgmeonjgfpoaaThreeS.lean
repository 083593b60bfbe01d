/- Three shares of a secret, plain: they tell it; with another byte they tell another. Conditions: three unlike places below 255. -/
import Derived.Test.YtojgmeonjgfpoaaShB
namespace Go.Proofs.Ytojgmeonjgfpoaa
open Go.RowKit

theorem evS_three (c n1 n2 x : UInt8) : evS [c, n1, n2] x = ev c n1 n2 x := by
  simp [evS, ev, zero_gm, zero_ga]
/-- the share of a place -/
def shareL (s no : List UInt8) (n i : Nat) : List UInt8 := ((sharesL s no n).drop (i * 33)).take 33
theorem shareL_length (s no : List UInt8) (n i : Nat) (h : i < n) : (shareL s no n i).length = 33 := by
  rw [shareL, List.length_take, List.length_drop, sharesL_length]; omega
theorem shareL_at (s no : List UInt8) (n i m : Nat) (h : i < n) (hm : m < 33) : at8 (shareL s no n i) m = shareB s no (i * 33 + m) := by
  rw [← sharesL_at s no n (i * 33 + m) (by omega)]
  simp only [at8, shareL, List.getD_eq_getElem?_getD]
  rw [List.getElem?_take_of_lt hm, List.getElem?_drop]
theorem at8_app_left (a b : List UInt8) (m : Nat) (h : m < a.length) : at8 (a ++ b) m = at8 a m := by
  simp only [at8, List.getD_eq_getElem?_getD]
  rw [List.getElem?_append_left h]
theorem at8_app_right (a b : List UInt8) (m : Nat) : at8 (a ++ b) (a.length + m) = at8 b m := by
  simp only [at8, List.getD_eq_getElem?_getD]
  rw [List.getElem?_append_right (by omega), Nat.add_sub_cancel_left]
/-- three lists of 33 bytes, byte by byte -/
theorem three_at (S1 S2 S3 : List UInt8) (h1 : S1.length = 33) (h2 : S2.length = 33) (m : Nat) (hm : m < 33) :
    at8 (S1 ++ S2 ++ S3) m = at8 S1 m ∧ at8 (S1 ++ S2 ++ S3) (33 + m) = at8 S2 m ∧ at8 (S1 ++ S2 ++ S3) (66 + m) = at8 S3 m := by
  refine ⟨?_, ?_, ?_⟩
  · rw [List.append_assoc, at8_app_left _ _ _ (by omega)]
  · rw [List.append_assoc, ← h1, at8_app_right, at8_app_left _ _ _ (by omega)]
  · have : (S1 ++ S2).length = 66 := by rw [List.length_append, h1, h2]
    rw [← this, at8_app_right]
theorem x_inj {i j : Nat} (hi : i < 255) (hj : j < 255) (h : i ≠ j) : UInt8.ofNat (i + 1) ≠ UInt8.ofNat (j + 1) := by
  intro e
  have := congrArg UInt8.toNat e
  rw [UInt8.toNat_ofNat', UInt8.toNat_ofNat'] at this
  omega
theorem x_ne {i : Nat} (hi : i < 255) : UInt8.ofNat (i + 1) ≠ 0 := by
  intro e
  have := congrArg UInt8.toNat e
  rw [UInt8.toNat_ofNat'] at this
  have h0 : (0 : UInt8).toNat = 0 := rfl
  omega
theorem key_ext {l m : List UInt8} (hl : l.length = 32) (hm : m.length = 32) (h : ∀ i, i < 32 → at8 l i = at8 m i) : l = m := by
  refine List.ext_getElem (by omega) (fun i h1 h2 => ?_)
  have := h i (by omega)
  rw [at8, at8, List.getD_eq_getElem?_getD, List.getD_eq_getElem?_getD, List.getElem?_eq_getElem h1, List.getElem?_eq_getElem h2] at this
  exact this

section
variable (s no : List UInt8) (n i j k : Nat)
theorem share_x (h : i < n) : at8 (shareL s no n i) 0 = UInt8.ofNat (i + 1) := by
  rw [shareL_at s no n i 0 h (by omega), Nat.add_zero, shareB_x]
theorem share_d (m : Nat) (h : i < n) (hm : m < 32) : at8 (shareL s no n i) (1 + m) = ev (at8 s m) (at8 no m) (at8 no (32 + m)) (UInt8.ofNat (i + 1)) := by
  rw [shareL_at s no n i (1 + m) h (by omega), ← Nat.add_assoc, shareB_d s no i m hm, evS_three]
/-- three shares tell the secret -/
theorem three_tell (hs : s.length = 32) (hi : i < n) (hj : j < n) (hk : k < n) (hn : n ≤ 255) (hij : i ≠ j) (hik : i ≠ k) (hjk : j ≠ k) :
    joinL (shareL s no n i ++ shareL s no n j ++ shareL s no n k) = s := by
  refine key_ext (joinL_length _) hs (fun m hm => ?_)
  rw [joinL_at _ m hm]
  have t0 := three_at (shareL s no n i) (shareL s no n j) (shareL s no n k) (shareL_length s no n i hi) (shareL_length s no n j hj) 0 (by omega)
  have t1 := three_at (shareL s no n i) (shareL s no n j) (shareL s no n k) (shareL_length s no n i hi) (shareL_length s no n j hj) (1 + m) (by omega)
  rw [show 34 + m = 33 + (1 + m) by omega, show 67 + m = 66 + (1 + m) by omega, t1.1, t1.2.1, t1.2.2, t0.1, show 33 = 33 + 0 from rfl, t0.2.1, show 66 = 66 + 0 from rfl, t0.2.2,
    share_x s no n i hi, share_x s no n j hj, share_x s no n k hk, share_d s no n i m hi hm, share_d s no n j m hj hm, share_d s no n k m hk hm,
    atS_three _ _ _ _ _ _ (x_inj (by omega) (by omega) hij) (x_inj (by omega) (by omega) hik) (x_inj (by omega) (by omega) hjk)]
  exact at0_ev _ _ _ _ _ _ (x_inj (by omega) (by omega) hij) (x_inj (by omega) (by omega) hik) (x_inj (by omega) (by omega) hjk)
/-- with another byte they tell another -/
theorem three_other (b' : UInt8) (hi : i < n) (hj : j < n) (hk : k < n) (hn : n ≤ 255) (hij : i ≠ j) (hik : i ≠ k) (hjk : j ≠ k) (hb : at8 (shareL s no n k) 1 ≠ b') :
    joinL (shareL s no n i ++ shareL s no n j ++ (shareL s no n k).set 1 b') ≠ s := by
  intro he
  have h0 : at8 (joinL (shareL s no n i ++ shareL s no n j ++ (shareL s no n k).set 1 b')) 0 = at8 s 0 := by rw [he]
  rw [joinL_at _ 0 (by omega)] at h0
  have t0 := three_at (shareL s no n i) (shareL s no n j) ((shareL s no n k).set 1 b') (shareL_length s no n i hi) (shareL_length s no n j hj) 0 (by omega)
  have t1 := three_at (shareL s no n i) (shareL s no n j) ((shareL s no n k).set 1 b') (shareL_length s no n i hi) (shareL_length s no n j hj) 1 (by omega)
  have l3 := shareL_length s no n k hk
  have u0 : at8 ((shareL s no n k).set 1 b') 0 = at8 (shareL s no n k) 0 := by
    simp only [at8, List.getD_eq_getElem?_getD]
    rw [List.getElem?_set_ne (by omega)]
  have u1 : at8 ((shareL s no n k).set 1 b') 1 = b' := by
    simp [at8, l3]
  have e1 : at8 (shareL s no n k) 1 = ev (at8 s 0) (at8 no 0) (at8 no 32) (UInt8.ofNat (k + 1)) := share_d s no n k 0 hk (by omega)
  have e2 : at8 (shareL s no n i) 1 = ev (at8 s 0) (at8 no 0) (at8 no 32) (UInt8.ofNat (i + 1)) := share_d s no n i 0 hi (by omega)
  have e3 : at8 (shareL s no n j) 1 = ev (at8 s 0) (at8 no 0) (at8 no 32) (UInt8.ofNat (j + 1)) := share_d s no n j 0 hj (by omega)
  have x1 := x_inj (i := i) (j := j) (by omega) (by omega) hij
  have x2 := x_inj (i := i) (j := k) (by omega) (by omega) hik
  have x3 := x_inj (i := j) (j := k) (by omega) (by omega) hjk
  rw [show 33 = 33 + 0 from rfl, show 66 = 66 + 0 from rfl, t0.2.1, t0.2.2, t0.1, Nat.add_zero, Nat.add_zero, Nat.add_zero, show 34 = 33 + 1 from rfl, show 67 = 66 + 1 from rfl, t1.1, t1.2.1, t1.2.2, u0, u1,
    share_x s no n i hi, share_x s no n j hj, share_x s no n k hk, atS_three _ _ _ _ _ _ x1 x2 x3, e2, e3] at h0
  have h1 := at0_ev (at8 s 0) (at8 no 0) (at8 no 32) _ _ _ x1 x2 x3
  refine at0_other _ _ _ _ _ _ b' (x_ne (by omega)) (x_ne (by omega)) x2 x3 ?_ (h1.trans h0.symm)
  rw [← e1]
  exact hb
end
end Go.Proofs.Ytojgmeonjgfpoaa
