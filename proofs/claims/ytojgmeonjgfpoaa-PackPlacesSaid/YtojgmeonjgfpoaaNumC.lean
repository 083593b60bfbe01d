/- num.read walked. Condition: the text's length is within the model's greatest. -/
import Derived.Test.YtojgmeonjgfpoaaNumB
import Derived.BigGuardPart
namespace Go.Proofs.Ytojgmeonjgfpoaa
open Go.RowKit

theorem str_ne_true {r : ByteArray} {l : List UInt8} (h : bl r ≠ l) : (!r.toList == l) = true := by
  rw [ByteArray.toList_eq]; simpa using h
theorem str_ne_false {r : ByteArray} {l : List UInt8} (h : bl r = l) : (!r.toList == l) = false := by
  rw [ByteArray.toList_eq]; simpa using h
theorem str_eq_true {r : ByteArray} {l : List UInt8} (h : bl r = l) : (r.toList == l) = true := by
  rw [ByteArray.toList_eq]; simpa using h
theorem str_eq_false {r : ByteArray} {l : List UInt8} (h : bl r ≠ l) : (r.toList == l) = false := by
  rw [ByteArray.toList_eq]; simpa using h
theorem drop_at (s : ByteArray) (k : Nat) (h : k < s.size) : (bl s).drop k = s[k] :: (bl s).drop (k + 1) := by
  rw [List.drop_eq_getElem_cons (by simpa [bl] using h)]
  rfl

set_option maxRecDepth 100000 in
set_option maxHeartbeats 4000000 in
theorem read_any (s : ByteArray) (w : World) (hs : s.size ≤ 281474976710656) :
    Calls Try.prog 50 #[.string s] w fun e w' => e = .returned (.tuple #[.int .i64 (readS 0 0 (bl s)).1, .int .i64 (readS 0 0 (bl s)).2.1, .int .i64 (readS 0 0 (bl s)).2.2]) ∧ w = w' := by
  go_enter Try.func50, Try.ntmps50
  go_wp2
  go_loop [2, 9] (fun nv i => ∃ k n : Nat, i = .int .i64 k ∧ nv = .int .i64 n ∧ k ≤ 3 ∧ k ≤ s.size ∧ n < 2 ^ (7 * k) ∧ Hid (readS 0 0 (bl s) = readS k n ((bl s).drop k)))
    (fun _ i => s.size - (intOf i).toNat)
  case atStart => exact ⟨0, 0, rfl, rfl, by omega, by omega, by decide, Lib.hid rfl⟩
  case round =>
    obtain ⟨k, n, rfl, rfl, hk, hks, hn, hrd⟩ := hrel
    by_cases hlt : k < s.size
    · have hd := drop_at s k hlt
      have hrd' := hrd.out
      rw [hd, readS] at hrd'
      have HR := Lib.hid hrd'
      clear hrd hrd' hd
      have hxb : (s[k].toNat : Int) < 256 := by have := s[k].toNat_lt; omega
      rcases (by omega : k = 0 ∨ k = 1 ∨ k = 2 ∨ k = 3) with rfl | rfl | rfl | rfl
      · by_cases h128 : 128 ≤ s[0].toNat
        · have h128' : (128 : Int) ≤ (s[0].toNat : Int) := by omega
          have hnext : readS 0 0 (bl s) = readS 1 (n + s[0].toNat % 128 * 2 ^ (7 * 0)) ((bl s).drop 1) := by rw [HR.out, if_neg (by omega), if_neg (by omega)]
          have HN := Lib.hid hnext
          clear hnext
          go_wp2
          go_round
          case rel => exact ⟨1, n + s[0].toNat % 128 * 2 ^ (7 * 0), by go_num, by first | go_num | (congr 1; omega), by omega, by omega, by have : s[0].toNat % 128 < 128 := Nat.mod_lt _ (by decide); omega, HN⟩
          case measure => simp [intOf]; omega
        · have h128' : (s[0].toNat : Int) < 128 := by omega
          have hfin : readS 0 0 (bl s) = (n + s[0].toNat % 128 * 2 ^ (7 * 0), 0 + 1, 0) := by rw [HR.out, if_neg (by omega), if_pos (by omega)]
          have HF := Lib.hid hfin
          clear hfin h128
          go_wp2
          go_ret3
          exact ⟨by rw [HF.out]; simp, rfl⟩
      · by_cases h128 : 128 ≤ s[1].toNat
        · have h128' : (128 : Int) ≤ (s[1].toNat : Int) := by omega
          have hnext : readS 0 0 (bl s) = readS 2 (n + s[1].toNat % 128 * 2 ^ (7 * 1)) ((bl s).drop 2) := by rw [HR.out, if_neg (by omega), if_neg (by omega)]
          have HN := Lib.hid hnext
          clear hnext
          go_wp2
          go_round
          case rel => exact ⟨2, n + s[1].toNat % 128 * 2 ^ (7 * 1), by go_num, by first | go_num | (congr 1; omega), by omega, by omega, by have : s[1].toNat % 128 < 128 := Nat.mod_lt _ (by decide); omega, HN⟩
          case measure => simp [intOf]; omega
        · have h128' : (s[1].toNat : Int) < 128 := by omega
          by_cases h0 : s[1].toNat = 0
          · have h0' : ((s[1].toNat : Int) == 0) = true := by rw [beq_iff_eq]; omega
            have hfin : readS 0 0 (bl s) = (0, 0, 3) := by rw [HR.out, if_pos (by omega)]
            have HF := Lib.hid hfin
            clear hfin h128 h0
            go_wp2
            go_ret3
            exact ⟨by rw [HF.out]; rfl, rfl⟩
          · have h0' : ((s[1].toNat : Int) == 0) = false := by rw [beq_eq_false_iff_ne]; omega
            have hfin : readS 0 0 (bl s) = (n + s[1].toNat % 128 * 2 ^ (7 * 1), 1 + 1, 0) := by rw [HR.out, if_neg (by omega), if_pos (by omega)]
            have HF := Lib.hid hfin
            clear hfin h128 h0
            go_wp2
            go_ret3
            exact ⟨by rw [HF.out]; simp, rfl⟩
      · by_cases h128 : 128 ≤ s[2].toNat
        · have h128' : (128 : Int) ≤ (s[2].toNat : Int) := by omega
          have hnext : readS 0 0 (bl s) = readS 3 (n + s[2].toNat % 128 * 2 ^ (7 * 2)) ((bl s).drop 3) := by rw [HR.out, if_neg (by omega), if_neg (by omega)]
          have HN := Lib.hid hnext
          clear hnext
          go_wp2
          go_round
          case rel => exact ⟨3, n + s[2].toNat % 128 * 2 ^ (7 * 2), by go_num, by first | go_num | (congr 1; omega), by omega, by omega, by have : s[2].toNat % 128 < 128 := Nat.mod_lt _ (by decide); omega, HN⟩
          case measure => simp [intOf]; omega
        · have h128' : (s[2].toNat : Int) < 128 := by omega
          by_cases h0 : s[2].toNat = 0
          · have h0' : ((s[2].toNat : Int) == 0) = true := by rw [beq_iff_eq]; omega
            have hfin : readS 0 0 (bl s) = (0, 0, 3) := by rw [HR.out, if_pos (by omega)]
            have HF := Lib.hid hfin
            clear hfin h128 h0
            go_wp2
            go_ret3
            exact ⟨by rw [HF.out]; rfl, rfl⟩
          · have h0' : ((s[2].toNat : Int) == 0) = false := by rw [beq_eq_false_iff_ne]; omega
            have hfin : readS 0 0 (bl s) = (n + s[2].toNat % 128 * 2 ^ (7 * 2), 2 + 1, 0) := by rw [HR.out, if_neg (by omega), if_pos (by omega)]
            have HF := Lib.hid hfin
            clear hfin h128 h0
            go_wp2
            go_ret3
            exact ⟨by rw [HF.out]; simp, rfl⟩
      · by_cases h128 : 128 ≤ s[3].toNat
        · have h128' : (128 : Int) ≤ (s[3].toNat : Int) := by omega
          have hfin : readS 0 0 (bl s) = (0, 0, 3) := by rw [HR.out, if_pos (by omega)]
          have HF := Lib.hid hfin
          clear hfin
          go_wp2
          go_ret3
          exact ⟨by rw [HF.out]; rfl, rfl⟩
        · have h128' : (s[3].toNat : Int) < 128 := by omega
          by_cases h0 : s[3].toNat = 0
          · have h0' : ((s[3].toNat : Int) == 0) = true := by rw [beq_iff_eq]; omega
            have hfin : readS 0 0 (bl s) = (0, 0, 3) := by rw [HR.out, if_pos (by omega)]
            have HF := Lib.hid hfin
            clear hfin h128 h0
            go_wp2
            go_ret3
            exact ⟨by rw [HF.out]; rfl, rfl⟩
          · have h0' : ((s[3].toNat : Int) == 0) = false := by rw [beq_eq_false_iff_ne]; omega
            have hfin : readS 0 0 (bl s) = (n + s[3].toNat % 128 * 2 ^ (7 * 3), 3 + 1, 0) := by rw [HR.out, if_neg (by omega), if_pos (by omega)]
            have HF := Lib.hid hfin
            clear hfin h128 h0
            go_wp2
            go_ret3
            exact ⟨by rw [HF.out]; simp, rfl⟩
    · obtain rfl : k = s.size := by omega
      have hfin : readS 0 0 (bl s) = (0, 0, 4) := by
        rw [hrd.out, List.drop_of_length_le (by rw [bl_len]; omega)]; rfl
      have HF := Lib.hid hfin
      clear hfin
      go_wp2
      go_ret3
      exact ⟨by rw [HF.out]; rfl, rfl⟩
end Go.Proofs.Ytojgmeonjgfpoaa
