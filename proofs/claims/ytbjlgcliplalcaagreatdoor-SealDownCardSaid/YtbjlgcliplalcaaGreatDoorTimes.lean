/-
  THE WALKS of seal.times, power, back.
-/
import Derived.Test.YtbjlgcliplalcaaGreatDoorChecked
import Derived.Test.YtbjlgcliplalcaaGreatDoorCrc
import Derived.Test.YtbjlgcliplalcaaGreatDoorSmall
import Derived.WalkKit
import Derived.WalkSpells
import Derived.Lib.Hide
namespace Go.Proofs.YtbjlgcliplalcaaGreatDoor
open Go.RowKit

theorem times_one_odd (a k b : Nat) (h : a.testBit (31 - k) = true) : crc.tms a (k + 1) b = crc.tms a k b ^^^ crc.it k b := by
  simp [crc.tms, h]
theorem times_one_even (a k b : Nat) (h : a.testBit (31 - k) = false) : crc.tms a (k + 1) b = crc.tms a k b := by
  simp [crc.tms, h]
theorem it_odd (k b : Nat) (h : crc.it k b % 2 = 1) : crc.it (k + 1) b = crc.it k b / 2 ^^^ 3988292384 := by
  rw [crc.it_succ, crc.stp, if_pos h]; rfl
theorem it_even (k b : Nat) (h : ¬ crc.it k b % 2 = 1) : crc.it (k + 1) b = crc.it k b / 2 := by
  rw [crc.it_succ, crc.stp, if_neg h]

set_option maxHeartbeats 400000 in
theorem times_any (a b : Nat) (ha : a < 4294967296) (hb : b < 4294967296) (w : World) :
    Calls Tryz.prog 23 #[.int .u32 a, .int .u32 b] w fun e w' => e = .returned (.int .u32 (crc.times a b : Nat)) ∧ w = w' := by
  go_enter Tryz.func23, Tryz.ntmps23
  go_wp2
  go_loop [1, 5, 6] (fun y p m => ∃ k : Nat, k ≤ 32 ∧ y = .int .u32 (crc.it k b : Nat) ∧ p = .int .u32 (crc.tms a k b : Nat) ∧ m = .int .u32 ((2147483648 / 2 ^ k : Nat) : Int)) (fun _ _ m => (intOf m).toNat)
  case atStart => exact ⟨0, by omega, rfl, rfl, rfl⟩
  case round =>
    obtain ⟨k, hk, rfl, rfl, rfl⟩ := hrel
    by_cases hlt : k < 32
    · have hit := crc.it_lt k b hb
      have htm := crc.tms_lt a k b hb
      have h1 := and_bit_u32 a k ha hlt
      have h2 := and_one_u32 _ hit
      have hxp := bits_xor_u32 _ _ htm hit
      have hxq := bits_xor_u32 (crc.it k b / 2) 3988292384 (by omega) (by decide)
      have hm : (2147483648 / 2 ^ k : Nat) = 2 ^ (31 - k) := by
        have h1 : (2147483648 : Nat) = 2 ^ (31 - k) * 2 ^ k := by rw [← Nat.pow_add, show 31 - k + k = 31 by omega]
        rw [h1]; exact Nat.mul_div_cancel _ (Nat.two_pow_pos _)
      have hpos : (0 : Int) < (2147483648 : Int) / 2 ^ k := by
        have h1 : 0 < (2147483648 / 2 ^ k : Nat) := by rw [hm]; exact Nat.two_pow_pos _
        have h2 : ((2147483648 / 2 ^ k : Nat) : Int) = (2147483648 : Int) / 2 ^ k := by simp
        omega
      have hdd : (2147483648 : Int) / 2 ^ k / 2 = ((2147483648 / 2 ^ (k + 1) : Nat) : Int) := by
        have h2 : ((2147483648 / 2 ^ k / 2 : Nat) : Int) = (2147483648 : Int) / 2 ^ k / 2 := by simp
        rw [← h2, Nat.div_div_eq_div_mul, Nat.pow_succ]
      have hless : (intOf (Value.int IntKind.u32 ((2147483648 : Int) / 2 ^ k / 2))).toNat < (intOf (Value.int IntKind.u32 ((2147483648 / 2 ^ k : Nat) : Int))).toNat := by
        have h2 : ((2147483648 / 2 ^ k : Nat) : Int) = (2147483648 : Int) / 2 ^ k := by simp
        rw [h2]; simp only [intOf]; omega
      have HLESS := Lib.hid hless
      have HDD := Lib.hid hdd
      have HXP := Lib.hid hxp
      have HXQ := Lib.hid hxq
      clear hdd hm hxp hxq hless
      by_cases hb2 : crc.it k b % 2 = 1
      all_goals cases hb1 : a.testBit (31 - k)
      all_goals rw [hb1] at h1
      all_goals simp only [hb2, decide_true, decide_false] at h2
      all_goals have HB1 := Lib.hid hb1
      all_goals have HB2 := Lib.hid hb2
      all_goals clear hb1 hb2
      all_goals go_wp2
      · exact ⟨⟨k + 1, by omega, by rw [it_odd k b HB2.out, ← HXQ.out]; rfl, by rw [times_one_even a k b HB1.out], by rw [HDD.out]⟩, HLESS.out⟩
      · exact ⟨⟨k + 1, by omega, by rw [it_odd k b HB2.out, ← HXQ.out]; rfl, by rw [times_one_odd a k b HB1.out, HXP.out], by rw [HDD.out]⟩, HLESS.out⟩
      · exact ⟨⟨k + 1, by omega, by rw [it_even k b HB2.out]; rfl, by rw [times_one_even a k b HB1.out], by rw [HDD.out]⟩, HLESS.out⟩
      · exact ⟨⟨k + 1, by omega, by rw [it_even k b HB2.out]; rfl, by rw [times_one_odd a k b HB1.out, HXP.out], by rw [HDD.out]⟩, HLESS.out⟩
    · obtain rfl : k = 32 := by omega
      go_wp2
      go_ret
      exact ⟨rfl, rfl⟩
end Go.Proofs.YtbjlgcliplalcaaGreatDoor
