/-
  SMALL LAWS: bits of unsigned numbers as natural numbers. No program in sight.
-/
import Derived.WalkKit
import Derived.Laws.BitsLemmas
import Derived.Lib.Hide
namespace Go.Proofs.YtbjlgcliplalcaaGreatDoor

theorem ret_int {k : IntKind} {a b : Int} (h : a = b) : Ending.returned (.int k a) = .returned (.int k b) := by rw [h]

theorem wraps_u32 (n : Int) (h₀ : 0 ≤ n) (h₁ : n < 2 ^ 32) : IntKind.u32.wrap n = n := by rw [IntKind.wrap_u32]; omega
theorem wraps_i64 (n : Int) (h₀ : 0 ≤ n) (h₁ : n < 2 ^ 63) : IntKind.i64.wrap n = n := by rw [IntKind.wrap_i64]; omega
theorem bits_and_u32 (a b : Nat) (ha : a < 4294967296) (hb : b < 4294967296) : bits .and .u32 a b = ((a &&& b : Nat) : Int) :=
  (bits_nat .u32 32 (by decide) wraps_u32 a b ha hb).1
theorem bits_xor_u32 (a b : Nat) (ha : a < 4294967296) (hb : b < 4294967296) : bits .xor .u32 a b = ((a ^^^ b : Nat) : Int) := by
  have ha' : a % 2 ^ IntKind.u32.bits = a := Nat.mod_eq_of_lt ha
  have hb' : b % 2 ^ IntKind.u32.bits = b := Nat.mod_eq_of_lt hb
  have hx : a ^^^ b < 4294967296 := Nat.xor_lt_two_pow (n := 32) ha hb
  simp only [bits, BitVec.ofInt_natCast, BitVec.toNat_xor, BitVec.toNat_ofNat, ha', hb']
  exact wraps_u32 _ (Int.natCast_nonneg _) (by omega)
theorem bits_xor_u64 (a b : Nat) (ha : a < 18446744073709551616) (hb : b < 18446744073709551616) : bits .xor .u64 a b = ((a ^^^ b : Nat) : Int) := bits_xor_u64_nat a b ha hb

theorem and_two_pow (a j : Nat) : (a &&& 2 ^ j != 0) = a.testBit j := by
  cases h : a.testBit j
  · have : a &&& 2 ^ j = 0 := by
      apply Nat.eq_of_testBit_eq
      intro i
      rw [Nat.testBit_and, Nat.testBit_two_pow, Nat.zero_testBit]
      by_cases hi : j = i
      · subst hi; simp [h]
      · simp [hi]
    rw [this]; rfl
  · have : a &&& 2 ^ j ≠ 0 := by
      intro h0
      have h1 : (a &&& 2 ^ j).testBit j = true := by rw [Nat.testBit_and, Nat.testBit_two_pow, h]; simp
      rw [h0, Nat.zero_testBit] at h1
      cases h1
    exact bne_iff_ne.2 this
theorem and_bit_u32 (a k : Nat) (ha : a < 4294967296) (hk : k < 32) : (bits .and .u32 (a : Int) ((2147483648 : Int) / 2 ^ k) != 0) = a.testBit (31 - k) := by
  have e : ((2147483648 : Int) / 2 ^ k) = ((2 ^ (31 - k) : Nat) : Int) := by
    have h1 : (2147483648 : Nat) = 2 ^ (31 - k) * 2 ^ k := by rw [← Nat.pow_add, show 31 - k + k = 31 by omega]
    have h2 : (2147483648 : Nat) / 2 ^ k = 2 ^ (31 - k) := by rw [h1]; exact Nat.mul_div_cancel _ (Nat.two_pow_pos _)
    rw [← h2]; simp
  have h3 : 2 ^ (31 - k) < 4294967296 := Nat.lt_of_le_of_lt (Nat.pow_le_pow_right (by decide) (by omega : 31 - k ≤ 31)) (by decide)
  rw [e, bits_and_u32 a _ ha h3, ← and_two_pow]
  generalize a &&& 2 ^ (31 - k) = x
  cases x
  · rfl
  · simp; omega
theorem and_one_u32 (x : Nat) (hx : x < 4294967296) : (bits .and .u32 (x : Int) 1 != 0) = decide (x % 2 = 1) := by
  have h := bits_and_u32 x 1 hx (by decide)
  rw [show (1 : Int) = ((1 : Nat) : Int) from rfl, h, Nat.and_one_is_mod]
  rcases Nat.mod_two_eq_zero_or_one x with h | h <;> rw [h] <;> rfl
end Go.Proofs.YtbjlgcliplalcaaGreatDoor
