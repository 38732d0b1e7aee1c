/-
  THE WALKS of seal.power, seal.back.
-/
import Derived.Test.YtbjlgcliplalcaaGreatDoorTimes
namespace Go.Proofs.YtbjlgcliplalcaaGreatDoor
open Go.RowKit

theorem and_one_i64 (x : Nat) (hx : x < 9223372036854775808) : (bits .and .i64 (x : Int) 1 != 0) = decide (x % 2 = 1) := by
  have h := (bits_nat .i64 63 (by decide) wraps_i64 x 1 hx (by decide)).1
  rw [show (1 : Int) = ((1 : Nat) : Int) from rfl, h, Nat.and_one_is_mod]
  rcases Nat.mod_two_eq_zero_or_one x with h | h <;> rw [h] <;> rfl

theorem exp_odd {N j e n : Nat} (h : N * 2 ^ j + e = n) (ho : N % 2 = 1) : N / 2 * 2 ^ (j + 1) + (e + 2 ^ j) = n := by
  have : N = N / 2 * 2 + 1 := by omega
  rw [← h, Nat.pow_succ]
  conv => rhs; rw [this]
  rw [Nat.add_mul, Nat.mul_assoc, Nat.mul_comm 2 (2 ^ j)]
  omega
theorem exp_even {N j e n : Nat} (h : N * 2 ^ j + e = n) (ho : ¬ N % 2 = 1) : N / 2 * 2 ^ (j + 1) + e = n := by
  have : N = N / 2 * 2 := by omega
  rw [← h, Nat.pow_succ]
  conv => rhs; rw [this]
  rw [Nat.mul_assoc, Nat.mul_comm 2 (2 ^ j)]
theorem p_odd (e j : Nat) : crc.times (crc.it (8 * e) crc.one) (crc.it (8 * 2 ^ j) crc.one) = crc.it (8 * (e + 2 ^ j)) crc.one := by
  rw [crc.it_mul_one, Nat.mul_add]
theorem q_next (j : Nat) : crc.times (crc.it (8 * 2 ^ j) crc.one) (crc.it (8 * 2 ^ j) crc.one) = crc.it (8 * 2 ^ (j + 1)) crc.one := by
  rw [crc.it_mul_one, Nat.pow_succ]; congr 1; omega

set_option maxHeartbeats 400000 in
theorem power_nat (n : Nat) (hn : n < 9223372036854775808) (w : World) :
    Calls Tryz.prog 24 #[.int .i64 n] w fun e w' => e = .returned (.int .u32 (crc.it (8 * n) crc.one : Nat)) ∧ w = w' := by
  go_enter Tryz.func24, Tryz.ntmps24
  go_wp2
  go_loop [0, 3, 4] (fun x p q => ∃ N j e : Nat, N < 9223372036854775808 ∧ N * 2 ^ j + e = n ∧ x = .int .i64 N ∧ p = .int .u32 (crc.it (8 * e) crc.one : Nat) ∧ q = .int .u32 (crc.it (8 * 2 ^ j) crc.one : Nat)) (fun x _ _ => (intOf x).toNat)
  case atStart => exact ⟨n, 0, 0, hn, by omega, rfl, rfl, rfl⟩
  case round =>
    obtain ⟨N, j, e, hN, hne, rfl, rfl, rfl⟩ := hrel
    have HNE := Lib.hid hne
    clear hne
    have hp := crc.it_lt (8 * e) _ crc.one_lt
    have hq := crc.it_lt (8 * 2 ^ j) _ crc.one_lt
    have h1 := and_one_i64 N hN
    have HP := Lib.hid (p_odd e j)
    have HQ := Lib.hid (q_next j)
    generalize hP : crc.it (8 * e) crc.one = P at *
    have HPP := Lib.hid hP
    clear hP
    generalize crc.it (8 * 2 ^ j) crc.one = Q at *
    by_cases h0 : N = 0
    · subst h0
      have e0 : e = n := by have := HNE.out; omega
      subst e0
      go_wp2
      go_ret
      exact ⟨by rw [HPP.out]; rfl, rfl⟩
    · by_cases ho : N % 2 = 1
      · simp only [ho, decide_true] at h1
        have HO := Lib.hid ho
        clear ho
        go_wp2_with (go_at_call 23; refine (times_any _ _ (by assumption) (by assumption) _).mono ?_; rintro e w' ⟨rfl, rfl⟩)
        go_round
        case rel => exact ⟨N / 2, j + 1, e + 2 ^ j, by omega, exp_odd HNE.out HO.out, by go_num, by rw [HP.out], by rw [HQ.out]⟩
        case measure => simp [intOf]; omega
      · simp only [ho, decide_false] at h1
        have HO := Lib.hid ho
        clear ho
        go_wp2_with (go_at_call 23; refine (times_any _ _ (by assumption) (by assumption) _).mono ?_; rintro e w' ⟨rfl, rfl⟩)
        go_round
        case rel => exact ⟨N / 2, j + 1, e, by omega, exp_even HNE.out HO.out, by go_num, by rw [HPP.out], by rw [HQ.out]⟩
        case measure => simp [intOf]; omega

set_option maxHeartbeats 400000 in
theorem power_neg (n : Int) (hn : n < 0) (w : World) :
    Calls Tryz.prog 24 #[.int .i64 n] w fun e w' => e = .returned (.int .u32 (crc.one : Nat)) ∧ w = w' := by
  go_enter Tryz.func24, Tryz.ntmps24
  go_wp2
  go_loop [0, 3, 4] (fun x p _ => x = .int .i64 n ∧ p = .int .u32 (crc.one : Nat)) (fun _ _ _ => 0)
  case atStart => exact ⟨rfl, rfl⟩
  case round =>
    obtain ⟨rfl, rfl⟩ := hrel
    go_wp2
    go_ret
    exact ⟨rfl, rfl⟩
/-- x to the 8 n; 1 where n is below 0 -/
def powN (n : Int) : Nat := crc.it (8 * n.toNat) crc.one
theorem powN_lt (n : Int) : powN n < 4294967296 := crc.it_lt _ _ crc.one_lt
theorem power_any (n : Int) (hn : n < 9223372036854775808) (w : World) :
    Calls Tryz.prog 24 #[.int .i64 n] w fun e w' => e = .returned (.int .u32 (powN n : Nat)) ∧ w = w' := by
  by_cases h : 0 ≤ n
  · obtain ⟨N, rfl⟩ := Int.eq_ofNat_of_zero_le h
    exact power_nat N (by omega) w
  · have e : powN n = crc.one := by unfold powN; rw [show n.toNat = 0 by omega]; rfl
    rw [e]
    exact power_neg n (by omega) w

theorem times_x2 (e j : Nat) : crc.times (crc.it e crc.one) (crc.it (2 ^ j) crc.one) = crc.it (e + 2 ^ j) crc.one := crc.it_mul_one _ _
theorem sq_next (j : Nat) : crc.times (crc.it (2 ^ j) crc.one) (crc.it (2 ^ j) crc.one) = crc.it (2 ^ (j + 1)) crc.one := by
  rw [crc.it_mul_one, Nat.pow_succ]; congr 1; omega
/-- how often x is missing -/
def backN (n : Nat) : Nat := (4294967295 - 8 * (n % 4294967295) % 4294967295) % 4294967295
theorem backN_lt (n : Nat) : backN n < 4294967295 := Nat.mod_lt _ (by omega)
theorem backN_eq (n : Nat) : ∃ k, 8 * n + backN n = 4294967295 * k := by
  refine ⟨(8 * n + backN n) / 4294967295, ?_⟩
  unfold backN
  omega

set_option maxHeartbeats 400000 in
theorem back_nat (n : Nat) (hn : n < 9223372036854775808) (w : World) :
    Calls Tryz.prog 26 #[.int .i64 n] w fun e w' => e = .returned (.int .u32 (crc.it (backN n) crc.one : Nat)) ∧ w = w' := by
  have hb := backN_lt n
  have hdef : (4294967295 - 8 * ((n : Int) % 4294967295) % 4294967295) % 4294967295 = (backN n : Int) := by
    unfold backN
    omega
  have hz : (4294967295 - 8 * ((n : Int) % 4294967295) % 4294967295) % 4294967295 = -(8 * ((n : Int) % 4294967295) % 4294967295) % 4294967295 := by omega
  generalize backN n = M at *
  rw [hz] at hdef
  have HZ := Lib.hid hz
  clear hz
  have HD := Lib.hid hdef
  clear hdef
  go_enter Tryz.func26, Tryz.ntmps26
  go_wp2
  rw [HZ.out]
  go_loop [3, 4, 5] (fun x p q => ∃ N j e : Nat, N < 4294967295 ∧ N * 2 ^ j + e = M ∧ x = .int .i64 N ∧ p = .int .u32 (crc.it e crc.one : Nat) ∧ q = .int .u32 (crc.it (2 ^ j) crc.one : Nat)) (fun x _ _ => (intOf x).toNat)
  case atStart => exact ⟨M, 0, 0, hb, by omega, by rw [← HD.out], rfl, rfl⟩
  case round =>
    obtain ⟨N, j, e, hN, hne, rfl, rfl, rfl⟩ := hrel
    have HNE := Lib.hid hne
    clear hne
    have hp := crc.it_lt e _ crc.one_lt
    have hq := crc.it_lt (2 ^ j) _ crc.one_lt
    have h1 := and_one_i64 N (by omega)
    have HP := Lib.hid (times_x2 e j)
    have HQ := Lib.hid (sq_next j)
    generalize hP : crc.it e crc.one = P at *
    have HPP := Lib.hid hP
    clear hP
    generalize crc.it (2 ^ j) crc.one = Q at *
    by_cases h0 : N = 0
    · subst h0
      have e0 : e = M := by have := HNE.out; omega
      subst e0
      go_wp2
      go_ret
      exact ⟨by rw [HPP.out]; rfl, rfl⟩
    · by_cases ho : N % 2 = 1
      · simp only [ho, decide_true] at h1
        have HO := Lib.hid ho
        clear ho
        go_wp2_with (go_at_call 23; refine (times_any _ _ (by assumption) (by assumption) _).mono ?_; rintro e w' ⟨rfl, rfl⟩)
        go_round
        case rel => exact ⟨N / 2, j + 1, e + 2 ^ j, by omega, exp_odd HNE.out HO.out, by go_num, by rw [HP.out], by rw [HQ.out]⟩
        case measure => simp [intOf]; omega
      · simp only [ho, decide_false] at h1
        have HO := Lib.hid ho
        clear ho
        go_wp2_with (go_at_call 23; refine (times_any _ _ (by assumption) (by assumption) _).mono ?_; rintro e w' ⟨rfl, rfl⟩)
        go_round
        case rel => exact ⟨N / 2, j + 1, e, by omega, exp_even HNE.out HO.out, by go_num, by rw [HPP.out], by rw [HQ.out]⟩
        case measure => simp [intOf]; omega
end Go.Proofs.YtbjlgcliplalcaaGreatDoor
