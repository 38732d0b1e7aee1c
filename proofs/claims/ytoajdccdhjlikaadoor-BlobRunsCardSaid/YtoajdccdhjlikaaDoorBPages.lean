/-
  BlobPages, walked.
-/
import Derived.Test.YtoajdccdhjlikaaDoorAwake8
namespace Go.Proofs.YtoajdccdhjlikaaDoor
open Go.RowKit Go.MapKept
set_option maxRecDepth 100000

/-- how many pages any number of bytes takes -/
def pagesI (n : Int) : Int := if n ≤ 506 then 1 else (n - 1) / 506 + 1
theorem blobPages_int (n : Int) (hn : n ≤ 1073741824) (w : World) :
    Calls Tryd.prog 23 #[.int .i64 n] w fun e w' => e = .returned (.int .i64 (pagesI n)) ∧ w = w' := by
  by_cases h : n ≤ 506
  · have e1 : decide (n ≤ 506) = true := by simpa using h
    have e2 : pagesI n = 1 := by unfold pagesI; rw [if_pos h]
    rw [e2]
    clear e2
    go_enter Tryd.func23, Tryd.ntmps23
    go_wp2
    go_ret
    exact ⟨rfl, rfl⟩
  · have e1 : decide (n ≤ 506) = false := by simpa using h
    have e2 : pagesI n = (n - 1) / 506 + 1 := by unfold pagesI; rw [if_neg h]
    rw [e2]
    clear e2
    go_enter Tryd.func23, Tryd.ntmps23
    go_wp2
    go_ret
    exact ⟨rfl, rfl⟩
theorem pagesI_nat (n : Nat) : pagesI n = (pagesB n : Nat) := by
  unfold pagesI pagesB
  by_cases h : n ≤ 506
  · rw [if_pos (by omega), if_pos h]; rfl
  · rw [if_neg (by omega), if_neg h]; omega
set_option maxHeartbeats 1000000 in
theorem ref8Pages (n : Int) (hn : n ≤ 1073741824) (w : World) :
    Calls Tryd.prog 24 #[.int .i64 n] w fun e w' => e = .returned (.int .i64 (pagesI n)) ∧ w = w' := by
  go_enter Tryd.func24, Tryd.ntmps24
  go_wp2
  go_loop [3] (fun t => ∃ p : Int, t = .int .i64 p ∧ 1 ≤ p ∧ (p = 1 ∨ 506 * (p - 1) < n)) (fun t => (n - 506 * intOf t).toNat)
  case atStart => exact ⟨1, rfl, by omega, .inl rfl⟩
  case round =>
    obtain ⟨p, rfl, hp1, hp2⟩ := hrel
    have hpb : p ≤ 2200000 := by omega
    by_cases hlt : 506 * p < n
    · have g1 : decide (506 * p < n) = true := by simpa using hlt
      have h0 : 0 ≤ n - 506 * p := by omega
      go_wp2
      go_round
      case rel => exact ⟨p + 1 + (n - 506 * p) / 1012, rfl, by omega, .inr (by omega)⟩
      case measure => simp [intOf]; omega
    · have g1 : decide (506 * p < n) = false := by simpa using hlt
      have hv : p = pagesI n := by
        unfold pagesI
        split
        · omega
        · omega
      have HV := Lib.hid hv
      clear hv hlt
      go_wp2
      go_ret
      exact ⟨by rw [← HV.out]; rfl, rfl⟩
set_option maxHeartbeats 1000000 in
theorem bpages_walk (n : Int) (w : World) :
    Calls Tryd.prog 4 #[.int .i64 n] w fun e w' => e = .returned (.bool true) ∧ Below w.heap.size w w' := by
  have HA := Lib.hid (awake8_any w)
  by_cases hbig : 1073741824 < n
  · have e1 : decide (1073741824 < n) = true := by simpa using hbig
    clear hbig
    go_enter Tryd.func4, Tryd.ntmps4
    go_wp2_with (go_at_call 22; refine (HA.out).mono ?_; rintro e w1 ⟨rfl, hb1⟩)
    go_ret
    exact ⟨rfl, hb1⟩
  · have e1 : decide (1073741824 < n) = false := by simpa using hbig
    have HP := Lib.hid (fun u => blobPages_int n (by omega) u)
    have HR := Lib.hid (fun u => ref8Pages n (by omega) u)
    have hp1 : 1 ≤ pagesI n := by unfold pagesI; split <;> omega
    have hp2 : pagesI n ≤ 3000000 := by unfold pagesI; split <;> omega
    have hp3 : n ≤ 506 ∨ (n ≤ 506 * pagesI n ∧ 506 * (pagesI n - 1) < n) := by unfold pagesI; split <;> omega
    generalize pagesI n = p at *
    have d1 : decide (1 ≤ p) = true := by simpa using hp1
    by_cases hn : n ≤ 506
    · have d2 : decide (n ≤ 506) = true := by simpa using hn
      clear hp3 hn hbig
      go_enter Tryd.func4, Tryd.ntmps4
      go_wp2_with (first
        | (go_at_call 22; refine (HA.out).mono ?_; rintro e w1 ⟨rfl, hb1⟩)
        | (go_at_call 23; refine (HP.out _).mono ?_; rintro e w2 ⟨rfl, rfl⟩)
        | (go_at_call 24; refine (HR.out _).mono ?_; rintro e w3 ⟨rfl, rfl⟩))
      go_ret
      exact ⟨rfl, hb1⟩
    · have d2 : decide (n ≤ 506) = false := by simpa using hn
      obtain ⟨h1, h2⟩ : n ≤ 506 * p ∧ 506 * (p - 1) < n := by omega
      have d3 : decide (n ≤ 506 * p) = true := by simpa using h1
      have d4 : decide (506 * (p - 1) < n) = true := by simpa using h2
      clear hp3 hn hbig
      go_enter Tryd.func4, Tryd.ntmps4
      go_wp2_with (first
        | (go_at_call 22; refine (HA.out).mono ?_; rintro e w1 ⟨rfl, hb1⟩)
        | (go_at_call 23; refine (HP.out _).mono ?_; rintro e w2 ⟨rfl, rfl⟩)
        | (go_at_call 24; refine (HR.out _).mono ?_; rintro e w3 ⟨rfl, rfl⟩))
      go_ret
      exact ⟨rfl, hb1⟩
end Go.Proofs.YtoajdccdhjlikaaDoor
