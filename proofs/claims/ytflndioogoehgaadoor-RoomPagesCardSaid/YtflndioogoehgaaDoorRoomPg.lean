/-
  RoomPages, walked.
-/
import Derived.Test.YtflndioogoehgaaDoorAwake7b
namespace Go.Proofs.YtflndioogoehgaaDoor
open Go.RowKit Go.MapKept
set_option maxRecDepth 100000

theorem pagesOf_fits (h : Int) : pagesOf h = 0 ∨ (1 + pagesOf h + (pagesOf h + 4095) / 4096 ≤ min h 1048576 ∧ min h 1048576 < 1 + pagesOf h + 1 + (pagesOf h + 1 + 4095) / 4096) := by
  unfold pagesOf
  split
  · exact .inl rfl
  · omega

set_option maxHeartbeats 1000000 in
theorem roomPages_walk (h : Int) (w : World) : Calls Tryd.prog 3 #[.int .i64 h] w fun e w' => e = .returned (.bool true) ∧ Below w.heap.size w w' := by
  have HA := Lib.hid (awake7_any w)
  have HP := Lib.hid (fun u => roomPages_any h u)
  have HR := Lib.hid (fun u => refPages_any h u)
  have hf := pagesOf_fits h
  have hb := pagesOf_bd h
  generalize pagesOf h = p at *
  obtain ⟨H, hH⟩ : ∃ H, min h 1048576 = H := ⟨_, rfl⟩
  rw [hH] at hf
  have hHb : H ≤ 1048576 := by omega
  have e0 : (p != p) = false := by simp
  rcases hf with rfl | ⟨h1, h2⟩
  · go_enter Tryd.func3, Tryd.ntmps3
    go_wp2_with (first
      | (go_at_call 13; refine (HA.out).mono ?_; rintro e w1 ⟨rfl, hb1⟩)
      | (go_at_call 14; refine (HP.out _).mono ?_; rintro e w2 ⟨rfl, rfl⟩)
      | (go_at_call 15; refine (HR.out _).mono ?_; rintro e w2 ⟨rfl, rfl⟩))
    go_ret
    exact ⟨rfl, hb1⟩
  · have hp0 : (p == 0) = false ∨ p = 0 := by by_cases hz : p = 0 <;> simp [hz]
    rcases hp0 with hp0 | rfl
    · have e1 : decide (1 + p + (p + 4095) / 4096 ≤ H) = true := by simpa using h1
      have e2 : decide (H < 1 + p + 1 + (p + 1 + 4095) / 4096) = true := by simpa using h2
      clear h1 h2
      go_enter Tryd.func3, Tryd.ntmps3
      go_wp2_with (first
        | (go_at_call 13; refine (HA.out).mono ?_; rintro e w1 ⟨rfl, hb1⟩)
        | (go_at_call 14; refine (HP.out _).mono ?_; rintro e w2 ⟨rfl, rfl⟩)
        | (go_at_call 15; refine (HR.out _).mono ?_; rintro e w2 ⟨rfl, rfl⟩))
      go_ret
      exact ⟨rfl, hb1⟩
    · clear h1 h2
      go_enter Tryd.func3, Tryd.ntmps3
      go_wp2_with (first
        | (go_at_call 13; refine (HA.out).mono ?_; rintro e w1 ⟨rfl, hb1⟩)
        | (go_at_call 14; refine (HP.out _).mono ?_; rintro e w2 ⟨rfl, rfl⟩)
        | (go_at_call 15; refine (HR.out _).mono ?_; rintro e w2 ⟨rfl, rfl⟩))
      go_ret
      exact ⟨rfl, hb1⟩
end Go.Proofs.YtflndioogoehgaaDoor
