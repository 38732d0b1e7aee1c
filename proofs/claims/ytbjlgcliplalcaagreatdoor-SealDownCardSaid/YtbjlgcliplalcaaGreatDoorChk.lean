/-
  THE WALKS of sums.Check and the reference's Check.
-/
import Derived.Test.YtbjlgcliplalcaaGreatDoorChecked
import Derived.Test.YtbjlgcliplalcaaGreatDoorCrc
import Derived.Test.YtbjlgcliplalcaaGreatDoorSmall
import Derived.WalkKit
import Derived.WalkSpells
import Derived.WalkLawsBesides
import Derived.Handy
import Derived.Lib.Hide
namespace Go.Proofs.YtbjlgcliplalcaaGreatDoor
open Go.RowKit

/-- a text's bytes as numbers -/
def bl (s : ByteArray) : List Nat := s.data.toList.map UInt8.toNat
theorem bl_length (s : ByteArray) : (bl s).length = s.size := by simp [bl]
theorem bl_lt (s : ByteArray) : ∀ c ∈ bl s, c < 256 := by
  intro c hc
  simp only [bl, List.mem_map] at hc
  obtain ⟨x, _, rfl⟩ := hc
  exact x.toNat_lt
theorem bl_take (s : ByteArray) (k : Nat) (h : k < s.size) : (bl s).take (k + 1) = (bl s).take k ++ [s[k].toNat] := by
  rw [List.take_succ_eq_append_getElem (by rw [bl_length]; exact h)]
  congr 1
  simp [bl]; rfl
theorem take_lt (s : ByteArray) (k : Nat) : ∀ c ∈ (bl s).take k, c < 256 := fun c hc => bl_lt s c (List.mem_of_mem_take hc)
theorem run_take (s : ByteArray) (k : Nat) (h : k < s.size) : crc.run 4294967295 ((bl s).take (k + 1)) = crc.it 8 (crc.run 4294967295 ((bl s).take k) ^^^ s[k].toNat) := by
  rw [bl_take s k h, crc.run_append]; rfl
theorem run_take_lt (s : ByteArray) (k : Nat) : crc.run 4294967295 ((bl s).take k) < 4294967296 := crc.run_lt _ _ (by decide) (take_lt s k)

theorem step_odd (j y : Nat) (h : crc.it j y % 2 = 1) : crc.it (j + 1) y = crc.it j y / 2 ^^^ 3988292384 := by
  rw [crc.it_succ, crc.stp, if_pos h]; rfl
theorem step_even (j y : Nat) (h : ¬ crc.it j y % 2 = 1) : crc.it (j + 1) y = crc.it j y / 2 := by
  rw [crc.it_succ, crc.stp, if_neg h]
theorem and_one_u32' (x : Nat) (hx : x < 4294967296) : bits .and .u32 (x : Int) 1 = ((x % 2 : Nat) : Int) := by
  have h := bits_and_u32 x 1 hx (by decide)
  rw [show (1 : Int) = ((1 : Nat) : Int) from rfl, h, Nat.and_one_is_mod]
theorem not_u32 (x : Nat) (h : x < 4294967296) : bits .xor .u32 IntKind.u32.max (x : Int) = ((x ^^^ 4294967295 : Nat) : Int) := by
  have e : IntKind.u32.max = ((4294967295 : Nat) : Int) := by decide
  rw [e, bits_xor_u32 4294967295 x (by decide) h, Nat.xor_comm]
theorem check_done (s : ByteArray) : crc.check (bl s) = crc.run 4294967295 ((bl s).take s.size) ^^^ 4294967295 := by
  unfold crc.check
  rw [List.take_of_length_le (by rw [bl_length]; exact Nat.le_refl _)]

set_option maxHeartbeats 400000 in
theorem check_any (s : ByteArray) (hs : s.size ≤ maxLen) (w : World) :
    Calls Tryz.prog 18 #[.string s] w fun e w' => e = .returned (.int .u32 (crc.check (bl s) : Nat)) ∧ w = w' := by
  unfold maxLen at hs
  go_enter Tryz.func18, Tryz.ntmps18
  go_wp2
  go_loop [3, 7] (fun x i => ∃ k : Nat, k ≤ s.size ∧ i = .int .i64 k ∧ x = .int .u32 (crc.run 4294967295 ((bl s).take k) : Nat)) (fun _ i => s.size - (intOf i).toNat)
  case atStart => exact ⟨0, by omega, rfl, rfl⟩
  case round =>
    obtain ⟨k, hk, rfl, rfl⟩ := hrel
    have hlt0 := run_take_lt s k
    by_cases hlt : k < s.size
    · have HR := Lib.hid (run_take s k hlt)
      generalize crc.run 4294967295 ((bl s).take k) = x at *
      have hb : s[k].toNat < 4294967296 := Nat.lt_trans s[k].toNat_lt (by decide)
      have hxor := bits_xor_u32 x _ hlt0 hb
      have hy : x ^^^ s[k].toNat < 4294967296 := Nat.xor_lt_two_pow (n := 32) hlt0 hb
      go_wp2
      clear hxor
      generalize hyy : x ^^^ s[k].toNat = y at *
      have HY := Lib.hid hyy
      clear hyy
      go_loop [3, 16] (fun x i => ∃ j : Nat, j ≤ 8 ∧ i = .int .i64 j ∧ x = .int .u32 (crc.it j y : Nat)) (fun _ i => 8 - (intOf i).toNat)
      case atStart => exact ⟨0, by omega, rfl, rfl⟩
      case round =>
        obtain ⟨j, hj, rfl, rfl⟩ := hrel
        have hit := crc.it_lt j y hy
        by_cases hj8 : j < 8
        · have ha := and_one_u32' _ hit
          by_cases ho : crc.it j y % 2 = 1
          · have HS := Lib.hid (step_odd j y ho)
            rw [ho] at ha
            have hxo := bits_xor_u32 (crc.it j y / 2) 3988292384 (by omega) (by decide)
            clear ho
            generalize crc.it j y = z at *
            have HXO := Lib.hid hxo
            clear hxo
            go_wp2
            go_round
            case rel => exact ⟨j + 1, by omega, by go_num, by rw [HS.out, ← HXO.out]; rfl⟩
            case measure => simp [intOf]; omega
          · have HS := Lib.hid (step_even j y ho)
            have h0 : crc.it j y % 2 = 0 := by omega
            rw [h0] at ha
            have hxo := bits_xor_u32 (crc.it j y / 2) 0 (by omega) (by decide)
            rw [Nat.xor_zero] at hxo
            clear ho h0
            generalize crc.it j y = z at *
            have HXO := Lib.hid hxo
            clear hxo
            go_wp2
            go_round
            case rel => exact ⟨j + 1, by omega, by go_num, by rw [HS.out, ← HXO.out]; rfl⟩
            case measure => simp [intOf]; omega
        · obtain rfl : j = 8 := by omega
          generalize crc.it 8 y = z at *
          go_wp2
          exact ⟨⟨k + 1, by omega, by go_num, by rw [HR.out]⟩, by simp only [intOf]; omega⟩
    · obtain rfl : k = s.size := by omega
      have hd := check_done s
      generalize crc.run 4294967295 ((bl s).take s.size) = x at *
      have HX := Lib.hid (not_u32 x hlt0)
      have HD := Lib.hid hd
      clear hd
      go_wp2
      go_ret
      exact ⟨ret_int (by rw [HD.out, HX.out]), rfl⟩

theorem sub_u64 (x : Nat) (h : x < 4294967296) : (4294967295 : Int) - (x : Int) = ((x ^^^ 4294967295 : Nat) : Int) := by
  have h2 : x ^^^ 4294967295 = 4294967295 - x := by
    have e := BitVec.toNat_not (x := BitVec.ofNat 32 x)
    have hx : (BitVec.ofNat 32 x).toNat = x := by rw [BitVec.toNat_ofNat]; exact Nat.mod_eq_of_lt h
    rw [BitVec.not_def, BitVec.toNat_xor, BitVec.toNat_allOnes, hx] at e
    rw [Nat.xor_comm]
    simpa using e
  rw [h2]; omega

set_option maxHeartbeats 400000 in
theorem refCheck_any (s : ByteArray) (hs : s.size ≤ maxLen) (w : World) :
    Calls Tryz.prog 20 #[.string s] w fun e w' => e = .returned (.int .u32 (crc.check (bl s) : Nat)) ∧ w = w' := by
  unfold maxLen at hs
  go_enter Tryz.func20, Tryz.ntmps20
  go_wp2
  go_loop [3, 4] (fun x i => ∃ k : Nat, k ≤ s.size ∧ i = .int .i64 k ∧ x = .int .u64 (crc.run 4294967295 ((bl s).take k) : Nat)) (fun _ i => s.size - (intOf i).toNat)
  case atStart => exact ⟨0, by omega, rfl, rfl⟩
  case round =>
    obtain ⟨k, hk, rfl, rfl⟩ := hrel
    have hlt0 := run_take_lt s k
    by_cases hlt : k < s.size
    · have HR := Lib.hid (run_take s k hlt)
      generalize crc.run 4294967295 ((bl s).take k) = x at *
      have hb : s[k].toNat < 4294967296 := Nat.lt_trans s[k].toNat_lt (by decide)
      have hxor := bits_xor_u64 x _ (Nat.lt_trans hlt0 (by decide)) (Nat.lt_trans hb (by decide))
      have hy : x ^^^ s[k].toNat < 4294967296 := Nat.xor_lt_two_pow (n := 32) hlt0 hb
      go_wp2
      clear hxor
      generalize hyy : x ^^^ s[k].toNat = y at *
      have HY := Lib.hid hyy
      clear hyy
      go_loop [3, 5] (fun x i => ∃ j : Nat, j ≤ 8 ∧ i = .int .i64 j ∧ x = .int .u64 (crc.it j y : Nat)) (fun _ i => 8 - (intOf i).toNat)
      case atStart => exact ⟨0, by omega, rfl, rfl⟩
      case round =>
        obtain ⟨j, hj, rfl, rfl⟩ := hrel
        have hit := crc.it_lt j y hy
        by_cases hj8 : j < 8
        · by_cases ho : crc.it j y % 2 = 1
          · have HS := Lib.hid (step_odd j y ho)
            have hxo := bits_xor_u64 (crc.it j y / 2) 3988292384 (by omega) (by decide)
            have h1 : ((crc.it j y : Nat) : Int) % 2 = 1 := by omega
            clear ho
            generalize crc.it j y = z at *
            have HXO := Lib.hid hxo
            clear hxo
            go_wp2
            go_round
            case rel => exact ⟨j + 1, by omega, by go_num, by rw [HS.out, ← HXO.out]; rfl⟩
            case measure => simp [intOf]; omega
          · have HS := Lib.hid (step_even j y ho)
            have h1 : ((crc.it j y : Nat) : Int) % 2 = 0 := by omega
            clear ho
            generalize crc.it j y = z at *
            go_wp2
            go_round
            case rel => exact ⟨j + 1, by omega, by go_num, by rw [HS.out]; rfl⟩
            case measure => simp [intOf]; omega
        · obtain rfl : j = 8 := by omega
          generalize crc.it 8 y = z at *
          go_wp2
          exact ⟨⟨k + 1, by omega, by go_num, by rw [HR.out]⟩, by simp only [intOf]; omega⟩
    · obtain rfl : k = s.size := by omega
      have hd := check_done s
      generalize crc.run 4294967295 ((bl s).take s.size) = x at *
      have HX := Lib.hid (sub_u64 x hlt0)
      have HD := Lib.hid hd
      clear hd
      go_wp2
      go_ret
      exact ⟨ret_int (by rw [HD.out, ← HX.out]), rfl⟩
end Go.Proofs.YtbjlgcliplalcaaGreatDoor
