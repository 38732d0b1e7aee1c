/-
  ROOMS (room): Root, SetRoot.
-/
import Derived.Test.YtoajdccdhjlikaaDoorBuild
import Derived.Test.YtoajdccdhjlikaaDoorAwake7
namespace Go.Proofs.YtoajdccdhjlikaaDoor
open Go.RowKit Go.MapKept
attribute [local go_sem] gives givesH
set_option maxRecDepth 100000

/-- the number at place k of home 0 -/
def rootUp (s : ByteArray) (k i : Nat) : Nat := (List.range i).foldl (fun x j => x * 256 % 18446744073709551616 + byteN s (8 * k + j)) 0
theorem rootUp_succ (s : ByteArray) (k i : Nat) : rootUp s k (i + 1) = rootUp s k i * 256 % 18446744073709551616 + byteN s (8 * k + i) := by
  unfold rootUp
  rw [List.range_succ, List.foldl_append]
  rfl
theorem rootUp_lt (s : ByteArray) (k i : Nat) : rootUp s k i < 18446744073709551616 := by
  cases i with
  | zero => show 0 < 18446744073709551616; omega
  | succ i => rw [rootUp_succ]; have := byteN_lt s (8 * k + i); omega
def RoomS.root (R : RoomS) (k : Nat) : Nat := rootUp (R.home 0) k 8
theorem orR (x : Nat) (c : Nat) (hc : c < 256) : bits .or .u64 (IntKind.u64.wrap ((x : Int) * 256)) (c : Int) = ((x * 256 % 18446744073709551616 + c : Nat) : Int) := by
  have := orT x (UInt8.ofNat c)
  unfold stepT at this
  have e : (UInt8.ofNat c).toNat = c := by simp; omega
  rwa [e] at this

set_option maxHeartbeats 1000000 in
theorem root_any {w : World} {br : Nat} {R : RoomS} (h : RoomAt w br R) (k : Nat) (hk : k < 16) :
    Calls Tryd.prog 21 #[.pointer (some ⟨br, 0, none⟩), .int .i64 k] w fun e w' => e = .returned (.tuple #[.int .u64 (R.root k), .int .i64 0]) ∧ Below w.heap.size w w' := by
  have HM := Lib.hid (home_in h h.pos)
  have hsz : (R.home ((0 : Nat) : Int)).size = 512 := h.home_size _
  have e1 : decide ((k : Int) < 0) = false := by simp
  have e2 : decide ((16 : Int) ≤ (k : Int)) = false := by simp; omega
  have hroot : R.root k = rootUp (R.home ((0 : Nat) : Int)) k 8 := rfl
  rw [hroot]
  generalize R.home ((0 : Nat) : Int) = s at *
  clear h hroot
  go_enter Tryd.func21, Tryd.ntmps21
  go_wp2_with (fail)
  refine (HM.out).mono ?_
  rintro e w1 ⟨rfl, hb1⟩
  go_wp2
  go_loop [8, 26] (fun x i => ∃ j : Nat, j ≤ 8 ∧ i = .int .i64 j ∧ x = .int .u64 (rootUp s k j)) (fun _ i => 8 - (intOf i).toNat)
  case atStart => exact ⟨0, by omega, rfl, rfl⟩
  case round =>
    obtain ⟨j, hj, rfl, rfl⟩ := hrel
    by_cases hlt : j < 8
    · have f1 : decide ((j : Int) < 8) = true := by simp; omega
      have hs1 := rootUp_succ s k j
      obtain ⟨q, hq⟩ : ∃ q, q = 8 * k + j := ⟨_, rfl⟩
      have hx := orR (rootUp s k j) (byteN s q) (byteN_lt _ _)
      have hkj : q < s.size := by omega
      have hbn := byteN_get s q hkj
      have hw : IntKind.u64.wrap ((byteN s q : Nat) : Int) = ((byteN s q : Nat) : Int) := by have := byteN_lt s q; rw [IntKind.wrap_u64]; omega
      rw [← hq] at hs1
      generalize byteN s q = c at *
      generalize rootUp s k j = x at *
      generalize x * 256 % 18446744073709551616 + c = y at *
      have HS1 := Lib.hid hs1
      have e5 : (8 : Int) * (k : Int) + (j : Int) = (q : Int) := by omega
      have hj0 : (0 : Int) ≤ (j : Int) := by omega
      have hk16 : (k : Int) < 16 := by omega
      have hq0 : (0 : Int) ≤ (q : Int) := by omega
      have hq1 : (q : Int) < 512 := by omega
      clear hs1 hq
      go_wp2
      go_round
      case rel => exact ⟨j + 1, by omega, by go_num, by rw [HS1.out]⟩
      case measure => simp [intOf]; omega
    · obtain rfl : j = 8 := by omega
      go_wp2
      go_ret2
      exact ⟨rfl, hb1⟩
end Go.Proofs.YtoajdccdhjlikaaDoor
