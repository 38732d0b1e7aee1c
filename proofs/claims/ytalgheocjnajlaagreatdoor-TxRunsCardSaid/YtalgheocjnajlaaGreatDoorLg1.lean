/-
  THE LOG, walked: number, sectors, goOn.
-/
import Derived.Test.YtalgheocjnajlaaGreatDoorLgP
import Derived.Test.YtalgheocjnajlaaGreatDoorDk2
import Derived.Test.YtalgheocjnajlaaGreatDoorBuildR
namespace Go.Proofs.YtalgheocjnajlaaGreatDoor
open Go.RowKit Go.MapKept
attribute [local go_sem] gives givesH
set_option maxRecDepth 100000

theorem infoByte : (Tryz.prog.info? 5).map (fun i => (i.zero, i.size, i.bytes)) = some (some (.int .u8 0), 1, 1) := by kernel_rfl
theorem bytesOf (l : List UInt8) : (⟨l.toArray⟩ : ByteArray).data.toList = l := by simp
set_option maxHeartbeats 1000000 in
theorem number_any (x n : Nat) (hx : x < 18446744073709551616) (h1 : 1 ≤ n) (h8 : n ≤ 8) (w : World) :
    Calls Tryz.prog 111 #[.int .u64 x, .int .i64 n] w fun e w' => e = .returned (.string ⟨(numL x n).toArray⟩) ∧ Below w.heap.size w w' := by
  obtain ⟨i0, hi0, hz0, hz1, hz2⟩ := info_parts infoByte
  have HI := Lib.hid hi0
  have Hz0 := Lib.hid hz0
  have Hz1 := Lib.hid hz1
  have Hz2 := Lib.hid hz2
  have HX := Lib.hid hx
  have hln : (numL x n).length = n := numL_length x n
  have HLN := Lib.hid hln
  have HG := Lib.hid (fun k (hk : k < n) => numL_get x n k hk)
  have hCV := fun u (b : Nat) (hu : Lib.Bytes u b 0 ⟨(numL x n).toArray⟩) c => Lib.run_convert_whole (P := Tryz.prog) u 113 5 9 Tryz.underlying113 Tryz.underlying5 Tryz.underlying9 b 0 ⟨(numL x n).toArray⟩ hu c
  have hsz : (⟨(numL x n).toArray⟩ : ByteArray).size = n := by rw [size_of, hln]
  rw [hsz] at hCV
  have HCV := Lib.hid hCV
  generalize numL x n = L at *
  clear hi0 hz0 hz1 hz2 hx hln hCV hsz
  go_enter Tryz.func111, Tryz.ntmps111
  go_wp2
  go_loopw [5, 6] (fun v i wr => ∃ k : Nat, k ≤ n ∧ i = .int .i64 ((n : Int) - 1 - (k : Int)) ∧ wr.ownsRow w.heap.size 5 1 v k (Lib.byteCells (L.take k)) ∧ Below w.heap.size w wr) (fun _ i _ => (intOf i + 2).toNat)
  case atStart => exact ⟨0, by omega, by simp, by rw [List.take_zero]; exact World.ownsRow_nil _ _ _ _, Below.refl _ _⟩
  case round =>
    obtain ⟨k, hk, rfl, hrow, hb⟩ := hrel
    have HRow := Lib.hid hrow
    have HB := Lib.hid hb
    clear hrow hb
    by_cases hlt : k < n
    · obtain ⟨m, hm⟩ : ∃ m : Nat, (n : Int) - 1 - (k : Int) = (m : Int) := ⟨n - 1 - k, by omega⟩
      rw [hm]
      have hm7 : m ≤ 7 := by omega
      obtain ⟨q, hq⟩ : ∃ q, q = 8 * m := ⟨_, rfl⟩
      have e5 : (8 : Int) * (m : Int) = (q : Int) := by omega
      have hq0 : (0 : Int) ≤ (q : Int) := by omega
      have hq1 : (q : Int) ≤ 56 := by omega
      have hq2 : q ≤ 56 := by omega
      have hm0 : (0 : Int) ≤ (m : Int) := by omega
      have f1 : decide ((0 : Int) ≤ (m : Int)) = true := by simp
      have f2 : decide ((0 : Int) ≤ (q : Int)) = true := by simp
      have hce : L.take k ++ [UInt8.ofNat (x / 2 ^ q % 256)] = L.take (k + 1) := by
        have h1 := HG.out k hlt
        have h2 : 256 ^ (n - 1 - k) = 2 ^ q := by rw [show (256 : Nat) = 2 ^ 8 by decide, ← Nat.pow_mul, show n - 1 - k = m by omega, hq]
        rw [h2] at h1
        rw [List.take_add_one, h1]
        rfl
      have hcz : ((x : Int) / 2 ^ q % 256) = ((UInt8.ofNat (x / 2 ^ q % 256)).toNat : Int) := by
        have h2 : (UInt8.ofNat (x / 2 ^ q % 256)).toNat = x / 2 ^ q % 256 := by simp
        rw [h2]
        simp
      have HCE := Lib.hid hce
      have HCZ := Lib.hid hcz
      have HM := Lib.hid hm
      clear hce hcz hq hm
      go_wp2_with (at_builtin
                   refine wpList_append_own_at _ (by rfl) _ _ 113 (by rfl) w.heap.size 5 i0 _ 1 1 Tryz.underlying113 HI.out Hz0.out Hz1.out Hz2.out (by rfl) (by decide) _ _ _ (by rfl) (HRow.out.alloc _) ⟨wr.heap.size, 0, none⟩ 1 1 [.int .u8 ((x : Int) / 2 ^ q % 256)] (by rfl) (by rfl) (World.news_of_block (cs := #[.int .u8 ((x : Int) / 2 ^ q % 256)]) (t := 5) (fr := (0, 0)) (heap_alloc_new wr _)) (by simp [Value.oneCell']) (by unfold maxLen; omega) (by omega) ?_ ?_
                   · have := HB.out.size; simp; omega
                   intro v' w8 hown8 hg8 hnil hloc
                   rw [HCZ.out, ← byteCells_snoc, HCE.out] at hown8
                   have HOw := Lib.hid hown8
                   have HB8 := Lib.hid (((Keep.ofBelow (S := fun k => w.heap.size ≤ k) HB.out).alloc _).grown hg8 (fun j hj e => (HRow.out.lt j e).1) |>.below (Nat.le_refl _) (fun i hi e => by omega))
                   clear hown8 hg8 hnil hloc)
      go_roundw
      case rel => exact ⟨k + 1, by omega, by have := HM.out; congr 1; omega, HOw.out, HB8.out⟩
      case measure => simp [intOf]; omega
    · obtain rfl : k = n := by omega
      rw [show (k : Int) - 1 - (k : Int) = -1 by omega]
      have hrow := HRow.out
      obtain ⟨g, c, rfl, hc1, hc2, hgB⟩ := row_posB hrow h1
      have hby : Lib.Bytes wr g 0 ⟨L.toArray⟩ := fun i hi => by
        have hi2 : i < L.length := by rw [← size_of]; exact hi
        refine row_cells hrow (0 + i) _ ?_
        rw [List.take_of_length_le (by rw [HLN.out]; exact Nat.le_refl _), Nat.zero_add]
        simp [Lib.byteCells, hi2, ByteArray.getElem_eq_getElem_data]
      have l3 := HCV.out wr g hby c
      clear hrow hby
      go_wp2
      go_ret
      exact ⟨rfl, HB.out⟩
theorem sectors_any (n : Nat) (hn : n ≤ 65536) (w : World) :
    Calls Tryz.prog 85 #[.int .i64 n] w fun e w' => e = .returned (.int .i64 (secs n : Nat)) ∧ w = w' := by
  obtain ⟨q, hq⟩ : ∃ q, q = 516 * n + 510 := ⟨_, rfl⟩
  have e1 : (516 : Int) * (n : Int) + 511 - 1 = (q : Int) := by omega
  have e2 : ((q : Int)).tdiv 511 = (secs n : Nat) := by
    unfold secs
    rw [Int.tdiv_eq_ediv_of_nonneg (by omega)]
    omega
  have h0 : (0 : Int) ≤ (n : Int) := by omega
  have h1 : (n : Int) ≤ 65536 := by omega
  have hq0 : (0 : Int) ≤ (q : Int) := by omega
  have hq1 : (q : Int) ≤ 33817086 + 510 := by omega
  have hs0 : (0 : Int) ≤ (secs n : Nat) := by omega
  have hs1 : ((secs n : Nat) : Int) ≤ 66200 := by unfold secs; omega
  clear hq
  generalize secs n = S at *
  go_enter Tryz.func85, Tryz.ntmps85
  go_wp2
  go_ret
  exact ⟨rfl, rfl⟩
end Go.Proofs.YtalgheocjnajlaaGreatDoor
