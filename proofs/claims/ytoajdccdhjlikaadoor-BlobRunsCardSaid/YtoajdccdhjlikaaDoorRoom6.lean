/-
  ROOMS (room): Used. The document's Pages.
-/
import Derived.Test.YtoajdccdhjlikaaDoorRoom5
namespace Go.Proofs.YtoajdccdhjlikaaDoor
open Go.RowKit Go.MapKept
attribute [local go_sem] gives givesH
set_option maxRecDepth 100000

/-- how many of the first n bits are on -/
def cnt (f : Nat → Bool) (n : Nat) : Nat := ((List.range n).filter f).length
theorem cnt_le (f : Nat → Bool) (n : Nat) : cnt f n ≤ n := by
  unfold cnt
  have := List.length_filter_le f (List.range n)
  simpa using this
theorem cnt_succ (f : Nat → Bool) (n : Nat) : cnt f (n + 1) = cnt f n + (if f n then 1 else 0) := by
  unfold cnt
  rw [List.range_succ, List.filter_append, List.length_append]
  congr 1
  by_cases h : f n <;> simp [h]
theorem cnt_add (f : Nat → Bool) (a b : Nat) : cnt f (a + b) = cnt f a + ((List.range b).filter (fun j => f (a + j))).length := by
  induction b with
  | zero => simp
  | succ b ih =>
    rw [← Nat.add_assoc, cnt_succ, ih, List.range_succ, List.filter_append, List.length_append, Nat.add_assoc]
    congr 2
    by_cases h : f (a + b) <;> simp [h]
theorem cnt_byte {f : Int → ByteArray} {m k : Nat} (hk : k < 512) : cnt (bitOf f) (m * 4096 + 8 * (k + 1)) = cnt (bitOf f) (m * 4096 + 8 * k) + Lib.onesCount (byteN (f ((1 + m : Nat) : Int)) k) := by
  rw [show m * 4096 + 8 * (k + 1) = m * 4096 + 8 * k + 8 by omega, cnt_add, ones_spec ⟨_, byteN_lt (f ((1 + m : Nat) : Int)) k⟩]
  congr 2
  apply List.filter_congr
  intro j hj
  exact bitOf_split f m k j hk (by simpa using hj)

def RoomS.used (R : RoomS) : Nat := cnt R.has (R.maps * 4096)

set_option maxHeartbeats 1000000 in
theorem used_any {w : World} {br : Nat} {R : RoomS} (h : RoomAt w br R) :
    Calls Tryd.prog 27 #[.pointer (some ⟨br, 0, none⟩)] w fun e w' => e = .returned (.tuple #[.int .i64 R.used, .int .i64 0]) ∧ Below w.heap.size w w' := by
  have hf := h.fit
  have hn := h.tx.log.small
  have HD := Lib.hid (roomDead_any h)
  have HM := Lib.hid (fun (i : Nat) (hi : i < R.T.n) u (hu : RoomAt u br R) => home_in hu hi)
  have HSz := Lib.hid (fun i => h.home_size i)
  have HR := Lib.hid h
  have HF := Lib.hid hf
  have hmaps : R.maps ≤ 17 := by omega
  have hus : R.used = cnt (bitOf R.home) (R.maps * 4096) := rfl
  rw [hus]
  clear h hf hus
  go_enter Tryd.func27, Tryd.ntmps27
  go_wp2_with (go_at_call 51; refine (HD.out).mono ?_; rintro e w1 ⟨rfl, hb1⟩
               obtain ⟨⟨c0, c1, c2⟩, _⟩ := tCells (HR.out.still hb1).cells)
  have HB0 := Lib.hid hb1
  clear hb1
  go_loopw [4, 15] (fun n i wr => (∃ m : Nat, m ≤ R.maps ∧ i = .int .i64 m ∧ n = .int .i64 (cnt (bitOf R.home) (m * 4096))) ∧ Below w.heap.size w wr) (fun _ i _ => R.maps - (intOf i).toNat)
  case atStart => exact ⟨⟨0, by omega, rfl, rfl⟩, HB0.out⟩
  case round =>
    obtain ⟨⟨m, hm, rfl, rfl⟩, hb⟩ := hrel
    have HB := Lib.hid hb
    clear hb
    by_cases hlt : m < R.maps
    · have e1 : decide ((m : Int) < (R.maps : Int)) = true := by simp; omega
      have e2 : (1 : Int) + (m : Int) = ((1 + m : Nat) : Int) := by omega
      have hin : 1 + m < R.T.n := by have := HF.out; omega
      have hsz : (R.home ((1 + m : Nat) : Int)).size = 512 := HSz.out _
      have HM1 := Lib.hid (HM.out (1 + m) hin)
      generalize hs : R.home ((1 + m : Nat) : Int) = s at *
      have HS := Lib.hid hs
      have HE2 := Lib.hid e2
      clear hs e2
      go_wp2_with (fail)
      rw [HE2.out]
      refine (HM1.out _ (HR.out.still HB.out)).mono ?_
      rintro e w2 ⟨rfl, hb2⟩
      have HB1 := Lib.hid (HB.out.trans (hb2.mono HB.out.size))
      clear hb2
      go_wp2_with (fail)
      go_loop [4, 30] (fun n i => ∃ k : Nat, k ≤ 512 ∧ i = .int .i64 k ∧ n = .int .i64 (cnt (bitOf R.home) (m * 4096 + 8 * k))) (fun _ i => 512 - (intOf i).toNat)
      case atStart => exact ⟨0, by omega, rfl, rfl⟩
      case round =>
        obtain ⟨k, hk, rfl, rfl⟩ := hrel
        by_cases hk5 : k < 512
        · have f1 : decide ((k : Int) < 512) = true := by simp; omega
          have hk0 : (0 : Int) ≤ (k : Int) := by omega
          have hk1 : (k : Int) < 512 := by omega
          have hbn := byteN_get s k (by omega)
          have hbl := byteN_lt s k
          have hnext := cnt_byte (f := R.home) (m := m) hk5
          rw [HS.out] at hnext
          have hc := cnt_le (bitOf R.home) (m * 4096 + 8 * k)
          have hz := fun w => Tryd.bits_OnesCount8 ((byteN s k : Nat) : Int) w (by omega) (by omega)
          rw [Int.toNat_natCast] at hz
          have ho : Lib.onesCount (byteN s k) ≤ 8 := Lib.onesCount_le8 ⟨_, hbl⟩
          generalize Lib.onesCount (byteN s k) = o at *
          generalize hcc : cnt (bitOf R.home) (m * 4096 + 8 * k) = cc at *
          have HZ := Lib.hid hz
          have HN := Lib.hid hnext
          clear hz hnext hcc
          have hcb : (cc : Int) ≤ 100000 := by omega
          have hob : (o : Int) ≤ 8 := by omega
          go_wp2_with (fail)
          refine (HZ.out _).mono ?_
          rintro e w3 ⟨rfl, rfl⟩
          go_wp2
          go_round
          case rel => exact ⟨k + 1, by omega, by go_num, by rw [HN.out]; go_num⟩
          case measure => simp [intOf]; omega
        · obtain rfl : k = 512 := by omega
          go_wp2
          go_roundw
          case rel => exact ⟨⟨m + 1, by omega, by go_num, by rw [show (m + 1) * 4096 = m * 4096 + 8 * 512 by omega]⟩, HB1.out⟩
          case measure => simp [intOf]; omega
    · obtain rfl : m = R.maps := by omega
      go_wp2
      go_ret2
      exact ⟨rfl, HB.out⟩

theorem pagesOf_is {h p H : Int} (hH : H = min h 1048576) (h0 : 0 ≤ p) (h1 : p = 0 ∨ 1 + p + (p + 4095) / 4096 ≤ H) (h2 : ¬ (1 + p + 1 + (p + 1 + 4095) / 4096 ≤ H)) : p = pagesOf h := by
  unfold pagesOf
  split
  · omega
  · rw [← hH]
    omega
/-- the document's number of pages is ours -/
theorem refPages_any (h : Int) (w : World) :
    Calls Tryd.prog 30 #[.int .i64 h] w fun e w' => e = .returned (.int .i64 (pagesOf h)) ∧ w = w' := by
  go_enter Tryd.func30, Tryd.ntmps30
  go_wp2
  obtain ⟨H, hH⟩ : ∃ H, H = min h 1048576 := ⟨_, rfl⟩
  rw [← hH]
  have hHb : H ≤ 1048576 := by omega
  have HH := Lib.hid hH
  clear hH
  go_loop [3] (fun i => ∃ p : Int, 0 ≤ p ∧ (p = 0 ∨ 1 + p + (p + 4095) / 4096 ≤ H) ∧ i = .int .i64 p) (fun i => (1048577 - intOf i).toNat)
  case atStart => exact ⟨0, by omega, .inl rfl, rfl⟩
  case round =>
    obtain ⟨p, hp0, hp1, rfl⟩ := hrel
    have hpb : p ≤ 1048576 := by omega
    by_cases hc : 1 + p + 1 + (p + 1 + 4095) / 4096 ≤ H
    · have e1 : decide (1 + p + 1 + (p + 1 + 4095) / 4096 ≤ H) = true := by simpa using hc
      have HC := Lib.hid hc
      have HP := Lib.hid hp1
      clear hc hp1
      go_wp2
      go_loop [4] (fun i => ∃ st : Int, 1 ≤ st ∧ 1 + p + st + (p + st + 4095) / 4096 ≤ H ∧ i = .int .i64 st) (fun i => (1048577 - intOf i).toNat)
      case atStart => exact ⟨1, by omega, HC.out, rfl⟩
      case round =>
        obtain ⟨st, hs1, hs2, rfl⟩ := hrel
        have hsb : st ≤ 1048576 := by omega
        have hsum : p + st ≤ 1048576 := by omega
        have HS2 := Lib.hid hs2
        by_cases hc : 1 + p + 2 * st + (p + 2 * st + 4095) / 4096 ≤ H
        · have f1 : decide (1 + p + 2 * st + (p + 2 * st + 4095) / 4096 ≤ H) = true := by simpa using hc
          have HC2 := Lib.hid hc
          clear hc hs2
          go_wp2
          go_round
          case rel => exact ⟨2 * st, by omega, HC2.out, rfl⟩
          case measure => simp [intOf]; omega
        · have f1 : decide (1 + p + 2 * st + (p + 2 * st + 4095) / 4096 ≤ H) = false := by simpa using hc
          clear hc hs2
          go_wp2
          go_round
          case rel => exact ⟨p + st, by omega, .inr (by have := HS2.out; omega), rfl⟩
          case measure => simp [intOf]; omega
    · have e1 : decide (1 + p + 1 + (p + 1 + 4095) / 4096 ≤ H) = false := by simpa using hc
      have HC := Lib.hid (pagesOf_is HH.out hp0 hp1 hc)
      clear hc hp1
      go_wp2
      go_ret
      exact ⟨by rw [← HC.out]; rfl, rfl⟩
end Go.Proofs.YtoajdccdhjlikaaDoor
