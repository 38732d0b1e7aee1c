/-
  ROOMS (room): free, Alloc.
-/
import Derived.Test.YtoajdccdhjlikaaDoorRoom2
namespace Go.Proofs.YtoajdccdhjlikaaDoor
open Go.RowKit Go.MapKept
attribute [local go_sem] gives givesH
set_option maxRecDepth 100000

/-- what free answers -/
def FreeSays (f : Int → ByteArray) (pages : Nat) (r : Int) : Prop :=
  (r = -1 ∧ ∀ q, q < pages → bitOf f q = true) ∨ ∃ p : Nat, r = p ∧ p < pages ∧ bitOf f p = false ∧ ∀ q, q < p → bitOf f q = true
def FreePost (f : Int → ByteArray) (pages : Nat) (w : World) (e : Ending) (w' : World) : Prop := ∃ r : Int, FreeSays f pages r ∧ e = .returned (.tuple #[.int .i64 r, .int .i64 0]) ∧ Below w.heap.size w w'

theorem freeAt {f : Int → ByteArray} {pages m k : Nat} (hk : k < 512) (hall : ∀ q, q < m * 4096 + 8 * k → bitOf f q = true) (hb : byteN (f ((1 + m : Nat) : Int)) k ≠ 255) (t : Nat) (ht : t = Lib.trailingZeros8 (255 - byteN (f ((1 + m : Nat) : Int)) k)) :
    t < 8 ∧ FreeSays f pages (if m * 4096 + 8 * k + t < pages then ((m * 4096 + 8 * k + t : Nat) : Int) else -1) := by
  obtain ⟨h1, h2, h3⟩ := tz_spec ⟨_, byteN_lt (f ((1 + m : Nat) : Int)) k⟩ hb
  simp only at h1 h2 h3
  rw [← ht] at h1 h2 h3
  have hp : bitOf f (m * 4096 + 8 * k + t) = false := by rw [bitOf_split f m k t hk h1]; exact h2
  have hq : ∀ q, q < m * 4096 + 8 * k + t → bitOf f q = true := fun q hq => by
    by_cases h : q < m * 4096 + 8 * k
    · exact hall q h
    · obtain ⟨j, rfl⟩ : ∃ j, q = m * 4096 + 8 * k + j := ⟨q - (m * 4096 + 8 * k), by omega⟩
      rw [bitOf_split f m k j hk (by omega)]
      exact h3 ⟨j, by omega⟩ (by show j < t; omega)
  refine ⟨h1, ?_⟩
  split
  · exact .inr ⟨_, rfl, by assumption, hp, hq⟩
  · exact .inl ⟨rfl, fun q hqp => hq q (by omega)⟩
theorem full255 {f : Int → ByteArray} {m k : Nat} (hk : k < 512) (hall : ∀ q, q < m * 4096 + 8 * k → bitOf f q = true) (hb : byteN (f ((1 + m : Nat) : Int)) k = 255) :
    ∀ q, q < m * 4096 + 8 * (k + 1) → bitOf f q = true := fun q hq => by
  by_cases h : q < m * 4096 + 8 * k
  · exact hall q h
  · obtain ⟨j, rfl⟩ : ∃ j, q = m * 4096 + 8 * k + j := ⟨q - (m * 4096 + 8 * k), by omega⟩
    rw [bitOf_split f m k j hk (by omega), hb]
    exact all_255 ⟨j, by omega⟩

set_option maxHeartbeats 1000000 in
theorem free_any {w : World} {br : Nat} {R : RoomS} (h : RoomAt w br R) :
    Calls Tryd.prog 52 #[.pointer (some ⟨br, 0, none⟩)] w (FreePost R.home R.pages w) := by
  have hf := h.fit
  have hn := h.tx.log.small
  obtain ⟨⟨c0, c1, c2⟩, _⟩ := tCells h.cells
  have HM := Lib.hid (fun (i : Nat) (hi : i < R.T.n) u (hu : RoomAt u br R) => home_in hu hi)
  have HSz := Lib.hid (fun i => h.home_size i)
  have HR := Lib.hid h
  have HF := Lib.hid hf
  have hmaps : R.maps ≤ 17 := by omega
  clear h hf
  go_enter Tryd.func52, Tryd.ntmps52
  go_wp2
  go_loopw [13] (fun i wr => (∃ m : Nat, m ≤ R.maps ∧ i = .int .i64 m ∧ ∀ q, q < m * 4096 → bitOf R.home q = true) ∧ Below w.heap.size w wr) (fun i _ => R.maps - (intOf i).toNat)
  case atStart => exact ⟨⟨0, by omega, rfl, fun q hq => by omega⟩, Below.refl _ _⟩
  case round =>
    obtain ⟨⟨m, hm, rfl, hall⟩, hb⟩ := hrel
    have HA := Lib.hid hall
    have HB := Lib.hid hb
    clear hall hb
    by_cases hlt : m < R.maps
    · have e1 : decide ((m : Int) < (R.maps : Int)) = true := by simp; omega
      have e2 : (1 : Int) + (m : Int) = ((1 + m : Nat) : Int) := by omega
      have hin : 1 + m < R.T.n := by have := HF.out; omega
      have hsz : (R.home ((1 + m : Nat) : Int)).size = 512 := HSz.out _
      have HM1 := Lib.hid (HM.out (1 + m) hin)
      generalize hs : R.home ((1 + m : Nat) : Int) = s at *
      have HS := Lib.hid hs
      have HE2 := Lib.hid e2
      clear hs e2
      go_wp2_with (fail)
      rw [HE2.out]
      refine (HM1.out _ (HR.out.still HB.out)).mono ?_
      rintro e w1 ⟨rfl, hb1⟩
      have HB1 := Lib.hid (HB.out.trans (hb1.mono HB.out.size))
      obtain ⟨⟨d0, d1, d2⟩, _⟩ := tCells (HR.out.still HB1.out).cells
      clear hb1
      go_wp2_with (fail)
      go_loop [28] (fun i => ∃ k : Nat, k ≤ 512 ∧ i = .int .i64 k ∧ ∀ q, q < m * 4096 + 8 * k → bitOf R.home q = true) (fun i => 512 - (intOf i).toNat)
      case atStart => exact ⟨0, by omega, rfl, fun q hq => HA.out q (by omega)⟩
      case round =>
        obtain ⟨k, hk, rfl, hall⟩ := hrel
        have HK := Lib.hid hall
        clear hall
        by_cases hk5 : k < 512
        · have f1 : decide ((k : Int) < 512) = true := by simp; omega
          have hk0 : (0 : Int) ≤ (k : Int) := by omega
          have hk1 : (k : Int) < 512 := by omega
          have hbn := byteN_get s k (by omega)
          have hbl := byteN_lt s k
          by_cases hbb : byteN s k = 255
          · have f2 : ((byteN s k : Int) == 255) = true := by simp; omega
            have hnext := full255 hk5 HK.out (by rw [HS.out]; exact hbb)
            have HN := Lib.hid hnext
            clear hnext
            go_wp2
            go_round
            case rel => exact ⟨k + 1, by omega, by go_num, HN.out⟩
            case measure => simp [intOf]; omega
          · have f2 : ((byteN s k : Int) == 255) = false := by simp; omega
            have hx := xor_max (byteN s k) hbl
            obtain ⟨t, ht⟩ : ∃ t, t = Lib.trailingZeros8 (255 - byteN s k) := ⟨_, rfl⟩
            obtain ⟨ht8, hsay⟩ := freeAt (f := R.home) (pages := R.pages) hk5 HK.out (by rw [HS.out]; exact hbb) t (by rw [HS.out]; exact ht)
            have hz := fun w => Tryd.bits_TrailingZeros8 ((255 - byteN s k : Nat) : Int) w (by omega) (by omega)
            rw [Int.toNat_natCast, ← ht] at hz
            have HZ := Lib.hid hz
            have HSay := Lib.hid hsay
            clear hz ht hsay hbb
            generalize hb : byteN s k = b at *
            have HBB := Lib.hid hb
            clear hb
            go_wp2_with (fail)
            refine (HZ.out _).mono ?_
            rintro e w2 ⟨rfl, rfl⟩
            have ht0 : (0 : Int) ≤ (t : Int) := by omega
            by_cases hpp : m * 4096 + 8 * k + t < R.pages
            · have g1 : decide ((m : Int) * 4096 + 8 * (k : Int) + (t : Int) < (R.pages : Int)) = true := by simp; omega
              have hsay := HSay.out
              rw [if_pos hpp] at hsay
              have HSay2 := Lib.hid hsay
              have eP : (m : Int) * 4096 + 8 * (k : Int) + (t : Int) = ((m * 4096 + 8 * k + t : Nat) : Int) := by omega
              have EP := Lib.hid eP
              clear hsay hpp eP
              go_wp2
              go_ret2
              exact ⟨_, HSay2.out, by rw [← EP.out]; rfl, HB1.out⟩
            · have g1 : decide ((m : Int) * 4096 + 8 * (k : Int) + (t : Int) < (R.pages : Int)) = false := by simp; omega
              have hsay := HSay.out
              rw [if_neg hpp] at hsay
              have HSay2 := Lib.hid hsay
              clear hsay hpp
              go_wp2
              go_ret2
              exact ⟨_, HSay2.out, rfl, HB1.out⟩
        · obtain rfl : k = 512 := by omega
          have hall2 : ∀ q, q < (m + 1) * 4096 → bitOf R.home q = true := fun q hq => HK.out q (by omega)
          have HA2 := Lib.hid hall2
          clear hall2
          go_wp2
          go_roundw
          case rel => exact ⟨⟨m + 1, by omega, by go_num, HA2.out⟩, HB1.out⟩
          case measure => simp [intOf]; omega
    · obtain rfl : m = R.maps := by omega
      have hall2 : ∀ q, q < R.pages → bitOf R.home q = true := fun q hq => HA.out q (by have := HF.out; omega)
      have HA2 := Lib.hid hall2
      clear hall2
      go_wp2
      go_ret2
      exact ⟨-1, .inl ⟨rfl, HA2.out⟩, rfl, HB.out⟩
end Go.Proofs.YtoajdccdhjlikaaDoor
