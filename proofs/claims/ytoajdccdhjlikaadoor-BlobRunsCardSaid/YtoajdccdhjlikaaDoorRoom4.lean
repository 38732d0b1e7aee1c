/-
  ROOMS (room): what a room says; Has, taken, Alloc.
-/
import Derived.Test.YtoajdccdhjlikaaDoorRoom3
namespace Go.Proofs.YtoajdccdhjlikaaDoor
open Go.RowKit Go.MapKept
attribute [local go_sem] gives givesH
set_option maxRecDepth 100000

def RoomS.has (R : RoomS) (p : Nat) : Bool := bitOf R.home p
def RoomS.text (R : RoomS) (p : Nat) : ByteArray := R.home ((1 + R.maps + p : Nat) : Int)
/-- is number i a page's; the error of a page that is not taken -/
def RoomS.hasAt (R : RoomS) (i : Int) : Bool := decide (0 ≤ i ∧ i < R.pages) && R.has i.toNat
def RoomS.hasErr (R : RoomS) (i : Int) : Int := if 0 ≤ i ∧ i < R.pages then 0 else 2
def RoomS.err (R : RoomS) (i : Int) : Int := if 0 ≤ i ∧ i < R.pages then (if R.has i.toNat then 0 else 6) else 2

theorem has_any {w : World} {br : Nat} {R : RoomS} (h : RoomAt w br R) (i : Int) :
    Calls Tryd.prog 31 #[.pointer (some ⟨br, 0, none⟩), .int .i64 i] w fun e w' => e = .returned (.tuple #[.bool (R.hasAt i), .int .i64 (R.hasErr i)]) ∧ Below w.heap.size w w' := by
  have hf := h.fit
  have hn := h.tx.log.small
  have HD := Lib.hid (fun u (hu : RoomAt u br R) => roomDead_any hu)
  have HR := Lib.hid h
  by_cases h0 : i < 0
  · have d1 : decide (i < 0) = true := by simpa using h0
    have e1 : R.hasAt i = false := by unfold RoomS.hasAt; rw [decide_eq_false (by omega)]; rfl
    have e2 : R.hasErr i = 2 := by unfold RoomS.hasErr; rw [if_neg (by omega)]
    rw [e1, e2]
    clear e1 e2 hf h
    go_enter Tryd.func31, Tryd.ntmps31
    go_wp2_with (first
      | (go_at_call 51; refine (HD.out _ HR.out).mono ?_; rintro e w1 ⟨rfl, hb1⟩
         obtain ⟨⟨c0, c1, c2⟩, _⟩ := tCells (HR.out.still hb1).cells))
    go_ret2
    exact ⟨rfl, hb1⟩
  · have d1 : decide (i < 0) = false := by simpa using h0
    by_cases hge : (R.pages : Int) ≤ i
    · have d2 : decide ((R.pages : Int) ≤ i) = true := by simpa using hge
      have e1 : R.hasAt i = false := by unfold RoomS.hasAt; rw [decide_eq_false (by omega)]; rfl
      have e2 : R.hasErr i = 2 := by unfold RoomS.hasErr; rw [if_neg (by omega)]
      rw [e1, e2]
      clear e1 e2 hf h
      go_enter Tryd.func31, Tryd.ntmps31
      go_wp2_with (first
        | (go_at_call 51; refine (HD.out _ HR.out).mono ?_; rintro e w1 ⟨rfl, hb1⟩
           obtain ⟨⟨c0, c1, c2⟩, _⟩ := tCells (HR.out.still hb1).cells))
      go_ret2
      exact ⟨rfl, hb1⟩
    · have d2 : decide ((R.pages : Int) ≤ i) = false := by simpa using hge
      obtain ⟨p, rfl⟩ : ∃ p : Nat, i = p := ⟨i.toNat, by omega⟩
      have hp : p < R.pages := by omega
      have e1 : R.hasAt p = bitOf R.home p := by unfold RoomS.hasAt; rw [decide_eq_true (by omega)]; rfl
      have e2 : R.hasErr p = 0 := by unfold RoomS.hasErr; rw [if_pos (by omega)]
      rw [e1, e2]
      obtain ⟨H, hH⟩ : ∃ H, H = 1 + p / 4096 := ⟨_, rfl⟩
      obtain ⟨K, hK⟩ : ∃ K, K = p % 4096 / 8 := ⟨_, rfl⟩
      obtain ⟨M, hM⟩ : ∃ M, M = 2 ^ (p % 8) := ⟨_, rfl⟩
      have B := Lib.hid (fun w => bit_any p H K M (by omega) hH hK hM w)
      have hHn : H < R.T.n := by omega
      have HM := Lib.hid (fun u (hu : RoomAt u br R) => home_in hu hHn)
      have hK5 : K < 512 := by omega
      have hM8 : M < 256 := by rw [hM]; exact pow8_lt p
      have hsz : (R.home H).size = 512 := h.home_size _
      have e3 : bitOf R.home p = (byteN (R.home H) K &&& M != 0) := by
        unfold bitOf; rw [← hH, ← hK, hM, and_two_pow]
      rw [e3]
      generalize R.home H = s at *
      have hKs : K < s.size := by omega
      have hbn := byteN_get s K hKs
      have hx := bits_and_u8 (byteN s K) M (byteN_lt _ _) hM8
      have hx2 : (((byteN s K &&& M : Nat) : Int) != 0) = (byteN s K &&& M != 0) := by
        generalize byteN s K &&& M = x
        cases x
        · rfl
        · simp; omega
      have HX2 := Lib.hid hx2
      have hK0 : (0 : Int) ≤ (K : Int) := by omega
      have hK1 : (K : Int) < 512 := by omega
      clear e1 e2 e3 hf h hx2 hH hK hM
      go_enter Tryd.func31, Tryd.ntmps31
      go_wp2_with (first
        | (go_at_call 51; refine (HD.out _ HR.out).mono ?_; rintro e w1 ⟨rfl, hb1⟩
           have HR1 := Lib.hid (HR.out.still hb1)
           have HB1 := Lib.hid hb1
           obtain ⟨⟨c0, c1, c2⟩, _⟩ := tCells HR1.out.cells
           clear hb1)
        | (go_at_call 66; refine (B.out _).mono ?_; rintro e w2 ⟨rfl, hb2⟩
           have HR2 := Lib.hid (HR1.out.still hb2)
           have HB2 := Lib.hid (HB1.out.trans (hb2.mono HB1.out.size))
           clear hb2)
        | (go_at_call 57; refine (HM.out _ HR2.out).mono ?_; rintro e w3 ⟨rfl, hb3⟩
           have HB3 := Lib.hid (HB2.out.trans (hb3.mono HB2.out.size))
           clear hb3))
      go_ret2
      exact ⟨by rw [← HX2.out]; rfl, HB3.out⟩

theorem hasAt_in {R : RoomS} {p : Nat} (hp : p < R.pages) : R.hasAt p = R.has p := by unfold RoomS.hasAt; rw [decide_eq_true (by omega)]; rfl
theorem err_eq (R : RoomS) (i : Int) : R.err i = if R.hasErr i = 0 then (if R.hasAt i then 0 else 6) else R.hasErr i := by
  unfold RoomS.err RoomS.hasErr RoomS.hasAt
  by_cases h : 0 ≤ i ∧ i < R.pages
  · simp [h]
  · simp [h]
theorem taken_any {w : World} {br : Nat} {R : RoomS} (h : RoomAt w br R) (i : Int) :
    Calls Tryd.prog 56 #[.pointer (some ⟨br, 0, none⟩), .int .i64 i] w fun e w' => e = .returned (.int .i64 (R.err i)) ∧ Below w.heap.size w w' := by
  have H1 := Lib.hid (has_any h i)
  rw [err_eq]
  generalize R.hasAt i = b at *
  have h2 : R.hasErr i = 0 ∨ R.hasErr i = 2 := by unfold RoomS.hasErr; split <;> simp
  generalize R.hasErr i = c at *
  clear h
  rcases h2 with rfl | rfl
  · cases b
    all_goals
      go_enter Tryd.func56, Tryd.ntmps56
      go_wp2_with (first
        | (go_at_call 31; refine (H1.out).mono ?_; rintro e w1 ⟨rfl, hb1⟩))
      go_ret
      exact ⟨rfl, hb1⟩
  · go_enter Tryd.func56, Tryd.ntmps56
    go_wp2_with (first
      | (go_at_call 31; refine (H1.out).mono ?_; rintro e w1 ⟨rfl, hb1⟩))
    go_ret
    exact ⟨rfl, hb1⟩
end Go.Proofs.YtoajdccdhjlikaaDoor
