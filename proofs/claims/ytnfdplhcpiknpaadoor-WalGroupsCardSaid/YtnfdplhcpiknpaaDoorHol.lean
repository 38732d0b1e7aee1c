/-
  THE LAWS of layer 5: Holds.
-/
import Derived.Test.YtnfdplhcpiknpaaDoorNew5
namespace Go.Proofs.YtnfdplhcpiknpaaDoor
open Go.RowKit Go.MapKept
attribute [local go_sem] gives givesH
set_option maxRecDepth 100000

set_option maxHeartbeats 2000000 in
theorem holds_any {w : World} {bl : Nat} {L : LogS} {d : Dk} {N : Nat} {W : Int → ByteArray} (h : LogUp w bl L d N W) {B : Nat} {v : Value} {ws : List ByteArray} (hv : TextsAt w B v ws) (hl : ws.length = L.homes) :
    Calls Tryd.prog 16 #[.pointer (some ⟨bl, 0, none⟩), v] w fun e w' => ∃ b, e = .returned (.bool b) ∧ (b = true ↔ ∀ k : Nat, k < L.homes → atL ws k = W k) ∧ Below w.heap.size w w' := by
  have H1 := Lib.hid (fun u (hu : LogAt u bl L) => logHomes_any hu)
  have H2 := Lib.hid (fun u (hu : LogAt u bl L) (i : Int) (hi : (Lit.int .i64 i).wf = true) => logRead_any hu h.lup h.dup hi)
  obtain ⟨a, c, hac⟩ := slice_formB hv
  subst hac
  obtain ⟨n, hn⟩ : ∃ n, ws.length = n := ⟨_, rfl⟩
  have hh := hn.symm.trans hl
  rw [← hh] at H1
  have hn6 : n ≤ 65536 := by rw [hh]; unfold LogS.homes; have := h.at_.disk.size; omega
  have hrd := h.read
  have HU := Lib.hid h
  have hv2 : w.ownsRow B 9 1 (.slice a ws.length c) ws.length (ws.map .string) := hv
  rw [hn] at hv2 ⊢
  have HV := Lib.hid hv2
  clear hv2
  have HH := Lib.hid hh
  have HRd := Lib.hid hrd
  clear h hv hh hl hrd
  go_enter Tryd.func16, Tryd.ntmps16
  go_wp2_with (go_at_call 14; refine (H1.out _ HU.out.at_).mono ?_; rintro e w1 ⟨rfl, hb⟩
               have HB1 := Lib.hid hb
               clear hb)
  go_loopw [18] (fun i wr => ∃ j : Nat, j ≤ n ∧ i = .int .i64 j ∧ (∀ k : Nat, k < j → atL ws k = W k) ∧ Below w.heap.size w wr) (fun i _ => n - (intOf i).toNat)
  case atStart => exact ⟨0, by omega, rfl, fun k hk => absurd hk (Nat.not_lt_zero k), HB1.out⟩
  case round =>
    obtain ⟨j, hj, rfl, heq, hbel⟩ := hrel
    have HEq := Lib.hid heq
    have HB := Lib.hid hbel
    have hLr := Lib.hid (HU.out.at_.still hbel)
    have hVr := (Keep.ofBelow (S := fun _ => False) hbel).ownsRow HV.out (fun _ _ e => e)
    have HVr := Lib.hid hVr
    clear heq hbel hVr
    by_cases hlt : j < n
    · have g1 : decide ((j : Int) < (n : Int)) = true := by simp; omega
      have g1' : decide (j < n) = true := by simpa using hlt
      obtain ⟨x, hx⟩ : ∃ x, ws[j]? = some x := ⟨_, List.getElem?_eq_getElem (by rw [hn]; exact hlt)⟩
      obtain ⟨ga, cb, hga, hcb, hcm, hgb⟩ := row_posB HVr.out (by omega)
      obtain ⟨rfl, rfl⟩ : a = some ⟨ga, 0, none⟩ ∧ cb = c := by cases hga; exact ⟨rfl, rfl⟩
      clear hga
      have q0 := row_cells HVr.out j (.string x) (by rw [List.getElem?_map, hx]; rfl)
      have hj0 : (0 : Int) ≤ (j : Int) := by omega
      have hj1 : (j : Int) < (n : Int) := by omega
      have HRj := H2.out wr hLr.out j (keyOk (by omega) (by omega))
      have hsays : L.says j = .tuple #[.string (W j), .int .i64 0] := by
        unfold LogS.says
        rw [if_pos (by have := HH.out; omega), HRd.out j (by rw [← HH.out]; exact hlt)]
      rw [hsays] at HRj
      have hxa : atL ws j = x := by unfold atL; rw [Int.toNat_natCast, List.getD_eq_getElem?_getD, hx]; rfl
      have HXa := Lib.hid hxa
      by_cases hwx : W (j : Int) = x
      · have HWx := Lib.hid hwx
        rw [hwx] at HRj
        clear hx hsays hxa hwx
        go_wp2_with (go_at_call 19; refine (HRj).mono ?_; rintro e w2 ⟨rfl, hb2⟩
                     have HB2 := Lib.hid (HB.out.trans (hb2.mono HB.out.size))
                     clear hb2)
        go_roundw
        case rel =>
          refine ⟨j + 1, by omega, rfl, fun k hk => ?_, HB2.out⟩
          by_cases hkj : k < j
          · exact HEq.out k hkj
          · obtain rfl : k = j := by omega
            rw [HXa.out, HWx.out]
        case measure => simp [intOf]; omega
      · have hne := toList_ne hwx
        have HWx := Lib.hid hwx
        have HWe : Hid (∃ wj, W (j : Int) = wj) := Lib.hid ⟨_, rfl⟩
        generalize hwj : W (j : Int) = wj at HRj hne
        have HWj := Lib.hid hwj
        clear hx hsays hxa hwx hwj
        go_wp2_with (go_at_call 19; refine (HRj).mono ?_; rintro e w2 ⟨rfl, hb2⟩
                     have HB2 := Lib.hid (HB.out.trans (hb2.mono HB.out.size))
                     clear hb2)
        go_ret
        refine ⟨false, rfl, ⟨fun h => (by cases h), fun h => absurd (h j (by rw [← HH.out]; exact hlt)) (fun e => ?_)⟩, HB2.out⟩
        exact HWx.out (e.symm.trans HXa.out)
    · have g1 : decide ((j : Int) < (n : Int)) = false := by simp; omega
      have g1' : decide (j < n) = false := by simpa using hlt
      obtain rfl : j = n := by omega
      have HRj := H2.out wr hLr.out j (keyOk (by omega) (by omega))
      have hsays : L.says j = .tuple #[.string ByteArray.empty, .int .i64 2] := by
        unfold LogS.says
        rw [if_neg (by have := HH.out; omega)]
      rw [hsays] at HRj
      clear hsays
      go_wp2_with (go_at_call 19; refine (HRj).mono ?_; rintro e w2 ⟨rfl, hb2⟩
                   have HB2 := Lib.hid (HB.out.trans (hb2.mono HB.out.size))
                   clear hb2)
      go_ret
      exact ⟨true, rfl, ⟨fun _ k hk => HEq.out k (by rw [HH.out]; exact hk), fun _ => rfl⟩, HB2.out⟩
end Go.Proofs.YtnfdplhcpiknpaaDoor
