/-
  awake of layer 7, walked.
-/
import Derived.Test.YtoajdccdhjlikaaDoorAwake7
namespace Go.Proofs.YtoajdccdhjlikaaDoor
open Go.RowKit Go.MapKept
attribute [local go_sem] gives givesH
set_option maxRecDepth 100000

set_option maxHeartbeats 2000000 in
theorem awake7_any (w : World) : Calls Tryd.prog 12 #[] w fun e w' => e = .returned (.bool true) ∧ Below w.heap.size w w' := by
  have HW := Lib.hid (wide_view 10 (by omega) (by omega) w)
  go_enter Tryd.func12, Tryd.ntmps12
  go_wp2_with (fail)
  refine (HW.out).mono ?_
  rintro e w1 ⟨bd, bl, rfl, hv, hb1⟩
  have HV := Lib.hid (begin_fresh hv)
  have HB1 := Lib.hid hb1
  clear hv hb1 HW
  go_wp2_with (fail)
  refine (HV.out).mono ?_
  rintro e w2 ⟨bt, T, rfl, hT, hA, ho, hb2⟩
  have HO := Lib.hid (of_fresh hA (by omega) hT)
  have HB2 := Lib.hid (HB1.out.trans (hb2.mono HB1.out.size))
  have HOw := Lib.hid ho
  clear hT hA ho hb2 HV
  go_wp2_with (fail)
  refine (HO.out).mono ?_
  rintro e w3 ⟨br, R0, rfl, hA, hF, ho, hb3⟩
  have H0 : RoomOn w w3 br R0 := ⟨hA, HB2.out.trans (hb3.mono HB2.out.size), fun k hk => Nat.le_trans HB1.out.size (HOw.out k (ho k hk))⟩
  have hpg : R0.pages = 8 := by rw [hF.pages]; exact pagesOf_10
  have hmp : R0.maps = 1 := by have := hA.fit.1; omega
  have hl0 : R0.T.puts.length = 0 := by rw [hF.puts]; rfl
  have G0 := Lib.hid H0
  have HHas0 := Lib.hid hF.has
  have A0 := Lib.hid (on_alloc H0 (by omega) 0 (by omega) (hF.has 0) (fun q hq => by omega))
  have HPG := Lib.hid hpg
  have HMP := Lib.hid hmp
  have HL0 := Lib.hid hl0
  clear hA hF ho hb3 H0 hpg hmp hl0 HO
  go_wp2_with (fail)
  refine (A0.out).mono ?_
  rintro e w4 ⟨rfl, R1, h1, k1, a1⟩
  have hm1 : R1.maps = 1 := k1.maps.trans HMP.out
  have hp1 : R1.pages = 8 := k1.pages.trans HPG.out
  have hh1 : ∀ q, q < 4096 → R1.has q = decide (q = 0) := fun q hq => by rw [a1.has q (by rw [HMP.out]; omega), HHas0.out]; simp
  have hl1 : R1.T.puts.length ≤ 2 := by obtain ⟨a, h1, h2⟩ := a1.puts; rw [h1, List.length_append, HL0.out]; omega
  have A1 := Lib.hid (on_alloc h1 (by omega) 1 (by omega) (by rw [hh1 1 (by omega)]; rfl) (fun q hq => by rw [hh1 q (by omega)]; simp; omega))
  have HM1 := Lib.hid hm1
  have HP1 := Lib.hid hp1
  have HH1 := Lib.hid hh1
  have HL1 := Lib.hid hl1
  clear h1 k1 a1 hm1 hp1 hh1 hl1 A0
  go_wp2_with (fail)
  refine (A1.out).mono ?_
  rintro e w5 ⟨rfl, R2, h2, k2, a2⟩
  have hm2 : R2.maps = 1 := k2.maps.trans HM1.out
  have hp2 : R2.pages = 8 := k2.pages.trans HP1.out
  have hh2 : ∀ q, q < 4096 → R2.has q = (decide (q = 1) || decide (q = 0)) := fun q hq => by rw [a2.has q (by rw [HM1.out]; omega), HH1.out q hq]
  have hl2 : R2.T.puts.length ≤ 4 := by obtain ⟨a, h1, h2⟩ := a2.puts; rw [h1, List.length_append]; have := HL1.out; omega
  have A2 := Lib.hid (on_write h2 (by omega) 1 (by omega) (by rw [hh2 1 (by omega)]; rfl) ⟨#[120]⟩ (by decide))
  have HM2 := Lib.hid hm2
  have HP2 := Lib.hid hp2
  have HH2 := Lib.hid hh2
  have HL2 := Lib.hid hl2
  clear h2 k2 a2 hm2 hp2 hh2 hl2 A1
  go_wp2_with (fail)
  refine (A2.out).mono ?_
  rintro e w6 ⟨rfl, R3, h3, k3, a3⟩
  have hm3 : R3.maps = 1 := k3.maps.trans HM2.out
  have hp3 : R3.pages = 8 := k3.pages.trans HP2.out
  have hh3 : ∀ q, q < 4096 → R3.has q = (decide (q = 1) || decide (q = 0)) := fun q hq => by rw [a3.has q (by rw [HM2.out]; omega), HH2.out q hq]
  have hl3 : R3.T.puts.length ≤ 5 := by obtain ⟨a, h1, h2⟩ := a3.puts; rw [h1, List.length_append]; have := HL2.out; omega
  have ht3 : R3.text 1 = fullS ⟨#[120]⟩ := by rw [a3.text 1 (by rw [HP2.out]; omega), if_pos rfl]
  have A3 := Lib.hid (on_read h3 1 (by omega) (by rw [hh3 1 (by omega)]; rfl))
  rw [ht3] at A3
  have hsz : (fullS ⟨#[120]⟩).size = 512 := fullS_size _ (by decide)
  have hs0 : (fullS ⟨#[120]⟩)[0]'(by rw [hsz]; decide) = 120 := UInt8.toNat_inj.1 ((byteN_get _ 0 (by rw [hsz]; decide)).trans (by rw [byteN_fullS]; rfl))
  generalize fullS ⟨#[120]⟩ = tx at *
  have HM3 := Lib.hid hm3
  have HP3 := Lib.hid hp3
  have HH3 := Lib.hid hh3
  have HL3 := Lib.hid hl3
  clear h3 k3 a3 hm3 hp3 hh3 hl3 A2 ht3
  go_wp2_with (fail)
  refine (A3.out).mono ?_
  rintro e w7 ⟨rfl, h4⟩
  have A4 := Lib.hid (on_free h4 (by have := HL3.out; omega) 0 (by have := HP3.out; omega) (by rw [HH3.out 0 (by omega)]; rfl))
  clear h4 A3
  go_wp2_with (fail)
  refine (A4.out).mono ?_
  rintro e w8 ⟨rfl, R4, h5, k5, a5⟩
  have hp5 : R4.pages = 8 := k5.pages.trans HP3.out
  have hh5 : ∀ q, q < 4096 → R4.has q = decide (q = 1) := fun q hq => by
    rw [a5.has q (by rw [HM3.out]; omega), HH3.out q hq]
    by_cases h0 : q = 0
    · subst h0; rfl
    · simp [h0]
  have hu5 : R4.used = 1 := by
    rw [k5.used, HM3.out, cnt_congr hh5]
    exact cnt_one 1 4096 (by omega)
  have A5 := Lib.hid (on_used h5)
  rw [hu5] at A5
  have he5 : R4.err (0 : Nat) = 6 := err_free (by omega) (by rw [hh5 0 (by omega)]; rfl)
  have A6 := Lib.hid (fun u (hu : RoomOn w u br R4) => on_read_bad hu (0 : Nat) (by rw [he5]; decide))
  rw [he5] at A6
  have A7 := Lib.hid (fun u (hu : RoomOn w u br R4) => roomPagesM_any hu.at_)
  rw [hp5] at A7
  clear h5 k5 a5 hp5 hh5 hu5 he5 A4
  go_wp2_with (fail)
  refine (A5.out).mono ?_
  rintro e w9 ⟨rfl, h6⟩
  have H6 := Lib.hid h6
  clear h6 A5
  go_wp2_with (fail)
  refine (A6.out _ H6.out).mono ?_
  rintro e w10 ⟨rfl, h7⟩
  have H7 := Lib.hid h7
  clear h7
  go_wp2_with (fail)
  refine (A7.out _ H7.out).mono ?_
  rintro e w11 ⟨rfl, rfl⟩
  go_wp2
  go_ret
  exact ⟨rfl, H7.out.below⟩
end Go.Proofs.YtoajdccdhjlikaaDoor
