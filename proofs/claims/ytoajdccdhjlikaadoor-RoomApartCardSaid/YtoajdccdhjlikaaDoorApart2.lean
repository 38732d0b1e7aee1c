/-
  RoomApart, walked.
-/
import Derived.Test.YtoajdccdhjlikaaDoorApart
namespace Go.Proofs.YtoajdccdhjlikaaDoor
open Go.RowKit Go.MapKept
set_option maxRecDepth 100000

theorem pagesOf_20 : (pagesOf 20).toNat = 18 := by decide
theorem own4 : (fullS ⟨#[111, 119, 110]⟩).extract 0 4 = ⟨#[111, 119, 110, 0]⟩ := by
  have hs : (fullS ⟨#[111, 119, 110]⟩).size = 512 := fullS_size _ (by decide)
  have hb : ∀ k, byteN (fullS ⟨#[111, 119, 110]⟩) k = byteN ⟨#[111, 119, 110]⟩ k := fun k => byteN_fullS _ k
  generalize fullS ⟨#[111, 119, 110]⟩ = t at *
  have hz : (t.extract 0 4).size = 4 := by rw [ByteArray.size_extract]; omega
  refine bytes_ext hz (fun k hk => ?_)
  rw [hz] at hk
  have h1 : byteN (t.extract 0 4) k = byteN t k := by
    have := ext_get t 0 4 k (by omega) (by omega)
    unfold byteN
    rw [this, Nat.zero_add]
  rw [h1, hb]
  have h4 : ∀ j : Fin 4, byteN ⟨#[111, 119, 110]⟩ j.val = byteN ⟨#[111, 119, 110, 0]⟩ j.val := by decide
  exact h4 ⟨k, hk⟩

set_option maxHeartbeats 4000000 in
theorem apart_walk (a : Option Addr) (b off len cap : Nat) (wh at_ nn : Nat → Int) (tx : Nat → ByteArray) (n : Nat) (w : World) (hn : n < 18446744073709551616) (ha : 0 < len → a = some ⟨b, off, none⟩ ∧ b < w.heap.size) (hlen : len ≤ 9223372036854775807)
    (hc : ∀ k, k < len → w.cell? ⟨b, off + k * 4, none⟩ = some (.int .i64 (wh k)) ∧ w.cell? ⟨b, off + k * 4 + 1, none⟩ = some (.int .i64 (at_ k)) ∧ w.cell? ⟨b, off + k * 4 + 2, none⟩ = some (.int .u64 (nn k)) ∧ w.cell? ⟨b, off + k * 4 + 3, none⟩ = some (.string (tx k)))
    (hs : ∀ k, k < len → (tx k).size ≤ 9223372036854775807) :
    Calls Tryd.prog 3 #[.slice a len cap, .int .u64 n] w fun e w' => e = .returned (.bool true) ∧ Below w.heap.size w w' := by
  have HA := Lib.hid (awake7_any w)
  have HC := Lib.hid hc
  have HS := Lib.hid hs
  have HAa := Lib.hid ha
  by_cases h30 : 30 < len
  · have e1 : decide ((30 : Int) < (len : Int)) = true := by simp; omega
    clear hc hs ha hn
    go_enter Tryd.func3, Tryd.ntmps3
    go_wp2_with (first
      | (go_at_call 12; refine (HA.out).mono ?_; rintro e w1 ⟨rfl, hb1⟩))
    go_ret
    exact ⟨rfl, hb1⟩
  · have e1 : decide ((30 : Int) < (len : Int)) = false := by simp; omega
    have HW := Lib.hid (fun u => wide_view 20 (by omega) (by omega) u)
    have hl30 : len ≤ 30 := by omega
    have HN := Lib.hid hn
    clear hc hs ha h30 hn
    go_enter Tryd.func3, Tryd.ntmps3
    go_wp2_with (first
      | (go_at_call 12; refine (HA.out).mono ?_; rintro e w1 ⟨rfl, hb1⟩
         have HB1 := Lib.hid hb1
         clear hb1)
      | (go_at_call 13; refine (HW.out _).mono ?_; rintro e w2 ⟨bd, bl, rfl, hv, hb2⟩
         have HV := Lib.hid (begin_fresh hv)
         have HB2 := Lib.hid (HB1.out.trans (hb2.mono HB1.out.size))
         clear hv hb2)
      | (go_at_call 15; refine (HV.out).mono ?_; rintro e w3 ⟨bt, T, rfl, hT, hA, ho, hb3⟩
         have HO := Lib.hid (of_fresh hA (by omega) hT)
         have HB3 := Lib.hid (HB2.out.trans (hb3.mono HB2.out.size))
         have HOw := Lib.hid ho
         clear hT hA ho hb3)
      | (go_at_call 14; refine (HO.out).mono ?_; rintro e w4 ⟨br, R0, rfl, hA, hF, ho, hb4⟩
         have H0 : RoomOn w w4 br R0 := ⟨hA, HB3.out.trans (hb4.mono HB3.out.size), fun k hk => Nat.le_trans HB2.out.size (HOw.out k (ho k hk))⟩
         have hpg0 : R0.pages = 18 := by rw [hF.pages]; exact pagesOf_20
         have hmp0 : R0.maps = 1 := by have h1 := hA.fit.1; omega
         have hl0 : R0.T.puts.length = 0 := by rw [hF.puts]; rfl
         have A0 := Lib.hid (on_alloc H0 (by omega) 0 (by omega) (hF.has 0) (fun q hq => by omega))
         have HPG := Lib.hid hpg0
         have HMP := Lib.hid hmp0
         have HL0 := Lib.hid hl0
         clear hA hF ho hb4 H0 hpg0 hmp0 hl0)
      | (go_at_call 16; refine (A0.out).mono ?_; rintro e w5 ⟨rfl, R1, h1, k1, a1⟩
         have hl1 : R1.T.puts.length ≤ 2 := by obtain ⟨x, h1, h2⟩ := a1.puts; rw [h1, List.length_append, HL0.out]; omega
         have hp1 : R1.pages = 18 := k1.pages.trans HPG.out
         have hm1 : R1.maps = 1 := k1.maps.trans HMP.out
         have hh1 : R1.has 0 = true := by rw [a1.has 0 (by rw [HMP.out]; omega)]; rfl
         have A1 := Lib.hid (on_write h1 (by omega) 0 (by omega) hh1 ⟨#[111, 119, 110]⟩ (by decide))
         have HP1 := Lib.hid hp1
         have HM1 := Lib.hid hm1
         have HL1 := Lib.hid hl1
         have HH1 := Lib.hid hh1
         clear h1 k1 a1 hl1 hp1 hm1 hh1)
      | (go_at_call 17; refine (A1.out).mono ?_; rintro e w6 ⟨rfl, R2, h2, k2, a2⟩
         have hl2 : R2.T.puts.length ≤ 3 := by obtain ⟨x, h1, h2⟩ := a2.puts; rw [h1, List.length_append]; have := HL1.out; omega
         have A2 := Lib.hid (on_setRoot h2 (by omega) 3 (by omega) n HN.out)
         have HP2 := Lib.hid (k2.pages.trans HP1.out)
         have HM2 := Lib.hid (k2.maps.trans HM1.out)
         have HL2 := Lib.hid hl2
         have HH2 := Lib.hid ((a2.has 0 (by rw [HM1.out]; omega)).trans HH1.out)
         have HT2 := Lib.hid ((a2.text 0 (by rw [HP1.out]; omega)).trans (if_pos rfl))
         clear h2 k2 a2 hl2)
      | (go_at_call 18; refine (A2.out).mono ?_; rintro e w7 ⟨rfl, R3, h3, k3, a3⟩
         have hO : Ours w w7 br (fullS ⟨#[111, 119, 110]⟩) n 10 := ⟨R3, h3, k3.pages.trans HP2.out, k3.maps.trans HM2.out, (a3.has 0 (by rw [HM2.out]; omega)).trans HH2.out, (a3.text 0 (by rw [HP2.out]; omega)).trans HT2.out, by rw [a3.root 3, if_pos rfl], by obtain ⟨x, h1, h2⟩ := a3.puts; rw [h1, List.length_append]; have := HL2.out; omega⟩
         have HOurs := Lib.hid hO
         clear h3 k3 a3 hO))
    have hown4 := own4
    have hsz : (fullS ⟨#[111, 119, 110]⟩).size = 512 := fullS_size _ (by decide)
    generalize fullS ⟨#[111, 119, 110]⟩ = tz at *
    go_loopw [49] (fun i wr => ∃ k : Nat, k ≤ len ∧ i = .int .i64 k ∧ Ours w wr br tz n (10 + 2 * k)) (fun i _ => len - (intOf i).toNat)
    case atStart => exact ⟨0, by omega, rfl, HOurs.out⟩
    case round =>
      obtain ⟨k, hk, rfl, hours⟩ := hrel
      have HOu := Lib.hid hours
      clear hours
      by_cases hkl : k < len
      · have g1 : decide ((k : Int) < (len : Int)) = true := by simp; omega
        obtain ⟨rfl, hbw⟩ := HAa.out (by omega)
        obtain ⟨q0, q1, q2, q3⟩ := HC.out k hkl
        rw [← HOu.out.below.cell (p := ⟨b, off + k * 4, none⟩) hbw] at q0
        rw [← HOu.out.below.cell (p := ⟨b, off + k * 4 + 1, none⟩) hbw] at q1
        rw [← HOu.out.below.cell (p := ⟨b, off + k * 4 + 2, none⟩) hbw] at q2
        rw [← HOu.out.below.cell (p := ⟨b, off + k * 4 + 3, none⟩) hbw] at q3
        have hts := HS.out k hkl
        generalize wh k = wk at *
        generalize at_ k = ak at *
        generalize nn k = nk at *
        generalize tx k = tk at *
        have hk0 : (0 : Int) ≤ (k : Int) := by omega
        have hk1 : (k : Int) < (len : Int) := by omega
        have HAl := Lib.hid (fun u (hu : Ours w u br tz n (10 + 2 * k)) => hu.alloc (by omega))
        have HFr := Lib.hid (fun u (hu : Ours w u br tz n (10 + 2 * k)) (hne : ak ≠ 0) => hu.free (by omega) ak hne)
        have HWr := Lib.hid (fun u (hu : Ours w u br tz n (10 + 2 * k)) (hne : ak ≠ 0) => hu.write (by omega) ak hne tk hts)
        have HU := Lib.hid (HOu.out.still ((Below.refl _ _).alloc (Nat.le_refl _) (Obj.cells #[Value.int IntKind.i64 wk, Value.int IntKind.i64 ak, Value.int IntKind.u64 nk, Value.string tk] 39)))
        by_cases hbig : 600 < tk.size
        · have g2 : decide ((600 : Int) < (tk.size : Int)) = true := by simp; omega
          clear hbig
          go_wp2
          go_ret
          exact ⟨rfl, HU.out.below⟩
        · have g2 : decide ((600 : Int) < (tk.size : Int)) = false := by simp; omega
          clear hbig
          by_cases w0 : wk = 0
          · have t0 : (wk == 0) = true := by simpa using w0
            clear w0
            go_wp2_with (go_at_call 16; refine (HAl.out _ HU.out).mono ?_; rintro e w8 ⟨r, x, rfl, ho⟩; have HO8 := Lib.hid ho; clear ho)
            go_roundw
            case rel => exact ⟨k + 1, by omega, by go_num, HO8.out.mono (by omega)⟩
            case measure => simp [intOf]; omega
          · have t0 : (wk == 0) = false := by simpa using w0
            clear w0
            by_cases a0 : ak = 0
            · have t1 : (ak == 0) = true := by simpa using a0
              clear a0
              go_wp2
              go_roundw
              case rel => exact ⟨k + 1, by omega, by go_num, HU.out.mono (by omega)⟩
              case measure => simp [intOf]; omega
            · have t1 : (ak == 0) = false := by simpa using a0
              have HA0 := Lib.hid a0
              clear a0
              by_cases w1 : wk = 1
              · have t2 : (wk == 1) = true := by simpa using w1
                clear w1
                go_wp2_with (go_at_call 19; refine (HFr.out _ HU.out HA0.out).mono ?_; rintro e w8 ⟨x, rfl, ho⟩; have HO8 := Lib.hid ho; clear ho)
                go_roundw
                case rel => exact ⟨k + 1, by omega, by go_num, HO8.out.mono (by omega)⟩
                case measure => simp [intOf]; omega
              · have t2 : (wk == 1) = false := by simpa using w1
                clear w1
                by_cases w2 : wk = 2
                · have t3 : (wk == 2) = true := by simpa using w2
                  clear w2
                  go_wp2_with (go_at_call 17; refine (HWr.out _ HU.out HA0.out).mono ?_; rintro e w8 ⟨x, rfl, ho⟩; have HO8 := Lib.hid ho; clear ho)
                  go_roundw
                  case rel => exact ⟨k + 1, by omega, by go_num, HO8.out.mono (by omega)⟩
                  case measure => simp [intOf]; omega
                · have t3 : (wk == 2) = false := by simpa using w2
                  clear w2
                  go_wp2
                  go_roundw
                  case rel => exact ⟨k + 1, by omega, by go_num, HU.out.mono (by omega)⟩
                  case measure => simp [intOf]; omega
      · have g1 : decide ((k : Int) < (len : Int)) = false := by simp; omega
        have hread := HOu.out
        obtain ⟨R, h1, h2, h3, h4, h5, h6, h7⟩ := hread
        have HRd := Lib.hid (on_read h1 0 (by omega) h4)
        rw [h5] at HRd
        have HRt := Lib.hid (fun u (hu : RoomOn w u br R) => on_root hu 3 (by omega))
        rw [h6] at HRt
        have n4 : (0 : Int) ≤ 4 := by omega
        clear h1 h2 h3 h4 h5 h6 h7
        go_wp2_with (first
          | (go_at_call 20; refine (HRd.out).mono ?_; rintro e w8 ⟨rfl, ho⟩; have HO8 := Lib.hid ho; clear ho)
          | (go_at_call 21; refine (HRt.out _ HO8.out).mono ?_; rintro e w9 ⟨rfl, ho⟩; have HO9 := Lib.hid ho; clear ho))
        go_ret
        exact ⟨rfl, HO9.out.below⟩
theorem wf_u64 {z : Int} (h : (Lit.int .u64 z).wf = true) : 0 ≤ z ∧ z < 18446744073709551616 := by
  have h2 : (decide (0 ≤ z) && decide (z ≤ 18446744073709551615)) = true := h
  simp at h2
  omega
theorem apart_walk' (a : Option Addr) (b off len cap : Nat) (wh at_ nn : Nat → Int) (tx : Nat → ByteArray) (z : Int) (w : World) (hn : (Lit.int .u64 z).wf = true) (ha : 0 < len → a = some ⟨b, off, none⟩ ∧ b < w.heap.size) (hlen : len ≤ 9223372036854775807)
    (hc : ∀ k, k < len → w.cell? ⟨b, off + k * 4, none⟩ = some (.int .i64 (wh k)) ∧ w.cell? ⟨b, off + k * 4 + 1, none⟩ = some (.int .i64 (at_ k)) ∧ w.cell? ⟨b, off + k * 4 + 2, none⟩ = some (.int .u64 (nn k)) ∧ w.cell? ⟨b, off + k * 4 + 3, none⟩ = some (.string (tx k)))
    (hs : ∀ k, k < len → (tx k).size ≤ 9223372036854775807) :
    Calls Tryd.prog 3 #[.slice a len cap, .int .u64 z] w fun e w' => e = .returned (.bool true) ∧ Below w.heap.size w w' := by
  obtain ⟨h1, h2⟩ := wf_u64 hn
  obtain ⟨n, rfl⟩ : ∃ n : Nat, z = n := ⟨z.toNat, by omega⟩
  exact apart_walk a b off len cap wh at_ nn tx n w (by omega) ha hlen hc hs
end Go.Proofs.YtoajdccdhjlikaaDoor
