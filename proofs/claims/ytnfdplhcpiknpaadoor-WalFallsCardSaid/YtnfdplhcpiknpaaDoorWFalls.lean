/-
  THE LAWS of layer 5: WalFalls walked.
-/
import Derived.Test.YtnfdplhcpiknpaaDoorFal5
namespace Go.Proofs.YtnfdplhcpiknpaaDoor
open Go.RowKit Go.MapKept
attribute [local go_sem] gives givesH
set_option maxRecDepth 100000

theorem Fl.holds {B : Nat} {w : World} {bl : Nat} {L : LogS} {d : Dk} {N homes ring bd : Nat} {ws wm : List ByteArray} {v : Value} (h : Fl B w bl L d N homes ring bd ws wm) (hd : L.down = false) {B' : Nat} (hl : ws.length = homes) (hv : TextsAt w B' v ws) :
    Calls Tryd.prog 16 #[.pointer (some ⟨bl, 0, none⟩), v] w fun e w' => e = .returned (.bool true) ∧ Below w.heap.size w w' :=
  (holds_any (h.up hd) hv (hl.trans h.homesE.symm)).mono fun e w' ⟨b, he, hb, hbl⟩ => by
    obtain rfl : b = true := hb.2 (fun _ _ => rfl)
    exact ⟨he, hbl⟩
theorem Fl.downSays {B : Nat} {w : World} {bl : Nat} {L : LogS} {d : Dk} {N homes ring bd : Nat} {ws wm : List ByteArray} (h : Fl B w bl L d N homes ring bd ws wm) :
    Calls Tryd.prog 12 #[.pointer (some ⟨bl, 0, none⟩)] w fun e w' => e = .returned (.bool L.down) ∧ w = w' := logDown_any h.at_.cells
set_option maxHeartbeats 8000000 in
theorem wfalls_walk (ring : Int) {v : Value} {A : List ActP} (w : World) (h : ActsAt w w.heap.size v A) :
    Calls Tryd.prog 7 #[.int .i64 ring, v] w fun e w' => e = .returned (.bool true) ∧ Below w.heap.size w w' := by
  have H1 := Lib.hid (awake5_any w)
  have h0 := h
  obtain ⟨a, b, off, cap, vl, vk, va, hv, hm63, ha, hc⟩ := h0
  subst hv
  obtain ⟨m, hmm⟩ : ∃ m, A.length = m := ⟨_, rfl⟩
  rw [hmm] at h ha hm63 ⊢
  have HA := Lib.hid h
  have HM := Lib.hid hmm
  have HAd := Lib.hid ha
  have HC := Lib.hid hc
  clear hmm ha hc
  by_cases c1 : ring < 4
  · have d1 : decide (ring < 4) = true := by simpa using c1
    go_enter Tryd.func7, Tryd.ntmps7
    go_wp2_with (go_at_call 8; refine (H1.out).mono ?_; rintro e w1 ⟨rfl, hb1⟩)
    go_ret
    exact ⟨rfl, hb1⟩
  have d1 : decide (ring < 4) = false := by simpa using c1
  by_cases c2 : 16 < ring
  · have d2 : decide (16 < ring) = true := by simpa using c2
    go_enter Tryd.func7, Tryd.ntmps7
    go_wp2_with (go_at_call 8; refine (H1.out).mono ?_; rintro e w1 ⟨rfl, hb1⟩)
    go_ret
    exact ⟨rfl, hb1⟩
  have d2 : decide (16 < ring) = false := by simpa using c2
  obtain ⟨r, hr⟩ : ∃ r : Nat, ring = (r : Int) := ⟨ring.toNat, by omega⟩
  subst hr
  have hr4 : 4 ≤ r := by omega
  have hr16 : r ≤ 16 := by omega
  obtain ⟨hm, hhm⟩ : ∃ hm, 23 - r = hm := ⟨_, rfl⟩
  have e5 : (23 : Int) - (r : Int) = (hm : Int) := by omega
  have e7 : IntKind.i64.wrap (hm : Int) = (hm : Int) := wrapI (by omega) (by omega)
  clear h c1 c2
  go_enter Tryd.func7, Tryd.ntmps7
  go_wp2_with (go_at_call 8; refine (H1.out).mono ?_; rintro e w1 ⟨rfl, hb1⟩
               have HB1 := Lib.hid hb1
               have HSm := Lib.hid (small_any ((HA.out.still hb1).mono hb1.size))
               clear hb1)
  refine (HSm.out).mono ?_
  rintro e w2 ⟨bs, rfl, hsm, hb2⟩
  have HB2 := Lib.hid (HB1.out.trans (hb2.mono HB1.out.size))
  clear hb2
  cases bs with
  | false =>
    go_wp2
    go_ret
    exact ⟨rfl, HB2.out⟩
  | true =>
    have hsmA := hsm rfl
    have HSA := Lib.hid hsmA
    have HN := Lib.hid (new5_any 24 (by decide) (by decide) w2)
    clear hsm hsmA
    go_wp2_with (fail)
    refine (HN.out).mono ?_
    rintro e w3 ⟨bd, D, rfl, hf⟩
    have HF := Lib.hid hf
    have HB3 := Lib.hid (HB2.out.trans (hf.below.mono HB2.out.size))
    clear hf
    have HO := Lib.hid (open5_any HF.out.at_ HF.out.dk rfl rfl r hr4 (by omega) (homes := hm) (by rw [HF.out.size]; omega) (by omega) (by decide) (bears_zero 24 r hm (by omega)))
    have HRn := Lib.hid (fun u => refNew_any hm (by omega) u)
    go_wp2_with (first
      | (go_at_call 11; refine (HO.out).mono ?_; rintro e w4 ⟨bl, L, rfl, ho⟩
         have HOp := Lib.hid ho
         have HNw := Lib.hid (ho.newer HF.out.newer HF.out.below.size)
         clear ho)
      | (go_at_call 15; refine (HRn.out _).mono ?_; rintro e w5 ⟨wv, rfl, htx, hb5⟩
         have HTx := Lib.hid htx
         have HB5 := Lib.hid hb5
         clear htx hb5))
    have hB4 : Below w.heap.size w w4 := HB3.out.trans (HNw.out.2.mono (by have := HB2.out.size; omega))
    obtain ⟨va0, vc0, hwv⟩ := slice_formB HTx.out
    have hll : (List.replicate hm (zeros 512)).length = hm := List.length_replicate
    have hfl : Fl w.heap.size w5 bl L (dFresh 24) 0 hm r bd (List.replicate hm (zeros 512)) (List.replicate hm (zeros 512)) :=
      ⟨by rw [HOp.out.homes, HF.out.size]; omega, HOp.out.ringE, HOp.out.bdE, fun k hk => Nat.le_trans HB2.out.size (HNw.out.1 k hk), .inl (HOp.out.up.still HB5.out)⟩
    have htx : Txt w.heap.size w5 bl L wv (List.replicate hm (zeros 512)) := Txt.made HTx.out HOp.out.up.at_ hB4.size
    have HFl0 := Lib.hid hfl
    have HTxt0 := Lib.hid htx
    have HB5' := Lib.hid (hB4.trans (HB5.out.mono hB4.size))
    have HLl := Lib.hid hll
    rw [hll] at hwv
    subst hwv
    generalize List.replicate hm (zeros 512) = ws0 at *
    clear hB4 hfl hll htx
    go_wp2_with (fail)
    go_loopw [7, 9, 10, 50] (fun lv wv mv i wr => ∃ k : Nat, k ≤ m ∧ i = .int .i64 k ∧ (∃ bl L d ws wm, lv = .pointer (some ⟨bl, 0, none⟩) ∧ ws.length = hm ∧ wm.length = hm ∧ Fl w.heap.size wr bl L d k hm r bd ws wm ∧ Txt w.heap.size wr bl L wv ws ∧ Txt w.heap.size wr bl L mv wm) ∧ Below w.heap.size w wr) (fun _ _ _ i _ => m - (intOf i).toNat)
    case atStart => exact ⟨0, by omega, rfl, ⟨bl, L, dFresh 24, ws0, ws0, rfl, HLl.out, HLl.out, HFl0.out, HTxt0.out, HTxt0.out⟩, HB5'.out⟩
    case round =>
      obtain ⟨k, hk, rfl, ⟨bl, Lk, dk, ws, wm, rfl, hlk, hlm, hfl, htxt, hmay⟩, hbel⟩ := hrel
      have HFk := Lib.hid hfl
      have HTk := Lib.hid htxt
      have HMk := Lib.hid hmay
      have HB := Lib.hid hbel
      obtain ⟨ta, tc, htv⟩ := slice_formB htxt.row
      obtain ⟨ma, mc, hmv⟩ := slice_formB hmay.row
      rw [hlk] at htv
      rw [hlm] at hmv
      clear hfl htxt hmay hbel
      by_cases hlt : k < m
      · have g1 : decide ((k : Int) < (m : Int)) = true := by simp; omega
        have g1' : decide (k < m) = true := by simpa using hlt
        obtain ⟨rfl, hb⟩ := HAd.out (by omega)
        obtain ⟨x, hx⟩ : ∃ x, A[k]? = some x := ⟨_, List.getElem?_eq_getElem (by rw [HM.out]; exact hlt)⟩
        obtain ⟨q0, q1, q2, q3, q4, hl, hkp, hag, hsz, hxn, _⟩ := HC.out k x hx
        obtain ⟨la, lc, lb, lo, vs, hlv, _, _⟩ := hl.form
        obtain ⟨ka, kc, hkv⟩ := hkp.form
        obtain ⟨ga, gc, hgv⟩ := hag.form
        rw [← HB.out.cell (p := ⟨b, off + k * 5, none⟩) hb] at q0
        rw [← HB.out.cell (p := ⟨b, off + k * 5 + 1, none⟩) hb] at q1
        rw [← HB.out.cell (p := ⟨b, off + k * 5 + 2, none⟩) hb, hlv] at q2
        rw [← HB.out.cell (p := ⟨b, off + k * 5 + 3, none⟩) hb, hkv] at q3
        rw [← HB.out.cell (p := ⟨b, off + k * 5 + 4, none⟩) hb, hgv] at q4
        rw [hlv] at hl
        rw [hkv] at hkp
        have hm40 : m ≤ 40 := by rw [← HM.out]; exact HSA.out.1
        have htot : x.lists.flatten.length ≤ 200 := Nat.le_trans (total_le (List.mem_of_getElem? hx)) HSA.out.2.2
        have hx10 : x.lists.length ≤ 10 := (HSA.out.2.1 x (List.mem_of_getElem? hx)).1
        have hxs := hsz.flat
        have hnx : x.n ≤ 9223372036854775807 := by
          have h2 : (decide (-9223372036854775808 ≤ x.n) && decide (x.n ≤ 9223372036854775807)) = true := hxn
          simp at h2
          omega
        have hk0 : (0 : Int) ≤ (k : Int) := by omega
        have hk1 : (k : Int) < (m : Int) := by omega
        obtain ⟨o, ho⟩ : ∃ o, Obj.cells #[.int .i64 x.what, .int .i64 x.n, .slice la x.lists.length lc, .slice ka x.keep.length kc, .slice ga x.again.length gc] 40 = o := ⟨_, rfl⟩
        have hwb : Below wr.heap.size wr (wr.alloc o) := (Below.refl _ _).alloc (Nat.le_refl _) _
        have hbx : Below w.heap.size w (wr.alloc o) := HB.out.alloc HB.out.size _
        have bx0 : (wr.alloc o).cell? ⟨wr.heap.size, 0, none⟩ = some (.int .i64 x.what) := by rw [← ho]; exact Lib.cell_of_heap (heap_alloc_new wr _) 0
        have bx1 : (wr.alloc o).cell? ⟨wr.heap.size, 1, none⟩ = some (.int .i64 x.n) := by rw [← ho]; exact Lib.cell_of_heap (heap_alloc_new wr _) 1
        have bx2 : (wr.alloc o).cell? ⟨wr.heap.size, 2, none⟩ = some (.slice la x.lists.length lc) := by rw [← ho]; exact Lib.cell_of_heap (heap_alloc_new wr _) 2
        have bx3 : (wr.alloc o).cell? ⟨wr.heap.size, 3, none⟩ = some (.slice ka x.keep.length kc) := by rw [← ho]; exact Lib.cell_of_heap (heap_alloc_new wr _) 3
        have hbs : wr.heap.size < (wr.alloc o).heap.size := by simp
        have hlw : ListsAt (wr.alloc o) (wr.alloc o).heap.size (.slice la x.lists.length lc) x.lists := (hl.still hbx).mono (by have := HB.out.size; omega)
        have hkw := hkp.still hbx
        have hnf : ¬ Lk.foot bl wr.heap.size := fun hf => by have := HFk.out.at_.foot_lt hf; omega
        have HNf := Lib.hid hnf
        have HFb := Lib.hid (HFk.out.still hwb)
        have HTb := Lib.hid (HTk.out.still hwb)
        have HMb := Lib.hid (HMk.out.still hwb)
        have HBx := Lib.hid hbx
        have HX1 := Lib.hid bx1
        have HX2 := Lib.hid bx2
        have HLw := Lib.hid hlw
        have HKw := Lib.hid hkw
        have HXs := Lib.hid hxs
        subst htv
        subst hmv
        have HRf := Lib.hid (refCommit_any HTb.out.row (by rw [hlk]; omega) (by rw [hlk]; omega) hlw (by omega) (by omega) hxs r)
        clear hx hl hkp hag hsz hlv hkv hgv hwb hbx hlw hkw hxs hnf hxn
        obtain ⟨wk, hwk⟩ : ∃ wk, x.what = wk := ⟨_, rfl⟩
        rw [hwk] at q0 bx0 ho
        clear hwk
        by_cases w0 : wk = 0
        · subst w0
          go_wp2_with (fail)
          try rw [ho]
          with_reducible refine (HRf.out).mono ?_
          rintro e w2 ⟨v2, rfl, hv2, hb2⟩
          obtain ⟨ce, hce⟩ : ∃ ce, cErr ws.length r x.lists.flatten = ce := ⟨_, rfl⟩
          rw [hce]
          have hF2 := HFb.out.still hb2
          have hT2 := HTb.out.still hb2
          have hM2 := HMb.out.still hb2
          have hN2 : Txt w.heap.size w2 bl Lk v2 (refL ws r x.lists.flatten) := by
            rcases hv2 with ⟨rfl, he⟩ | ht
            · rw [he]; exact hT2
            · exact Txt.made ht HFb.out.at_ HBx.out.size
          have hB2 := HBx.out.trans (hb2.mono HBx.out.size)
          have hl2 := (HLw.out.still hb2).mono hb2.size
          have bx22 := hb2.cell (p := ⟨wr.heap.size, 2, none⟩) hbs
          rw [HX2.out] at bx22
          have hce2 : cErr hm r x.lists.flatten = ce := by rw [← hlk]; exact hce
          have hl3 : (refL ws r x.lists.flatten).length = hm := by rw [refL_length]; exact hlk
          have HF2 := Lib.hid hF2
          have HT2 := Lib.hid hT2
          have HM2 := Lib.hid hM2
          have HN2 := Lib.hid hN2
          have HB2' := Lib.hid hB2
          have HL2 := Lib.hid hl2
          have HCe := Lib.hid hce2
          obtain ⟨na, nc, hnv⟩ := slice_formB hN2.row
          rw [hl3] at hnv
          subst hnv
          cases hd0 : Lk.down with
          | true =>
            have HDs0 := Lib.hid (HF2.out.downSays)
            rw [hd0] at HDs0
            have HCd := Lib.hid (commit_down HF2.out.at_ hd0 (.slice la x.lists.length lc))
            have HF3 := Lib.hid (HF2.out.mono (Nat.le_succ k))
            clear hv2 hb2 hF2 hT2 hM2 hN2 hB2 hl2 hce hce2
            go_wp2_with (first
              | (go_at_call 13; with_reducible refine (HCd.out).mono ?_; rintro e wY ⟨rfl, rfl⟩)
              | (go_at_call 12; with_reducible refine (HDs0.out).mono ?_; rintro e wX ⟨rfl, rfl⟩))
            go_roundw
            case rel => exact ⟨k + 1, by omega, rfl, ⟨bl, Lk, dk, ws, wm, rfl, hlk, hlm, HF3.out, HT2.out, HM2.out⟩, HB2'.out⟩
            case measure => simp [intOf]; omega
          | false =>
            have HDs0 := Lib.hid (HF2.out.downSays)
            rw [hd0] at HDs0
            have HCo := Lib.hid (HF2.out.commit hd0 hlk (by omega) hB2.size hl2 (by omega) (by omega) HXs.out)
            rw [hce2] at HCo
            clear hv2 hb2 hF2 hT2 hM2 hN2 hB2 hl2 hce hce2
            go_wp2_with (go_at_call 12; with_reducible refine (HDs0.out).mono ?_; rintro e wX ⟨rfl, rfl⟩)
            with_reducible refine (HCo.out).mono ?_
            rintro e w3' ⟨c, L3, d3, rfl, hst3, hb3, hc3⟩
            have HT3 := Lib.hid (HT2.out.step hst3)
            have HN3 := Lib.hid (HN2.out.step hst3)
            have HB3' := Lib.hid (HB2'.out.trans hb3)
            rcases hc3 with ⟨rfl, hdnK, hF3⟩ | ⟨rfl, hc0, hdnK, hF3⟩
            · have HF3 := Lib.hid hF3
              clear hst3 hb3 hF3
              have hdn : L3.down = false := hdnK
              have HDs := Lib.hid ((HF3.out).downSays)
              rw [hdn] at HDs
              have HHo := Lib.hid ((HF3.out).holds hdn hl3 (HN3.out).row)
              go_wp2_with (first
                | (go_at_call 12; with_reducible refine (HDs.out).mono ?_; rintro e wZ ⟨rfl, rfl⟩)
                | (go_at_call 16; with_reducible refine (HHo.out).mono ?_; rintro e wZ ⟨rfl, hbZ⟩
                   have HFZ := Lib.hid ((HF3.out).still hbZ)
                   have HTZ := Lib.hid ((HN3.out).still hbZ)
                   have HMZ := Lib.hid ((HN3.out).still hbZ)
                   have HBZ := Lib.hid ((HB3'.out).trans (hbZ.mono (HB3'.out).size))
                   clear hbZ))
              go_roundw
              case rel => exact ⟨k + 1, by omega, rfl, ⟨bl, L3, d3, refL ws r x.lists.flatten, refL ws r x.lists.flatten, rfl, hl3, hl3, HFZ.out, HTZ.out, HMZ.out⟩, HBZ.out⟩
              case measure => simp [intOf]; omega
            · have HF3 := Lib.hid hF3
              subst hc0
              clear hst3 hb3 hF3
              have hdn : L3.down = true := hdnK
              have HDs := Lib.hid ((HF3.out).downSays)
              rw [hdn] at HDs
              go_wp2_with (go_at_call 12; with_reducible refine (HDs.out).mono ?_; rintro e wZ ⟨rfl, rfl⟩)
              go_roundw
              case rel => exact ⟨k + 1, by omega, rfl, ⟨bl, L3, d3, ws, refL ws r x.lists.flatten, rfl, hlk, hl3, HF3.out, HT3.out, HN3.out⟩, HB3'.out⟩
              case measure => simp [intOf]; omega
        have t0 : (wk == 0) = false := by simpa using w0
        by_cases w1 : wk = 1
        · subst w1
          have HCk := Lib.hid (HFb.out.checkpoint (by omega) HBx.out.size)
          go_wp2_with (fail)
          try rw [ho]
          with_reducible refine (HCk.out).mono ?_
          rintro e w3' ⟨c, L3, d3, rfl, hst3, hb3, hc3, hF3⟩
          have HF3 := Lib.hid (hF3.mono (Nat.le_succ k))
          have HT3 := Lib.hid (HTb.out.step hst3)
          have HM3 := Lib.hid (HMb.out.step hst3)
          have HB3' := Lib.hid (HBx.out.trans hb3)
          clear hst3 hb3 hF3
          rcases hc3 with rfl | ⟨rfl, hdnK⟩
          · skip
            cases hdn : L3.down with
            | true =>
              have HDs := Lib.hid ((HF3.out).downSays)
              rw [hdn] at HDs
              go_wp2_with (go_at_call 12; with_reducible refine (HDs.out).mono ?_; rintro e wZ ⟨rfl, rfl⟩)
              go_roundw
              case rel => exact ⟨k + 1, by omega, rfl, ⟨bl, L3, d3, ws, wm, rfl, hlk, hlm, HF3.out, HT3.out, HM3.out⟩, HB3'.out⟩
              case measure => simp [intOf]; omega
            | false =>
              have HDs := Lib.hid ((HF3.out).downSays)
              rw [hdn] at HDs
              have HHo := Lib.hid ((HF3.out).holds hdn hlk (HT3.out).row)
              go_wp2_with (first
                | (go_at_call 12; with_reducible refine (HDs.out).mono ?_; rintro e wZ ⟨rfl, rfl⟩)
                | (go_at_call 16; with_reducible refine (HHo.out).mono ?_; rintro e wZ ⟨rfl, hbZ⟩
                   have HFZ := Lib.hid ((HF3.out).still hbZ)
                   have HTZ := Lib.hid ((HT3.out).still hbZ)
                   have HMZ := Lib.hid ((HM3.out).still hbZ)
                   have HBZ := Lib.hid ((HB3'.out).trans (hbZ.mono (HB3'.out).size))
                   clear hbZ))
              go_roundw
              case rel => exact ⟨k + 1, by omega, rfl, ⟨bl, L3, d3, ws, wm, rfl, hlk, hlm, HFZ.out, HTZ.out, HMZ.out⟩, HBZ.out⟩
              case measure => simp [intOf]; omega
          · skip
            have hdn : L3.down = true := hdnK
            have HDs := Lib.hid ((HF3.out).downSays)
            rw [hdn] at HDs
            go_wp2_with (go_at_call 12; with_reducible refine (HDs.out).mono ?_; rintro e wZ ⟨rfl, rfl⟩)
            go_roundw
            case rel => exact ⟨k + 1, by omega, rfl, ⟨bl, L3, d3, ws, wm, rfl, hlk, hlm, HF3.out, HT3.out, HM3.out⟩, HB3'.out⟩
            case measure => simp [intOf]; omega
        have t1 : (wk == 1) = false := by simpa using w1
        by_cases w2 : wk = 2
        · subst w2
          have HFu := Lib.hid (HFb.out.fuel x.n hnx HBx.out.size)
          go_wp2_with (fail)
          try rw [ho]
          with_reducible refine (HFu.out).mono ?_
          rintro e w3' ⟨rfl, L3, hst3, hb3, _, hF3⟩
          have HF3 := Lib.hid (hF3.mono (Nat.le_succ k))
          have HT3 := Lib.hid (HTb.out.step hst3)
          have HM3 := Lib.hid (HMb.out.step hst3)
          have HB3' := Lib.hid (HBx.out.trans hb3)
          clear hst3 hb3 hF3
          cases hdn : L3.down with
          | true =>
            have HDs := Lib.hid ((HF3.out).downSays)
            rw [hdn] at HDs
            go_wp2_with (go_at_call 12; with_reducible refine (HDs.out).mono ?_; rintro e wZ ⟨rfl, rfl⟩)
            go_roundw
            case rel => exact ⟨k + 1, by omega, rfl, ⟨bl, L3, (dk.setFuel x.n), ws, wm, rfl, hlk, hlm, HF3.out, HT3.out, HM3.out⟩, HB3'.out⟩
            case measure => simp [intOf]; omega
          | false =>
            have HDs := Lib.hid ((HF3.out).downSays)
            rw [hdn] at HDs
            have HHo := Lib.hid ((HF3.out).holds hdn hlk (HT3.out).row)
            go_wp2_with (first
              | (go_at_call 12; with_reducible refine (HDs.out).mono ?_; rintro e wZ ⟨rfl, rfl⟩)
              | (go_at_call 16; with_reducible refine (HHo.out).mono ?_; rintro e wZ ⟨rfl, hbZ⟩
                 have HFZ := Lib.hid ((HF3.out).still hbZ)
                 have HTZ := Lib.hid ((HT3.out).still hbZ)
                 have HMZ := Lib.hid ((HM3.out).still hbZ)
                 have HBZ := Lib.hid ((HB3'.out).trans (hbZ.mono (HB3'.out).size))
                 clear hbZ))
            go_roundw
            case rel => exact ⟨k + 1, by omega, rfl, ⟨bl, L3, (dk.setFuel x.n), ws, wm, rfl, hlk, hlm, HFZ.out, HTZ.out, HMZ.out⟩, HBZ.out⟩
            case measure => simp [intOf]; omega
        have t2 : (wk == 2) = false := by simpa using w2
        by_cases w3 : wk = 3
        · subst w3
          have HFa := Lib.hid (HFb.out.fall HBx.out.size HKw.out)
          go_wp2_with (fail)
          try rw [ho]
          with_reducible refine (HFa.out).mono ?_
          rintro e w4 ⟨rfl, L4, d4, W4, hst4, hb4, hag4, hfe4⟩
          have HT4 := Lib.hid (HTb.out.step hst4)
          have HM4 := Lib.hid (HMb.out.step hst4)
          have HB4' := Lib.hid (HBx.out.trans hb4)
          have HAg4 := Lib.hid hag4
          have bx41 := hst4.keep.cell (p := ⟨wr.heap.size, 1, none⟩) hbs HNf.out
          rw [HX1.out] at bx41
          have HFu := Lib.hid (hfe4.fuel x.n hnx HB4'.out.size)
          clear hst4 hb4 hag4 hfe4
          go_wp2_with (fail)
          with_reducible refine (HFu.out).mono ?_
          rintro e w5' ⟨rfl, L5, d5, hst5, hb5', hfe5⟩
          have HT5 := Lib.hid (HT4.out.step hst5)
          have HM5 := Lib.hid (HM4.out.step hst5)
          have HB5'' := Lib.hid (HB4'.out.trans hb5')
          have HBd5 := Lib.hid hfe5.bdE
          have HOp5 := Lib.hid (hfe5.open (by omega) HB5''.out.size (by omega))
          clear hst5 hb5' hfe5
          go_wp2_with (fail)
          with_reducible refine (HOp5.out).mono ?_
          rintro e w6 ⟨b6, L6, rfl, ho6, hh6, hn6, hb6⟩
          have HT6 := Lib.hid (HT5.out.opened HBd5.out ho6)
          have HM6 := Lib.hid (HM5.out.opened HBd5.out ho6)
          have HB6 := Lib.hid (HB5''.out.trans hb6)
          have hfl6 : ∀ wx, Agr hm W4 wx → Fl w.heap.size w6 b6 L6 d5 k hm r bd wx wx := fun wx hx => ⟨hh6, ho6.ringE, ho6.bdE, hn6, .inl (ho6.up.congr (fun j hj => hx j (by rw [← hh6]; exact hj)))⟩
          have HFl6 := Lib.hid hfl6
          have hd6 : L6.down = false := ho6.up.lup
          clear ho6 hh6 hn6 hb6 hfl6
          by_cases hag : Agr hm W4 ws
          · have HFu6 := Lib.hid ((HFl6.out ws hag).fuel (-1) (by decide) HB6.out.size)
            clear hag
            go_wp2_with (fail)
            with_reducible refine (HFu6.out).mono ?_
            rintro e w7 ⟨rfl, L7, hst7, hb7, hdn7, hF7⟩
            have HF7 := Lib.hid (hF7.mono (Nat.le_succ k))
            have HT7 := Lib.hid (HT6.out.step hst7)
            have HB7 := Lib.hid (HB6.out.trans hb7)
            have hdnK : L7.down = false := hdn7.trans hd6
            have HHo7 := Lib.hid (HF7.out.holds hdnK hlk HT7.out.row)
            clear hst7 hb7 hdn7 hF7
            go_wp2_with (fail)
            with_reducible refine (HHo7.out).mono ?_
            rintro e w8 ⟨rfl, hb8⟩
            have HF8 := Lib.hid (HF7.out.still hb8)
            have HT8 := Lib.hid (HT7.out.still hb8)
            have HB8 := Lib.hid (HB7.out.trans (hb8.mono HB7.out.size))
            clear hb8
            have hdn : L7.down = false := hdnK
            have HDs := Lib.hid ((HF8.out).downSays)
            rw [hdn] at HDs
            have HHo := Lib.hid ((HF8.out).holds hdn hlk (HT8.out).row)
            go_wp2_with (first
              | (go_at_call 12; with_reducible refine (HDs.out).mono ?_; rintro e wZ ⟨rfl, rfl⟩)
              | (go_at_call 16; with_reducible refine (HHo.out).mono ?_; rintro e wZ ⟨rfl, hbZ⟩
                 have HFZ := Lib.hid ((HF8.out).still hbZ)
                 have HTZ := Lib.hid ((HT8.out).still hbZ)
                 have HMZ := Lib.hid ((HT8.out).still hbZ)
                 have HBZ := Lib.hid ((HB8.out).trans (hbZ.mono (HB8.out).size))
                 clear hbZ))
            go_roundw
            case rel => exact ⟨k + 1, by omega, rfl, ⟨b6, L7, (d5.setFuel (-1)), ws, ws, rfl, hlk, hlk, HFZ.out, HTZ.out, HMZ.out⟩, HBZ.out⟩
            case measure => simp [intOf]; omega
          · have hagm : Agr hm W4 wm := HAg4.out.resolve_left hag
            have HFu6 := Lib.hid ((HFl6.out wm hagm).fuel (-1) (by decide) HB6.out.size)
            go_wp2_with (fail)
            with_reducible refine (HFu6.out).mono ?_
            rintro e w7 ⟨rfl, L7, hst7, hb7, hdn7, hF7⟩
            have HF7 := Lib.hid (hF7.mono (Nat.le_succ k))
            have HT7 := Lib.hid (HT6.out.step hst7)
            have HM7 := Lib.hid (HM6.out.step hst7)
            have HB7 := Lib.hid (HB6.out.trans hb7)
            have hdnK : L7.down = false := hdn7.trans hd6
            have hhf : Calls Tryd.prog 16 #[.pointer (some ⟨b6, 0, none⟩), .slice ta hm tc] w7 fun e w' => e = .returned (.bool false) ∧ Below w7.heap.size w7 w' :=
              (holds_any (HF7.out.up hdnK) HT7.out.row (hlk.trans HF7.out.homesE.symm)).mono fun e w' ⟨b, he, hb, hbl⟩ => by
                cases b with
                | false => exact ⟨he, hbl⟩
                | true =>
                  exfalso
                  apply hag
                  intro j hj
                  rw [hagm j hj]
                  exact (hb.1 rfl j (by rw [HF7.out.homesE]; exact hj)).symm
            have HHf := Lib.hid hhf
            clear hst7 hb7 hdn7 hF7 hag hagm hhf
            go_wp2_with (fail)
            with_reducible refine (HHf.out).mono ?_
            rintro e w8 ⟨rfl, hb8⟩
            have HF8 := Lib.hid (HF7.out.still hb8)
            have HM8 := Lib.hid (HM7.out.still hb8)
            have HB8 := Lib.hid (HB7.out.trans (hb8.mono HB7.out.size))
            have HHo8 := Lib.hid (HF8.out.holds hdnK hlm HM8.out.row)
            clear hb8
            go_wp2_with (fail)
            with_reducible refine (HHo8.out).mono ?_
            rintro e w9 ⟨rfl, hb9⟩
            have HF9 := Lib.hid (HF8.out.still hb9)
            have HM9 := Lib.hid (HM8.out.still hb9)
            have HB9 := Lib.hid (HB8.out.trans (hb9.mono HB8.out.size))
            clear hb9
            have hdn : L7.down = false := hdnK
            have HDs := Lib.hid ((HF9.out).downSays)
            rw [hdn] at HDs
            have HHo := Lib.hid ((HF9.out).holds hdn hlm (HM9.out).row)
            go_wp2_with (first
              | (go_at_call 12; with_reducible refine (HDs.out).mono ?_; rintro e wZ ⟨rfl, rfl⟩)
              | (go_at_call 16; with_reducible refine (HHo.out).mono ?_; rintro e wZ ⟨rfl, hbZ⟩
                 have HFZ := Lib.hid ((HF9.out).still hbZ)
                 have HTZ := Lib.hid ((HM9.out).still hbZ)
                 have HMZ := Lib.hid ((HM9.out).still hbZ)
                 have HBZ := Lib.hid ((HB9.out).trans (hbZ.mono (HB9.out).size))
                 clear hbZ))
            go_roundw
            case rel => exact ⟨k + 1, by omega, rfl, ⟨b6, L7, (d5.setFuel (-1)), wm, wm, rfl, hlm, hlm, HFZ.out, HTZ.out, HMZ.out⟩, HBZ.out⟩
            case measure => simp [intOf]; omega
        have t3 : (wk == 3) = false := by simpa using w3
        have HFe := Lib.hid (HFb.out.mono (Nat.le_succ k))
        have ho2 := ho
        clear ho2
        go_wp2_with (fail)
        try rw [ho]
        cases hdn : Lk.down with
        | true =>
          have HDs := Lib.hid ((HFe.out).downSays)
          rw [hdn] at HDs
          go_wp2_with (go_at_call 12; with_reducible refine (HDs.out).mono ?_; rintro e wZ ⟨rfl, rfl⟩)
          go_roundw
          case rel => exact ⟨k + 1, by omega, rfl, ⟨bl, Lk, dk, ws, wm, rfl, hlk, hlm, HFe.out, HTb.out, HMb.out⟩, HBx.out⟩
          case measure => simp [intOf]; omega
        | false =>
          have HDs := Lib.hid ((HFe.out).downSays)
          rw [hdn] at HDs
          have HHo := Lib.hid ((HFe.out).holds hdn hlk (HTb.out).row)
          go_wp2_with (first
            | (go_at_call 12; with_reducible refine (HDs.out).mono ?_; rintro e wZ ⟨rfl, rfl⟩)
            | (go_at_call 16; with_reducible refine (HHo.out).mono ?_; rintro e wZ ⟨rfl, hbZ⟩
               have HFZ := Lib.hid ((HFe.out).still hbZ)
               have HTZ := Lib.hid ((HTb.out).still hbZ)
               have HMZ := Lib.hid ((HMb.out).still hbZ)
               have HBZ := Lib.hid ((HBx.out).trans (hbZ.mono (HBx.out).size))
               clear hbZ))
          go_roundw
          case rel => exact ⟨k + 1, by omega, rfl, ⟨bl, Lk, dk, ws, wm, rfl, hlk, hlm, HFZ.out, HTZ.out, HMZ.out⟩, HBZ.out⟩
          case measure => simp [intOf]; omega
      · have g1 : decide ((k : Int) < (m : Int)) = false := by simp; omega
        have g1' : decide (k < m) = false := by simpa using hlt
        go_wp2
        go_ret
        exact ⟨rfl, HB.out⟩
end Go.Proofs.YtnfdplhcpiknpaaDoor
