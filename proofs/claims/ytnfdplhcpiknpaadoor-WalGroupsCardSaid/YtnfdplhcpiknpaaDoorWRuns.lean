/-
  THE LAWS of layer 5: WalRuns walked.
-/
import Derived.Test.YtnfdplhcpiknpaaDoorSma5
import Derived.Test.YtnfdplhcpiknpaaDoorLogIn
namespace Go.Proofs.YtnfdplhcpiknpaaDoor
open Go.RowKit Go.MapKept
attribute [local go_sem] gives givesH
set_option maxRecDepth 100000

section
variable {B : Nat} {w w' : World} {bl : Nat} {L L' : LogS} {d : Dk} {N homes ring : Nat} {W : Int → ByteArray} {v : Value} {ws : List ByteArray}
/-- such a log holds what the list says -/
theorem LogIn.holds (h : LogIn B w bl L d N homes ring (atL ws)) {B' : Nat} (hl : ws.length = homes) (hv : TextsAt w B' v ws) :
    Calls Tryd.prog 16 #[.pointer (some ⟨bl, 0, none⟩), v] w fun e w' => e = .returned (.bool true) ∧ Below w.heap.size w w' :=
  (holds_any h.up hv (hl.trans h.homes.symm)).mono fun e w' ⟨b, he, hb, hbl⟩ => by
    obtain rfl : b = true := hb.2 (fun _ _ => rfl)
    exact ⟨he, hbl⟩
end
theorem BoolsAt.mono {w : World} {B B' : Nat} {v : Value} {l : List Bool} (h : BoolsAt w B v l) (hB : B ≤ B') : BoolsAt w B' v l := by
  obtain ⟨a, b, off, cap, h1, h2, h3⟩ := h
  exact ⟨a, b, off, cap, h1, fun h0 => ⟨(h2 h0).1, Nat.lt_of_lt_of_le (h2 h0).2 hB⟩, h3⟩
theorem ActsAt.mono {w : World} {B B' : Nat} {v : Value} {A : List ActP} (h : ActsAt w B v A) (hB : B ≤ B') : ActsAt w B' v A := by
  obtain ⟨a, b, off, cap, vl, vk, va, h1, hm, h2, h3⟩ := h
  refine ⟨a, b, off, cap, vl, vk, va, h1, hm, fun h0 => ⟨(h2 h0).1, Nat.lt_of_lt_of_le (h2 h0).2 hB⟩, fun k x hx => ?_⟩
  obtain ⟨c0, c1, c2, c3, c4, c5, c6, c7, c8⟩ := h3 k x hx
  exact ⟨c0, c1, c2, c3, c4, c5.mono hB, c6.mono hB, c7.mono hB, c8⟩
theorem total_le {A : List ActP} {x : ActP} (h : x ∈ A) : x.lists.flatten.length ≤ totalA A := by
  unfold totalA
  induction A with
  | nil => cases h
  | cons y A ih =>
    simp only [List.map_cons, List.sum_cons]
    rcases List.mem_cons.1 h with rfl | h
    · omega
    · have := ih h
      omega
theorem bears_zero (n ring homes : Nat) (h : 0 < ring) : Bears (dFresh n).firm ring homes 0 (atL (List.replicate homes (zeros 512))) := by
  obtain ⟨t, s, r, h1, h2, h3⟩ := dFresh_bears n ring homes h
  refine ⟨t, s, r, h1, h2, fun k hk => (h3 k hk).trans ?_⟩
  unfold atL
  rw [Int.toNat_natCast, List.getD_eq_getElem?_getD, List.getElem?_replicate, if_pos hk]
  rfl
theorem open_bad {w : World} {bd : Nat} {D : DiskS} (h : DiskAt w bd D) (ring : Int) (hr : ring < 4 ∨ 4096 < ring ∨ (D.size : Int) < ring + 2) :
    Calls Tryd.prog 11 #[.pointer (some ⟨bd, 0, none⟩), .int .i64 ring] w fun e w' => e = .returned (.tuple #[.pointer none, .int .i64 1]) ∧ w = w' := by
  have H1 := Lib.hid (diskSize_any h.cells)
  have hsz := h.size
  by_cases c1 : ring < 4
  · have d1 : decide (ring < 4) = true := by simpa using c1
    go_enter Tryd.func11, Tryd.ntmps11
    go_wp2
    go_ret2
    exact ⟨rfl, rfl⟩
  have d1 : decide (ring < 4) = false := by simpa using c1
  by_cases c2 : 4096 < ring
  · have d2 : decide (4096 < ring) = true := by simpa using c2
    go_enter Tryd.func11, Tryd.ntmps11
    go_wp2
    go_ret2
    exact ⟨rfl, rfl⟩
  have d2 : decide (4096 < ring) = false := by simpa using c2
  have d3 : decide ((D.size : Int) < ring + 2) = true := by simp; omega
  have e4 : IntKind.i64.wrap (ring + 2) = ring + 2 := wrapI (by omega) (by omega)
  go_enter Tryd.func11, Tryd.ntmps11
  go_wp2_with (go_at_call 22; refine (H1.out).mono ?_; rintro e w1 ⟨rfl, rfl⟩)
  go_ret2
  exact ⟨rfl, rfl⟩
set_option maxHeartbeats 4000000 in
theorem wruns_walk (size ring : Int) (hs63 : (Lit.int .i64 size).wf = true) (hr63 : (Lit.int .i64 ring).wf = true) {v : Value} {A : List ActP} (w : World) (h : ActsAt w w.heap.size v A) :
    Calls Tryd.prog 3 #[.int .i64 size, .int .i64 ring, v] w fun e w' => e = .returned (.bool true) ∧ Below w.heap.size w w' := by
  have H1 := Lib.hid (awake5_any w)
  have h0 := h
  obtain ⟨a, b, off, cap, vl, vk, va, hv, hm63, ha, hc⟩ := h0
  subst hv
  obtain ⟨m, hmm⟩ : ∃ m, A.length = m := ⟨_, rfl⟩
  rw [hmm] at h ha hm63 ⊢
  have HA := Lib.hid h
  have HM := Lib.hid hmm
  have HAd := Lib.hid ha
  have HC := Lib.hid hc
  clear hmm ha hc
  by_cases c1 : size < 1
  · have d1 : decide (size < 1) = true := by simpa using c1
    go_enter Tryd.func3, Tryd.ntmps3
    go_wp2_with (go_at_call 8; refine (H1.out).mono ?_; rintro e w1 ⟨rfl, hb1⟩)
    go_ret
    exact ⟨rfl, hb1⟩
  have d1 : decide (size < 1) = false := by simpa using c1
  by_cases c2 : 80 < size
  · have d2 : decide (80 < size) = true := by simpa using c2
    go_enter Tryd.func3, Tryd.ntmps3
    go_wp2_with (go_at_call 8; refine (H1.out).mono ?_; rintro e w1 ⟨rfl, hb1⟩)
    go_ret
    exact ⟨rfl, hb1⟩
  have d2 : decide (80 < size) = false := by simpa using c2
  obtain ⟨n, hn⟩ : ∃ n : Nat, size = (n : Int) := ⟨size.toNat, by omega⟩
  subst hn
  have hn1 : 1 ≤ n := by omega
  have hn8 : n ≤ 80 := by omega
  clear h
  go_enter Tryd.func3, Tryd.ntmps3
  go_wp2_with (go_at_call 8; refine (H1.out).mono ?_; rintro e w1 ⟨rfl, hb1⟩
               have HB1 := Lib.hid hb1
               have HSm := Lib.hid (small_any ((HA.out.still hb1).mono hb1.size))
               clear hb1)
  refine (HSm.out).mono ?_
  rintro e w2 ⟨bs, rfl, hsm, hb2⟩
  have HB2 := Lib.hid (HB1.out.trans (hb2.mono HB1.out.size))
  clear hb2
  cases bs with
  | false =>
    go_wp2
    go_ret
    exact ⟨rfl, HB2.out⟩
  | true =>
    have hsmA := hsm rfl
    have HSA := Lib.hid hsmA
    have HN := Lib.hid (new5_any n hn1 (by omega) w2)
    clear hsm hsmA
    go_wp2_with (fail)
    refine (HN.out).mono ?_
    rintro e w3 ⟨bd, D, rfl, hf⟩
    have HF := Lib.hid hf
    have HB3 := Lib.hid (HB2.out.trans (hf.below.mono HB2.out.size))
    clear hf
    by_cases hbad : ring < 4 ∨ 4096 < ring ∨ (n : Int) < ring + 2
    · have HO := Lib.hid (open_bad HF.out.at_ ring (by rw [HF.out.size]; exact hbad))
      by_cases b1 : ring < 4
      · have f1 : decide (ring < 4) = true := by simpa using b1
        go_wp2_with (first
          | (go_at_call 11; refine (HO.out).mono ?_; rintro e w4 ⟨rfl, rfl⟩))
        go_wp2
        go_ret
        exact ⟨rfl, HB3.out⟩
      have f1 : decide (ring < 4) = false := by simpa using b1
      by_cases b2 : 4096 < ring
      · have f2 : decide (4096 < ring) = true := by simpa using b2
        go_wp2_with (first
          | (go_at_call 11; refine (HO.out).mono ?_; rintro e w4 ⟨rfl, rfl⟩))
        go_wp2
        go_ret
        exact ⟨rfl, HB3.out⟩
      have f2 : decide (4096 < ring) = false := by simpa using b2
      have f3 : decide ((n : Int) < ring + 2) = true := by simp; omega
      have e4 : IntKind.i64.wrap (ring + 2) = ring + 2 := wrapI (by omega) (by omega)
      go_wp2_with (first
        | (go_at_call 11; refine (HO.out).mono ?_; rintro e w4 ⟨rfl, rfl⟩))
      go_wp2
      go_ret
      exact ⟨rfl, HB3.out⟩
    obtain ⟨r, hr⟩ : ∃ r : Nat, ring = (r : Int) := ⟨ring.toNat, by omega⟩
    subst hr
    have hr4 : 4 ≤ r := by omega
    have hr5 : r ≤ 4096 := by omega
    have hrn : r + 2 ≤ n := by omega
    obtain ⟨hm, hhm⟩ : ∃ hm, n - 1 - r = hm := ⟨_, rfl⟩
    have f1 : decide ((r : Int) < 4) = false := by simp; omega
    have f2 : decide ((4096 : Int) < (r : Int)) = false := by simp; omega
    have f3 : decide ((n : Int) < (r : Int) + 2) = false := by simp; omega
    have e4 : IntKind.i64.wrap ((r : Int) + 2) = (r : Int) + 2 := wrapI (by omega) (by omega)
    have e5 : (n : Int) - 1 - (r : Int) = (hm : Int) := by omega
    have e6 : IntKind.i64.wrap ((n : Int) - 1) = (n : Int) - 1 := wrapI (by omega) (by omega)
    have e7 : IntKind.i64.wrap (hm : Int) = (hm : Int) := wrapI (by omega) (by omega)
    have HO := Lib.hid (open5_any HF.out.at_ HF.out.dk rfl rfl r hr4 hr5 (homes := hm) (by rw [HF.out.size]; omega) (by omega) (by decide) (bears_zero n r hm (by omega)))
    have HRn := Lib.hid (fun u => refNew_any hm (by omega) u)
    clear hbad
    go_wp2_with (first
      | (go_at_call 11; refine (HO.out).mono ?_; rintro e w4 ⟨bl, L, rfl, ho⟩
         have HOp := Lib.hid ho
         have HNw := Lib.hid (ho.newer HF.out.newer HF.out.below.size)
         clear ho)
      | (go_at_call 15; refine (HRn.out _).mono ?_; rintro e w5 ⟨wv, rfl, htx, hb5⟩
         have HTx := Lib.hid htx
         have HB5 := Lib.hid hb5
         clear htx hb5))
    have hB4 : Below w.heap.size w w4 := HB3.out.trans (HNw.out.2.mono (by have := HB2.out.size; omega))
    have hlin : LogIn w.heap.size w5 bl L (dFresh n) 0 hm r (atL (List.replicate hm (zeros 512))) :=
      ⟨HOp.out.up.still HB5.out, by rw [HOp.out.homes, HF.out.size]; omega, HOp.out.ringE, fun k hk => Nat.le_trans HB2.out.size (HNw.out.1 k hk), rfl⟩
    have hll : (List.replicate hm (zeros 512)).length = hm := List.length_replicate
    have htx : Txt w.heap.size w5 bl L wv (List.replicate hm (zeros 512)) := Txt.made HTx.out HOp.out.up.at_ hB4.size
    have HHo := Lib.hid (hlin.holds hll htx.row)
    have HLin := Lib.hid hlin
    have HTxt := Lib.hid htx
    have HB5' := Lib.hid (hB4.trans (HB5.out.mono hB4.size))
    have HLl := Lib.hid hll
    generalize List.replicate hm (zeros 512) = ws0 at *
    clear hB4 hlin hll htx
    go_wp2_with (first
      | (go_at_call 16; refine (HHo.out).mono ?_; rintro e w6 ⟨rfl, hb6⟩
         have HLin6 := Lib.hid (HLin.out.still hb6)
         have HTxt6 := Lib.hid (HTxt.out.still hb6)
         have HB6 := Lib.hid (HB5'.out.trans (hb6.mono HB5'.out.size))
         clear hb6))
    go_loopw [11, 87] (fun wv i wr => ∃ k : Nat, k ≤ m ∧ i = .int .i64 k ∧ (∃ ws L d, ws.length = hm ∧ LogIn w.heap.size wr bl L d k hm r (atL ws) ∧ Txt w.heap.size wr bl L wv ws) ∧ Below w.heap.size w wr) (fun _ i _ => m - (intOf i).toNat)
    case atStart => exact ⟨0, by omega, rfl, ⟨ws0, L, dFresh n, HLl.out, HLin6.out, HTxt6.out⟩, HB6.out⟩
    case round =>
      obtain ⟨k, hk, rfl, ⟨ws, Lk, dk, hlk, hlin, htxt⟩, hbel⟩ := hrel
      have HLk := Lib.hid hlin
      have HTk := Lib.hid htxt
      have HB := Lib.hid hbel
      have HLn := Lib.hid hlk
      obtain ⟨ta, tc, htv⟩ := slice_formB htxt.row
      clear hlin htxt hbel
      by_cases hlt : k < m
      · have g1 : decide ((k : Int) < (m : Int)) = true := by simp; omega
        have g1' : decide (k < m) = true := by simpa using hlt
        obtain ⟨rfl, hb⟩ := HAd.out (by omega)
        obtain ⟨x, hx⟩ : ∃ x, A[k]? = some x := ⟨_, List.getElem?_eq_getElem (by rw [HM.out]; exact hlt)⟩
        obtain ⟨q0, q1, q2, q3, q4, hl, hkp, hag, hsz, _, _⟩ := HC.out k x hx
        obtain ⟨la, lc, lb, lo, vs, hlv, _, _⟩ := hl.form
        obtain ⟨ka, kc, hkv⟩ := hkp.form
        obtain ⟨ga, gc, hgv⟩ := hag.form
        rw [← HB.out.cell (p := ⟨b, off + k * 5, none⟩) hb] at q0
        rw [← HB.out.cell (p := ⟨b, off + k * 5 + 1, none⟩) hb] at q1
        rw [← HB.out.cell (p := ⟨b, off + k * 5 + 2, none⟩) hb, hlv] at q2
        rw [← HB.out.cell (p := ⟨b, off + k * 5 + 3, none⟩) hb, hkv] at q3
        rw [← HB.out.cell (p := ⟨b, off + k * 5 + 4, none⟩) hb, hgv] at q4
        rw [hlv] at hl
        have hm40 : m ≤ 40 := by rw [← HM.out]; exact HSA.out.1
        have htot : x.lists.flatten.length ≤ 200 := Nat.le_trans (total_le (List.mem_of_getElem? hx)) HSA.out.2.2
        have hx10 : x.lists.length ≤ 10 := (HSA.out.2.1 x (List.mem_of_getElem? hx)).1
        have hxs := hsz.flat
        have hk0 : (0 : Int) ≤ (k : Int) := by omega
        have hk1 : (k : Int) < (m : Int) := by omega
        obtain ⟨o, ho⟩ : ∃ o, Obj.cells #[.int .i64 x.what, .int .i64 x.n, .slice la x.lists.length lc, .slice ka x.keep.length kc, .slice ga x.again.length gc] 40 = o := ⟨_, rfl⟩
        have hwb : Below wr.heap.size wr (wr.alloc o) := (Below.refl _ _).alloc (Nat.le_refl _) _
        have hbx : Below w.heap.size w (wr.alloc o) := HB.out.alloc HB.out.size _
        have bx0 : (wr.alloc o).cell? ⟨wr.heap.size, 0, none⟩ = some (.int .i64 x.what) := by rw [← ho]; exact Lib.cell_of_heap (heap_alloc_new wr _) 0
        have bx2 : (wr.alloc o).cell? ⟨wr.heap.size, 2, none⟩ = some (.slice la x.lists.length lc) := by rw [← ho]; exact Lib.cell_of_heap (heap_alloc_new wr _) 2
        have hbs : wr.heap.size < (wr.alloc o).heap.size := by simp
        have hlw : ListsAt (wr.alloc o) (wr.alloc o).heap.size (.slice la x.lists.length lc) x.lists := (hl.still hbx).mono (by have := HB.out.size; omega)
        have HLb := Lib.hid (HLk.out.still hwb)
        have HTb := Lib.hid (HTk.out.still hwb)
        have HBx := Lib.hid hbx
        have HX2 := Lib.hid bx2
        have HLw := Lib.hid hlw
        have HXs := Lib.hid hxs
        have HRf := Lib.hid (refCommit_any HTb.out.row (by rw [hlk]; omega) (by rw [hlk]; omega) hlw (by omega) (by omega) hxs r)
        rw [hlk] at htv
        subst htv
        clear hx hl hkp hag hsz hlv hkv hgv hwb hbx hlw hxs
        obtain ⟨wk, hwk⟩ : ∃ wk, x.what = wk := ⟨_, rfl⟩
        rw [hwk] at q0 bx0 ho
        clear hwk
        by_cases w0 : wk = 0
        · subst w0
          go_wp2_with (fail)
          try rw [ho]
          with_reducible refine (HRf.out).mono ?_
          rintro e w2 ⟨v2, rfl, hv2, hb2⟩
          obtain ⟨ce, hce⟩ : ∃ ce, cErr ws.length r x.lists.flatten = ce := ⟨_, rfl⟩
          rw [hce]
          have hL2 := HLb.out.still hb2
          have hT2 : Txt w.heap.size w2 bl Lk v2 (refL ws r x.lists.flatten) := by
            rcases hv2 with ⟨rfl, he⟩ | ht
            · rw [he]; exact HTb.out.still hb2
            · exact Txt.made ht HLb.out.up.at_ HBx.out.size
          have hB2 := HBx.out.trans (hb2.mono HBx.out.size)
          have hl2 := (HLw.out.still hb2).mono hb2.size
          have bx22 := hb2.cell (p := ⟨wr.heap.size, 2, none⟩) hbs
          rw [HX2.out] at bx22
          have HCo := Lib.hid (hL2.commit HLn.out (by omega) hB2.size hl2 (by omega) (by omega) HXs.out)
          have hce2 : cErr hm r x.lists.flatten = ce := by rw [← hlk]; exact hce
          rw [hce2] at HCo
          have HT2 := Lib.hid hT2
          have HB2' := Lib.hid hB2
          clear hv2 hb2 hL2 hT2 hB2 hl2 hce hce2
          go_wp2_with (fail)
          with_reducible refine (HCo.out).mono ?_
          rintro e w3' ⟨rfl, L3, d3, hlin3, hst3, hb3⟩
          have HL3 := Lib.hid hlin3
          have HT3 := Lib.hid (HT2.out.step hst3)
          have HB3' := Lib.hid (HB2'.out.trans hb3)
          have hl3 : (refL ws r x.lists.flatten).length = hm := by rw [refL_length]; exact HLn.out
          have HL3l := Lib.hid hl3
          have HHo3 := Lib.hid (hlin3.holds hl3 HT3.out.row)
          clear hlin3 hst3 hb3 hl3
          go_wp2_with (first
            | (go_at_call 16; with_reducible refine (HHo3.out).mono ?_; rintro e w4' ⟨rfl, hb4⟩
               have HL4 := Lib.hid (HL3.out.still hb4)
               have HT4 := Lib.hid (HT3.out.still hb4)
               have HB4 := Lib.hid (HB3'.out.trans (hb4.mono HB3'.out.size))
               clear hb4))
          go_roundw
          case rel => exact ⟨k + 1, by omega, rfl, ⟨_, L3, d3, HL3l.out, HL4.out, HT4.out⟩, HB4.out⟩
          case measure => simp [intOf]; omega
        have t0 : (wk == 0) = false := by simpa using w0
        by_cases w1 : wk = 1
        · subst w1
          have HCk := Lib.hid (HLb.out.checkpoint (by omega) HBx.out.size)
          go_wp2_with (fail)
          try rw [ho]
          with_reducible refine (HCk.out).mono ?_
          rintro e w3' ⟨rfl, L3, d3, hlin3, hst3, hb3⟩
          have HL3 := Lib.hid hlin3
          have HT3 := Lib.hid (HTb.out.step hst3)
          have HB3' := Lib.hid (HBx.out.trans hb3)
          have HHo3 := Lib.hid (hlin3.holds HLn.out HT3.out.row)
          clear hlin3 hst3 hb3
          go_wp2_with (first
            | (go_at_call 16; with_reducible refine (HHo3.out).mono ?_; rintro e w4' ⟨rfl, hb4⟩
               have HL4 := Lib.hid (HL3.out.still hb4)
               have HT4 := Lib.hid (HT3.out.still hb4)
               have HB4 := Lib.hid (HB3'.out.trans (hb4.mono HB3'.out.size))
               clear hb4))
          go_roundw
          case rel => exact ⟨k + 1, by omega, rfl, ⟨_, L3, d3, HLn.out, ⟨HL4.out.up.mono (Nat.le_succ k), HL4.out.homes, HL4.out.ring, HL4.out.newer, HL4.out.free⟩, HT4.out⟩, HB4.out⟩
          case measure => simp [intOf]; omega
        have t1 : (wk == 1) = false := by simpa using w1
        have HHo3 := Lib.hid (HLb.out.holds HLn.out HTb.out.row)
        go_wp2_with (fail)
        try rw [ho]
        with_reducible refine (HHo3.out).mono ?_
        rintro e w4' ⟨rfl, hb4⟩
        have HL4 := Lib.hid (HLb.out.still hb4)
        have HT4 := Lib.hid (HTb.out.still hb4)
        have HB4 := Lib.hid (HBx.out.trans (hb4.mono HBx.out.size))
        clear hb4
        go_wp2
        go_roundw
        case rel => exact ⟨k + 1, by omega, rfl, ⟨_, Lk, dk, HLn.out, ⟨HL4.out.up.mono (Nat.le_succ k), HL4.out.homes, HL4.out.ring, HL4.out.newer, HL4.out.free⟩, HT4.out⟩, HB4.out⟩
        case measure => simp [intOf]; omega
      · have g1 : decide ((k : Int) < (m : Int)) = false := by simp; omega
        have g1' : decide (k < m) = false := by simpa using hlt
        go_wp2
        go_ret
        exact ⟨rfl, HB.out⟩
end Go.Proofs.YtnfdplhcpiknpaaDoor
