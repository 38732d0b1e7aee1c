/-
  THE LAWS of layer 6: TxRuns walked.
-/
import Derived.Test.YtalgheocjnajlaaGreatDoorTrels
import Derived.Deep.DeepCutAuto
import Derived.Deep.CutBlock
namespace Go.Proofs.YtalgheocjnajlaaGreatDoor
open Go.RowKit Go.MapKept
attribute [local go_sem] gives givesH
set_option maxRecDepth 100000

set_option maxHeartbeats 16000000 in
theorem txruns_walk {v : Value} {A : List ActT} (w : World) (h : Acts6At w w.heap.size v A) :
    Calls Tryz.prog 3 #[v] w fun e w' => e = .returned (.bool true) ∧ Below w.heap.size w w' := by
  have H1 := Lib.hid (awake6_any w)
  obtain ⟨j0, hj0, hy0, hy1, hy2⟩ := info_parts infoInt
  have HJ := Lib.hid hj0
  have Hy0 := Lib.hid hy0
  have Hy1 := Lib.hid hy1
  have Hy2 := Lib.hid hy2
  clear hj0 hy0 hy1 hy2
  obtain ⟨pa, pb, po, pc, hv, hp63, hpp, hpc⟩ := h
  subst hv
  obtain ⟨pl, hpl⟩ : ∃ pl, A.length = pl := ⟨_, rfl⟩
  rw [hpl] at hpp hp63 ⊢
  unfold maxLen at hp63
  have HPp := Lib.hid hpp
  have HPc := Lib.hid hpc
  have HPl := Lib.hid hpl
  clear hpp hpc hpl
  by_cases c1 : 60 < pl
  · have d1 : decide ((60 : Int) < (pl : Int)) = true := by simp; omega
    have d1' : decide (60 < pl) = true := by simpa using c1
    go_enter Tryz.func3, Tryz.ntmps3
    go_wp2_with (go_at_call 7; refine (H1.out).mono ?_; rintro e w1 ⟨rfl, hb1⟩)
    go_ret
    exact ⟨rfl, hb1⟩
  have d1 : decide ((60 : Int) < (pl : Int)) = false := by simp; omega
  have d1' : decide (60 < pl) = false := by simpa using c1
  go_enter Tryz.func3, Tryz.ntmps3
  go_wp2_with (go_at_call 7; refine (H1.out).mono ?_; rintro e w1 ⟨rfl, hb1⟩
               have HB1 := Lib.hid hb1
               have HN := Lib.hid (new5_any 37 (by decide) (by decide) w1)
               clear hb1)
  refine (HN.out).mono ?_
  rintro e w3 ⟨bd, D, rfl, hf⟩
  have HF := Lib.hid hf
  have HO := Lib.hid (open5_any hf.at_ hf.dk rfl rfl 16 (by decide) (by decide) (homes := 20) (by rw [hf.size]) (by decide) (by decide) (dFresh_bears 37 16 20 (by decide)))
  clear hf
  go_wp2_with (fail)
  refine (HO.out).mono ?_
  rintro e w4 ⟨bl, L, rfl, ho⟩
  obtain ⟨hlin, hb4⟩ := log_new (homes := 20) HF.out ho (by decide) HB1.out.size
  have HB4 := Lib.hid (HB1.out.trans (hb4.mono HB1.out.size))
  have HBg := Lib.hid (hlin.begin HB4.out.size)
  clear ho hb4 hlin
  go_wp2_with (fail)
  refine (HBg.out).mono ?_
  rintro e w5 ⟨bt, T, rfl, ht, hp, _, hb5⟩
  have HT5 := Lib.hid ht
  have HP5 := Lib.hid hp
  have HB5 := Lib.hid (HB4.out.trans (hb5.mono HB4.out.size))
  have HBg2 := Lib.hid (ht.log.begin HB5.out.size)
  clear ht hp hb5
  go_wp2_with (fail)
  refine (HBg2.out).mono ?_
  rintro e w6 ⟨bt2, T2, rfl, ht2, hp2, ho2, hb6⟩
  have HRn := Lib.hid (fun u => refNew_any 20 (by decide) u)
  have HT6 := Lib.hid ht2
  have HP6 := Lib.hid hp2
  have HO6 := Lib.hid ho2
  have HB56 := Lib.hid hb6
  clear ht2 hp2 ho2 hb6
  go_wp2_with (fail)
  refine (HRn.out _).mono ?_
  rintro e w7 ⟨hv, rfl, htx, hb7⟩
  have hts := TRel.start (B := w.heap.size) (Nat.le_refl _) HT5.out HB5.out HT6.out HB56.out HP5.out HP6.out HO6.out hb7 htx List.length_replicate (fun q hq => by
    unfold atL
    rw [Int.toNat_natCast, List.getD_eq_getElem?_getD, List.getElem?_replicate, if_pos hq]
    rfl)
  have hbs : Below w.heap.size w ((w7.alloc (Obj.cells #[hv, .int .i64 16, .slice none 0 0, hv, .int .i64 16, .slice none 0 0] 39)).alloc (Obj.cells #[.slice none 0 0, .slice none 0 0] 41)) := by
    have h6 := HB5.out.trans (HB56.out.mono HB5.out.size)
    have h7 := (h6.alloc h6.size (Obj.cells #[.pointer (some ⟨bt, 0, none⟩), .pointer (some ⟨bt2, 0, none⟩)] 33))
    have h8 := h7.trans (hb7.mono h7.size)
    exact (h8.alloc h8.size _).alloc (h8.alloc h8.size _).size _
  obtain ⟨ha, hc, hhv⟩ := slice_formB htx
  rw [List.length_replicate] at hhv
  subst hhv
  have HTs := Lib.hid hts
  have HBs := Lib.hid hbs
  clear hts hbs htx hb7
  go_wp2_with (fail)
  obtain ⟨w8, hw8⟩ : ∃ w8, (w7.alloc (Obj.cells #[.slice ha 20 hc, .int .i64 16, .slice none 0 0, .slice ha 20 hc, .int .i64 16, .slice none 0 0] 39)).alloc (Obj.cells #[.slice none 0 0, .slice none 0 0] 41) = w8 := ⟨_, rfl⟩
  rw [hw8] at HTs HBs
  try rw [hw8]
  obtain ⟨bb, hbb⟩ : ∃ bb, w6.heap.size = bb := ⟨_, rfl⟩
  obtain ⟨wb, hwb⟩ : ∃ wb, w7.heap.size = wb := ⟨_, rfl⟩
  obtain ⟨mb, hmb⟩ : ∃ mb, w7.heap.size + 1 = mb := ⟨_, rfl⟩
  rw [hbb, hmb, hwb] at HTs
  try rw [hmb]
  try rw [hwb]
  try rw [hbb]
  clear hw8 hbb hwb hmb
  go_loopw [8, 55] (fun hv i wr => ∃ k : Nat, k ≤ pl ∧ i = .int .i64 k ∧ (∃ L d N W ws Z, TRel w.heap.size wr bl L d N W bb wb mb Z hv ws k) ∧ Below w.heap.size w wr) (fun _ i _ => pl - (intOf i).toNat)
  case atStart => exact ⟨0, by omega, rfl, ⟨_, _, _, _, _, _, HTs.out⟩, HBs.out⟩
  case round =>
    obtain ⟨k, hk, rfl, ⟨Lk, dk, Nk, Wk, ws, Z, htr⟩, hbel⟩ := hrel
    have HT := Lib.hid htr
    have HB := Lib.hid hbel
    obtain ⟨ha, hc, hhv⟩ := htr.hvs
    subst hhv
    clear htr hbel
    by_cases hlt : k < pl
    · have g1 : decide ((k : Int) < (pl : Int)) = true := by simp; omega
      have g1' : decide (k < pl) = true := by simpa using hlt
      obtain ⟨rfl, hb⟩ := HPp.out (by omega)
      obtain ⟨x, hx⟩ : ∃ x, A[k]? = some x := ⟨_, List.getElem?_eq_getElem (by rw [HPl.out]; exact hlt)⟩
      obtain ⟨q0, q1, q2, q3, q4, q5, hxw⟩ := HPc.out k x hx
      rw [← HB.out.cell (p := ⟨pb, po + k * 6, none⟩) hb] at q0
      rw [← HB.out.cell (p := ⟨pb, po + k * 6 + 1, none⟩) hb] at q1
      rw [← HB.out.cell (p := ⟨pb, po + k * 6 + 2, none⟩) hb] at q2
      rw [← HB.out.cell (p := ⟨pb, po + k * 6 + 3, none⟩) hb] at q3
      rw [← HB.out.cell (p := ⟨pb, po + k * 6 + 4, none⟩) hb] at q4
      rw [← HB.out.cell (p := ⟨pb, po + k * 6 + 5, none⟩) hb] at q5
      obtain ⟨xw, xa, xn, xt, two, raw⟩ := x
      obtain ⟨hw1, hw2, hw3, hw4⟩ := hxw
      simp only at q0 q1 q2 q3 q4 q5 hw1 hw2 hw3 hw4
      have hk0 : (0 : Int) ≤ (k : Int) := by omega
      have hk1 : (k : Int) < (pl : Int) := by omega
      clear hx
      have hwb : Below wr.heap.size wr (wr.alloc (Obj.cells #[.int .i64 xw, .int .i64 xa, .int .i64 xn, .string xt, .bool two, .bool raw] 43)) := (Below.refl _ _).alloc (Nat.le_refl _) _
      have hna := heap_alloc_new wr (Obj.cells #[.int .i64 xw, .int .i64 xa, .int .i64 xn, .string xt, .bool two, .bool raw] 43)
      have hsz : wr.heap.size < (wr.alloc (Obj.cells #[.int .i64 xw, .int .i64 xa, .int .i64 xn, .string xt, .bool two, .bool raw] 43)).heap.size := by simp
      obtain ⟨wx, hwx⟩ : ∃ wx, wr.alloc (Obj.cells #[.int .i64 xw, .int .i64 xa, .int .i64 xn, .string xt, .bool two, .bool raw] 43) = wx := ⟨_, rfl⟩
      rw [hwx] at hwb hna hsz
      have HTx := Lib.hid (HT.out.still hwb)
      have HBx := Lib.hid (HB.out.trans (hwb.mono HB.out.size))
      have HNa := Lib.hid hna
      have HSz := Lib.hid hsz
      have HAl := Lib.hid (show ∀ q, (Lk.foot bl q ∨ (∃ b, Z.own b q) ∨ q = bb ∨ q = wb ∨ q = mb ∨ ∃ b, (Z.mv b).ownBlock = some q) → q < wr.heap.size from fun q hq => by
        obtain ⟨l1, l2, l3⟩ := HT.out.at_.lt
        rcases hq with e | ⟨b, e⟩ | e | e | e | ⟨b, e⟩
        · exact HT.out.at_.log.up.at_.foot_lt e
        · exact HT.out.at_.own_lt e
        · omega
        · omega
        · omega
        · exact ((HT.out.at_.rowM b).lt q e).2)
      obtain ⟨ab, hab⟩ : ∃ ab, wr.heap.size = ab := ⟨_, rfl⟩
      rw [hab] at HNa HSz HAl
      clear hwb hna hsz
      cases two with
      | false =>
        as_aux_lemma =>
          have hy := HTx.out.setHome false
          simp only [Bool.false_eq_true, if_false] at hy
          obtain ⟨c0, c1⟩ := HTx.out.bothCell
          obtain ⟨e0, e1, e2, e3, e4, e5⟩ := HTx.out.wantCell
          have fz := HTx.out.wantFz 0
          have n3 : wx.cell? ⟨ab, 3, none⟩ = some (.string xt) := Lib.cell_of_heap HNa.out 3
          have n4 : wx.cell? ⟨ab, 4, none⟩ = some (.bool false) := Lib.cell_of_heap HNa.out 4
          have hky : Keep (fun q => q = wb) wx (wx.setCell ⟨wb, 0, none⟩ (.slice ha 20 hc)) := (Keep.refl (fun q => q = wb) wx).setCell (p := ⟨wb, 0, none⟩) (fun _ => rfl) _
          have hny : (wx.setCell ⟨wb, 0, none⟩ (.slice ha 20 hc)).heap[ab]? = _ := hky.at HNa.out (fun e => by have := HAl.out wb (.inr (.inr (.inr (.inl rfl)))); omega)
          have hby : Below w.heap.size w (wx.setCell ⟨wb, 0, none⟩ (.slice ha 20 hc)) := HBx.out.trans (hky.below HBx.out.size (fun i hi e => by have := HTx.out.at_.ge; omega))
          have m0 : (wx.setCell ⟨wb, 0, none⟩ (.slice ha 20 hc)).cell? ⟨ab, 0, none⟩ = some (.int .i64 xw) := Lib.cell_of_heap hny 0
          have m1 : (wx.setCell ⟨wb, 0, none⟩ (.slice ha 20 hc)).cell? ⟨ab, 1, none⟩ = some (.int .i64 xa) := Lib.cell_of_heap hny 1
          have m2 : (wx.setCell ⟨wb, 0, none⟩ (.slice ha 20 hc)).cell? ⟨ab, 2, none⟩ = some (.int .i64 xn) := Lib.cell_of_heap hny 2
          have m3 : (wx.setCell ⟨wb, 0, none⟩ (.slice ha 20 hc)).cell? ⟨ab, 3, none⟩ = some (.string xt) := Lib.cell_of_heap hny 3
          have m5 : (wx.setCell ⟨wb, 0, none⟩ (.slice ha 20 hc)).cell? ⟨ab, 5, none⟩ = some (.bool raw) := Lib.cell_of_heap hny 5
          have hsy : ab < (wx.setCell ⟨wb, 0, none⟩ (.slice ha 20 hc)).heap.size := Nat.lt_of_lt_of_le HSz.out hky.size
          have HY := Lib.hid hy
          have HBy := Lib.hid hby
          have HNy := Lib.hid hny
          have HSy := Lib.hid hsy
          clear hy hky hny hby hsy
          by_cases c6 : 600 < xt.size
          · have f6 : decide ((600 : Int) < (xt.size : Int)) = true := by simp; omega
            have f6' : decide (600 < xt.size) = true := by simpa using c6
            go_wp2
            go_ret
            exact ⟨rfl, HBy.out⟩
          have f6 : decide ((600 : Int) < (xt.size : Int)) = false := by simp; omega
          have f6' : decide (600 < xt.size) = false := by simpa using c6
          go_upto_block 2 with fail
          obtain ⟨wy, hwy⟩ : ∃ wy, wx.setCell ⟨wb, 0, none⟩ (.slice ha 20 hc) = wy := ⟨_, rfl⟩
          rw [hwy] at HY HBy HNy HSy m0 m1 m2 m3 m5 ⊢
          clear hwy c0 c1 e0 e1 e2 e3 e4 e5 fz n3 n4
          go_cut [8] (fun hv wz => ∃ L d N W ws Z', TRel w.heap.size wz bl L d N W bb wb mb Z' hv ws (k + 1) ∧ (∀ b, Z'.bt b = Z.bt b) ∧ Below w.heap.size w wz)
          case first =>
            obtain ⟨ya, yc, hpv, _, _⟩ := slice_form (HY.out.at_.rowP false)
            obtain ⟨yn, hyn⟩ : ∃ yn, (Z.P false).length = yn := ⟨_, rfl⟩
            have hpv2 : Z.pv false = .slice ya yn yc := by rw [← hyn]; exact hpv
            have HPv := Lib.hid hpv2
            have HYn := Lib.hid hyn
            have hkn : yn ≤ k := by rw [← hyn]; exact HT.out.lenP false
            clear hpv hpv2 hyn
            by_cases x0 : xw = 0
            · as_aux_lemma =>
              subst x0
              have HRf := Lib.hid (fun u (hu : Below wy.heap.size wy u) => (by
                have h1 := (HY.out.still hu).at_.rowP false
                have h3 : ({ Z with hs := upd Z.hs false (.slice ha 20 hc) } : Two).pv false = .slice ya yn yc := HPv.out
                rw [h3] at h1
                exact ref6Write_any (ha := ha) (hc := hc) h1 (by have h4 := HYn.out; have h5 : ({ Z with hs := upd Z.hs false (.slice ha 20 hc) } : Two).P false = Z.P false := rfl; rw [h5, h4]; omega) 16 xa xt :
                  Calls Tryz.prog 12 #[.agg #[.slice ha 20 hc, .int .i64 16, .slice ya yn yc], .int .i64 xa, .string xt] u fun e w' => ∃ za zl zc, e = .returned (.tuple #[.agg #[.slice ha 20 hc, .int .i64 16, .slice za zl zc], .int .i64 (writeErr 20 xa xt)]) ∧ Ref6Out u w' (.slice ya yn yc) (.slice za zl zc) (Z.P false ++ rawOf 20 xa xt)))
              go_upto_region 23 with fail
              go_cut [15, 16] (fun p e wz => ∃ nb za zl zc, p = .pointer (some ⟨nb, 0, none⟩) ∧ e = .int .i64 (writeErr 20 xa xt) ∧ wz.heap[nb]? = some (.cells #[.slice ha 20 hc, .int .i64 16, .slice za zl zc] 38 (0, 0)) ∧ wy.heap.size ≤ nb ∧ Ref6Out wy wz (.slice ya yn yc) (.slice za zl zc) (Z.P false ++ rawOf 20 xa xt))
              case first =>
                obtain ⟨S, hS⟩ : ∃ S : World → Prop, ∀ u, S u ↔ Keep (fun _ => False) wy u := ⟨fun u => Keep (fun _ => False) wy u, fun _ => Iff.rfl⟩
                have HS := Lib.hid hS
                clear hS
                have hbd : Below wy.heap.size wy wy.drew := ⟨rfl, rfl, rfl, Nat.le_refl _, fun _ _ => rfl⟩
                refine wp_region_way 13 (.read 0 (.read 1 (.read 2 (.read 3 (.read 4 (.read 5 (.read 6 (.two 7 (.read 8 (.read 9 (.read 10 (.one 11 (.one 12 .fin))))) 11 (.one 7 (.read 8 (.read 9 (.read 10 (.one 12 .fin))))))))))))) S (by kernel_rfl) (by kernel_rfl) ((HS.out _).2 (Keep.refl _ _).drew) ?_
                iterate 7
                  first
                    | (refine wpW_passed rfl (by rfl) (fun K hK => ?_); go_simp; refine hK _ ?_; clear hK K)
                    | (refine wpW_read rfl (by rfl) (fun K hK => ?_)
                       apply Exists.intro
                       refine ⟨fun u hu => ?_, ?_⟩
                       · have hu := (HS.out u).1 hu
                         have hw := hu.at HY.out.at_.want (fun e => e)
                         have hn := hu.at HNy.out (fun e => e)
                         have e0 : u.cell? ⟨wb, 0, none⟩ = some (.slice ha 20 hc) := (Lib.cell_of_heap hw 0).trans (by simp [upd])
                         have e1 : u.cell? ⟨wb, 1, none⟩ = some (.int .i64 16) := Lib.cell_of_heap hw 1
                         have e2 : u.cell? ⟨wb, 2, none⟩ = some (.slice ya yn yc) := by rw [← HPv.out]; exact Lib.cell_of_heap hw 2
                         have m1 : u.cell? ⟨ab, 1, none⟩ = some (.int .i64 xa) := Lib.cell_of_heap hn 1
                         have m3 : u.cell? ⟨ab, 3, none⟩ = some (.string xt) := Lib.cell_of_heap hn 3
                         clear hu hw hn
                         go_simp
                         exact ⟨rfl, rfl⟩
                       go_simp
                       refine hK _ ?_
                       clear hK K)
                refine wpW_two ?_ ?_
                · refine wpDo_do rfl (by rfl) (fun K hK => ?_)
                  go_simp
                  go_at_call 12
                  with_reducible refine (HRf.out _ hbd).mono ?_
                  rintro e w1 ⟨za, zl, zc, rfl, ho⟩
                  have hb1 : Below wy.heap.size wy w1 := hbd.trans ho.below
                  refine hK _ _ ((HS.out _).2 (Keep.ofBelow hb1)) ?_
                  clear hK K
                  iterate 3
                    first
                      | (refine wpW_passed rfl (by rfl) (fun K hK => ?_); go_simp; refine hK _ ?_; clear hK K)
                      | (refine wpW_read rfl (by rfl) (fun K hK => ?_)
                         apply Exists.intro
                         refine ⟨fun u hu => ?_, ?_⟩
                         · have hu := (HS.out u).1 hu
                           have hw := hu.at HY.out.at_.want (fun e => e)
                           have hn := hu.at HNy.out (fun e => e)
                           have e0 : u.cell? ⟨wb, 0, none⟩ = some (.slice ha 20 hc) := (Lib.cell_of_heap hw 0).trans (by simp [upd])
                           have e1 : u.cell? ⟨wb, 1, none⟩ = some (.int .i64 16) := Lib.cell_of_heap hw 1
                           have e2 : u.cell? ⟨wb, 2, none⟩ = some (.slice ya yn yc) := by rw [← HPv.out]; exact Lib.cell_of_heap hw 2
                           have m1 : u.cell? ⟨ab, 1, none⟩ = some (.int .i64 xa) := Lib.cell_of_heap hn 1
                           have m3 : u.cell? ⟨ab, 3, none⟩ = some (.string xt) := Lib.cell_of_heap hn 3
                           clear hu hw hn
                           go_simp
                           exact ⟨rfl, rfl⟩
                         go_simp
                         refine hK _ ?_
                         clear hK K)
                  refine wpW_one ?_
                  refine wpDo_do rfl (by rfl) (fun K hK => ?_)
                  go_simp
                  refine hK _ _ ((HS.out _).2 ((Keep.ofBelow hb1).alloc _)) ?_
                  clear hK K
                  refine wpW_one ?_
                  refine wpDo_do rfl (by rfl) (fun K hK => ?_)
                  go_simp
                  refine hK _ _ ((HS.out _).2 ((Keep.ofBelow hb1).alloc _)) ?_
                  clear hK K
                  refine wpW_fin ?_
                  simp only [List.drop_succ_cons, List.drop_zero]
                  have HO := Lib.hid ho
                  have HB1 := Lib.hid hb1
                  clear ho hb1
                  go_wp2
                  go_meet
                  case rel =>
                    have hba : Below w1.heap.size w1 (w1.alloc (Obj.cells #[.slice ha 20 hc, .int .i64 16, .slice za zl zc] 38)) := (Below.refl _ _).alloc (Nat.le_refl _) _
                    exact ⟨w1.heap.size, za, zl, zc, rfl, rfl, heap_alloc_new w1 _, HB1.out.size, RowP.still HO.out.row hba, HO.out.own, HB1.out.trans (hba.mono HB1.out.size)⟩
                · refine wpDo_do rfl (by rfl) (fun K hK => ?_)
                  go_simp
                  have hbz : Below wy.heap.size wy (wy.alloc (Obj.cells #[.slice none 0 0, .int .i64 0, .slice none 0 0] 38)).drew := ((Below.refl _ _).alloc (Nat.le_refl _) _).trans ⟨rfl, rfl, rfl, Nat.le_refl _, fun _ _ => rfl⟩
                  refine hK _ _ ((HS.out _).2 (Keep.ofBelow hbz)) ?_
                  clear hK K
                  refine wpW_one ?_
                  refine wpDo_do rfl (by rfl) (fun K hK => ?_)
                  go_simp
                  go_at_call 12
                  with_reducible refine (HRf.out _ hbz).mono ?_
                  rintro e w1 ⟨za, zl, zc, rfl, ho⟩
                  have hzs : (wy.alloc (Obj.cells #[.slice none 0 0, .int .i64 0, .slice none 0 0] 38)).drew.heap.size = wy.heap.size + 1 := by simp
                  have hb1 : Below wy.heap.size wy w1 := hbz.trans (ho.below.mono hbz.size)
                  have hm1 : w1.heap[wy.heap.size]? = some (Obj.cells #[.slice none 0 0, .int .i64 0, .slice none 0 0] 38 (0, 0)) := by
                    rw [ho.below.block _ (by rw [hzs]; omega)]
                    exact heap_alloc_new wy _
                  refine hK _ _ ((HS.out _).2 (Keep.ofBelow hb1)) ?_
                  clear hK K
                  iterate 3
                    first
                      | (refine wpW_passed rfl (by rfl) (fun K hK => ?_); go_simp; refine hK _ ?_; clear hK K)
                      | (refine wpW_read rfl (by rfl) (fun K hK => ?_)
                         apply Exists.intro
                         refine ⟨fun u hu => ?_, ?_⟩
                         · have hu := (HS.out u).1 hu
                           have hw := hu.at HY.out.at_.want (fun e => e)
                           have hn := hu.at HNy.out (fun e => e)
                           have e0 : u.cell? ⟨wb, 0, none⟩ = some (.slice ha 20 hc) := (Lib.cell_of_heap hw 0).trans (by simp [upd])
                           have e1 : u.cell? ⟨wb, 1, none⟩ = some (.int .i64 16) := Lib.cell_of_heap hw 1
                           have e2 : u.cell? ⟨wb, 2, none⟩ = some (.slice ya yn yc) := by rw [← HPv.out]; exact Lib.cell_of_heap hw 2
                           have m1 : u.cell? ⟨ab, 1, none⟩ = some (.int .i64 xa) := Lib.cell_of_heap hn 1
                           have m3 : u.cell? ⟨ab, 3, none⟩ = some (.string xt) := Lib.cell_of_heap hn 3
                           clear hu hw hn
                           go_simp
                           exact ⟨rfl, rfl⟩
                         go_simp
                         refine hK _ ?_
                         clear hK K)
                  have hbe := box_end (w := wy) (w4 := w1) (r := wy.heap.size) (Nat.le_refl _) hb1 hm1 (.slice ha 20 hc) (.int .i64 16) (.slice za zl zc)
                  have r0 : w1.cell? ⟨wy.heap.size, 0, none⟩ = some (.slice none 0 0) := Lib.cell_of_heap hm1 0
                  have r1 : w1.cell? ⟨wy.heap.size, 1, none⟩ = some (.int .i64 0) := Lib.cell_of_heap hm1 1
                  have r2 : w1.cell? ⟨wy.heap.size, 2, none⟩ = some (.slice none 0 0) := Lib.cell_of_heap hm1 2
                  have s0 : w1.frozen? ⟨wy.heap.size, 0, none⟩ = false := by simp [World.frozen?, hm1]
                  have s1 : w1.frozen? ⟨wy.heap.size, 1, none⟩ = false := by simp [World.frozen?, hm1]
                  have s2 : w1.frozen? ⟨wy.heap.size, 2, none⟩ = false := by simp [World.frozen?, hm1]
                  refine wpW_one ?_
                  refine wpDo_do rfl (by rfl) (fun K hK => ?_)
                  go_simp
                  refine hK _ _ ((HS.out _).2 (Keep.ofBelow hbe.2.1)) ?_
                  clear hK K
                  refine wpW_fin ?_
                  simp only [List.drop_succ_cons, List.drop_zero]
                  have HO := Lib.hid ho
                  have HBe := Lib.hid hbe
                  have HZs := Lib.hid hzs
                  clear ho hbe hb1 hm1 r0 r1 r2 s0 s1 s2 hzs
                  go_wp2
                  go_meet
                  case rel =>
                    refine ⟨wy.heap.size, za, zl, zc, rfl, rfl, HBe.out.1, Nat.le_refl _, HBe.out.2.2.ownsRow HO.out.row (fun q hq e => ?_), HO.out.own.imp id (fun ho q hq => by have := ho q hq; rw [HZs.out] at this; omega), HBe.out.2.1⟩
                    rcases HO.out.own with e2 | e2
                    · have h3 := (HY.out.at_.rowP false).lt q (by
                        have h4 : ({ Z with hs := upd Z.hs false (.slice ha 20 hc) } : Two).pv false = .slice ya yn yc := HPv.out
                        rw [h4, ← e2]; exact hq)
                      omega
                    · have := e2 q hq
                      rw [HZs.out] at this
                      omega
              case rest =>
                obtain ⟨nb, za, zl, zc, hp15, hp16, hnb, hnbl, ho⟩ := hcut
                subst hp15 hp16
                have HO := Lib.hid ho
                have HNb := Lib.hid hnb
                have HYc := Lib.hid (HY.out.still ho.below)
                have HBc := Lib.hid (HBy.out.trans (ho.below.mono HBy.out.size))
                have hnc := (Keep.ofBelow (S := fun _ => False) ho.below).at HNy.out (fun e => e)
                have m1 : wc.cell? ⟨ab, 1, none⟩ = some (.int .i64 xa) := Lib.cell_of_heap hnc 1
                have m3 : wc.cell? ⟨ab, 3, none⟩ = some (.string xt) := Lib.cell_of_heap hnc 3
                have hlt0 : (Z.T false).puts.length < 1000000000000 := by
                  have h2 : (Z.T false).puts = fullP (Z.P false) := HY.out.puts false
                  rw [h2, fullP_length, HYn.out]; omega
                have HWr := Lib.hid ((HYc.out.txIn false).write hlt0 HBc.out.size (i := xa) xt hw4)
                have hno : ∀ q, Z.own false q → q < nb := fun q hq => by have := HY.out.at_.own_lt (b := false) (k := q) hq; omega
                have HNo := Lib.hid hno
                have HNl := Lib.hid hnbl
                obtain ⟨ee, hee⟩ : ∃ ee, writeErr 20 xa xt = ee := ⟨_, rfl⟩
                rw [hee] at HWr ⊢
                clear ho hnb hnc hlt0 hno hnbl hee
                go_wp2_with (fail)
                refine (HWr.out).mono ?_
                rintro e wd ⟨rfl, Td, hstd, _, hpd, hbd⟩
                have hnd := hstd.keep.at HNb.out (fun ho2 => by have := HNo.out nb ho2; omega)
                have hwd := hstd.keep.at HYc.out.at_.want (fun ho2 => (HYc.out.at_.ownN false _ ho2).2.1 rfl)
                have p0 : wd.cell? ⟨nb, 0, none⟩ = some (.slice ha 20 hc) := Lib.cell_of_heap hnd 0
                have p1 : wd.cell? ⟨nb, 1, none⟩ = some (.int .i64 16) := Lib.cell_of_heap hnd 1
                have p2 : wd.cell? ⟨nb, 2, none⟩ = some (.slice za zl zc) := Lib.cell_of_heap hnd 2
                have r0 : wd.cell? ⟨wb, 0, none⟩ = some (.slice ha 20 hc) := (Lib.cell_of_heap hwd 0).trans (by simp [upd])
                have r1 : wd.cell? ⟨wb, 1, none⟩ = some (.int .i64 16) := Lib.cell_of_heap hwd 1
                have r2 : wd.cell? ⟨wb, 2, none⟩ = some (.slice ya yn yc) := by rw [← HPv.out]; exact Lib.cell_of_heap hwd 2
                have s0 : wd.frozen? ⟨wb, 0, none⟩ = false := by simp [World.frozen?, hwd]
                have s1 : wd.frozen? ⟨wb, 1, none⟩ = false := by simp [World.frozen?, hwd]
                have s2 : wd.frozen? ⟨wb, 2, none⟩ = false := by simp [World.frozen?, hwd]
                have HSt := Lib.hid hstd
                have HWd := Lib.hid hwd
                have HPd := Lib.hid hpd
                have HBd := Lib.hid (HBc.out.trans hbd)
                clear hstd hwd hpd hbd hnd
                go_wp2
                go_meet
                case rel =>
                  have hkd : Keep (fun q => q = wb) wd (((wd.setCell ⟨wb, 0, none⟩ (.slice ha 20 hc)).setCell ⟨wb, 1, none⟩ (.int .i64 16)).setCell ⟨wb, 2, none⟩ (.slice za zl zc)) :=
                    (((Keep.refl (fun q => q = wb) wd).setCell (p := ⟨wb, 0, none⟩) (fun _ => rfl) _).setCell (p := ⟨wb, 1, none⟩) (fun _ => rfl) _).setCell (p := ⟨wb, 2, none⟩) (fun _ => rfl) _
                  have hpt := HYc.out.put HBc.out.size false HSt.out (Q := Z.P false ++ rawOf 20 xa xt) (by
                      rw [HPd.out, fullP_raw]
                      have h2 : (Z.T false).puts = fullP (Z.P false) := HY.out.puts false
                      rw [h2]) (fun y hy => by
                      rcases List.mem_append.1 hy with hy | hy
                      · exact HY.out.good false y hy
                      · unfold rawOf at hy
                        by_cases hr : 0 ≤ xa ∧ xa < (20 : Nat) ∧ xt.size ≤ 512
                        · rw [if_pos hr] at hy
                          have hy2 : y = (xa, xt) := by simpa using hy
                          subst hy2
                          exact ⟨hr.1, hr.2.1, hr.2.2⟩
                        · rw [if_neg hr] at hy; cases hy) (by
                      rw [List.length_append, HYn.out]
                      have : (rawOf 20 xa xt).length ≤ 1 := by unfold rawOf; split <;> simp
                      omega) (pv' := .slice za zl zc) (hs' := .slice ha 20 hc) HO.out.row (by
                      have ho2 := HO.out
                      rw [← HPv.out] at ho2
                      exact fun q hq => by
                        rcases ho2.own with e | e
                        · exact HY.out.at_.pvN false q (by rw [show ({ Z with hs := upd Z.hs false (.slice ha 20 hc) } : Two).pv false = Z.pv false from rfl, ← e]; exact hq)
                        · exact HY.out.aside_new e q hq) ⟨_, _, _, rfl⟩ hkd (by
                      simp [World.setCell, Array.getElem?_modify, HWd.out, upd])
                  exact ⟨_, _, _, _, _, _, hpt, fun _ => rfl, HBd.out.trans (hkd.below HBd.out.size (fun i hi e => by have := HY.out.at_.ge; omega))⟩
            have t0 : (xw == 0) = false := by simpa using x0
            by_cases x1 : xw = 1
            · as_aux_lemma =>
              subst x1
              have hrd := (HY.out.txIn false).read hw2
              rw [HY.out.puts, homeSays_eq _ HY.out.wat] at hrd
              obtain ⟨sx, cx, hsx⟩ : ∃ sx cx, homeSays 20 (seen (fullP (Z.P false)) (atL ws)) xa = .tuple #[.string sx, .int .i64 cx] := ⟨_, _, rfl⟩
              have hrd2 : Calls Tryz.prog 14 #[.pointer (some ⟨Z.bt false, 0, none⟩), .int .i64 xa] wy fun e w' => e = .returned (.tuple #[.string sx, .int .i64 cx]) ∧ Below wy.heap.size wy w' := by rw [← hsx]; exact hrd
              have HRd := Lib.hid hrd2
              have HRf := Lib.hid (fun u (hu : TRel w.heap.size u bl Lk dk Nk Wk bb wb mb { Z with hs := upd Z.hs false (.slice ha 20 hc) } (.slice ha 20 hc) ws k) => (by
                have h1 := hu.at_.rowP false
                have h2 := ref6Read_any (w := u) hu.hrow (by rw [hu.wlen]; decide) h1 (fun y hy => (hu.good false y hy).2.2) (by have := hu.lenP false; omega) 16 hw2
                rw [hu.wlen] at h2
                have h3 : ({ Z with hs := upd Z.hs false (.slice ha 20 hc) } : Two).pv false = .slice ya yn yc := HPv.out
                rw [h3] at h2
                rw [← hsx]
                exact h2 : Calls Tryz.prog 15 #[.agg #[.slice ha 20 hc, .int .i64 16, .slice ya yn yc], .int .i64 xa] u fun e w' => e = .returned (.tuple #[.string sx, .int .i64 cx]) ∧ Below u.heap.size u w'))
              clear hrd hrd2 hsx
              go_wp2_with (fail)
              refine (HRd.out).mono ?_
              rintro e wr1 ⟨rfl, hb1⟩
              have HY1 := Lib.hid (HY.out.still hb1)
              have HB1' := Lib.hid (HBy.out.trans (hb1.mono HBy.out.size))
              have HN1 := Lib.hid ((Keep.ofBelow (S := fun _ => False) hb1).at HNy.out (fun e => e))
              have HS1 := Lib.hid (Nat.lt_of_lt_of_le HSy.out hb1.size)
              have hy1 := HY1.out
              clear hb1
              obtain ⟨C, hC⟩ : ∃ C : World → Prop, ∀ u, C u ↔ Below (wr1).heap.size (wr1) u := ⟨fun u => Below (wr1).heap.size (wr1) u, fun _ => Iff.rfl⟩
              have F : ∀ u, C u → (TRel w.heap.size u bl Lk dk Nk Wk bb wb mb { Z with hs := upd Z.hs false (.slice ha 20 hc) } (.slice ha 20 hc) ws k ∧ u.heap[ab]? = wr1.heap[ab]?) := fun u hu => by
                have hu := (hC u).1 hu
                exact ⟨hy1.still hu, hu.block ab HS1.out⟩
              have step : ∀ u u', C u → Below u.heap.size u u' → C u' := fun u u' hu hb => (hC u').2 (((hC u).1 hu).trans (hb.mono ((hC u).1 hu).size))
              have HC := Lib.hid hC
              have FF := Lib.hid F
              clear hC F
              clear hy1
              go_wp2
              refine wp_region_inv 10 C (by kernel_rfl) (by kernel_rfl) ((HC.out _).2 (Below.refl _ _).drew) ?_
              simp only [List.take_succ_cons, List.take_zero, List.drop_succ_cons, List.drop_zero]
              repeat
                first
                | (refine wpInv_plain rfl (fun K hK => ?_)
                   apply Exists.intro
                   refine ⟨fun u hu => ?_, ?_⟩
                   · have HU := Lib.hid hu
                     obtain ⟨e0, e1, e2, e3, e4, e5⟩ := (FF.out u hu).1.wantCell
                     rw [HPv.out] at e2
                     simp only [upd_same] at e0
                     have m1 : u.cell? ⟨ab, 1, none⟩ = some (.int .i64 xa) := Lib.cell_of_heap ((FF.out u hu).2.trans HN1.out) 1
                     clear hu
                     go_simp
                     first
                       | exact ⟨HU.out, rfl⟩
                       | (go_at_call 15; with_reducible refine (HRf.out u (FF.out u HU.out).1).mono ?_; rintro e w' ⟨rfl, hb⟩; exact ⟨rfl, step _ _ HU.out hb⟩)
                   go_simp
                   refine hK _ ?_
                   clear hK K)
                | (refine wpInv_passed (by rfl) (fun K hK => ?_); go_simp; refine hK _ ?_; clear hK K)
                | (refine wpInv_wanted (by rfl) (fun K hK => ?_)
                   apply Exists.intro
                   refine ⟨fun u hu => ?_, ?_⟩
                   · have HU := Lib.hid hu
                     obtain ⟨e0, e1, e2, e3, e4, e5⟩ := (FF.out u hu).1.wantCell
                     rw [HPv.out] at e2
                     simp only [upd_same] at e0
                     have m1 : u.cell? ⟨ab, 1, none⟩ = some (.int .i64 xa) := Lib.cell_of_heap ((FF.out u hu).2.trans HN1.out) 1
                     clear hu
                     go_simp
                     first
                       | exact ⟨HU.out, rfl⟩
                       | (go_at_call 15; with_reducible refine (HRf.out u (FF.out u HU.out).1).mono ?_; rintro e w' ⟨rfl, hb⟩; exact ⟨rfl, step _ _ HU.out hb⟩)
                   go_simp
                   refine hK _ ?_
                   clear hK K)
              refine wpInv_nil ?_
              intro wd hwd
              have hbd := (HC.out _).1 hwd
              have HYd := Lib.hid (HY1.out.still hbd)
              have HBd := Lib.hid (HB1'.out.trans (hbd.mono HB1'.out.size))
              clear hwd hbd C HC FF step HRf
              go_wp2
              go_meet
              case rel => exact ⟨_, _, _, _, _, _, HYd.out.mono (Nat.le_succ k), fun _ => rfl, HBd.out⟩
            have t1 : (xw == 1) = false := by simpa using x1
            by_cases x2 : xw = 2
            · as_aux_lemma =>
              subst x2
              have hlt0 : (Z.T false).puts.length = yn := by
                have h2 : (Z.T false).puts = fullP (Z.P false) := HY.out.puts false
                rw [h2, fullP_length, HYn.out]
              have HLt := Lib.hid hlt0
              clear hlt0
              obtain ⟨ga, gc, hmv, _, hgm⟩ := slice_form (HY.out.at_.rowM false)
              obtain ⟨ml, hml⟩ : ∃ ml, (Z.M false).length = ml := ⟨_, rfl⟩
              have hmlk : ml ≤ k := by rw [← hml]; exact HT.out.lenM false
              have hmv2 : Z.mv false = .slice ga ml gc := by rw [← hml]; exact hmv
              have hmc : wy.cell? ⟨mb, 0, none⟩ = some (.slice ga ml gc) := by rw [← hmv2]; exact Lib.cell_of_heap HY.out.at_.marks 0
              have HMv := Lib.hid hmv2
              have HMl := Lib.hid hml
              unfold maxLen at hgm
              clear hmv hmv2 hml
              have e2 : wy.cell? ⟨wb, 2, none⟩ = some (.slice ya yn yc) := by rw [← HPv.out]; exact Lib.cell_of_heap HY.out.at_.want 2
              have HM := Lib.hid (fun n => (((HY.out.txIn false).still (⟨rfl, rfl, rfl, Nat.le_refl _, fun _ _ => rfl⟩ : Below wy.heap.size wy (wy.drewN n))).mark).mono fun e w' (h : e = .returned (.int .i64 (Z.T false).puts.length) ∧ wy.drewN n = w') => (⟨by rw [← HLt.out]; exact h.1, h.2.symm⟩ : e = .returned (.int .i64 yn) ∧ w' = wy.drewN n))
              go_wp2_with (fail)
              go_quiet ((go_at_call 16; exact Calls.quiet_of_same (HM.out _)))
              have hbq : Below wy.heap.size wy (wy.drewN nq) := ⟨rfl, rfl, rfl, Nat.le_refl _, fun _ _ => rfl⟩
              obtain ⟨wq, hwq⟩ : ∃ wq, wy.drewN nq = wq := ⟨_, rfl⟩
              rw [hwq] at hbq ⊢
              have HYQ := Lib.hid (HY.out.still hbq)
              have HBQ := Lib.hid (HBy.out.trans (hbq.mono HBy.out.size))
              clear hbq hwq hmc e2 m0 m1 m2 m3 m5 HM
              have HM2 := Lib.hid (((HYQ.out.txIn false).still (⟨rfl, rfl, rfl, Nat.le_refl _, fun _ _ => rfl⟩ : Below wq.heap.size wq wq.drew)).mark)
              go_wp2_with (fail)
              have HMg := Lib.hid (HYQ.out.at_.mvN false)
              have hrm : RowM wq (Z.mv false) (Z.M false) := HYQ.out.at_.rowM false
              have HRm := Lib.hid hrm
              have h63 : (Z.M false).length + 1 ≤ maxLen := by rw [HMl.out]; unfold maxLen; omega
              clear hrm
              obtain ⟨S, hS⟩ : ∃ S : World → Prop, ∀ u, S u ↔ Keep (fun q => (Z.mv false).ownBlock = some q) (wq) u := ⟨fun u => Keep (fun q => (Z.mv false).ownBlock = some q) (wq) u, fun _ => Iff.rfl⟩
              have HS := Lib.hid hS
              clear hS
              refine wp_region_ord 8 [(0, true), (1, true), (2, true), (3, true), (4, true), (5, false), (6, false), (7, false)] S (by kernel_rfl) (by kernel_rfl) ((HS.out _).2 (Keep.refl _ _).drew) ?_
              iterate 5
                first
                  | (refine wpH_passed rfl (by rfl) (fun K hK => ?_); go_simp; refine hK _ ?_; clear hK K)
                  | (first
                       | refine wpH_read rfl rfl (fun K hK => ?_)
                       | refine wpH_readw rfl (by rfl) (fun K hK => ?_)
                     apply Exists.intro
                     refine ⟨fun u hu => ?_, ?_⟩
                     · have hu := (HS.out u).1 hu
                       have hm := hu.at HYQ.out.at_.marks (fun e => (HMg.out _ e).2.2.1 rfl)
                       have m0 : u.cell? ⟨mb, 0, none⟩ = some (.slice ga ml gc) := by rw [← HMv.out]; exact Lib.cell_of_heap hm 0
                       clear hm
                       clear hu
                       go_simp
                       exact ⟨rfl, rfl⟩
                     go_simp
                     refine hK _ ?_
                     clear hK K)
              refine wpH_do rfl rfl (fun K hK => ?_)
              go_simp
              go_at_call 16
              refine (HM2.out).mono ?_
              rintro e u5 ⟨he5, hu5⟩
              have he6 : e = .returned (.int .i64 yn) := by rw [← HLt.out]; exact he5
              subst he6
              rw [← hu5]
              clear hu5 he5
              refine hK _ _ ((HS.out _).2 (Keep.refl _ _).drew) ?_
              clear hK K
              refine wpH_do rfl rfl (fun K hK => ?_)
              go_simp
              have k6 : Keep (fun q => (Z.mv false).ownBlock = some q) wq (wq.drew.alloc (Obj.cells #[Value.int IntKind.i64 (yn : Int)] 3)) := (Keep.refl _ _).drew.alloc _
              refine hK _ _ ((HS.out _).2 k6) ?_
              clear hK K
              refine wpH_do rfl rfl (fun K hK => ?_)
              refine wp_append_lies _ _ _ 40 (by rfl) 0 3 j0 (.int .i64 0) 1 8 Tryz.underlying40 HJ.out Hy0.out Hy1.out Hy2.out (by rfl) (by decide) (Z.mv false) _ _ (by exact HMv.out.symm) ((HRm.out.drew).alloc _) ⟨wq.heap.size, 0, none⟩ 1 1 [.int .i64 (yn : Int)] (by rfl) (by rfl) (World.news_of_block (cs := #[.int .i64 (yn : Int)]) (t := 3) (fr := (0, 0)) (heap_alloc_new wq.drew _)) (ints_oneCell .i64 [(yn : Int)]) (by decide) h63 ?_ (Nat.zero_le _) _ rfl ?_
              · rw [HMl.out]; omega
              intro g cap u7 hown7 hg7 hloc7 hglt7
              have k7 := k6.grown hg7 (fun k _ e => e)
              refine hK _ _ ((HS.out _).2 k7) ?_
              clear hK K
              refine wpH_nil ?_
              simp only [List.drop_succ_cons, List.drop_zero]
              have hv7 : ∀ q, (Value.slice (some ⟨g, 0, none⟩) ((Z.M false).length + 1) cap).ownBlock = some q → (Z.mv false).ownBlock = some q ∨ wq.heap.size ≤ q := fun q hq => by
                have hq2 : some g = some q := hq
                obtain rfl : g = q := Option.some.inj hq2
                rcases hloc7 with e | e
                · exact .inl e
                · exact .inr (by have e3 : g = (wq.alloc (Obj.cells #[Value.int IntKind.i64 (yn : Int)] 3)).heap.size := e; rw [World.size_alloc] at e3; omega)
              have hmk := k7.at HYQ.out.at_.marks (fun e => (HMg.out _ e).2.2.1 rfl)
              have c0 : u7.cell? ⟨mb, 0, none⟩ = some (.slice ga ml gc) := by rw [← HMv.out]; exact Lib.cell_of_heap hmk 0
              have f0 : u7.frozen? ⟨mb, 0, none⟩ = false := by simp [World.frozen?, hmk]
              have HHm := Lib.hid hmk
              have HK7 := Lib.hid k7
              have HO7 := Lib.hid hown7
              have HV7 := Lib.hid hv7
              clear k6 k7 hown7 hg7 hloc7 hglt7 hv7 hmk S HS
              go_wp2
              go_meet
              case rel =>
                have hks : Keep (fun q => q = mb) u7 (u7.setCell ⟨mb, 0, none⟩ (.slice (some ⟨g, 0, none⟩) ((Z.M false).length + 1) cap)) := (Keep.refl (fun q => q = mb) u7).setCell (p := ⟨mb, 0, none⟩) (fun _ => rfl) _
                have hkk : Keep (fun q => q = mb ∨ (Z.mv false).ownBlock = some q) wq (u7.setCell ⟨mb, 0, none⟩ (.slice (some ⟨g, 0, none⟩) ((Z.M false).length + 1) cap)) := (HK7.out.mono (fun _ _ e => .inr e)).trans hks (fun _ _ e => .inl e)
                have hmk2 := HYQ.out.mark HBQ.out.size false hkk (v' := .slice (some ⟨g, 0, none⟩) ((Z.M false).length + 1) cap) (l' := Z.M false ++ [(yn : Int)]) (by
                  simp [World.setCell, Array.getElem?_modify, HHm.out, upd]) (by
                  have h2 : RowM u7 (.slice (some ⟨g, 0, none⟩) ((Z.M false).length + 1) cap) (Z.M false ++ [(yn : Int)]) := by
                    show u7.ownsRow 0 _ 1 _ (Z.M false ++ [(yn : Int)]).length _
                    rw [List.length_append, List.map_append]
                    exact HO7.out
                  exact hks.ownsRow h2 (fun q hq e => by
                    subst e
                    rcases HV7.out _ hq with e2 | e2
                    · exact (HMg.out _ e2).2.2.1 rfl
                    · have := HYQ.out.at_.lt; omega)) HV7.out (by rw [List.length_append, HMl.out]; show ml + 1 ≤ k + 1; omega)
                exact ⟨_, _, _, _, _, _, hmk2, fun _ => rfl, HBQ.out.trans (hkk.below HBQ.out.size (fun i hi e => by
                  rcases e with e | e
                  · have := HY.out.at_.ge; omega
                  · have := HYQ.out.at_.mvG false i e; omega))⟩
            have t2 : (xw == 2) = false := by simpa using x2
            by_cases x3 : xw = 3
            · as_aux_lemma =>
              subst x3
              have hlt0 : (Z.T false).puts.length = yn := by
                have h2 : (Z.T false).puts = fullP (Z.P false) := HY.out.puts false
                rw [h2, fullP_length, HYn.out]
              have HLt := Lib.hid hlt0
              clear hlt0
              obtain ⟨ga, gc, hmv, _, hgm⟩ := slice_form (HY.out.at_.rowM false)
              obtain ⟨ml, hml⟩ : ∃ ml, (Z.M false).length = ml := ⟨_, rfl⟩
              have hmlk : ml ≤ k := by rw [← hml]; exact HT.out.lenM false
              have hmv2 : Z.mv false = .slice ga ml gc := by rw [← hml]; exact hmv
              have hmc : wy.cell? ⟨mb, 0, none⟩ = some (.slice ga ml gc) := by rw [← hmv2]; exact Lib.cell_of_heap HY.out.at_.marks 0
              have HMv := Lib.hid hmv2
              have HMl := Lib.hid hml
              unfold maxLen at hgm
              clear hmv hmv2 hml
              cases raw with
              | true =>
                have HBk := Lib.hid ((HY.out.txIn false).back (by
                  show (Z.T false).puts.length < _
                  rw [HLt.out]; omega) HBy.out.size xn)
                go_wp2_with (fail)
                refine (HBk.out).mono ?_
                rintro e wd ⟨rfl, Td, hstd, _, hpd, hbd⟩
                have hwd := hstd.keep.at HY.out.at_.want (fun ho2 => (HY.out.at_.ownN false _ ho2).2.1 rfl)
                have e0 : wd.cell? ⟨wb, 0, none⟩ = some (.slice ha 20 hc) := (Lib.cell_of_heap hwd 0).trans (by simp [upd])
                have e1 : wd.cell? ⟨wb, 1, none⟩ = some (.int .i64 16) := Lib.cell_of_heap hwd 1
                have e2 : wd.cell? ⟨wb, 2, none⟩ = some (.slice ya yn yc) := by rw [← HPv.out]; exact Lib.cell_of_heap hwd 2
                have hrP : RowP wd (.slice ya yn yc) (Z.P false) := by
                  have := hstd.keep.ownsRow (HY.out.at_.rowP false) (fun q hq ho2 => (HY.out.at_.pvN false q hq).2.2.2.2.1 false ho2)
                  rwa [show ({ Z with hs := upd Z.hs false (.slice ha 20 hc) } : Two).pv false = .slice ya yn yc from HPv.out] at this
                have HRb := Lib.hid (ref6Back_any (ha := ha) (hl := 20) (hc := hc) hrP 16 xn)
                have HSt := Lib.hid hstd
                have HWd := Lib.hid hwd
                have HPd := Lib.hid hpd
                have HBd := Lib.hid (HBy.out.trans hbd)
                clear hstd hwd hpd hbd hrP
                go_wp2_with (fail)
                refine (HRb.out).mono ?_
                rintro e we ⟨pv', rfl, ho⟩
                obtain ⟨za, zc, hz, _, _⟩ := slice_form ho.row
                obtain ⟨zl, hzl⟩ : ∃ zl, ((Z.P false).take (xn).toNat).length = zl := ⟨_, rfl⟩
                rw [hzl] at hz
                subst hz
                have hwe := (Keep.ofBelow (S := fun _ => False) ho.below).at HWd.out (fun e => e)
                have r0 : we.cell? ⟨wb, 0, none⟩ = some (.slice ha 20 hc) := (Lib.cell_of_heap hwe 0).trans (by simp [upd])
                have r1 : we.cell? ⟨wb, 1, none⟩ = some (.int .i64 16) := Lib.cell_of_heap hwe 1
                have r2 : we.cell? ⟨wb, 2, none⟩ = some (.slice ya yn yc) := by rw [← HPv.out]; exact Lib.cell_of_heap hwe 2
                have s0 : we.frozen? ⟨wb, 0, none⟩ = false := by simp [World.frozen?, hwe]
                have s1 : we.frozen? ⟨wb, 1, none⟩ = false := by simp [World.frozen?, hwe]
                have s2 : we.frozen? ⟨wb, 2, none⟩ = false := by simp [World.frozen?, hwe]
                have HO := Lib.hid ho
                have HWe := Lib.hid hwe
                have HBe := Lib.hid (HBd.out.trans (ho.below.mono HBd.out.size))
                clear ho hwe hzl
                go_wp2
                go_meet
                case rel =>
                  have hkd : Keep (fun q => q = wb) we (((we.setCell ⟨wb, 0, none⟩ (.slice ha 20 hc)).setCell ⟨wb, 1, none⟩ (.int .i64 16)).setCell ⟨wb, 2, none⟩ (.slice za zl zc)) :=
                    (((Keep.refl (fun q => q = wb) we).setCell (p := ⟨wb, 0, none⟩) (fun _ => rfl) _).setCell (p := ⟨wb, 1, none⟩) (fun _ => rfl) _).setCell (p := ⟨wb, 2, none⟩) (fun _ => rfl) _
                  have ho2 := HO.out
                  rw [← HPv.out] at ho2
                  have hpt := HY.out.put2 HBy.out.size false HSt.out (Q := (Z.P false).take (xn).toNat) (by
                    rw [HPd.out]
                    have h2 : (Z.T false).puts = fullP (Z.P false) := HY.out.puts false
                    rw [h2]
                    unfold fullP
                    rw [List.map_take]) (fun y hy => HY.out.good false y (List.mem_of_mem_take hy)) (by rw [List.length_take, HYn.out]; omega) (hs' := .slice ha 20 hc) ho2 ⟨_, _, _, rfl⟩ hkd (by
                    simp [World.setCell, Array.getElem?_modify, HWe.out, upd])
                  exact ⟨_, _, _, _, _, _, hpt, fun _ => rfl, HBe.out.trans (hkd.below HBe.out.size (fun i hi e => by have := HY.out.at_.ge; omega))⟩
              | false =>
                by_cases hm0 : ml = 0
                · subst hm0
                  have HBk := Lib.hid ((HY.out.txIn false).back (by
                    show (Z.T false).puts.length < _
                    rw [HLt.out]; omega) HBy.out.size xn)
                  go_wp2_with (fail)
                  refine (HBk.out).mono ?_
                  rintro e wd ⟨rfl, Td, hstd, _, hpd, hbd⟩
                  have hwd := hstd.keep.at HY.out.at_.want (fun ho2 => (HY.out.at_.ownN false _ ho2).2.1 rfl)
                  have e0 : wd.cell? ⟨wb, 0, none⟩ = some (.slice ha 20 hc) := (Lib.cell_of_heap hwd 0).trans (by simp [upd])
                  have e1 : wd.cell? ⟨wb, 1, none⟩ = some (.int .i64 16) := Lib.cell_of_heap hwd 1
                  have e2 : wd.cell? ⟨wb, 2, none⟩ = some (.slice ya yn yc) := by rw [← HPv.out]; exact Lib.cell_of_heap hwd 2
                  have hrP : RowP wd (.slice ya yn yc) (Z.P false) := by
                    have := hstd.keep.ownsRow (HY.out.at_.rowP false) (fun q hq ho2 => (HY.out.at_.pvN false q hq).2.2.2.2.1 false ho2)
                    rwa [show ({ Z with hs := upd Z.hs false (.slice ha 20 hc) } : Two).pv false = .slice ya yn yc from HPv.out] at this
                  have HRb := Lib.hid (ref6Back_any (ha := ha) (hl := 20) (hc := hc) hrP 16 xn)
                  have HSt := Lib.hid hstd
                  have HWd := Lib.hid hwd
                  have HPd := Lib.hid hpd
                  have HBd := Lib.hid (HBy.out.trans hbd)
                  clear hstd hwd hpd hbd hrP
                  go_wp2_with (fail)
                  refine (HRb.out).mono ?_
                  rintro e we ⟨pv', rfl, ho⟩
                  obtain ⟨za, zc, hz, _, _⟩ := slice_form ho.row
                  obtain ⟨zl, hzl⟩ : ∃ zl, ((Z.P false).take (xn).toNat).length = zl := ⟨_, rfl⟩
                  rw [hzl] at hz
                  subst hz
                  have hwe := (Keep.ofBelow (S := fun _ => False) ho.below).at HWd.out (fun e => e)
                  have r0 : we.cell? ⟨wb, 0, none⟩ = some (.slice ha 20 hc) := (Lib.cell_of_heap hwe 0).trans (by simp [upd])
                  have r1 : we.cell? ⟨wb, 1, none⟩ = some (.int .i64 16) := Lib.cell_of_heap hwe 1
                  have r2 : we.cell? ⟨wb, 2, none⟩ = some (.slice ya yn yc) := by rw [← HPv.out]; exact Lib.cell_of_heap hwe 2
                  have s0 : we.frozen? ⟨wb, 0, none⟩ = false := by simp [World.frozen?, hwe]
                  have s1 : we.frozen? ⟨wb, 1, none⟩ = false := by simp [World.frozen?, hwe]
                  have s2 : we.frozen? ⟨wb, 2, none⟩ = false := by simp [World.frozen?, hwe]
                  have HO := Lib.hid ho
                  have HWe := Lib.hid hwe
                  have HBe := Lib.hid (HBd.out.trans (ho.below.mono HBd.out.size))
                  clear ho hwe hzl
                  go_wp2
                  go_meet
                  case rel =>
                    have hkd : Keep (fun q => q = wb) we (((we.setCell ⟨wb, 0, none⟩ (.slice ha 20 hc)).setCell ⟨wb, 1, none⟩ (.int .i64 16)).setCell ⟨wb, 2, none⟩ (.slice za zl zc)) :=
                      (((Keep.refl (fun q => q = wb) we).setCell (p := ⟨wb, 0, none⟩) (fun _ => rfl) _).setCell (p := ⟨wb, 1, none⟩) (fun _ => rfl) _).setCell (p := ⟨wb, 2, none⟩) (fun _ => rfl) _
                    have ho2 := HO.out
                    rw [← HPv.out] at ho2
                    have hpt := HY.out.put2 HBy.out.size false HSt.out (Q := (Z.P false).take (xn).toNat) (by
                      rw [HPd.out]
                      have h2 : (Z.T false).puts = fullP (Z.P false) := HY.out.puts false
                      rw [h2]
                      unfold fullP
                      rw [List.map_take]) (fun y hy => HY.out.good false y (List.mem_of_mem_take hy)) (by rw [List.length_take, HYn.out]; omega) (hs' := .slice ha 20 hc) ho2 ⟨_, _, _, rfl⟩ hkd (by
                      simp [World.setCell, Array.getElem?_modify, HWe.out, upd])
                    exact ⟨_, _, _, _, _, _, hpt, fun _ => rfl, HBe.out.trans (hkd.below HBe.out.size (fun i hi e => by have := HY.out.at_.ge; omega))⟩
                · have g2 : decide ((0 : Int) < (ml : Int)) = true := by simp; omega
                  have g2' : decide (0 < ml) = true := by simp; omega
                  have hxn : -9223372036854775808 ≤ xn ∧ xn ≤ 9223372036854775807 := by
                    have h4 : (decide (-9223372036854775808 ≤ xn) && decide (xn ≤ 9223372036854775807)) = true := hw3
                    simpa using h4
                  obtain ⟨r, hr⟩ : ∃ r, xn.tmod (ml : Int) = r := ⟨_, rfl⟩
                  have hr1 : -(ml : Int) < r ∧ r < (ml : Int) := by
                    rw [← hr]
                    have hp : (0 : Int) < (ml : Int) := by omega
                    have h1 := Int.tmod_lt_of_pos xn hp
                    have h2 := Int.lt_tmod_of_pos xn hp
                    exact ⟨h2, h1⟩
                  obtain ⟨tt, htt⟩ : ∃ tt : Nat, (r + (ml : Int)).tmod (ml : Int) = (tt : Int) ∧ tt < ml := by
                    have h1 : 0 ≤ (r + (ml : Int)).tmod (ml : Int) := Int.tmod_nonneg _ (by omega)
                    have h2 := Int.tmod_lt_of_pos (r + (ml : Int)) (show (0 : Int) < (ml : Int) by omega)
                    exact ⟨((r + (ml : Int)).tmod (ml : Int)).toNat, by omega, by omega⟩
                  obtain ⟨htt1, htt2⟩ := htt
                  have i1 : IntKind.i64.wrap r = r := wrapI (by omega) (by omega)
                  have i2 : IntKind.i64.wrap (r + (ml : Int)) = r + (ml : Int) := wrapI (by omega) (by omega)
                  have i3 : IntKind.i64.wrap (tt : Int) = (tt : Int) := wrapI (by omega) (by omega)
                  have i4 : decide ((ml : Int) = 0) = false := by simp; omega
                  have i5 : ((ml : Int) == 0) = false := by simp; omega
                  obtain ⟨mz, hmz⟩ : ∃ mz, (Z.M false)[tt]? = some mz := ⟨_, List.getElem?_eq_getElem (by rw [HMl.out]; exact htt2)⟩
                  have hrm : RowM wy (.slice ga ml gc) (Z.M false) := by rw [← HMv.out]; exact HY.out.at_.rowM false
                  obtain ⟨gg, gc2, hgg, _, _, _⟩ := row_posB hrm (by rw [HMl.out]; omega)
                  rw [HMl.out] at hgg
                  cases hgg
                  have hrm2 : wy.ownsRow 0 3 1 (.slice (some ⟨gg, 0, none⟩) ml gc) ml ((Z.M false).map (Value.int .i64 ·)) := by
                    have h5 : wy.ownsRow 0 3 1 (.slice (some ⟨gg, 0, none⟩) ml gc) (Z.M false).length ((Z.M false).map (Value.int .i64 ·)) := hrm
                    rwa [HMl.out] at h5
                  have hcm := row_cells hrm2 tt (.int .i64 mz) (by rw [List.getElem?_map, hmz]; rfl)
                  have j0' : (0 : Int) ≤ (tt : Int) := by omega
                  have j1' : (tt : Int) < (ml : Int) := by omega
                  clear hrm hrm2 hmz
                  go_wp2
                  go_quiet (fail)
                  have hbq : Below wy.heap.size wy (wy.drewN nq) := ⟨rfl, rfl, rfl, Nat.le_refl _, fun _ _ => rfl⟩
                  obtain ⟨wq, hwq⟩ : ∃ wq, wy.drewN nq = wq := ⟨_, rfl⟩
                  rw [hwq] at hbq ⊢
                  have HYQ := Lib.hid (HY.out.still hbq)
                  have HBQ := Lib.hid (HBy.out.trans (hbq.mono HBy.out.size))
                  clear hbq hwq hmc hcm
                  have HBk := Lib.hid ((HYQ.out.txIn false).back (by
                    show (Z.T false).puts.length < _
                    rw [HLt.out]; omega) HBQ.out.size mz)
                  go_wp2_with (fail)
                  refine (HBk.out).mono ?_
                  rintro e wd ⟨rfl, Td, hstd, _, hpd, hbd⟩
                  have hwd := hstd.keep.at HYQ.out.at_.want (fun ho2 => (HYQ.out.at_.ownN false _ ho2).2.1 rfl)
                  have e0 : wd.cell? ⟨wb, 0, none⟩ = some (.slice ha 20 hc) := (Lib.cell_of_heap hwd 0).trans (by simp [upd])
                  have e1 : wd.cell? ⟨wb, 1, none⟩ = some (.int .i64 16) := Lib.cell_of_heap hwd 1
                  have e2 : wd.cell? ⟨wb, 2, none⟩ = some (.slice ya yn yc) := by rw [← HPv.out]; exact Lib.cell_of_heap hwd 2
                  have hrP : RowP wd (.slice ya yn yc) (Z.P false) := by
                    have := hstd.keep.ownsRow (HYQ.out.at_.rowP false) (fun q hq ho2 => (HYQ.out.at_.pvN false q hq).2.2.2.2.1 false ho2)
                    rwa [show ({ Z with hs := upd Z.hs false (.slice ha 20 hc) } : Two).pv false = .slice ya yn yc from HPv.out] at this
                  have HRb := Lib.hid (ref6Back_any (ha := ha) (hl := 20) (hc := hc) hrP 16 mz)
                  have HSt := Lib.hid hstd
                  have HWd := Lib.hid hwd
                  have HPd := Lib.hid hpd
                  have HBd := Lib.hid (HBQ.out.trans hbd)
                  clear hstd hwd hpd hbd hrP
                  go_wp2_with (fail)
                  refine (HRb.out).mono ?_
                  rintro e we ⟨pv', rfl, ho⟩
                  obtain ⟨za, zc, hz, _, _⟩ := slice_form ho.row
                  obtain ⟨zl, hzl⟩ : ∃ zl, ((Z.P false).take (mz).toNat).length = zl := ⟨_, rfl⟩
                  rw [hzl] at hz
                  subst hz
                  have hwe := (Keep.ofBelow (S := fun _ => False) ho.below).at HWd.out (fun e => e)
                  have r0 : we.cell? ⟨wb, 0, none⟩ = some (.slice ha 20 hc) := (Lib.cell_of_heap hwe 0).trans (by simp [upd])
                  have r1 : we.cell? ⟨wb, 1, none⟩ = some (.int .i64 16) := Lib.cell_of_heap hwe 1
                  have r2 : we.cell? ⟨wb, 2, none⟩ = some (.slice ya yn yc) := by rw [← HPv.out]; exact Lib.cell_of_heap hwe 2
                  have s0 : we.frozen? ⟨wb, 0, none⟩ = false := by simp [World.frozen?, hwe]
                  have s1 : we.frozen? ⟨wb, 1, none⟩ = false := by simp [World.frozen?, hwe]
                  have s2 : we.frozen? ⟨wb, 2, none⟩ = false := by simp [World.frozen?, hwe]
                  have HO := Lib.hid ho
                  have HWe := Lib.hid hwe
                  have HBe := Lib.hid (HBd.out.trans (ho.below.mono HBd.out.size))
                  clear ho hwe hzl
                  go_wp2
                  go_meet
                  case rel =>
                    have hkd : Keep (fun q => q = wb) we (((we.setCell ⟨wb, 0, none⟩ (.slice ha 20 hc)).setCell ⟨wb, 1, none⟩ (.int .i64 16)).setCell ⟨wb, 2, none⟩ (.slice za zl zc)) :=
                      (((Keep.refl (fun q => q = wb) we).setCell (p := ⟨wb, 0, none⟩) (fun _ => rfl) _).setCell (p := ⟨wb, 1, none⟩) (fun _ => rfl) _).setCell (p := ⟨wb, 2, none⟩) (fun _ => rfl) _
                    have ho2 := HO.out
                    rw [← HPv.out] at ho2
                    have hpt := HYQ.out.put2 HBQ.out.size false HSt.out (Q := (Z.P false).take (mz).toNat) (by
                      rw [HPd.out]
                      have h2 : (Z.T false).puts = fullP (Z.P false) := HYQ.out.puts false
                      rw [h2]
                      unfold fullP
                      rw [List.map_take]) (fun y hy => HYQ.out.good false y (List.mem_of_mem_take hy)) (by rw [List.length_take, HYn.out]; omega) (hs' := .slice ha 20 hc) ho2 ⟨_, _, _, rfl⟩ hkd (by
                      simp [World.setCell, Array.getElem?_modify, HWe.out, upd])
                    exact ⟨_, _, _, _, _, _, hpt, fun _ => rfl, HBe.out.trans (hkd.below HBe.out.size (fun i hi e => by have := HYQ.out.at_.ge; omega))⟩
            have t3 : (xw == 3) = false := by simpa using x3
            by_cases x4 : xw = 4
            · as_aux_lemma =>
              subst x4
              have e0 : wy.cell? ⟨wb, 0, none⟩ = some (.slice ha 20 hc) := (Lib.cell_of_heap HY.out.at_.want 0).trans (by simp [upd])
              have e1 : wy.cell? ⟨wb, 1, none⟩ = some (.int .i64 16) := Lib.cell_of_heap HY.out.at_.want 1
              have e2 : wy.cell? ⟨wb, 2, none⟩ = some (.slice ya yn yc) := by rw [← HPv.out]; exact Lib.cell_of_heap HY.out.at_.want 2
              have hlt0 : (Z.T false).puts.length = yn := by
                have h2 : (Z.T false).puts = fullP (Z.P false) := HY.out.puts false
                rw [h2, fullP_length, HYn.out]
              have hcf : Calls Tryz.prog 19 #[.agg #[.slice ha 20 hc, .int .i64 16, .slice ya yn yc]] wy (Com6 wy (.slice ha 20 hc) (.slice ya yn yc) ws 16 (Z.P false)) := by
                have hrP := HY.out.at_.rowP false
                have h3 : ({ Z with hs := upd Z.hs false (.slice ha 20 hc) } : Two).pv false = .slice ya yn yc := HPv.out
                rw [h3] at hrP
                exact ref6Commit_any (ha := ha) (hl := 20) (hc := hc) HY.out.hrow (by rw [HY.out.wlen]; decide) (by rw [HY.out.wlen]; decide) hrP (by
                  have h5 : ({ Z with hs := upd Z.hs false (.slice ha 20 hc) } : Two).P false = Z.P false := rfl
                  rw [h5, HYn.out]; omega) (fun y hy => (HY.out.good false y hy).2.2) 16
              have HCf := Lib.hid hcf
              have HLt := Lib.hid hlt0
              clear hcf hlt0
              go_wp2_with (fail)
              refine (HCf.out).mono ?_
              rintro e w1 ⟨hv1, pv1, he, hb1, hcase⟩
              rw [HY.out.wlen] at he hcase
              subst he
              obtain ⟨ce, hce⟩ : ∃ ce, cErr 20 16 (Z.P false) = ce := ⟨_, rfl⟩
              rw [hce] at hcase
              try rw [hce]
              have HCe := Lib.hid hce
              obtain ⟨xa1, xl1, xc1, hx1⟩ : ∃ a l c, hv1 = .slice a l c := by
                rcases hcase with ⟨_, h2, _⟩ | ⟨_, _, ⟨h2, _⟩ | h2⟩
                · exact ⟨_, _, _, h2⟩
                · exact ⟨_, _, _, h2⟩
                · obtain ⟨a, c, h3⟩ := slice_formB h2; exact ⟨_, _, _, h3⟩
              obtain ⟨ya1, yl1, yc1, hy1⟩ : ∃ a l c, pv1 = .slice a l c := by
                rcases hcase with ⟨_, _, h2⟩ | ⟨_, h2, _⟩
                · exact ⟨_, _, _, h2⟩
                · exact ⟨_, _, _, h2⟩
              subst hx1 hy1
              have HCase := Lib.hid hcase
              have hb2 : Below wy.heap.size wy (w1.alloc (Obj.cells #[.slice xa1 xl1 xc1, .int .i64 16, .slice ya1 yl1 yc1] 38)) := hb1.alloc hb1.size _
              have hna := heap_alloc_new w1 (Obj.cells #[.slice xa1 xl1 xc1, .int .i64 16, .slice ya1 yl1 yc1] 38)
              have hws : w1.heap.size < (w1.alloc (Obj.cells #[.slice xa1 xl1 xc1, .int .i64 16, .slice ya1 yl1 yc1] 38)).heap.size := by simp
              have hb12 : Below w1.heap.size w1 (w1.alloc (Obj.cells #[.slice xa1 xl1 xc1, .int .i64 16, .slice ya1 yl1 yc1] 38)) := (Below.refl _ _).alloc (Nat.le_refl _) _
              obtain ⟨w2, hw2⟩ : ∃ w2, w1.alloc (Obj.cells #[.slice xa1 xl1 xc1, .int .i64 16, .slice ya1 yl1 yc1] 38) = w2 := ⟨_, rfl⟩
              rw [hw2] at hb2 hna hws hb12
              have HY2 := Lib.hid (HY.out.still hb2)
              have HB2 := Lib.hid (HBy.out.trans (hb2.mono HBy.out.size))
              have HNa := Lib.hid hna
              have HWs := Lib.hid hws
              have HB12 := Lib.hid hb12
              have hlow : ∀ q, (Lk.foot bl q ∨ Z.own false q) → q < w1.heap.size := fun q hq => by
                have h1 := hb1.size
                rcases hq with e | e
                · have := HY.out.at_.log.up.at_.foot_lt e; omega
                · have := HY.out.at_.own_lt (b := false) (k := q) e; omega
              have HLow := Lib.hid hlow
              have HCm := Lib.hid (txCommit_any HY2.out.at_.log (HY2.out.at_.tx false) (by
                have h2 : (Z.T false).puts.length = yn := HLt.out
                show (Z.T false).puts.length ≤ 1000000
                omega) (by have := HY2.out.hN; omega) HB2.out.size (HY2.out.at_.ownG false))
              have HB1s := Lib.hid hb1.size
              clear hcase hb1 hb2 hna hws hb12 hlow hce
              go_wp2_with (fail)
              try rw [hw2]
              clear hw2
              refine (HCm.out).mono ?_
              rintro e w3 ⟨he3, L3, d3, T3, hl3, ht3, hp3, hk3, hf3, ho3, hb3⟩
              have hfe : cErr 20 16 (Z.T false).puts = ce := by
                have h2 : (Z.T false).puts = fullP (Z.P false) := HY.out.puts false
                rw [h2, cErr_fullP (fun y hy => HY.out.good false y hy)]
                exact HCe.out
              have he4 : e = .returned (.int .i64 ce) := by rw [he3]; exact congrArg (fun z => Ending.returned (.int .i64 z)) hfe
              subst he4
              have hp4 : T3.puts = if ce = 0 then [] else (Z.T false).puts := by rw [← hfe]; exact hp3
              have HL3 := Lib.hid hl3
              have HTx3 := Lib.hid ht3
              have HP3 := Lib.hid hp4
              have HK3 := Lib.hid hk3
              have HF3 := Lib.hid hf3
              have HO3 := Lib.hid ho3
              have HB3 := Lib.hid (HB2.out.trans hb3)
              have HFe := Lib.hid hfe
              clear hl3 ht3 hp3 hp4 hk3 hf3 ho3 hb3 he3 hfe
              by_cases c0 : ce = 0
              · subst c0
                have hn3 := HK3.out.at HNa.out (fun hq => by have := HLow.out _ hq; omega)
                have hwd := HK3.out.at HY2.out.at_.want (fun hq => hq.elim (fun e => (HY2.out.at_.logN _ e).2.1 rfl) (fun e => (HY2.out.at_.ownN false _ e).2.1 rfl))
                have p0 : w3.cell? ⟨w1.heap.size, 0, none⟩ = some (.slice xa1 xl1 xc1) := Lib.cell_of_heap hn3 0
                have p1 : w3.cell? ⟨w1.heap.size, 1, none⟩ = some (.int .i64 16) := Lib.cell_of_heap hn3 1
                have p2 : w3.cell? ⟨w1.heap.size, 2, none⟩ = some (.slice ya1 yl1 yc1) := Lib.cell_of_heap hn3 2
                have r0 : w3.cell? ⟨wb, 0, none⟩ = some (.slice ha 20 hc) := (Lib.cell_of_heap hwd 0).trans (by simp [upd])
                have r1 : w3.cell? ⟨wb, 1, none⟩ = some (.int .i64 16) := Lib.cell_of_heap hwd 1
                have r2 : w3.cell? ⟨wb, 2, none⟩ = some (.slice ya yn yc) := by rw [← HPv.out]; exact Lib.cell_of_heap hwd 2
                have s0 : w3.frozen? ⟨wb, 0, none⟩ = false := by simp [World.frozen?, hwd]
                have s1 : w3.frozen? ⟨wb, 1, none⟩ = false := by simp [World.frozen?, hwd]
                have s2 : w3.frozen? ⟨wb, 2, none⟩ = false := by simp [World.frozen?, hwd]
                have hwn : wb < w1.heap.size := by have := HY.out.at_.lt; have := HB1s.out; omega
                have hkd : Keep (fun q => q = wb) w3 (((w3.setCell ⟨wb, 0, none⟩ (.slice xa1 xl1 xc1)).setCell ⟨wb, 1, none⟩ (.int .i64 16)).setCell ⟨wb, 2, none⟩ (.slice ya1 yl1 yc1)) :=
                  (((Keep.refl (fun q => q = wb) w3).setCell (p := ⟨wb, 0, none⟩) (fun _ => rfl) _).setCell (p := ⟨wb, 1, none⟩) (fun _ => rfl) _).setCell (p := ⟨wb, 2, none⟩) (fun _ => rfl) _
                have q0 : (((w3.setCell ⟨wb, 0, none⟩ (.slice xa1 xl1 xc1)).setCell ⟨wb, 1, none⟩ (.int .i64 16)).setCell ⟨wb, 2, none⟩ (.slice ya1 yl1 yc1)).cell? ⟨w1.heap.size, 0, none⟩ = some (.slice xa1 xl1 xc1) := Lib.cell_of_heap (hkd.at hn3 (fun e => by omega)) 0
                have HWd := Lib.hid hwd
                have HKd := Lib.hid hkd
                clear hn3 hwd hkd
                go_wp2
                go_meet
                case rel =>
                  obtain ⟨hpv1, hrow1⟩ : (.slice ya1 yl1 yc1 : Value) = .slice none 0 0 ∧ (((.slice xa1 xl1 xc1 : Value) = .slice ha 20 hc ∧ refL ws 16 (Z.P false) = ws) ∨ TextsAt w1 wy.heap.size (.slice xa1 xl1 xc1) (refL ws 16 (Z.P false))) := by
                    rcases HCase.out with ⟨h, _⟩ | ⟨_, h1, h2⟩
                    · exact absurd rfl h
                    · exact ⟨h1, h2⟩
                  have hr2 : TextsAt w2 0 (.slice xa1 xl1 xc1) (refL ws 16 (Z.P false)) := by
                    rcases hrow1 with ⟨h1, h2⟩ | h2
                    · rw [h1, h2]; exact HY2.out.hrow
                    · exact ownsRow_base_a ((Keep.ofBelow (S := fun _ => False) HB12.out).ownsRow h2 (fun _ _ e => e)) (Nat.zero_le _)
                  have hap2 : ({ Z with hs := upd Z.hs false (.slice ha 20 hc) } : Two).Aside bl Lk bb wb mb (.slice xa1 xl1 xc1) := by
                    rcases hrow1 with ⟨h1, _⟩ | h2
                    · rw [h1]; exact HY.out.hap
                    · exact HY.out.aside_new (fun q hq => (World.ownsRow.lt h2 q hq).1)
                  have hwl2 : (refL ws 16 (Z.P false)).length = 20 := by rw [refL_length, HY.out.wlen]
                  have hcm := HY2.out.comOk HB2.out.size false (hv' := .slice xa1 xl1 xc1) (ws' := refL ws 16 (Z.P false)) HL3.out HTx3.out (by rw [HP3.out]; rfl) HK3.out HF3.out HO3.out hr2 hap2 hwl2 (fun q hq => by
                    have h2 : (Z.T false).puts = fullP (Z.P false) := HY.out.puts false
                    rw [refL_at (by rw [HY.out.wlen]; exact HCe.out) q (by rw [HY.out.wlen]; exact hq)]
                    show comW 20 16 (Z.T false).puts Wk q = _
                    unfold comW
                    rw [HFe.out, if_pos rfl, h2, fullG_fullP (fun y hy => (HY.out.good false y hy).2.2)]
                    unfold overG
                    rw [HY.out.wat q hq]) HKd.out (by
                    rw [hpv1]
                    simp [World.setCell, Array.getElem?_modify, HWd.out, upd])
                  exact ⟨_, _, _, _, _, _, hcm, fun _ => rfl, HB3.out.trans (HKd.out.below HB3.out.size (fun i hi e => by have := HY.out.at_.ge; omega))⟩
              · have f0 : decide (ce = 0) = false := by simpa using c0
                have f0' : (ce == 0) = false := by simpa using c0
                go_wp2
                go_meet
                case rel =>
                  have hcw : comW 20 16 (Z.T false).puts Wk = Wk := by unfold comW; rw [HFe.out, if_neg c0]
                  have hl4 : LogIn w.heap.size w3 bl L3 d3 (Nk + 1) 20 16 Wk := by have := HL3.out; rwa [show comW 20 16 (({ Z with hs := upd Z.hs false (.slice ha 20 hc) } : Two).T false).puts Wk = Wk from hcw] at this
                  have ht4 : OnLog w3 (Z.bt false) T3 bl L3 20 Wk := by have := HTx3.out; rwa [show comW 20 16 (({ Z with hs := upd Z.hs false (.slice ha 20 hc) } : Two).T false).puts Wk = Wk from hcw] at this
                  have hcm := HY2.out.comBad HB2.out.size false hl4 ht4 (by rw [HP3.out, if_neg c0]) HK3.out HF3.out HO3.out
                  exact ⟨_, _, _, _, _, _, hcm, fun _ => rfl, HB3.out⟩
            have t4 : (xw == 4) = false := by simpa using x4
            by_cases x5 : xw = 5
            · as_aux_lemma =>
              subst x5
              have hlt5 : (Z.T false).puts.length < 1000000000000 := by
                have h1 := HY.out.puts false
                have h2 : (Z.T false).puts = fullP (Z.P false) := h1
                rw [h2, fullP_length, HYn.out]; omega
              have HDr := Lib.hid ((HY.out.txIn false).drop hlt5 HBy.out.size)
              clear hlt5
              go_wp2_with (fail)
              refine (HDr.out).mono ?_
              rintro e wd ⟨rfl, Td, hstd, _, hpd, hbd⟩
              have hwd := hstd.keep.at HY.out.at_.want (fun ho => (HY.out.at_.ownN false _ ho).2.1 rfl)
              have p2 : wd.cell? ⟨wb, 2, none⟩ = some (.slice ya yn yc) := by rw [← HPv.out]; exact Lib.cell_of_heap hwd 2
              have fz : wd.frozen? ⟨wb, 2, none⟩ = false := by simp [World.frozen?, hwd]
              have HSt := Lib.hid hstd
              have HWd := Lib.hid hwd
              have HPd := Lib.hid hpd
              have HBd := Lib.hid (HBy.out.trans hbd)
              clear hstd hwd hpd hbd
              go_wp2
              go_meet
              case rel =>
                have hkd : Keep (fun q => q = wb) wd (wd.setCell ⟨wb, 2, none⟩ (.slice none 0 0)) := (Keep.refl (fun q => q = wb) wd).setCell (p := ⟨wb, 2, none⟩) (fun _ => rfl) _
                have hpt := HY.out.put HBy.out.size false HSt.out (Q := []) (by rw [HPd.out]; rfl) (fun x hx => by cases hx) (Nat.zero_le _) (pv' := .slice none 0 0) (hs' := .slice ha 20 hc) (World.ownsRow_nil _ _ _ _) (fun q hq => by cases hq) ⟨_, _, _, rfl⟩ hkd (by
                  simp [World.setCell, Array.getElem?_modify, HWd.out, upd])
                exact ⟨_, _, _, _, _, _, hpt, fun _ => rfl, HBd.out.trans (hkd.below HBd.out.size (fun i hi e => by have := HY.out.at_.ge; omega))⟩
            have t5 : (xw == 5) = false := by simpa using x5
            go_wp2
            go_meet
            case rel => exact ⟨_, _, _, _, _, _, HY.out.mono (Nat.le_succ k), fun _ => rfl, HBy.out⟩
          case rest =>
            as_aux_lemma =>
              obtain ⟨L9, d9, N9, W9, ws9, Z9, htr9, hbt9, hbl9⟩ := hcut
              obtain ⟨ha9, hc9, hhv9⟩ := htr9.hvs
              subst hhv9
              obtain ⟨xa9, xl9, xc9, hhs9⟩ := htr9.at_.hsl false
              obtain ⟨ya9, yc9, hpv9, _, _⟩ := slice_form (htr9.at_.rowP false)
              have htt : Calls Tryz.prog 22 #[.pointer (some ⟨Z9.bt false, 0, none⟩)] wc fun e w' => e = .returned (.int .i64 (metL (Z9.P false)).length) ∧ wc = w' := by
                have := (htr9.txIn false).touched
                rwa [htr9.puts, metL_fullP] at this
              have HTt := Lib.hid (fun u (hu : TRel w.heap.size u bl L9 d9 N9 W9 bb wb mb Z9 (.slice ha9 20 hc9) ws9 (k + 1)) => (by
                have := (hu.txIn false).touched
                rwa [hu.puts, metL_fullP, hbt9] at this : Calls Tryz.prog 22 #[.pointer (some ⟨Z.bt false, 0, none⟩)] u fun e w' => e = .returned (.int .i64 (metL (Z9.P false)).length) ∧ u = w'))
              have HTr := Lib.hid (fun u (hu : TRel w.heap.size u bl L9 d9 N9 W9 bb wb mb Z9 (.slice ha9 20 hc9) ws9 (k + 1)) => (by
                have h1 := hu.at_.rowP false
                rw [hpv9] at h1
                exact ref6Touched_any (ha := xa9) (hl := xl9) (hc := xc9) h1 (by have := hu.lenP false; omega) (fun y hy => by have := hu.good false y hy; omega) 16 : Calls Tryz.prog 23 #[.agg #[.slice xa9 xl9 xc9, .int .i64 16, .slice ya9 (Z9.P false).length yc9]] u fun e w' => e = .returned (.int .i64 (metL (Z9.P false)).length) ∧ Below u.heap.size u w'))
              have HTh := Lib.hid (fun u (hu : TRel w.heap.size u bl L9 d9 N9 W9 bb wb mb Z9 (.slice ha9 20 hc9) ws9 (k + 1)) => (by
                have := (hu.txIn false).homesM
                rwa [hbt9] at this : Calls Tryz.prog 24 #[.pointer (some ⟨Z.bt false, 0, none⟩)] u fun e w' => e = .returned (.int .i64 20) ∧ Below u.heap.size u w'))
              obtain ⟨tm, htm⟩ : ∃ tm, (metL (Z9.P false)).length = tm := ⟨_, rfl⟩
              rw [htm] at HTt HTr
              obtain ⟨yn, hyn⟩ : ∃ yn, (Z9.P false).length = yn := ⟨_, rfl⟩
              rw [hyn] at HTr hpv9
              have HHs := Lib.hid hhs9
              have HPv := Lib.hid hpv9
              have HT9 := Lib.hid htr9
              have HB9 := Lib.hid hbl9
              have HBt9 := Lib.hid hbt9
              clear htt htm hyn hhs9 hpv9 hbl9 hbt9
              obtain ⟨C, hC⟩ : ∃ C : World → Prop, ∀ u, C u ↔ Below (wc).heap.size (wc) u := ⟨fun u => Below (wc).heap.size (wc) u, fun _ => Iff.rfl⟩
              have F : ∀ u, C u → TRel w.heap.size u bl L9 d9 N9 W9 bb wb mb Z9 (.slice ha9 20 hc9) ws9 (k + 1) := fun u hu => by
                have hu := (hC u).1 hu
                exact htr9.still hu
              have step : ∀ u u', C u → Below u.heap.size u u' → C u' := fun u u' hu hb => (hC u').2 (((hC u).1 hu).trans (hb.mono ((hC u).1 hu).size))
              have HC := Lib.hid hC
              have FF := Lib.hid F
              clear hC F
              clear htr9
              go_wp2
              refine wp_region_inv 11 C (by kernel_rfl) (by kernel_rfl) ((HC.out _).2 (Below.refl _ _).drew) ?_
              simp only [List.take_succ_cons, List.take_zero, List.drop_succ_cons, List.drop_zero]
              repeat
                first
                | (refine wpInv_plain rfl (fun K hK => ?_)
                   apply Exists.intro
                   refine ⟨fun u hu => ?_, ?_⟩
                   · have HU := Lib.hid hu
                     obtain ⟨e0, e1, e2, e3, e4, e5⟩ := (FF.out u hu).wantCell
                     rw [HHs.out] at e0
                     rw [HPv.out] at e2
                     clear hu
                     go_simp
                     first
                       | exact ⟨HU.out, rfl⟩
                       | (go_at_call 22; with_reducible refine (HTt.out u (FF.out u HU.out)).mono ?_; rintro e w' ⟨rfl, rfl⟩; exact ⟨rfl, HU.out⟩)
                       | (go_at_call 23; with_reducible refine (HTr.out u (FF.out u HU.out)).mono ?_; rintro e w' ⟨rfl, hb⟩; exact ⟨rfl, step _ _ HU.out hb⟩)
                       | (go_at_call 24; with_reducible refine (HTh.out u (FF.out u HU.out)).mono ?_; rintro e w' ⟨rfl, hb⟩; exact ⟨rfl, step _ _ HU.out hb⟩)
                   go_simp
                   refine hK _ ?_
                   clear hK K)
                | (refine wpInv_passed (by rfl) (fun K hK => ?_); go_simp; refine hK _ ?_; clear hK K)
                | (refine wpInv_wanted (by rfl) (fun K hK => ?_)
                   apply Exists.intro
                   refine ⟨fun u hu => ?_, ?_⟩
                   · have HU := Lib.hid hu
                     obtain ⟨e0, e1, e2, e3, e4, e5⟩ := (FF.out u hu).wantCell
                     rw [HHs.out] at e0
                     rw [HPv.out] at e2
                     clear hu
                     go_simp
                     first
                       | exact ⟨HU.out, rfl⟩
                       | (go_at_call 22; with_reducible refine (HTt.out u (FF.out u HU.out)).mono ?_; rintro e w' ⟨rfl, rfl⟩; exact ⟨rfl, HU.out⟩)
                       | (go_at_call 23; with_reducible refine (HTr.out u (FF.out u HU.out)).mono ?_; rintro e w' ⟨rfl, hb⟩; exact ⟨rfl, step _ _ HU.out hb⟩)
                       | (go_at_call 24; with_reducible refine (HTh.out u (FF.out u HU.out)).mono ?_; rintro e w' ⟨rfl, hb⟩; exact ⟨rfl, step _ _ HU.out hb⟩)
                   go_simp
                   refine hK _ ?_
                   clear hK K)
              refine wpInv_nil ?_
              intro wd hwd
              have hbd := (HC.out _).1 hwd
              have HTd := Lib.hid (HT9.out.still hbd)
              have HBd := Lib.hid (HB9.out.trans (hbd.mono HB9.out.size))
              obtain ⟨gh, ch, hgh, _, _, _⟩ := row_posB HTd.out.hrow (by rw [HTd.out.wlen]; decide)
              have hga : ha9 = some ⟨gh, 0, none⟩ := by rw [HTd.out.wlen] at hgh; cases hgh; rfl
              subst hga
              have hrw := HTd.out.hrow
              have hrw2 : wd.ownsRow 0 9 1 (.slice (some ⟨gh, 0, none⟩) 20 hc9) 20 (ws9.map .string) := by
                have h3 : wd.ownsRow 0 9 1 (.slice (some ⟨gh, 0, none⟩) 20 hc9) ws9.length (ws9.map .string) := hrw
                rwa [HTd.out.wlen] at h3
              have HGl := Lib.hid (hrw2.lt gh rfl).2
              have HCl := Lib.hid (fun (q : Nat) (hq : q < 20) => row_cells hrw2 q (.string (atL ws9 q)) (by
                rw [List.getElem?_map, List.getElem?_eq_getElem (by rw [HTd.out.wlen]; exact hq)]
                unfold atL
                rw [Int.toNat_natCast, List.getD_eq_getElem?_getD, List.getElem?_eq_getElem (by rw [HTd.out.wlen]; exact hq)]
                rfl))
              clear hgh hrw hrw2 hwd hbd C HC FF step HTt HTr HTh
              go_wp2_with (fail)
              go_loopw [230] (fun i wr => ∃ q : Nat, q ≤ 20 ∧ i = .int .i64 q ∧ Below wd.heap.size wd wr) (fun i _ => 20 - (intOf i).toNat)
              case atStart => exact ⟨0, by omega, rfl, Below.refl _ _⟩
              case round =>
                obtain ⟨q, hq, rfl, hbel⟩ := hrel
                have HBe := Lib.hid hbel
                by_cases hlt : q < 20
                · have g1 : decide ((q : Int) < 20) = true := by simp; omega
                  have g1' : decide (q < 20) = true := by simpa using hlt
                  have hq0 : (0 : Int) ≤ (q : Int) := by omega
                  have hq1 : (q : Int) < 20 := by omega
                  have hcl := HCl.out q hlt
                  rw [← hbel.cell (p := ⟨gh, q, none⟩) HGl.out] at hcl
                  have hrd := (HTd.out.at_.log.still hbel).up.readAt HTd.out.at_.log.homes q hlt
                  rw [HTd.out.wat q hlt] at hrd
                  obtain ⟨z, hz⟩ : ∃ z, atL ws9 (q : Int) = z := ⟨_, rfl⟩
                  rw [hz] at hrd hcl
                  have HRd := Lib.hid hrd
                  clear hrd hz hbel
                  go_wp2_with (go_at_call 25; refine (HRd.out).mono ?_; rintro e wA ⟨rfl, hbA⟩)
                  go_roundw
                  case rel => exact ⟨q + 1, by omega, rfl, HBe.out.trans (hbA.mono HBe.out.size)⟩
                  case measure => simp [intOf]; omega
                · have g1 : decide ((q : Int) < 20) = false := by simp; omega
                  have g1' : decide (q < 20) = false := by simpa using hlt
                  clear hbel
                  go_wp2
                  go_roundw
                  case rel => exact ⟨k + 1, by omega, rfl, ⟨_, _, _, _, _, _, HTd.out.still HBe.out⟩, HBd.out.trans (HBe.out.mono HBd.out.size)⟩
                  case measure => simp [intOf]; omega
      | true =>
        as_aux_lemma =>
          have hy := HTx.out.setHome true
          simp only [if_true] at hy
          obtain ⟨c0, c1⟩ := HTx.out.bothCell
          obtain ⟨e0, e1, e2, e3, e4, e5⟩ := HTx.out.wantCell
          have fz := HTx.out.wantFz 3
          have n3 : wx.cell? ⟨ab, 3, none⟩ = some (.string xt) := Lib.cell_of_heap HNa.out 3
          have n4 : wx.cell? ⟨ab, 4, none⟩ = some (.bool true) := Lib.cell_of_heap HNa.out 4
          have hky : Keep (fun q => q = wb) wx (wx.setCell ⟨wb, 3, none⟩ (.slice ha 20 hc)) := (Keep.refl (fun q => q = wb) wx).setCell (p := ⟨wb, 3, none⟩) (fun _ => rfl) _
          have hny : (wx.setCell ⟨wb, 3, none⟩ (.slice ha 20 hc)).heap[ab]? = _ := hky.at HNa.out (fun e => by have := HAl.out wb (.inr (.inr (.inr (.inl rfl)))); omega)
          have hby : Below w.heap.size w (wx.setCell ⟨wb, 3, none⟩ (.slice ha 20 hc)) := HBx.out.trans (hky.below HBx.out.size (fun i hi e => by have := HTx.out.at_.ge; omega))
          have m0 : (wx.setCell ⟨wb, 3, none⟩ (.slice ha 20 hc)).cell? ⟨ab, 0, none⟩ = some (.int .i64 xw) := Lib.cell_of_heap hny 0
          have m1 : (wx.setCell ⟨wb, 3, none⟩ (.slice ha 20 hc)).cell? ⟨ab, 1, none⟩ = some (.int .i64 xa) := Lib.cell_of_heap hny 1
          have m2 : (wx.setCell ⟨wb, 3, none⟩ (.slice ha 20 hc)).cell? ⟨ab, 2, none⟩ = some (.int .i64 xn) := Lib.cell_of_heap hny 2
          have m3 : (wx.setCell ⟨wb, 3, none⟩ (.slice ha 20 hc)).cell? ⟨ab, 3, none⟩ = some (.string xt) := Lib.cell_of_heap hny 3
          have m5 : (wx.setCell ⟨wb, 3, none⟩ (.slice ha 20 hc)).cell? ⟨ab, 5, none⟩ = some (.bool raw) := Lib.cell_of_heap hny 5
          have hsy : ab < (wx.setCell ⟨wb, 3, none⟩ (.slice ha 20 hc)).heap.size := Nat.lt_of_lt_of_le HSz.out hky.size
          have HY := Lib.hid hy
          have HBy := Lib.hid hby
          have HNy := Lib.hid hny
          have HSy := Lib.hid hsy
          clear hy hky hny hby hsy
          by_cases c6 : 600 < xt.size
          · have f6 : decide ((600 : Int) < (xt.size : Int)) = true := by simp; omega
            have f6' : decide (600 < xt.size) = true := by simpa using c6
            go_wp2
            go_ret
            exact ⟨rfl, HBy.out⟩
          have f6 : decide ((600 : Int) < (xt.size : Int)) = false := by simp; omega
          have f6' : decide (600 < xt.size) = false := by simpa using c6
          go_upto_block 2 with fail
          obtain ⟨wy, hwy⟩ : ∃ wy, wx.setCell ⟨wb, 3, none⟩ (.slice ha 20 hc) = wy := ⟨_, rfl⟩
          rw [hwy] at HY HBy HNy HSy m0 m1 m2 m3 m5 ⊢
          clear hwy c0 c1 e0 e1 e2 e3 e4 e5 fz n3 n4
          go_cut [8] (fun hv wz => ∃ L d N W ws Z', TRel w.heap.size wz bl L d N W bb wb mb Z' hv ws (k + 1) ∧ (∀ b, Z'.bt b = Z.bt b) ∧ Below w.heap.size w wz)
          case first =>
            obtain ⟨ya, yc, hpv, _, _⟩ := slice_form (HY.out.at_.rowP true)
            obtain ⟨yn, hyn⟩ : ∃ yn, (Z.P true).length = yn := ⟨_, rfl⟩
            have hpv2 : Z.pv true = .slice ya yn yc := by rw [← hyn]; exact hpv
            have HPv := Lib.hid hpv2
            have HYn := Lib.hid hyn
            have hkn : yn ≤ k := by rw [← hyn]; exact HT.out.lenP true
            clear hpv hpv2 hyn
            by_cases x0 : xw = 0
            · as_aux_lemma =>
              subst x0
              have HRf := Lib.hid (fun u (hu : Below wy.heap.size wy u) => (by
                have h1 := (HY.out.still hu).at_.rowP true
                have h3 : ({ Z with hs := upd Z.hs true (.slice ha 20 hc) } : Two).pv true = .slice ya yn yc := HPv.out
                rw [h3] at h1
                exact ref6Write_any (ha := ha) (hc := hc) h1 (by have h4 := HYn.out; have h5 : ({ Z with hs := upd Z.hs true (.slice ha 20 hc) } : Two).P true = Z.P true := rfl; rw [h5, h4]; omega) 16 xa xt :
                  Calls Tryz.prog 12 #[.agg #[.slice ha 20 hc, .int .i64 16, .slice ya yn yc], .int .i64 xa, .string xt] u fun e w' => ∃ za zl zc, e = .returned (.tuple #[.agg #[.slice ha 20 hc, .int .i64 16, .slice za zl zc], .int .i64 (writeErr 20 xa xt)]) ∧ Ref6Out u w' (.slice ya yn yc) (.slice za zl zc) (Z.P true ++ rawOf 20 xa xt)))
              go_upto_region 23 with fail
              go_cut [15, 16] (fun p e wz => ∃ nb za zl zc, p = .pointer (some ⟨nb, 0, none⟩) ∧ e = .int .i64 (writeErr 20 xa xt) ∧ wz.heap[nb]? = some (.cells #[.slice ha 20 hc, .int .i64 16, .slice za zl zc] 38 (0, 0)) ∧ wy.heap.size ≤ nb ∧ Ref6Out wy wz (.slice ya yn yc) (.slice za zl zc) (Z.P true ++ rawOf 20 xa xt))
              case first =>
                obtain ⟨S, hS⟩ : ∃ S : World → Prop, ∀ u, S u ↔ Keep (fun _ => False) wy u := ⟨fun u => Keep (fun _ => False) wy u, fun _ => Iff.rfl⟩
                have HS := Lib.hid hS
                clear hS
                have hbd : Below wy.heap.size wy wy.drew := ⟨rfl, rfl, rfl, Nat.le_refl _, fun _ _ => rfl⟩
                refine wp_region_way 13 (.read 0 (.read 1 (.read 2 (.read 3 (.read 4 (.read 5 (.read 6 (.two 7 (.read 8 (.read 9 (.read 10 (.one 11 (.one 12 .fin))))) 11 (.one 7 (.read 8 (.read 9 (.read 10 (.one 12 .fin))))))))))))) S (by kernel_rfl) (by kernel_rfl) ((HS.out _).2 (Keep.refl _ _).drew) ?_
                iterate 7
                  first
                    | (refine wpW_passed rfl (by rfl) (fun K hK => ?_); go_simp; refine hK _ ?_; clear hK K)
                    | (refine wpW_read rfl (by rfl) (fun K hK => ?_)
                       apply Exists.intro
                       refine ⟨fun u hu => ?_, ?_⟩
                       · have hu := (HS.out u).1 hu
                         have hw := hu.at HY.out.at_.want (fun e => e)
                         have hn := hu.at HNy.out (fun e => e)
                         have e0 : u.cell? ⟨wb, 3, none⟩ = some (.slice ha 20 hc) := (Lib.cell_of_heap hw 3).trans (by simp [upd])
                         have e1 : u.cell? ⟨wb, 4, none⟩ = some (.int .i64 16) := Lib.cell_of_heap hw 4
                         have e2 : u.cell? ⟨wb, 5, none⟩ = some (.slice ya yn yc) := by rw [← HPv.out]; exact Lib.cell_of_heap hw 5
                         have m1 : u.cell? ⟨ab, 1, none⟩ = some (.int .i64 xa) := Lib.cell_of_heap hn 1
                         have m3 : u.cell? ⟨ab, 3, none⟩ = some (.string xt) := Lib.cell_of_heap hn 3
                         clear hu hw hn
                         go_simp
                         exact ⟨rfl, rfl⟩
                       go_simp
                       refine hK _ ?_
                       clear hK K)
                refine wpW_two ?_ ?_
                · refine wpDo_do rfl (by rfl) (fun K hK => ?_)
                  go_simp
                  go_at_call 12
                  with_reducible refine (HRf.out _ hbd).mono ?_
                  rintro e w1 ⟨za, zl, zc, rfl, ho⟩
                  have hb1 : Below wy.heap.size wy w1 := hbd.trans ho.below
                  refine hK _ _ ((HS.out _).2 (Keep.ofBelow hb1)) ?_
                  clear hK K
                  iterate 3
                    first
                      | (refine wpW_passed rfl (by rfl) (fun K hK => ?_); go_simp; refine hK _ ?_; clear hK K)
                      | (refine wpW_read rfl (by rfl) (fun K hK => ?_)
                         apply Exists.intro
                         refine ⟨fun u hu => ?_, ?_⟩
                         · have hu := (HS.out u).1 hu
                           have hw := hu.at HY.out.at_.want (fun e => e)
                           have hn := hu.at HNy.out (fun e => e)
                           have e0 : u.cell? ⟨wb, 3, none⟩ = some (.slice ha 20 hc) := (Lib.cell_of_heap hw 3).trans (by simp [upd])
                           have e1 : u.cell? ⟨wb, 4, none⟩ = some (.int .i64 16) := Lib.cell_of_heap hw 4
                           have e2 : u.cell? ⟨wb, 5, none⟩ = some (.slice ya yn yc) := by rw [← HPv.out]; exact Lib.cell_of_heap hw 5
                           have m1 : u.cell? ⟨ab, 1, none⟩ = some (.int .i64 xa) := Lib.cell_of_heap hn 1
                           have m3 : u.cell? ⟨ab, 3, none⟩ = some (.string xt) := Lib.cell_of_heap hn 3
                           clear hu hw hn
                           go_simp
                           exact ⟨rfl, rfl⟩
                         go_simp
                         refine hK _ ?_
                         clear hK K)
                  refine wpW_one ?_
                  refine wpDo_do rfl (by rfl) (fun K hK => ?_)
                  go_simp
                  refine hK _ _ ((HS.out _).2 ((Keep.ofBelow hb1).alloc _)) ?_
                  clear hK K
                  refine wpW_one ?_
                  refine wpDo_do rfl (by rfl) (fun K hK => ?_)
                  go_simp
                  refine hK _ _ ((HS.out _).2 ((Keep.ofBelow hb1).alloc _)) ?_
                  clear hK K
                  refine wpW_fin ?_
                  simp only [List.drop_succ_cons, List.drop_zero]
                  have HO := Lib.hid ho
                  have HB1 := Lib.hid hb1
                  clear ho hb1
                  go_wp2
                  go_meet
                  case rel =>
                    have hba : Below w1.heap.size w1 (w1.alloc (Obj.cells #[.slice ha 20 hc, .int .i64 16, .slice za zl zc] 38)) := (Below.refl _ _).alloc (Nat.le_refl _) _
                    exact ⟨w1.heap.size, za, zl, zc, rfl, rfl, heap_alloc_new w1 _, HB1.out.size, RowP.still HO.out.row hba, HO.out.own, HB1.out.trans (hba.mono HB1.out.size)⟩
                · refine wpDo_do rfl (by rfl) (fun K hK => ?_)
                  go_simp
                  have hbz : Below wy.heap.size wy (wy.alloc (Obj.cells #[.slice none 0 0, .int .i64 0, .slice none 0 0] 38)).drew := ((Below.refl _ _).alloc (Nat.le_refl _) _).trans ⟨rfl, rfl, rfl, Nat.le_refl _, fun _ _ => rfl⟩
                  refine hK _ _ ((HS.out _).2 (Keep.ofBelow hbz)) ?_
                  clear hK K
                  refine wpW_one ?_
                  refine wpDo_do rfl (by rfl) (fun K hK => ?_)
                  go_simp
                  go_at_call 12
                  with_reducible refine (HRf.out _ hbz).mono ?_
                  rintro e w1 ⟨za, zl, zc, rfl, ho⟩
                  have hzs : (wy.alloc (Obj.cells #[.slice none 0 0, .int .i64 0, .slice none 0 0] 38)).drew.heap.size = wy.heap.size + 1 := by simp
                  have hb1 : Below wy.heap.size wy w1 := hbz.trans (ho.below.mono hbz.size)
                  have hm1 : w1.heap[wy.heap.size]? = some (Obj.cells #[.slice none 0 0, .int .i64 0, .slice none 0 0] 38 (0, 0)) := by
                    rw [ho.below.block _ (by rw [hzs]; omega)]
                    exact heap_alloc_new wy _
                  refine hK _ _ ((HS.out _).2 (Keep.ofBelow hb1)) ?_
                  clear hK K
                  iterate 3
                    first
                      | (refine wpW_passed rfl (by rfl) (fun K hK => ?_); go_simp; refine hK _ ?_; clear hK K)
                      | (refine wpW_read rfl (by rfl) (fun K hK => ?_)
                         apply Exists.intro
                         refine ⟨fun u hu => ?_, ?_⟩
                         · have hu := (HS.out u).1 hu
                           have hw := hu.at HY.out.at_.want (fun e => e)
                           have hn := hu.at HNy.out (fun e => e)
                           have e0 : u.cell? ⟨wb, 3, none⟩ = some (.slice ha 20 hc) := (Lib.cell_of_heap hw 3).trans (by simp [upd])
                           have e1 : u.cell? ⟨wb, 4, none⟩ = some (.int .i64 16) := Lib.cell_of_heap hw 4
                           have e2 : u.cell? ⟨wb, 5, none⟩ = some (.slice ya yn yc) := by rw [← HPv.out]; exact Lib.cell_of_heap hw 5
                           have m1 : u.cell? ⟨ab, 1, none⟩ = some (.int .i64 xa) := Lib.cell_of_heap hn 1
                           have m3 : u.cell? ⟨ab, 3, none⟩ = some (.string xt) := Lib.cell_of_heap hn 3
                           clear hu hw hn
                           go_simp
                           exact ⟨rfl, rfl⟩
                         go_simp
                         refine hK _ ?_
                         clear hK K)
                  have hbe := box_end (w := wy) (w4 := w1) (r := wy.heap.size) (Nat.le_refl _) hb1 hm1 (.slice ha 20 hc) (.int .i64 16) (.slice za zl zc)
                  have r0 : w1.cell? ⟨wy.heap.size, 0, none⟩ = some (.slice none 0 0) := Lib.cell_of_heap hm1 0
                  have r1 : w1.cell? ⟨wy.heap.size, 1, none⟩ = some (.int .i64 0) := Lib.cell_of_heap hm1 1
                  have r2 : w1.cell? ⟨wy.heap.size, 2, none⟩ = some (.slice none 0 0) := Lib.cell_of_heap hm1 2
                  have s0 : w1.frozen? ⟨wy.heap.size, 0, none⟩ = false := by simp [World.frozen?, hm1]
                  have s1 : w1.frozen? ⟨wy.heap.size, 1, none⟩ = false := by simp [World.frozen?, hm1]
                  have s2 : w1.frozen? ⟨wy.heap.size, 2, none⟩ = false := by simp [World.frozen?, hm1]
                  refine wpW_one ?_
                  refine wpDo_do rfl (by rfl) (fun K hK => ?_)
                  go_simp
                  refine hK _ _ ((HS.out _).2 (Keep.ofBelow hbe.2.1)) ?_
                  clear hK K
                  refine wpW_fin ?_
                  simp only [List.drop_succ_cons, List.drop_zero]
                  have HO := Lib.hid ho
                  have HBe := Lib.hid hbe
                  have HZs := Lib.hid hzs
                  clear ho hbe hb1 hm1 r0 r1 r2 s0 s1 s2 hzs
                  go_wp2
                  go_meet
                  case rel =>
                    refine ⟨wy.heap.size, za, zl, zc, rfl, rfl, HBe.out.1, Nat.le_refl _, HBe.out.2.2.ownsRow HO.out.row (fun q hq e => ?_), HO.out.own.imp id (fun ho q hq => by have := ho q hq; rw [HZs.out] at this; omega), HBe.out.2.1⟩
                    rcases HO.out.own with e2 | e2
                    · have h3 := (HY.out.at_.rowP true).lt q (by
                        have h4 : ({ Z with hs := upd Z.hs true (.slice ha 20 hc) } : Two).pv true = .slice ya yn yc := HPv.out
                        rw [h4, ← e2]; exact hq)
                      omega
                    · have := e2 q hq
                      rw [HZs.out] at this
                      omega
              case rest =>
                obtain ⟨nb, za, zl, zc, hp15, hp16, hnb, hnbl, ho⟩ := hcut
                subst hp15 hp16
                have HO := Lib.hid ho
                have HNb := Lib.hid hnb
                have HYc := Lib.hid (HY.out.still ho.below)
                have HBc := Lib.hid (HBy.out.trans (ho.below.mono HBy.out.size))
                have hnc := (Keep.ofBelow (S := fun _ => False) ho.below).at HNy.out (fun e => e)
                have m1 : wc.cell? ⟨ab, 1, none⟩ = some (.int .i64 xa) := Lib.cell_of_heap hnc 1
                have m3 : wc.cell? ⟨ab, 3, none⟩ = some (.string xt) := Lib.cell_of_heap hnc 3
                have hlt0 : (Z.T true).puts.length < 1000000000000 := by
                  have h2 : (Z.T true).puts = fullP (Z.P true) := HY.out.puts true
                  rw [h2, fullP_length, HYn.out]; omega
                have HWr := Lib.hid ((HYc.out.txIn true).write hlt0 HBc.out.size (i := xa) xt hw4)
                have hno : ∀ q, Z.own true q → q < nb := fun q hq => by have := HY.out.at_.own_lt (b := true) (k := q) hq; omega
                have HNo := Lib.hid hno
                have HNl := Lib.hid hnbl
                obtain ⟨ee, hee⟩ : ∃ ee, writeErr 20 xa xt = ee := ⟨_, rfl⟩
                rw [hee] at HWr ⊢
                clear ho hnb hnc hlt0 hno hnbl hee
                go_wp2_with (fail)
                refine (HWr.out).mono ?_
                rintro e wd ⟨rfl, Td, hstd, _, hpd, hbd⟩
                have hnd := hstd.keep.at HNb.out (fun ho2 => by have := HNo.out nb ho2; omega)
                have hwd := hstd.keep.at HYc.out.at_.want (fun ho2 => (HYc.out.at_.ownN true _ ho2).2.1 rfl)
                have p0 : wd.cell? ⟨nb, 0, none⟩ = some (.slice ha 20 hc) := Lib.cell_of_heap hnd 0
                have p1 : wd.cell? ⟨nb, 1, none⟩ = some (.int .i64 16) := Lib.cell_of_heap hnd 1
                have p2 : wd.cell? ⟨nb, 2, none⟩ = some (.slice za zl zc) := Lib.cell_of_heap hnd 2
                have r0 : wd.cell? ⟨wb, 3, none⟩ = some (.slice ha 20 hc) := (Lib.cell_of_heap hwd 3).trans (by simp [upd])
                have r1 : wd.cell? ⟨wb, 4, none⟩ = some (.int .i64 16) := Lib.cell_of_heap hwd 4
                have r2 : wd.cell? ⟨wb, 5, none⟩ = some (.slice ya yn yc) := by rw [← HPv.out]; exact Lib.cell_of_heap hwd 5
                have s0 : wd.frozen? ⟨wb, 3, none⟩ = false := by simp [World.frozen?, hwd]
                have s1 : wd.frozen? ⟨wb, 4, none⟩ = false := by simp [World.frozen?, hwd]
                have s2 : wd.frozen? ⟨wb, 5, none⟩ = false := by simp [World.frozen?, hwd]
                have HSt := Lib.hid hstd
                have HWd := Lib.hid hwd
                have HPd := Lib.hid hpd
                have HBd := Lib.hid (HBc.out.trans hbd)
                clear hstd hwd hpd hbd hnd
                go_wp2
                go_meet
                case rel =>
                  have hkd : Keep (fun q => q = wb) wd (((wd.setCell ⟨wb, 3, none⟩ (.slice ha 20 hc)).setCell ⟨wb, 4, none⟩ (.int .i64 16)).setCell ⟨wb, 5, none⟩ (.slice za zl zc)) :=
                    (((Keep.refl (fun q => q = wb) wd).setCell (p := ⟨wb, 3, none⟩) (fun _ => rfl) _).setCell (p := ⟨wb, 4, none⟩) (fun _ => rfl) _).setCell (p := ⟨wb, 5, none⟩) (fun _ => rfl) _
                  have hpt := HYc.out.put HBc.out.size true HSt.out (Q := Z.P true ++ rawOf 20 xa xt) (by
                      rw [HPd.out, fullP_raw]
                      have h2 : (Z.T true).puts = fullP (Z.P true) := HY.out.puts true
                      rw [h2]) (fun y hy => by
                      rcases List.mem_append.1 hy with hy | hy
                      · exact HY.out.good true y hy
                      · unfold rawOf at hy
                        by_cases hr : 0 ≤ xa ∧ xa < (20 : Nat) ∧ xt.size ≤ 512
                        · rw [if_pos hr] at hy
                          have hy2 : y = (xa, xt) := by simpa using hy
                          subst hy2
                          exact ⟨hr.1, hr.2.1, hr.2.2⟩
                        · rw [if_neg hr] at hy; cases hy) (by
                      rw [List.length_append, HYn.out]
                      have : (rawOf 20 xa xt).length ≤ 1 := by unfold rawOf; split <;> simp
                      omega) (pv' := .slice za zl zc) (hs' := .slice ha 20 hc) HO.out.row (by
                      have ho2 := HO.out
                      rw [← HPv.out] at ho2
                      exact fun q hq => by
                        rcases ho2.own with e | e
                        · exact HY.out.at_.pvN true q (by rw [show ({ Z with hs := upd Z.hs true (.slice ha 20 hc) } : Two).pv true = Z.pv true from rfl, ← e]; exact hq)
                        · exact HY.out.aside_new e q hq) ⟨_, _, _, rfl⟩ hkd (by
                      simp [World.setCell, Array.getElem?_modify, HWd.out, upd])
                  exact ⟨_, _, _, _, _, _, hpt, fun _ => rfl, HBd.out.trans (hkd.below HBd.out.size (fun i hi e => by have := HY.out.at_.ge; omega))⟩
            have t0 : (xw == 0) = false := by simpa using x0
            by_cases x1 : xw = 1
            · as_aux_lemma =>
              subst x1
              have hrd := (HY.out.txIn true).read hw2
              rw [HY.out.puts, homeSays_eq _ HY.out.wat] at hrd
              obtain ⟨sx, cx, hsx⟩ : ∃ sx cx, homeSays 20 (seen (fullP (Z.P true)) (atL ws)) xa = .tuple #[.string sx, .int .i64 cx] := ⟨_, _, rfl⟩
              have hrd2 : Calls Tryz.prog 14 #[.pointer (some ⟨Z.bt true, 0, none⟩), .int .i64 xa] wy fun e w' => e = .returned (.tuple #[.string sx, .int .i64 cx]) ∧ Below wy.heap.size wy w' := by rw [← hsx]; exact hrd
              have HRd := Lib.hid hrd2
              have HRf := Lib.hid (fun u (hu : TRel w.heap.size u bl Lk dk Nk Wk bb wb mb { Z with hs := upd Z.hs true (.slice ha 20 hc) } (.slice ha 20 hc) ws k) => (by
                have h1 := hu.at_.rowP true
                have h2 := ref6Read_any (w := u) hu.hrow (by rw [hu.wlen]; decide) h1 (fun y hy => (hu.good true y hy).2.2) (by have := hu.lenP true; omega) 16 hw2
                rw [hu.wlen] at h2
                have h3 : ({ Z with hs := upd Z.hs true (.slice ha 20 hc) } : Two).pv true = .slice ya yn yc := HPv.out
                rw [h3] at h2
                rw [← hsx]
                exact h2 : Calls Tryz.prog 15 #[.agg #[.slice ha 20 hc, .int .i64 16, .slice ya yn yc], .int .i64 xa] u fun e w' => e = .returned (.tuple #[.string sx, .int .i64 cx]) ∧ Below u.heap.size u w'))
              clear hrd hrd2 hsx
              go_wp2_with (fail)
              refine (HRd.out).mono ?_
              rintro e wr1 ⟨rfl, hb1⟩
              have HY1 := Lib.hid (HY.out.still hb1)
              have HB1' := Lib.hid (HBy.out.trans (hb1.mono HBy.out.size))
              have HN1 := Lib.hid ((Keep.ofBelow (S := fun _ => False) hb1).at HNy.out (fun e => e))
              have HS1 := Lib.hid (Nat.lt_of_lt_of_le HSy.out hb1.size)
              have hy1 := HY1.out
              clear hb1
              obtain ⟨C, hC⟩ : ∃ C : World → Prop, ∀ u, C u ↔ Below (wr1).heap.size (wr1) u := ⟨fun u => Below (wr1).heap.size (wr1) u, fun _ => Iff.rfl⟩
              have F : ∀ u, C u → (TRel w.heap.size u bl Lk dk Nk Wk bb wb mb { Z with hs := upd Z.hs true (.slice ha 20 hc) } (.slice ha 20 hc) ws k ∧ u.heap[ab]? = wr1.heap[ab]?) := fun u hu => by
                have hu := (hC u).1 hu
                exact ⟨hy1.still hu, hu.block ab HS1.out⟩
              have step : ∀ u u', C u → Below u.heap.size u u' → C u' := fun u u' hu hb => (hC u').2 (((hC u).1 hu).trans (hb.mono ((hC u).1 hu).size))
              have HC := Lib.hid hC
              have FF := Lib.hid F
              clear hC F
              clear hy1
              go_wp2
              refine wp_region_inv 10 C (by kernel_rfl) (by kernel_rfl) ((HC.out _).2 (Below.refl _ _).drew) ?_
              simp only [List.take_succ_cons, List.take_zero, List.drop_succ_cons, List.drop_zero]
              repeat
                first
                | (refine wpInv_plain rfl (fun K hK => ?_)
                   apply Exists.intro
                   refine ⟨fun u hu => ?_, ?_⟩
                   · have HU := Lib.hid hu
                     obtain ⟨e0, e1, e2, e3, e4, e5⟩ := (FF.out u hu).1.wantCell
                     rw [HPv.out] at e5
                     simp only [upd_same] at e3
                     have m1 : u.cell? ⟨ab, 1, none⟩ = some (.int .i64 xa) := Lib.cell_of_heap ((FF.out u hu).2.trans HN1.out) 1
                     clear hu
                     go_simp
                     first
                       | exact ⟨HU.out, rfl⟩
                       | (go_at_call 15; with_reducible refine (HRf.out u (FF.out u HU.out).1).mono ?_; rintro e w' ⟨rfl, hb⟩; exact ⟨rfl, step _ _ HU.out hb⟩)
                   go_simp
                   refine hK _ ?_
                   clear hK K)
                | (refine wpInv_passed (by rfl) (fun K hK => ?_); go_simp; refine hK _ ?_; clear hK K)
                | (refine wpInv_wanted (by rfl) (fun K hK => ?_)
                   apply Exists.intro
                   refine ⟨fun u hu => ?_, ?_⟩
                   · have HU := Lib.hid hu
                     obtain ⟨e0, e1, e2, e3, e4, e5⟩ := (FF.out u hu).1.wantCell
                     rw [HPv.out] at e5
                     simp only [upd_same] at e3
                     have m1 : u.cell? ⟨ab, 1, none⟩ = some (.int .i64 xa) := Lib.cell_of_heap ((FF.out u hu).2.trans HN1.out) 1
                     clear hu
                     go_simp
                     first
                       | exact ⟨HU.out, rfl⟩
                       | (go_at_call 15; with_reducible refine (HRf.out u (FF.out u HU.out).1).mono ?_; rintro e w' ⟨rfl, hb⟩; exact ⟨rfl, step _ _ HU.out hb⟩)
                   go_simp
                   refine hK _ ?_
                   clear hK K)
              refine wpInv_nil ?_
              intro wd hwd
              have hbd := (HC.out _).1 hwd
              have HYd := Lib.hid (HY1.out.still hbd)
              have HBd := Lib.hid (HB1'.out.trans (hbd.mono HB1'.out.size))
              clear hwd hbd C HC FF step HRf
              go_wp2
              go_meet
              case rel => exact ⟨_, _, _, _, _, _, HYd.out.mono (Nat.le_succ k), fun _ => rfl, HBd.out⟩
            have t1 : (xw == 1) = false := by simpa using x1
            by_cases x2 : xw = 2
            · as_aux_lemma =>
              subst x2
              have hlt0 : (Z.T true).puts.length = yn := by
                have h2 : (Z.T true).puts = fullP (Z.P true) := HY.out.puts true
                rw [h2, fullP_length, HYn.out]
              have HLt := Lib.hid hlt0
              clear hlt0
              obtain ⟨ga, gc, hmv, _, hgm⟩ := slice_form (HY.out.at_.rowM true)
              obtain ⟨ml, hml⟩ : ∃ ml, (Z.M true).length = ml := ⟨_, rfl⟩
              have hmlk : ml ≤ k := by rw [← hml]; exact HT.out.lenM true
              have hmv2 : Z.mv true = .slice ga ml gc := by rw [← hml]; exact hmv
              have hmc : wy.cell? ⟨mb, 1, none⟩ = some (.slice ga ml gc) := by rw [← hmv2]; exact Lib.cell_of_heap HY.out.at_.marks 1
              have HMv := Lib.hid hmv2
              have HMl := Lib.hid hml
              unfold maxLen at hgm
              clear hmv hmv2 hml
              have e2 : wy.cell? ⟨wb, 5, none⟩ = some (.slice ya yn yc) := by rw [← HPv.out]; exact Lib.cell_of_heap HY.out.at_.want 5
              have HM := Lib.hid (fun n => (((HY.out.txIn true).still (⟨rfl, rfl, rfl, Nat.le_refl _, fun _ _ => rfl⟩ : Below wy.heap.size wy (wy.drewN n))).mark).mono fun e w' (h : e = .returned (.int .i64 (Z.T true).puts.length) ∧ wy.drewN n = w') => (⟨by rw [← HLt.out]; exact h.1, h.2.symm⟩ : e = .returned (.int .i64 yn) ∧ w' = wy.drewN n))
              go_wp2_with (fail)
              go_quiet ((go_at_call 16; exact Calls.quiet_of_same (HM.out _)))
              have hbq : Below wy.heap.size wy (wy.drewN nq) := ⟨rfl, rfl, rfl, Nat.le_refl _, fun _ _ => rfl⟩
              obtain ⟨wq, hwq⟩ : ∃ wq, wy.drewN nq = wq := ⟨_, rfl⟩
              rw [hwq] at hbq ⊢
              have HYQ := Lib.hid (HY.out.still hbq)
              have HBQ := Lib.hid (HBy.out.trans (hbq.mono HBy.out.size))
              clear hbq hwq hmc e2 m0 m1 m2 m3 m5 HM
              have HM2 := Lib.hid (((HYQ.out.txIn true).still (⟨rfl, rfl, rfl, Nat.le_refl _, fun _ _ => rfl⟩ : Below wq.heap.size wq wq.drew)).mark)
              go_wp2_with (fail)
              have HMg := Lib.hid (HYQ.out.at_.mvN true)
              have hrm : RowM wq (Z.mv true) (Z.M true) := HYQ.out.at_.rowM true
              have HRm := Lib.hid hrm
              have h63 : (Z.M true).length + 1 ≤ maxLen := by rw [HMl.out]; unfold maxLen; omega
              clear hrm
              obtain ⟨S, hS⟩ : ∃ S : World → Prop, ∀ u, S u ↔ Keep (fun q => (Z.mv true).ownBlock = some q) (wq) u := ⟨fun u => Keep (fun q => (Z.mv true).ownBlock = some q) (wq) u, fun _ => Iff.rfl⟩
              have HS := Lib.hid hS
              clear hS
              refine wp_region_ord 8 [(0, true), (1, true), (2, true), (3, true), (4, true), (5, false), (6, false), (7, false)] S (by kernel_rfl) (by kernel_rfl) ((HS.out _).2 (Keep.refl _ _).drew) ?_
              iterate 5
                first
                  | (refine wpH_passed rfl (by rfl) (fun K hK => ?_); go_simp; refine hK _ ?_; clear hK K)
                  | (first
                       | refine wpH_read rfl rfl (fun K hK => ?_)
                       | refine wpH_readw rfl (by rfl) (fun K hK => ?_)
                     apply Exists.intro
                     refine ⟨fun u hu => ?_, ?_⟩
                     · have hu := (HS.out u).1 hu
                       have hm := hu.at HYQ.out.at_.marks (fun e => (HMg.out _ e).2.2.1 rfl)
                       have m0 : u.cell? ⟨mb, 1, none⟩ = some (.slice ga ml gc) := by rw [← HMv.out]; exact Lib.cell_of_heap hm 1
                       clear hm
                       clear hu
                       go_simp
                       exact ⟨rfl, rfl⟩
                     go_simp
                     refine hK _ ?_
                     clear hK K)
              refine wpH_do rfl rfl (fun K hK => ?_)
              go_simp
              go_at_call 16
              refine (HM2.out).mono ?_
              rintro e u5 ⟨he5, hu5⟩
              have he6 : e = .returned (.int .i64 yn) := by rw [← HLt.out]; exact he5
              subst he6
              rw [← hu5]
              clear hu5 he5
              refine hK _ _ ((HS.out _).2 (Keep.refl _ _).drew) ?_
              clear hK K
              refine wpH_do rfl rfl (fun K hK => ?_)
              go_simp
              have k6 : Keep (fun q => (Z.mv true).ownBlock = some q) wq (wq.drew.alloc (Obj.cells #[Value.int IntKind.i64 (yn : Int)] 3)) := (Keep.refl _ _).drew.alloc _
              refine hK _ _ ((HS.out _).2 k6) ?_
              clear hK K
              refine wpH_do rfl rfl (fun K hK => ?_)
              refine wp_append_lies _ _ _ 40 (by rfl) 0 3 j0 (.int .i64 0) 1 8 Tryz.underlying40 HJ.out Hy0.out Hy1.out Hy2.out (by rfl) (by decide) (Z.mv true) _ _ (by exact HMv.out.symm) ((HRm.out.drew).alloc _) ⟨wq.heap.size, 0, none⟩ 1 1 [.int .i64 (yn : Int)] (by rfl) (by rfl) (World.news_of_block (cs := #[.int .i64 (yn : Int)]) (t := 3) (fr := (0, 0)) (heap_alloc_new wq.drew _)) (ints_oneCell .i64 [(yn : Int)]) (by decide) h63 ?_ (Nat.zero_le _) _ rfl ?_
              · rw [HMl.out]; omega
              intro g cap u7 hown7 hg7 hloc7 hglt7
              have k7 := k6.grown hg7 (fun k _ e => e)
              refine hK _ _ ((HS.out _).2 k7) ?_
              clear hK K
              refine wpH_nil ?_
              simp only [List.drop_succ_cons, List.drop_zero]
              have hv7 : ∀ q, (Value.slice (some ⟨g, 0, none⟩) ((Z.M true).length + 1) cap).ownBlock = some q → (Z.mv true).ownBlock = some q ∨ wq.heap.size ≤ q := fun q hq => by
                have hq2 : some g = some q := hq
                obtain rfl : g = q := Option.some.inj hq2
                rcases hloc7 with e | e
                · exact .inl e
                · exact .inr (by have e3 : g = (wq.alloc (Obj.cells #[Value.int IntKind.i64 (yn : Int)] 3)).heap.size := e; rw [World.size_alloc] at e3; omega)
              have hmk := k7.at HYQ.out.at_.marks (fun e => (HMg.out _ e).2.2.1 rfl)
              have c0 : u7.cell? ⟨mb, 1, none⟩ = some (.slice ga ml gc) := by rw [← HMv.out]; exact Lib.cell_of_heap hmk 1
              have f0 : u7.frozen? ⟨mb, 1, none⟩ = false := by simp [World.frozen?, hmk]
              have HHm := Lib.hid hmk
              have HK7 := Lib.hid k7
              have HO7 := Lib.hid hown7
              have HV7 := Lib.hid hv7
              clear k6 k7 hown7 hg7 hloc7 hglt7 hv7 hmk S HS
              go_wp2
              go_meet
              case rel =>
                have hks : Keep (fun q => q = mb) u7 (u7.setCell ⟨mb, 1, none⟩ (.slice (some ⟨g, 0, none⟩) ((Z.M true).length + 1) cap)) := (Keep.refl (fun q => q = mb) u7).setCell (p := ⟨mb, 1, none⟩) (fun _ => rfl) _
                have hkk : Keep (fun q => q = mb ∨ (Z.mv true).ownBlock = some q) wq (u7.setCell ⟨mb, 1, none⟩ (.slice (some ⟨g, 0, none⟩) ((Z.M true).length + 1) cap)) := (HK7.out.mono (fun _ _ e => .inr e)).trans hks (fun _ _ e => .inl e)
                have hmk2 := HYQ.out.mark HBQ.out.size true hkk (v' := .slice (some ⟨g, 0, none⟩) ((Z.M true).length + 1) cap) (l' := Z.M true ++ [(yn : Int)]) (by
                  simp [World.setCell, Array.getElem?_modify, HHm.out, upd]) (by
                  have h2 : RowM u7 (.slice (some ⟨g, 0, none⟩) ((Z.M true).length + 1) cap) (Z.M true ++ [(yn : Int)]) := by
                    show u7.ownsRow 0 _ 1 _ (Z.M true ++ [(yn : Int)]).length _
                    rw [List.length_append, List.map_append]
                    exact HO7.out
                  exact hks.ownsRow h2 (fun q hq e => by
                    subst e
                    rcases HV7.out _ hq with e2 | e2
                    · exact (HMg.out _ e2).2.2.1 rfl
                    · have := HYQ.out.at_.lt; omega)) HV7.out (by rw [List.length_append, HMl.out]; show ml + 1 ≤ k + 1; omega)
                exact ⟨_, _, _, _, _, _, hmk2, fun _ => rfl, HBQ.out.trans (hkk.below HBQ.out.size (fun i hi e => by
                  rcases e with e | e
                  · have := HY.out.at_.ge; omega
                  · have := HYQ.out.at_.mvG true i e; omega))⟩
            have t2 : (xw == 2) = false := by simpa using x2
            by_cases x3 : xw = 3
            · as_aux_lemma =>
              subst x3
              have hlt0 : (Z.T true).puts.length = yn := by
                have h2 : (Z.T true).puts = fullP (Z.P true) := HY.out.puts true
                rw [h2, fullP_length, HYn.out]
              have HLt := Lib.hid hlt0
              clear hlt0
              obtain ⟨ga, gc, hmv, _, hgm⟩ := slice_form (HY.out.at_.rowM true)
              obtain ⟨ml, hml⟩ : ∃ ml, (Z.M true).length = ml := ⟨_, rfl⟩
              have hmlk : ml ≤ k := by rw [← hml]; exact HT.out.lenM true
              have hmv2 : Z.mv true = .slice ga ml gc := by rw [← hml]; exact hmv
              have hmc : wy.cell? ⟨mb, 1, none⟩ = some (.slice ga ml gc) := by rw [← hmv2]; exact Lib.cell_of_heap HY.out.at_.marks 1
              have HMv := Lib.hid hmv2
              have HMl := Lib.hid hml
              unfold maxLen at hgm
              clear hmv hmv2 hml
              cases raw with
              | true =>
                have HBk := Lib.hid ((HY.out.txIn true).back (by
                  show (Z.T true).puts.length < _
                  rw [HLt.out]; omega) HBy.out.size xn)
                go_wp2_with (fail)
                refine (HBk.out).mono ?_
                rintro e wd ⟨rfl, Td, hstd, _, hpd, hbd⟩
                have hwd := hstd.keep.at HY.out.at_.want (fun ho2 => (HY.out.at_.ownN true _ ho2).2.1 rfl)
                have e0 : wd.cell? ⟨wb, 3, none⟩ = some (.slice ha 20 hc) := (Lib.cell_of_heap hwd 3).trans (by simp [upd])
                have e1 : wd.cell? ⟨wb, 4, none⟩ = some (.int .i64 16) := Lib.cell_of_heap hwd 4
                have e2 : wd.cell? ⟨wb, 5, none⟩ = some (.slice ya yn yc) := by rw [← HPv.out]; exact Lib.cell_of_heap hwd 5
                have hrP : RowP wd (.slice ya yn yc) (Z.P true) := by
                  have := hstd.keep.ownsRow (HY.out.at_.rowP true) (fun q hq ho2 => (HY.out.at_.pvN true q hq).2.2.2.2.1 true ho2)
                  rwa [show ({ Z with hs := upd Z.hs true (.slice ha 20 hc) } : Two).pv true = .slice ya yn yc from HPv.out] at this
                have HRb := Lib.hid (ref6Back_any (ha := ha) (hl := 20) (hc := hc) hrP 16 xn)
                have HSt := Lib.hid hstd
                have HWd := Lib.hid hwd
                have HPd := Lib.hid hpd
                have HBd := Lib.hid (HBy.out.trans hbd)
                clear hstd hwd hpd hbd hrP
                go_wp2_with (fail)
                refine (HRb.out).mono ?_
                rintro e we ⟨pv', rfl, ho⟩
                obtain ⟨za, zc, hz, _, _⟩ := slice_form ho.row
                obtain ⟨zl, hzl⟩ : ∃ zl, ((Z.P true).take (xn).toNat).length = zl := ⟨_, rfl⟩
                rw [hzl] at hz
                subst hz
                have hwe := (Keep.ofBelow (S := fun _ => False) ho.below).at HWd.out (fun e => e)
                have r0 : we.cell? ⟨wb, 3, none⟩ = some (.slice ha 20 hc) := (Lib.cell_of_heap hwe 3).trans (by simp [upd])
                have r1 : we.cell? ⟨wb, 4, none⟩ = some (.int .i64 16) := Lib.cell_of_heap hwe 4
                have r2 : we.cell? ⟨wb, 5, none⟩ = some (.slice ya yn yc) := by rw [← HPv.out]; exact Lib.cell_of_heap hwe 5
                have s0 : we.frozen? ⟨wb, 3, none⟩ = false := by simp [World.frozen?, hwe]
                have s1 : we.frozen? ⟨wb, 4, none⟩ = false := by simp [World.frozen?, hwe]
                have s2 : we.frozen? ⟨wb, 5, none⟩ = false := by simp [World.frozen?, hwe]
                have HO := Lib.hid ho
                have HWe := Lib.hid hwe
                have HBe := Lib.hid (HBd.out.trans (ho.below.mono HBd.out.size))
                clear ho hwe hzl
                go_wp2
                go_meet
                case rel =>
                  have hkd : Keep (fun q => q = wb) we (((we.setCell ⟨wb, 3, none⟩ (.slice ha 20 hc)).setCell ⟨wb, 4, none⟩ (.int .i64 16)).setCell ⟨wb, 5, none⟩ (.slice za zl zc)) :=
                    (((Keep.refl (fun q => q = wb) we).setCell (p := ⟨wb, 3, none⟩) (fun _ => rfl) _).setCell (p := ⟨wb, 4, none⟩) (fun _ => rfl) _).setCell (p := ⟨wb, 5, none⟩) (fun _ => rfl) _
                  have ho2 := HO.out
                  rw [← HPv.out] at ho2
                  have hpt := HY.out.put2 HBy.out.size true HSt.out (Q := (Z.P true).take (xn).toNat) (by
                    rw [HPd.out]
                    have h2 : (Z.T true).puts = fullP (Z.P true) := HY.out.puts true
                    rw [h2]
                    unfold fullP
                    rw [List.map_take]) (fun y hy => HY.out.good true y (List.mem_of_mem_take hy)) (by rw [List.length_take, HYn.out]; omega) (hs' := .slice ha 20 hc) ho2 ⟨_, _, _, rfl⟩ hkd (by
                    simp [World.setCell, Array.getElem?_modify, HWe.out, upd])
                  exact ⟨_, _, _, _, _, _, hpt, fun _ => rfl, HBe.out.trans (hkd.below HBe.out.size (fun i hi e => by have := HY.out.at_.ge; omega))⟩
              | false =>
                by_cases hm0 : ml = 0
                · subst hm0
                  have HBk := Lib.hid ((HY.out.txIn true).back (by
                    show (Z.T true).puts.length < _
                    rw [HLt.out]; omega) HBy.out.size xn)
                  go_wp2_with (fail)
                  refine (HBk.out).mono ?_
                  rintro e wd ⟨rfl, Td, hstd, _, hpd, hbd⟩
                  have hwd := hstd.keep.at HY.out.at_.want (fun ho2 => (HY.out.at_.ownN true _ ho2).2.1 rfl)
                  have e0 : wd.cell? ⟨wb, 3, none⟩ = some (.slice ha 20 hc) := (Lib.cell_of_heap hwd 3).trans (by simp [upd])
                  have e1 : wd.cell? ⟨wb, 4, none⟩ = some (.int .i64 16) := Lib.cell_of_heap hwd 4
                  have e2 : wd.cell? ⟨wb, 5, none⟩ = some (.slice ya yn yc) := by rw [← HPv.out]; exact Lib.cell_of_heap hwd 5
                  have hrP : RowP wd (.slice ya yn yc) (Z.P true) := by
                    have := hstd.keep.ownsRow (HY.out.at_.rowP true) (fun q hq ho2 => (HY.out.at_.pvN true q hq).2.2.2.2.1 true ho2)
                    rwa [show ({ Z with hs := upd Z.hs true (.slice ha 20 hc) } : Two).pv true = .slice ya yn yc from HPv.out] at this
                  have HRb := Lib.hid (ref6Back_any (ha := ha) (hl := 20) (hc := hc) hrP 16 xn)
                  have HSt := Lib.hid hstd
                  have HWd := Lib.hid hwd
                  have HPd := Lib.hid hpd
                  have HBd := Lib.hid (HBy.out.trans hbd)
                  clear hstd hwd hpd hbd hrP
                  go_wp2_with (fail)
                  refine (HRb.out).mono ?_
                  rintro e we ⟨pv', rfl, ho⟩
                  obtain ⟨za, zc, hz, _, _⟩ := slice_form ho.row
                  obtain ⟨zl, hzl⟩ : ∃ zl, ((Z.P true).take (xn).toNat).length = zl := ⟨_, rfl⟩
                  rw [hzl] at hz
                  subst hz
                  have hwe := (Keep.ofBelow (S := fun _ => False) ho.below).at HWd.out (fun e => e)
                  have r0 : we.cell? ⟨wb, 3, none⟩ = some (.slice ha 20 hc) := (Lib.cell_of_heap hwe 3).trans (by simp [upd])
                  have r1 : we.cell? ⟨wb, 4, none⟩ = some (.int .i64 16) := Lib.cell_of_heap hwe 4
                  have r2 : we.cell? ⟨wb, 5, none⟩ = some (.slice ya yn yc) := by rw [← HPv.out]; exact Lib.cell_of_heap hwe 5
                  have s0 : we.frozen? ⟨wb, 3, none⟩ = false := by simp [World.frozen?, hwe]
                  have s1 : we.frozen? ⟨wb, 4, none⟩ = false := by simp [World.frozen?, hwe]
                  have s2 : we.frozen? ⟨wb, 5, none⟩ = false := by simp [World.frozen?, hwe]
                  have HO := Lib.hid ho
                  have HWe := Lib.hid hwe
                  have HBe := Lib.hid (HBd.out.trans (ho.below.mono HBd.out.size))
                  clear ho hwe hzl
                  go_wp2
                  go_meet
                  case rel =>
                    have hkd : Keep (fun q => q = wb) we (((we.setCell ⟨wb, 3, none⟩ (.slice ha 20 hc)).setCell ⟨wb, 4, none⟩ (.int .i64 16)).setCell ⟨wb, 5, none⟩ (.slice za zl zc)) :=
                      (((Keep.refl (fun q => q = wb) we).setCell (p := ⟨wb, 3, none⟩) (fun _ => rfl) _).setCell (p := ⟨wb, 4, none⟩) (fun _ => rfl) _).setCell (p := ⟨wb, 5, none⟩) (fun _ => rfl) _
                    have ho2 := HO.out
                    rw [← HPv.out] at ho2
                    have hpt := HY.out.put2 HBy.out.size true HSt.out (Q := (Z.P true).take (xn).toNat) (by
                      rw [HPd.out]
                      have h2 : (Z.T true).puts = fullP (Z.P true) := HY.out.puts true
                      rw [h2]
                      unfold fullP
                      rw [List.map_take]) (fun y hy => HY.out.good true y (List.mem_of_mem_take hy)) (by rw [List.length_take, HYn.out]; omega) (hs' := .slice ha 20 hc) ho2 ⟨_, _, _, rfl⟩ hkd (by
                      simp [World.setCell, Array.getElem?_modify, HWe.out, upd])
                    exact ⟨_, _, _, _, _, _, hpt, fun _ => rfl, HBe.out.trans (hkd.below HBe.out.size (fun i hi e => by have := HY.out.at_.ge; omega))⟩
                · have g2 : decide ((0 : Int) < (ml : Int)) = true := by simp; omega
                  have g2' : decide (0 < ml) = true := by simp; omega
                  have hxn : -9223372036854775808 ≤ xn ∧ xn ≤ 9223372036854775807 := by
                    have h4 : (decide (-9223372036854775808 ≤ xn) && decide (xn ≤ 9223372036854775807)) = true := hw3
                    simpa using h4
                  obtain ⟨r, hr⟩ : ∃ r, xn.tmod (ml : Int) = r := ⟨_, rfl⟩
                  have hr1 : -(ml : Int) < r ∧ r < (ml : Int) := by
                    rw [← hr]
                    have hp : (0 : Int) < (ml : Int) := by omega
                    have h1 := Int.tmod_lt_of_pos xn hp
                    have h2 := Int.lt_tmod_of_pos xn hp
                    exact ⟨h2, h1⟩
                  obtain ⟨tt, htt⟩ : ∃ tt : Nat, (r + (ml : Int)).tmod (ml : Int) = (tt : Int) ∧ tt < ml := by
                    have h1 : 0 ≤ (r + (ml : Int)).tmod (ml : Int) := Int.tmod_nonneg _ (by omega)
                    have h2 := Int.tmod_lt_of_pos (r + (ml : Int)) (show (0 : Int) < (ml : Int) by omega)
                    exact ⟨((r + (ml : Int)).tmod (ml : Int)).toNat, by omega, by omega⟩
                  obtain ⟨htt1, htt2⟩ := htt
                  have i1 : IntKind.i64.wrap r = r := wrapI (by omega) (by omega)
                  have i2 : IntKind.i64.wrap (r + (ml : Int)) = r + (ml : Int) := wrapI (by omega) (by omega)
                  have i3 : IntKind.i64.wrap (tt : Int) = (tt : Int) := wrapI (by omega) (by omega)
                  have i4 : decide ((ml : Int) = 0) = false := by simp; omega
                  have i5 : ((ml : Int) == 0) = false := by simp; omega
                  obtain ⟨mz, hmz⟩ : ∃ mz, (Z.M true)[tt]? = some mz := ⟨_, List.getElem?_eq_getElem (by rw [HMl.out]; exact htt2)⟩
                  have hrm : RowM wy (.slice ga ml gc) (Z.M true) := by rw [← HMv.out]; exact HY.out.at_.rowM true
                  obtain ⟨gg, gc2, hgg, _, _, _⟩ := row_posB hrm (by rw [HMl.out]; omega)
                  rw [HMl.out] at hgg
                  cases hgg
                  have hrm2 : wy.ownsRow 0 3 1 (.slice (some ⟨gg, 0, none⟩) ml gc) ml ((Z.M true).map (Value.int .i64 ·)) := by
                    have h5 : wy.ownsRow 0 3 1 (.slice (some ⟨gg, 0, none⟩) ml gc) (Z.M true).length ((Z.M true).map (Value.int .i64 ·)) := hrm
                    rwa [HMl.out] at h5
                  have hcm := row_cells hrm2 tt (.int .i64 mz) (by rw [List.getElem?_map, hmz]; rfl)
                  have j0' : (0 : Int) ≤ (tt : Int) := by omega
                  have j1' : (tt : Int) < (ml : Int) := by omega
                  clear hrm hrm2 hmz
                  go_wp2
                  go_quiet (fail)
                  have hbq : Below wy.heap.size wy (wy.drewN nq) := ⟨rfl, rfl, rfl, Nat.le_refl _, fun _ _ => rfl⟩
                  obtain ⟨wq, hwq⟩ : ∃ wq, wy.drewN nq = wq := ⟨_, rfl⟩
                  rw [hwq] at hbq ⊢
                  have HYQ := Lib.hid (HY.out.still hbq)
                  have HBQ := Lib.hid (HBy.out.trans (hbq.mono HBy.out.size))
                  clear hbq hwq hmc hcm
                  have HBk := Lib.hid ((HYQ.out.txIn true).back (by
                    show (Z.T true).puts.length < _
                    rw [HLt.out]; omega) HBQ.out.size mz)
                  go_wp2_with (fail)
                  refine (HBk.out).mono ?_
                  rintro e wd ⟨rfl, Td, hstd, _, hpd, hbd⟩
                  have hwd := hstd.keep.at HYQ.out.at_.want (fun ho2 => (HYQ.out.at_.ownN true _ ho2).2.1 rfl)
                  have e0 : wd.cell? ⟨wb, 3, none⟩ = some (.slice ha 20 hc) := (Lib.cell_of_heap hwd 3).trans (by simp [upd])
                  have e1 : wd.cell? ⟨wb, 4, none⟩ = some (.int .i64 16) := Lib.cell_of_heap hwd 4
                  have e2 : wd.cell? ⟨wb, 5, none⟩ = some (.slice ya yn yc) := by rw [← HPv.out]; exact Lib.cell_of_heap hwd 5
                  have hrP : RowP wd (.slice ya yn yc) (Z.P true) := by
                    have := hstd.keep.ownsRow (HYQ.out.at_.rowP true) (fun q hq ho2 => (HYQ.out.at_.pvN true q hq).2.2.2.2.1 true ho2)
                    rwa [show ({ Z with hs := upd Z.hs true (.slice ha 20 hc) } : Two).pv true = .slice ya yn yc from HPv.out] at this
                  have HRb := Lib.hid (ref6Back_any (ha := ha) (hl := 20) (hc := hc) hrP 16 mz)
                  have HSt := Lib.hid hstd
                  have HWd := Lib.hid hwd
                  have HPd := Lib.hid hpd
                  have HBd := Lib.hid (HBQ.out.trans hbd)
                  clear hstd hwd hpd hbd hrP
                  go_wp2_with (fail)
                  refine (HRb.out).mono ?_
                  rintro e we ⟨pv', rfl, ho⟩
                  obtain ⟨za, zc, hz, _, _⟩ := slice_form ho.row
                  obtain ⟨zl, hzl⟩ : ∃ zl, ((Z.P true).take (mz).toNat).length = zl := ⟨_, rfl⟩
                  rw [hzl] at hz
                  subst hz
                  have hwe := (Keep.ofBelow (S := fun _ => False) ho.below).at HWd.out (fun e => e)
                  have r0 : we.cell? ⟨wb, 3, none⟩ = some (.slice ha 20 hc) := (Lib.cell_of_heap hwe 3).trans (by simp [upd])
                  have r1 : we.cell? ⟨wb, 4, none⟩ = some (.int .i64 16) := Lib.cell_of_heap hwe 4
                  have r2 : we.cell? ⟨wb, 5, none⟩ = some (.slice ya yn yc) := by rw [← HPv.out]; exact Lib.cell_of_heap hwe 5
                  have s0 : we.frozen? ⟨wb, 3, none⟩ = false := by simp [World.frozen?, hwe]
                  have s1 : we.frozen? ⟨wb, 4, none⟩ = false := by simp [World.frozen?, hwe]
                  have s2 : we.frozen? ⟨wb, 5, none⟩ = false := by simp [World.frozen?, hwe]
                  have HO := Lib.hid ho
                  have HWe := Lib.hid hwe
                  have HBe := Lib.hid (HBd.out.trans (ho.below.mono HBd.out.size))
                  clear ho hwe hzl
                  go_wp2
                  go_meet
                  case rel =>
                    have hkd : Keep (fun q => q = wb) we (((we.setCell ⟨wb, 3, none⟩ (.slice ha 20 hc)).setCell ⟨wb, 4, none⟩ (.int .i64 16)).setCell ⟨wb, 5, none⟩ (.slice za zl zc)) :=
                      (((Keep.refl (fun q => q = wb) we).setCell (p := ⟨wb, 3, none⟩) (fun _ => rfl) _).setCell (p := ⟨wb, 4, none⟩) (fun _ => rfl) _).setCell (p := ⟨wb, 5, none⟩) (fun _ => rfl) _
                    have ho2 := HO.out
                    rw [← HPv.out] at ho2
                    have hpt := HYQ.out.put2 HBQ.out.size true HSt.out (Q := (Z.P true).take (mz).toNat) (by
                      rw [HPd.out]
                      have h2 : (Z.T true).puts = fullP (Z.P true) := HYQ.out.puts true
                      rw [h2]
                      unfold fullP
                      rw [List.map_take]) (fun y hy => HYQ.out.good true y (List.mem_of_mem_take hy)) (by rw [List.length_take, HYn.out]; omega) (hs' := .slice ha 20 hc) ho2 ⟨_, _, _, rfl⟩ hkd (by
                      simp [World.setCell, Array.getElem?_modify, HWe.out, upd])
                    exact ⟨_, _, _, _, _, _, hpt, fun _ => rfl, HBe.out.trans (hkd.below HBe.out.size (fun i hi e => by have := HYQ.out.at_.ge; omega))⟩
            have t3 : (xw == 3) = false := by simpa using x3
            by_cases x4 : xw = 4
            · as_aux_lemma =>
              subst x4
              have e0 : wy.cell? ⟨wb, 3, none⟩ = some (.slice ha 20 hc) := (Lib.cell_of_heap HY.out.at_.want 3).trans (by simp [upd])
              have e1 : wy.cell? ⟨wb, 4, none⟩ = some (.int .i64 16) := Lib.cell_of_heap HY.out.at_.want 4
              have e2 : wy.cell? ⟨wb, 5, none⟩ = some (.slice ya yn yc) := by rw [← HPv.out]; exact Lib.cell_of_heap HY.out.at_.want 5
              have hlt0 : (Z.T true).puts.length = yn := by
                have h2 : (Z.T true).puts = fullP (Z.P true) := HY.out.puts true
                rw [h2, fullP_length, HYn.out]
              have hcf : Calls Tryz.prog 19 #[.agg #[.slice ha 20 hc, .int .i64 16, .slice ya yn yc]] wy (Com6 wy (.slice ha 20 hc) (.slice ya yn yc) ws 16 (Z.P true)) := by
                have hrP := HY.out.at_.rowP true
                have h3 : ({ Z with hs := upd Z.hs true (.slice ha 20 hc) } : Two).pv true = .slice ya yn yc := HPv.out
                rw [h3] at hrP
                exact ref6Commit_any (ha := ha) (hl := 20) (hc := hc) HY.out.hrow (by rw [HY.out.wlen]; decide) (by rw [HY.out.wlen]; decide) hrP (by
                  have h5 : ({ Z with hs := upd Z.hs true (.slice ha 20 hc) } : Two).P true = Z.P true := rfl
                  rw [h5, HYn.out]; omega) (fun y hy => (HY.out.good true y hy).2.2) 16
              have HCf := Lib.hid hcf
              have HLt := Lib.hid hlt0
              clear hcf hlt0
              go_wp2_with (fail)
              refine (HCf.out).mono ?_
              rintro e w1 ⟨hv1, pv1, he, hb1, hcase⟩
              rw [HY.out.wlen] at he hcase
              subst he
              obtain ⟨ce, hce⟩ : ∃ ce, cErr 20 16 (Z.P true) = ce := ⟨_, rfl⟩
              rw [hce] at hcase
              try rw [hce]
              have HCe := Lib.hid hce
              obtain ⟨xa1, xl1, xc1, hx1⟩ : ∃ a l c, hv1 = .slice a l c := by
                rcases hcase with ⟨_, h2, _⟩ | ⟨_, _, ⟨h2, _⟩ | h2⟩
                · exact ⟨_, _, _, h2⟩
                · exact ⟨_, _, _, h2⟩
                · obtain ⟨a, c, h3⟩ := slice_formB h2; exact ⟨_, _, _, h3⟩
              obtain ⟨ya1, yl1, yc1, hy1⟩ : ∃ a l c, pv1 = .slice a l c := by
                rcases hcase with ⟨_, _, h2⟩ | ⟨_, h2, _⟩
                · exact ⟨_, _, _, h2⟩
                · exact ⟨_, _, _, h2⟩
              subst hx1 hy1
              have HCase := Lib.hid hcase
              have hb2 : Below wy.heap.size wy (w1.alloc (Obj.cells #[.slice xa1 xl1 xc1, .int .i64 16, .slice ya1 yl1 yc1] 38)) := hb1.alloc hb1.size _
              have hna := heap_alloc_new w1 (Obj.cells #[.slice xa1 xl1 xc1, .int .i64 16, .slice ya1 yl1 yc1] 38)
              have hws : w1.heap.size < (w1.alloc (Obj.cells #[.slice xa1 xl1 xc1, .int .i64 16, .slice ya1 yl1 yc1] 38)).heap.size := by simp
              have hb12 : Below w1.heap.size w1 (w1.alloc (Obj.cells #[.slice xa1 xl1 xc1, .int .i64 16, .slice ya1 yl1 yc1] 38)) := (Below.refl _ _).alloc (Nat.le_refl _) _
              obtain ⟨w2, hw2⟩ : ∃ w2, w1.alloc (Obj.cells #[.slice xa1 xl1 xc1, .int .i64 16, .slice ya1 yl1 yc1] 38) = w2 := ⟨_, rfl⟩
              rw [hw2] at hb2 hna hws hb12
              have HY2 := Lib.hid (HY.out.still hb2)
              have HB2 := Lib.hid (HBy.out.trans (hb2.mono HBy.out.size))
              have HNa := Lib.hid hna
              have HWs := Lib.hid hws
              have HB12 := Lib.hid hb12
              have hlow : ∀ q, (Lk.foot bl q ∨ Z.own true q) → q < w1.heap.size := fun q hq => by
                have h1 := hb1.size
                rcases hq with e | e
                · have := HY.out.at_.log.up.at_.foot_lt e; omega
                · have := HY.out.at_.own_lt (b := true) (k := q) e; omega
              have HLow := Lib.hid hlow
              have HCm := Lib.hid (txCommit_any HY2.out.at_.log (HY2.out.at_.tx true) (by
                have h2 : (Z.T true).puts.length = yn := HLt.out
                show (Z.T true).puts.length ≤ 1000000
                omega) (by have := HY2.out.hN; omega) HB2.out.size (HY2.out.at_.ownG true))
              have HB1s := Lib.hid hb1.size
              clear hcase hb1 hb2 hna hws hb12 hlow hce
              go_wp2_with (fail)
              try rw [hw2]
              clear hw2
              refine (HCm.out).mono ?_
              rintro e w3 ⟨he3, L3, d3, T3, hl3, ht3, hp3, hk3, hf3, ho3, hb3⟩
              have hfe : cErr 20 16 (Z.T true).puts = ce := by
                have h2 : (Z.T true).puts = fullP (Z.P true) := HY.out.puts true
                rw [h2, cErr_fullP (fun y hy => HY.out.good true y hy)]
                exact HCe.out
              have he4 : e = .returned (.int .i64 ce) := by rw [he3]; exact congrArg (fun z => Ending.returned (.int .i64 z)) hfe
              subst he4
              have hp4 : T3.puts = if ce = 0 then [] else (Z.T true).puts := by rw [← hfe]; exact hp3
              have HL3 := Lib.hid hl3
              have HTx3 := Lib.hid ht3
              have HP3 := Lib.hid hp4
              have HK3 := Lib.hid hk3
              have HF3 := Lib.hid hf3
              have HO3 := Lib.hid ho3
              have HB3 := Lib.hid (HB2.out.trans hb3)
              have HFe := Lib.hid hfe
              clear hl3 ht3 hp3 hp4 hk3 hf3 ho3 hb3 he3 hfe
              by_cases c0 : ce = 0
              · subst c0
                have hn3 := HK3.out.at HNa.out (fun hq => by have := HLow.out _ hq; omega)
                have hwd := HK3.out.at HY2.out.at_.want (fun hq => hq.elim (fun e => (HY2.out.at_.logN _ e).2.1 rfl) (fun e => (HY2.out.at_.ownN true _ e).2.1 rfl))
                have p0 : w3.cell? ⟨w1.heap.size, 0, none⟩ = some (.slice xa1 xl1 xc1) := Lib.cell_of_heap hn3 0
                have p1 : w3.cell? ⟨w1.heap.size, 1, none⟩ = some (.int .i64 16) := Lib.cell_of_heap hn3 1
                have p2 : w3.cell? ⟨w1.heap.size, 2, none⟩ = some (.slice ya1 yl1 yc1) := Lib.cell_of_heap hn3 2
                have r0 : w3.cell? ⟨wb, 3, none⟩ = some (.slice ha 20 hc) := (Lib.cell_of_heap hwd 3).trans (by simp [upd])
                have r1 : w3.cell? ⟨wb, 4, none⟩ = some (.int .i64 16) := Lib.cell_of_heap hwd 4
                have r2 : w3.cell? ⟨wb, 5, none⟩ = some (.slice ya yn yc) := by rw [← HPv.out]; exact Lib.cell_of_heap hwd 5
                have s0 : w3.frozen? ⟨wb, 3, none⟩ = false := by simp [World.frozen?, hwd]
                have s1 : w3.frozen? ⟨wb, 4, none⟩ = false := by simp [World.frozen?, hwd]
                have s2 : w3.frozen? ⟨wb, 5, none⟩ = false := by simp [World.frozen?, hwd]
                have hwn : wb < w1.heap.size := by have := HY.out.at_.lt; have := HB1s.out; omega
                have hkd : Keep (fun q => q = wb) w3 (((w3.setCell ⟨wb, 3, none⟩ (.slice xa1 xl1 xc1)).setCell ⟨wb, 4, none⟩ (.int .i64 16)).setCell ⟨wb, 5, none⟩ (.slice ya1 yl1 yc1)) :=
                  (((Keep.refl (fun q => q = wb) w3).setCell (p := ⟨wb, 3, none⟩) (fun _ => rfl) _).setCell (p := ⟨wb, 4, none⟩) (fun _ => rfl) _).setCell (p := ⟨wb, 5, none⟩) (fun _ => rfl) _
                have q0 : (((w3.setCell ⟨wb, 3, none⟩ (.slice xa1 xl1 xc1)).setCell ⟨wb, 4, none⟩ (.int .i64 16)).setCell ⟨wb, 5, none⟩ (.slice ya1 yl1 yc1)).cell? ⟨w1.heap.size, 0, none⟩ = some (.slice xa1 xl1 xc1) := Lib.cell_of_heap (hkd.at hn3 (fun e => by omega)) 0
                have HWd := Lib.hid hwd
                have HKd := Lib.hid hkd
                clear hn3 hwd hkd
                go_wp2
                go_meet
                case rel =>
                  obtain ⟨hpv1, hrow1⟩ : (.slice ya1 yl1 yc1 : Value) = .slice none 0 0 ∧ (((.slice xa1 xl1 xc1 : Value) = .slice ha 20 hc ∧ refL ws 16 (Z.P true) = ws) ∨ TextsAt w1 wy.heap.size (.slice xa1 xl1 xc1) (refL ws 16 (Z.P true))) := by
                    rcases HCase.out with ⟨h, _⟩ | ⟨_, h1, h2⟩
                    · exact absurd rfl h
                    · exact ⟨h1, h2⟩
                  have hr2 : TextsAt w2 0 (.slice xa1 xl1 xc1) (refL ws 16 (Z.P true)) := by
                    rcases hrow1 with ⟨h1, h2⟩ | h2
                    · rw [h1, h2]; exact HY2.out.hrow
                    · exact ownsRow_base_a ((Keep.ofBelow (S := fun _ => False) HB12.out).ownsRow h2 (fun _ _ e => e)) (Nat.zero_le _)
                  have hap2 : ({ Z with hs := upd Z.hs true (.slice ha 20 hc) } : Two).Aside bl Lk bb wb mb (.slice xa1 xl1 xc1) := by
                    rcases hrow1 with ⟨h1, _⟩ | h2
                    · rw [h1]; exact HY.out.hap
                    · exact HY.out.aside_new (fun q hq => (World.ownsRow.lt h2 q hq).1)
                  have hwl2 : (refL ws 16 (Z.P true)).length = 20 := by rw [refL_length, HY.out.wlen]
                  have hcm := HY2.out.comOk HB2.out.size true (hv' := .slice xa1 xl1 xc1) (ws' := refL ws 16 (Z.P true)) HL3.out HTx3.out (by rw [HP3.out]; rfl) HK3.out HF3.out HO3.out hr2 hap2 hwl2 (fun q hq => by
                    have h2 : (Z.T true).puts = fullP (Z.P true) := HY.out.puts true
                    rw [refL_at (by rw [HY.out.wlen]; exact HCe.out) q (by rw [HY.out.wlen]; exact hq)]
                    show comW 20 16 (Z.T true).puts Wk q = _
                    unfold comW
                    rw [HFe.out, if_pos rfl, h2, fullG_fullP (fun y hy => (HY.out.good true y hy).2.2)]
                    unfold overG
                    rw [HY.out.wat q hq]) HKd.out (by
                    rw [hpv1]
                    simp [World.setCell, Array.getElem?_modify, HWd.out, upd])
                  exact ⟨_, _, _, _, _, _, hcm, fun _ => rfl, HB3.out.trans (HKd.out.below HB3.out.size (fun i hi e => by have := HY.out.at_.ge; omega))⟩
              · have f0 : decide (ce = 0) = false := by simpa using c0
                have f0' : (ce == 0) = false := by simpa using c0
                go_wp2
                go_meet
                case rel =>
                  have hcw : comW 20 16 (Z.T true).puts Wk = Wk := by unfold comW; rw [HFe.out, if_neg c0]
                  have hl4 : LogIn w.heap.size w3 bl L3 d3 (Nk + 1) 20 16 Wk := by have := HL3.out; rwa [show comW 20 16 (({ Z with hs := upd Z.hs true (.slice ha 20 hc) } : Two).T true).puts Wk = Wk from hcw] at this
                  have ht4 : OnLog w3 (Z.bt true) T3 bl L3 20 Wk := by have := HTx3.out; rwa [show comW 20 16 (({ Z with hs := upd Z.hs true (.slice ha 20 hc) } : Two).T true).puts Wk = Wk from hcw] at this
                  have hcm := HY2.out.comBad HB2.out.size true hl4 ht4 (by rw [HP3.out, if_neg c0]) HK3.out HF3.out HO3.out
                  exact ⟨_, _, _, _, _, _, hcm, fun _ => rfl, HB3.out⟩
            have t4 : (xw == 4) = false := by simpa using x4
            by_cases x5 : xw = 5
            · as_aux_lemma =>
              subst x5
              have hlt5 : (Z.T true).puts.length < 1000000000000 := by
                have h1 := HY.out.puts true
                have h2 : (Z.T true).puts = fullP (Z.P true) := h1
                rw [h2, fullP_length, HYn.out]; omega
              have HDr := Lib.hid ((HY.out.txIn true).drop hlt5 HBy.out.size)
              clear hlt5
              go_wp2_with (fail)
              refine (HDr.out).mono ?_
              rintro e wd ⟨rfl, Td, hstd, _, hpd, hbd⟩
              have hwd := hstd.keep.at HY.out.at_.want (fun ho => (HY.out.at_.ownN true _ ho).2.1 rfl)
              have p2 : wd.cell? ⟨wb, 5, none⟩ = some (.slice ya yn yc) := by rw [← HPv.out]; exact Lib.cell_of_heap hwd 5
              have fz : wd.frozen? ⟨wb, 5, none⟩ = false := by simp [World.frozen?, hwd]
              have HSt := Lib.hid hstd
              have HWd := Lib.hid hwd
              have HPd := Lib.hid hpd
              have HBd := Lib.hid (HBy.out.trans hbd)
              clear hstd hwd hpd hbd
              go_wp2
              go_meet
              case rel =>
                have hkd : Keep (fun q => q = wb) wd (wd.setCell ⟨wb, 5, none⟩ (.slice none 0 0)) := (Keep.refl (fun q => q = wb) wd).setCell (p := ⟨wb, 5, none⟩) (fun _ => rfl) _
                have hpt := HY.out.put HBy.out.size true HSt.out (Q := []) (by rw [HPd.out]; rfl) (fun x hx => by cases hx) (Nat.zero_le _) (pv' := .slice none 0 0) (hs' := .slice ha 20 hc) (World.ownsRow_nil _ _ _ _) (fun q hq => by cases hq) ⟨_, _, _, rfl⟩ hkd (by
                  simp [World.setCell, Array.getElem?_modify, HWd.out, upd])
                exact ⟨_, _, _, _, _, _, hpt, fun _ => rfl, HBd.out.trans (hkd.below HBd.out.size (fun i hi e => by have := HY.out.at_.ge; omega))⟩
            have t5 : (xw == 5) = false := by simpa using x5
            go_wp2
            go_meet
            case rel => exact ⟨_, _, _, _, _, _, HY.out.mono (Nat.le_succ k), fun _ => rfl, HBy.out⟩
          case rest =>
            as_aux_lemma =>
              obtain ⟨L9, d9, N9, W9, ws9, Z9, htr9, hbt9, hbl9⟩ := hcut
              obtain ⟨ha9, hc9, hhv9⟩ := htr9.hvs
              subst hhv9
              obtain ⟨xa9, xl9, xc9, hhs9⟩ := htr9.at_.hsl true
              obtain ⟨ya9, yc9, hpv9, _, _⟩ := slice_form (htr9.at_.rowP true)
              have htt : Calls Tryz.prog 22 #[.pointer (some ⟨Z9.bt true, 0, none⟩)] wc fun e w' => e = .returned (.int .i64 (metL (Z9.P true)).length) ∧ wc = w' := by
                have := (htr9.txIn true).touched
                rwa [htr9.puts, metL_fullP] at this
              have HTt := Lib.hid (fun u (hu : TRel w.heap.size u bl L9 d9 N9 W9 bb wb mb Z9 (.slice ha9 20 hc9) ws9 (k + 1)) => (by
                have := (hu.txIn true).touched
                rwa [hu.puts, metL_fullP, hbt9] at this : Calls Tryz.prog 22 #[.pointer (some ⟨Z.bt true, 0, none⟩)] u fun e w' => e = .returned (.int .i64 (metL (Z9.P true)).length) ∧ u = w'))
              have HTr := Lib.hid (fun u (hu : TRel w.heap.size u bl L9 d9 N9 W9 bb wb mb Z9 (.slice ha9 20 hc9) ws9 (k + 1)) => (by
                have h1 := hu.at_.rowP true
                rw [hpv9] at h1
                exact ref6Touched_any (ha := xa9) (hl := xl9) (hc := xc9) h1 (by have := hu.lenP true; omega) (fun y hy => by have := hu.good true y hy; omega) 16 : Calls Tryz.prog 23 #[.agg #[.slice xa9 xl9 xc9, .int .i64 16, .slice ya9 (Z9.P true).length yc9]] u fun e w' => e = .returned (.int .i64 (metL (Z9.P true)).length) ∧ Below u.heap.size u w'))
              have HTh := Lib.hid (fun u (hu : TRel w.heap.size u bl L9 d9 N9 W9 bb wb mb Z9 (.slice ha9 20 hc9) ws9 (k + 1)) => (by
                have := (hu.txIn true).homesM
                rwa [hbt9] at this : Calls Tryz.prog 24 #[.pointer (some ⟨Z.bt true, 0, none⟩)] u fun e w' => e = .returned (.int .i64 20) ∧ Below u.heap.size u w'))
              obtain ⟨tm, htm⟩ : ∃ tm, (metL (Z9.P true)).length = tm := ⟨_, rfl⟩
              rw [htm] at HTt HTr
              obtain ⟨yn, hyn⟩ : ∃ yn, (Z9.P true).length = yn := ⟨_, rfl⟩
              rw [hyn] at HTr hpv9
              have HHs := Lib.hid hhs9
              have HPv := Lib.hid hpv9
              have HT9 := Lib.hid htr9
              have HB9 := Lib.hid hbl9
              have HBt9 := Lib.hid hbt9
              clear htt htm hyn hhs9 hpv9 hbl9 hbt9
              obtain ⟨C, hC⟩ : ∃ C : World → Prop, ∀ u, C u ↔ Below (wc).heap.size (wc) u := ⟨fun u => Below (wc).heap.size (wc) u, fun _ => Iff.rfl⟩
              have F : ∀ u, C u → TRel w.heap.size u bl L9 d9 N9 W9 bb wb mb Z9 (.slice ha9 20 hc9) ws9 (k + 1) := fun u hu => by
                have hu := (hC u).1 hu
                exact htr9.still hu
              have step : ∀ u u', C u → Below u.heap.size u u' → C u' := fun u u' hu hb => (hC u').2 (((hC u).1 hu).trans (hb.mono ((hC u).1 hu).size))
              have HC := Lib.hid hC
              have FF := Lib.hid F
              clear hC F
              clear htr9
              go_wp2
              refine wp_region_inv 11 C (by kernel_rfl) (by kernel_rfl) ((HC.out _).2 (Below.refl _ _).drew) ?_
              simp only [List.take_succ_cons, List.take_zero, List.drop_succ_cons, List.drop_zero]
              repeat
                first
                | (refine wpInv_plain rfl (fun K hK => ?_)
                   apply Exists.intro
                   refine ⟨fun u hu => ?_, ?_⟩
                   · have HU := Lib.hid hu
                     obtain ⟨e0, e1, e2, e3, e4, e5⟩ := (FF.out u hu).wantCell
                     rw [HHs.out] at e3
                     rw [HPv.out] at e5
                     clear hu
                     go_simp
                     first
                       | exact ⟨HU.out, rfl⟩
                       | (go_at_call 22; with_reducible refine (HTt.out u (FF.out u HU.out)).mono ?_; rintro e w' ⟨rfl, rfl⟩; exact ⟨rfl, HU.out⟩)
                       | (go_at_call 23; with_reducible refine (HTr.out u (FF.out u HU.out)).mono ?_; rintro e w' ⟨rfl, hb⟩; exact ⟨rfl, step _ _ HU.out hb⟩)
                       | (go_at_call 24; with_reducible refine (HTh.out u (FF.out u HU.out)).mono ?_; rintro e w' ⟨rfl, hb⟩; exact ⟨rfl, step _ _ HU.out hb⟩)
                   go_simp
                   refine hK _ ?_
                   clear hK K)
                | (refine wpInv_passed (by rfl) (fun K hK => ?_); go_simp; refine hK _ ?_; clear hK K)
                | (refine wpInv_wanted (by rfl) (fun K hK => ?_)
                   apply Exists.intro
                   refine ⟨fun u hu => ?_, ?_⟩
                   · have HU := Lib.hid hu
                     obtain ⟨e0, e1, e2, e3, e4, e5⟩ := (FF.out u hu).wantCell
                     rw [HHs.out] at e3
                     rw [HPv.out] at e5
                     clear hu
                     go_simp
                     first
                       | exact ⟨HU.out, rfl⟩
                       | (go_at_call 22; with_reducible refine (HTt.out u (FF.out u HU.out)).mono ?_; rintro e w' ⟨rfl, rfl⟩; exact ⟨rfl, HU.out⟩)
                       | (go_at_call 23; with_reducible refine (HTr.out u (FF.out u HU.out)).mono ?_; rintro e w' ⟨rfl, hb⟩; exact ⟨rfl, step _ _ HU.out hb⟩)
                       | (go_at_call 24; with_reducible refine (HTh.out u (FF.out u HU.out)).mono ?_; rintro e w' ⟨rfl, hb⟩; exact ⟨rfl, step _ _ HU.out hb⟩)
                   go_simp
                   refine hK _ ?_
                   clear hK K)
              refine wpInv_nil ?_
              intro wd hwd
              have hbd := (HC.out _).1 hwd
              have HTd := Lib.hid (HT9.out.still hbd)
              have HBd := Lib.hid (HB9.out.trans (hbd.mono HB9.out.size))
              obtain ⟨gh, ch, hgh, _, _, _⟩ := row_posB HTd.out.hrow (by rw [HTd.out.wlen]; decide)
              have hga : ha9 = some ⟨gh, 0, none⟩ := by rw [HTd.out.wlen] at hgh; cases hgh; rfl
              subst hga
              have hrw := HTd.out.hrow
              have hrw2 : wd.ownsRow 0 9 1 (.slice (some ⟨gh, 0, none⟩) 20 hc9) 20 (ws9.map .string) := by
                have h3 : wd.ownsRow 0 9 1 (.slice (some ⟨gh, 0, none⟩) 20 hc9) ws9.length (ws9.map .string) := hrw
                rwa [HTd.out.wlen] at h3
              have HGl := Lib.hid (hrw2.lt gh rfl).2
              have HCl := Lib.hid (fun (q : Nat) (hq : q < 20) => row_cells hrw2 q (.string (atL ws9 q)) (by
                rw [List.getElem?_map, List.getElem?_eq_getElem (by rw [HTd.out.wlen]; exact hq)]
                unfold atL
                rw [Int.toNat_natCast, List.getD_eq_getElem?_getD, List.getElem?_eq_getElem (by rw [HTd.out.wlen]; exact hq)]
                rfl))
              clear hgh hrw hrw2 hwd hbd C HC FF step HTt HTr HTh
              go_wp2_with (fail)
              go_loopw [230] (fun i wr => ∃ q : Nat, q ≤ 20 ∧ i = .int .i64 q ∧ Below wd.heap.size wd wr) (fun i _ => 20 - (intOf i).toNat)
              case atStart => exact ⟨0, by omega, rfl, Below.refl _ _⟩
              case round =>
                obtain ⟨q, hq, rfl, hbel⟩ := hrel
                have HBe := Lib.hid hbel
                by_cases hlt : q < 20
                · have g1 : decide ((q : Int) < 20) = true := by simp; omega
                  have g1' : decide (q < 20) = true := by simpa using hlt
                  have hq0 : (0 : Int) ≤ (q : Int) := by omega
                  have hq1 : (q : Int) < 20 := by omega
                  have hcl := HCl.out q hlt
                  rw [← hbel.cell (p := ⟨gh, q, none⟩) HGl.out] at hcl
                  have hrd := (HTd.out.at_.log.still hbel).up.readAt HTd.out.at_.log.homes q hlt
                  rw [HTd.out.wat q hlt] at hrd
                  obtain ⟨z, hz⟩ : ∃ z, atL ws9 (q : Int) = z := ⟨_, rfl⟩
                  rw [hz] at hrd hcl
                  have HRd := Lib.hid hrd
                  clear hrd hz hbel
                  go_wp2_with (go_at_call 25; refine (HRd.out).mono ?_; rintro e wA ⟨rfl, hbA⟩)
                  go_roundw
                  case rel => exact ⟨q + 1, by omega, rfl, HBe.out.trans (hbA.mono HBe.out.size)⟩
                  case measure => simp [intOf]; omega
                · have g1 : decide ((q : Int) < 20) = false := by simp; omega
                  have g1' : decide (q < 20) = false := by simpa using hlt
                  clear hbel
                  go_wp2
                  go_roundw
                  case rel => exact ⟨k + 1, by omega, rfl, ⟨_, _, _, _, _, _, HTd.out.still HBe.out⟩, HBd.out.trans (HBe.out.mono HBd.out.size)⟩
                  case measure => simp [intOf]; omega
    · have g1 : decide ((k : Int) < (pl : Int)) = false := by simp; omega
      have g1' : decide (k < pl) = false := by simpa using hlt
      go_wp2
      go_ret
      exact ⟨rfl, HB.out⟩
end Go.Proofs.YtalgheocjnajlaaGreatDoor
