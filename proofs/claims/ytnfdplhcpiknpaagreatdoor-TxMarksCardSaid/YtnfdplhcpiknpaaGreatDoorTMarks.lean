/-
  THE LAWS of layer 6: TxMarks walked.
-/
import Derived.Test.YtnfdplhcpiknpaaGreatDoorMark1
namespace Go.Proofs.YtnfdplhcpiknpaaGreatDoor
open Go.RowKit Go.MapKept
attribute [local go_sem] gives givesH
set_option maxRecDepth 100000

set_option maxHeartbeats 4000000 in
theorem txmarks_walk {v0 v1 : Value} {p q : Puts} (w : World) (h : PutsAt w w.heap.size v0 p) (hs : Sizes p) (h' : PutsAt w w.heap.size v1 q) (hs' : Sizes q) :
    Calls Tryz.prog 5 #[v0, v1] w fun e w' => e = .returned (.bool true) ∧ Below w.heap.size w w' := by
  have H1 := Lib.hid (awake6_any w)
  obtain ⟨i0, hi0, hz0, hz1, hz2⟩ := info_parts infoStr
  have HI := Lib.hid hi0
  have Hz0 := Lib.hid hz0
  have Hz1 := Lib.hid hz1
  have Hz2 := Lib.hid hz2
  clear hi0 hz0 hz1 hz2
  have HP := Lib.hid h
  have HQ := Lib.hid h'
  obtain ⟨pa, pc, _, _, hv, _, _⟩ := h.form
  obtain ⟨qa, qc, _, _, hv', _, _⟩ := h'.form
  subst hv hv'
  obtain ⟨pl, hpl⟩ : ∃ pl, p.length = pl := ⟨_, rfl⟩
  obtain ⟨ql, hql⟩ : ∃ ql, q.length = ql := ⟨_, rfl⟩
  rw [hpl] at HP ⊢
  rw [hql] at HQ ⊢
  have HPl := Lib.hid hpl
  have HQl := Lib.hid hql
  have HSp := Lib.hid hs
  have HSq := Lib.hid hs'
  have hpl63 : (pl : Int) ≤ 140737488355328 := by have := hs.1; omega
  have hql63 : (ql : Int) ≤ 140737488355328 := by have := hs'.1; omega
  have hmf : ∀ (fn : Fn) (first cap : Array Value) (w : World), (Instr.makeFunc fn first cap).run Tryz.prog w = .ok (.func fn first cap) w := fun _ _ _ _ => rfl
  clear h h' hpl hql hs hs'
  by_cases c1 : 20 < pl
  · have d1 : decide ((20 : Int) < (pl : Int)) = true := by simp; omega
    have d1' : decide (20 < pl) = true := by simpa using c1
    go_enter Tryz.func5, Tryz.ntmps5
    go_wp2_with (go_at_call 7; refine (H1.out).mono ?_; rintro e w1 ⟨rfl, hb1⟩)
    go_ret
    exact ⟨rfl, hb1⟩
  have d1 : decide ((20 : Int) < (pl : Int)) = false := by simp; omega
  have d1' : decide (20 < pl) = false := by simpa using c1
  by_cases c2 : 20 < ql
  · have d2 : decide ((20 : Int) < (ql : Int)) = true := by simp; omega
    have d2' : decide (20 < ql) = true := by simpa using c2
    go_enter Tryz.func5, Tryz.ntmps5
    go_wp2_with (go_at_call 7; refine (H1.out).mono ?_; rintro e w1 ⟨rfl, hb1⟩)
    go_ret
    exact ⟨rfl, hb1⟩
  have d2 : decide ((20 : Int) < (ql : Int)) = false := by simp; omega
  have d2' : decide (20 < ql) = false := by simpa using c2
  go_enter Tryz.func5, Tryz.ntmps5
  go_wp2_with (go_at_call 7; refine (H1.out).mono ?_; rintro e w1 ⟨rfl, hb1⟩
               have HB1 := Lib.hid hb1
               have HN := Lib.hid (new5_any 37 (by decide) (by decide) w1)
               clear hb1)
  refine (HN.out).mono ?_
  rintro e w3 ⟨bd, D, rfl, hf⟩
  have HF := Lib.hid hf
  have HO := Lib.hid (open5_any hf.at_ hf.dk rfl rfl 16 (by decide) (by decide) (homes := 20) (by rw [hf.size]) (by decide) (by decide) (dFresh_bears 37 16 20 (by decide)))
  clear hf
  go_wp2_with (fail)
  refine (HO.out).mono ?_
  rintro e w4 ⟨bl, L, rfl, ho⟩
  obtain ⟨hlin, hb4⟩ := log_new (homes := 20) HF.out ho (by decide) HB1.out.size
  have HB4 := Lib.hid (HB1.out.trans (hb4.mono HB1.out.size))
  have HBg := Lib.hid (hlin.begin HB4.out.size)
  clear ho hlin hb4
  go_wp2_with (fail)
  refine (HBg.out).mono ?_
  rintro e w5 ⟨bt, T, rfl, ht, hp, hown, hb5⟩
  have HT5 := Lib.hid ht
  have HP5 := Lib.hid hp
  have HB5 := Lib.hid (HB4.out.trans (hb5.mono HB4.out.size))
  have hbc : Below w5.heap.size w5 (w5.alloc (Obj.cells #[.pointer (some ⟨bt, 0, none⟩)] 31)) := (Below.refl _ _).alloc (Nat.le_refl _) _
  have hcell : (w5.alloc (Obj.cells #[.pointer (some ⟨bt, 0, none⟩)] 31)).cell? ⟨w5.heap.size, 0, none⟩ = some (.pointer (some ⟨bt, 0, none⟩)) := Lib.cell_of_heap (heap_alloc_new w5 _) 0
  have hsz : w5.heap.size < (w5.alloc (Obj.cells #[.pointer (some ⟨bt, 0, none⟩)] 31)).heap.size := by simp
  have hno : ¬ T.own bt w5.heap.size := fun ho => by have := ht.tx.at_.own_lt ho; omega
  obtain ⟨w6, hw6⟩ : ∃ w6, w5.alloc (Obj.cells #[.pointer (some ⟨bt, 0, none⟩)] 31) = w6 := ⟨_, rfl⟩
  obtain ⟨cb, hcb⟩ : ∃ cb, w5.heap.size = cb := ⟨_, rfl⟩
  have hB6 := HB5.out.trans (hbc.mono HB5.out.size)
  have ht6 := ht.still hbc
  rw [hw6] at hcell hsz hB6 ht6
  rw [hcb] at hcell hsz hno
  have HPut := Lib.hid (putList_any ht6 (by rw [hp]; decide) hB6.size hcell hno hsz (HP.out.still hB6) (by have := HPl.out; omega) HSp.out.2)
  have HC6 := Lib.hid hcell
  have HSz6 := Lib.hid hsz
  have HNo6 := Lib.hid hno
  have HB6 := Lib.hid hB6
  clear ht hp hown hb5 hbc hcell hsz hno hB6 ht6
  go_wp2_with (fail)
  try rw [hw6]
  try rw [hcb]
  refine (HPut.out).mono ?_
  rintro e w7 ⟨rfl, T7, hgo7⟩
  have hc7 : w7.cell? ⟨cb, 0, none⟩ = some (.pointer (some ⟨bt, 0, none⟩)) := by rw [hgo7.step.keep.cell (p := ⟨cb, 0, none⟩) HSz6.out HNo6.out]; exact HC6.out
  have hsz7 := Nat.lt_of_lt_of_le HSz6.out hgo7.step.keep.size
  have hno7 : ¬ T7.own bt cb := fun ho => (hgo7.step.own cb ho).elim HNo6.out (fun e => by have := HSz6.out; omega)
  have hp7 : T7.puts.length ≤ 20 := by
    rw [hgo7.puts, HP5.out, List.nil_append]
    have h1 := putsAll_len 20 p
    rw [HPl.out] at h1
    omega
  have HB7 := Lib.hid (HB6.out.trans hgo7.below)
  have HT7 := Lib.hid hgo7.at_
  have HC7 := Lib.hid hc7
  have HSz7 := Lib.hid hsz7
  have HNo7 := Lib.hid hno7
  have HL7 := Lib.hid hp7
  clear hw6 hcb hgo7 hc7 hsz7 hno7 hp7
  obtain ⟨V, hV⟩ : ∃ V, seen T7.puts (fun _ => zeros 512) = V := ⟨_, rfl⟩
  have hrd : ∀ u, Below w7.heap.size w7 u → ∀ j : Nat, j < 20 → Calls Tryz.prog 14 #[.pointer (some ⟨bt, 0, none⟩), .int .i64 j] u fun e w' => e = .returned (.tuple #[.string (V j), .int .i64 0]) ∧ Below u.heap.size u w' := fun u hu j hj => by
    have := (HT7.out.still hu).read (i := (j : Int)) (keyOk (by omega) (by omega))
    rwa [hV, homeSays_in (by omega)] at this
  have HRd := Lib.hid hrd
  have HV := Lib.hid hV
  clear hrd hV
  go_wp2_with (fail)
  go_loopw [11, 46] (fun v i wr => ∃ j : Nat, j ≤ 20 ∧ i = .int .i64 j ∧ wr.ownsRow w7.heap.size 9 1 v j (((List.range j).map fun (q : Nat) => V q).map .string) ∧ Below w7.heap.size w7 wr) (fun _ i _ => 20 - (intOf i).toNat)
  case atStart => exact ⟨0, by omega, rfl, World.ownsRow_nil _ _ _ _, Below.refl _ _⟩
  case round =>
    obtain ⟨j, hj, rfl, hrow, hbel⟩ := hrel
    have HRow := Lib.hid hrow
    have HBj := Lib.hid hbel
    have hcr : wr.cell? ⟨cb, 0, none⟩ = some (.pointer (some ⟨bt, 0, none⟩)) := by rw [hbel.cell (p := ⟨cb, 0, none⟩) HSz7.out]; exact HC7.out
    clear hrow hbel
    by_cases hlt : j < 20
    · have g1 : decide ((j : Int) < 20) = true := by simp; omega
      have g1' : decide (j < 20) = true := by simpa using hlt
      have hk0 : (0 : Int) ≤ (j : Int) := by omega
      have HRj := Lib.hid (HRd.out wr HBj.out j hlt)
      obtain ⟨z, hz⟩ : ∃ z, V (j : Int) = z := ⟨_, rfl⟩
      rw [hz] at HRj
      have HZ := Lib.hid hz
      clear hz
      go_wp2_with (first
        | (go_at_call 14; refine (HRj.out).mono ?_; rintro e wA ⟨rfl, hbA⟩
           have hrowA := (Keep.ofBelow (S := fun _ => False) hbA).ownsRow HRow.out (fun _ _ e => e)
           have HRowA := Lib.hid hrowA
           have HBA := Lib.hid (HBj.out.trans (hbA.mono HBj.out.size))
           clear hbA hrowA)
        | (at_builtin
           refine wpList_append_own_at _ (by rfl) _ _ 34 (by rfl) w7.heap.size 9 i0 _ 1 16 Tryz.underlying34 HI.out Hz0.out Hz1.out Hz2.out (by rfl) (by decide) _ _ _ (by rfl) (HRowA.out.alloc _) ⟨wA.heap.size, 0, none⟩ 1 1 [.string z] (by rfl) (by rfl) (World.news_of_block (cs := #[.string z]) (t := 9) (fr := (0, 0)) (heap_alloc_new wA _)) (by simp [Value.oneCell']) (by unfold maxLen; omega) (by omega) ?_ ?_
           · have := HBA.out.size; simp; omega
           intro v' w8 hown8 hg8 hnil hloc
           have HOw := Lib.hid hown8
           have HB8 := Lib.hid (((Keep.ofBelow (S := fun k => w7.heap.size ≤ k) HBA.out).alloc _).grown hg8 (fun j hj e => (HRowA.out.lt j e).1) |>.below (Nat.le_refl _) (fun i hi e => by omega))
           clear hown8 hg8 hnil hloc))
      go_roundw
      case rel =>
        refine ⟨j + 1, by omega, rfl, ?_, HB8.out⟩
        have e1 : (((List.range (j + 1)).map fun (q : Nat) => V q).map Value.string) = (((List.range j).map fun (q : Nat) => V q).map Value.string) ++ [.string z] := by
          rw [List.range_succ, List.map_append, List.map_append, ← HZ.out]; rfl
        rw [e1]
        exact HOw.out
      case measure => simp [intOf]; omega
    · have g1 : decide ((j : Int) < 20) = false := by simp; omega
      have g1' : decide (j < 20) = false := by simpa using hlt
      have hj20 : j = 20 := by omega
      have hrow := HRow.out
      rw [hj20] at hrow
      have HRow20 := Lib.hid hrow
      have HTr := Lib.hid (HT7.out.still HBj.out)
      have HBr := Lib.hid (HB7.out.trans (HBj.out.mono HB7.out.size))
      obtain ⟨m0, hm0⟩ : ∃ m0, T7.puts.length = m0 := ⟨_, rfl⟩
      obtain ⟨t0, ht0⟩ : ∃ t0, (metL T7.puts).length = t0 := ⟨_, rfl⟩
      have hdw : ∀ n, Below wr.heap.size wr (wr.drewN n) := fun n => ⟨rfl, rfl, rfl, Nat.le_refl _, fun _ _ => rfl⟩
      have HM := Lib.hid (fun n => ((HTr.out.still (hdw n)).mark).mono fun e w' (h : e = .returned (.int .i64 T7.puts.length) ∧ wr.drewN n = w') => (⟨by rw [← hm0]; exact h.1, h.2.symm⟩ : e = .returned (.int .i64 m0) ∧ w' = wr.drewN n))
      have HTo := Lib.hid (fun n => ((HTr.out.still (hdw n)).touched).mono fun e w' (h : e = .returned (.int .i64 (metL T7.puts).length) ∧ wr.drewN n = w') => (⟨by rw [← ht0]; exact h.1, h.2.symm⟩ : e = .returned (.int .i64 t0) ∧ w' = wr.drewN n))
      have HM0 := Lib.hid hm0
      have HT0 := Lib.hid ht0
      clear hj20 hrow hdw hm0 ht0
      go_wp2
      go_quiet (first
        | (go_at_call 16; exact Calls.quiet_of_same (HM.out _))
        | (go_at_call 22; exact Calls.quiet_of_same (HTo.out _)))
      have hbq : Below wr.heap.size wr (wr.drewN nq) := ⟨rfl, rfl, rfl, Nat.le_refl _, fun _ _ => rfl⟩
      obtain ⟨wq, hwq⟩ : ∃ wq, wr.drewN nq = wq := ⟨_, rfl⟩
      rw [hwq] at hbq ⊢
      have hB7q := HBj.out.trans (hbq.mono HBj.out.size)
      have hcq : wq.cell? ⟨cb, 0, none⟩ = some (.pointer (some ⟨bt, 0, none⟩)) := by rw [hB7q.cell (p := ⟨cb, 0, none⟩) HSz7.out]; exact HC7.out
      have hBq := HB7.out.trans (hB7q.mono HB7.out.size)
      have hszq := Nat.lt_of_lt_of_le HSz7.out hB7q.size
      have HPut2 := Lib.hid (putList_any (HT7.out.still hB7q) (by have := HL7.out; omega) hBq.size hcq HNo7.out hszq (HQ.out.still hBq) (by have := HQl.out; omega) HSq.out.2)
      have HRowq := Lib.hid ((Keep.ofBelow (S := fun _ => False) hbq).ownsRow HRow20.out (fun _ _ e => e))
      have HBq := Lib.hid hBq
      have HB7q := Lib.hid hB7q
      have HCq := Lib.hid hcq
      have HSzq := Lib.hid hszq
      clear hbq hwq hB7q hcr hcq hBq hszq
      go_wp2_with (go_at_call 27
                   refine (HPut2.out).mono ?_
                   rintro e w9 ⟨rfl, T9, hgo9⟩
                   have hown7 : ∀ k, T7.own bt k → k < w7.heap.size := fun k hk => HT7.out.tx.at_.own_lt hk
                   have hc9 : w9.cell? ⟨cb, 0, none⟩ = some (.pointer (some ⟨bt, 0, none⟩)) := by rw [hgo9.step.keep.cell (p := ⟨cb, 0, none⟩) HSzq.out HNo7.out]; exact HCq.out
                   have hno9 : ¬ T9.own bt cb := fun ho => (hgo9.step.own cb ho).elim HNo7.out (fun e => by have := HSzq.out; omega)
                   have hl9 : T9.puts.length ≤ 1000 := by
                     rw [hgo9.puts, List.length_append]
                     have h1 := putsAll_len 20 q
                     rw [HQl.out] at h1
                     have := HL7.out
                     omega
                   have hrow9 := hgo9.step.keep.ownsRow HRowq.out (fun k hk ho => by have h1 := (HRowq.out.lt k hk).1; have h2 := hown7 k ho; omega)
                   have hap9 : ∀ k, u11.ownBlock = some k → ¬ T9.own bt k := fun k hk ho => by
                     have h1 := HRowq.out.lt k hk
                     rcases hgo9.step.own k ho with e | e
                     · have h2 := hown7 k e; omega
                     · omega
                   have hpt9 : T9.puts.take m0 = T7.puts := by rw [hgo9.puts, ← HM0.out]; exact List.take_left'  rfl
                   have HC9 := Lib.hid hc9
                   have HNo9 := Lib.hid hno9
                   have HSz9 := Lib.hid (Nat.lt_of_lt_of_le HSzq.out hgo9.step.keep.size)
                   have HRow9 := Lib.hid hrow9
                   have HAp9 := Lib.hid hap9
                   have HPt9 := Lib.hid hpt9
                   have HB9 := Lib.hid (HBq.out.trans hgo9.below)
                   have HBk := Lib.hid (hgo9.at_.back (by omega) HB9.out.size (m0 : Int))
                   clear hgo9 hown7 hno9 hl9 hrow9 hap9 hpt9)
      refine (HBk.out).mono ?_
      rintro e wk ⟨rfl, Tk, hstk, htk, hpk, hbk⟩
      rw [Int.toNat_natCast, HPt9.out] at hpk
      have hck : wk.cell? ⟨cb, 0, none⟩ = some (.pointer (some ⟨bt, 0, none⟩)) := by rw [hstk.keep.cell (p := ⟨cb, 0, none⟩) HSz9.out HNo9.out]; exact HC9.out
      have HCk := Lib.hid hck
      have HSzk := Lib.hid (Nat.lt_of_lt_of_le HSz9.out hstk.keep.size)
      have HRowk := Lib.hid (hstk.keep.ownsRow HRow9.out (fun k hk ho => HAp9.out k hk ho))
      have HTk := Lib.hid htk
      have HPk := Lib.hid hpk
      have HBk := Lib.hid (HB9.out.trans hbk)
      have hV2 : seen Tk.puts (fun _ => zeros 512) = V := by rw [hpk]; exact HV.out
      have HV2 := Lib.hid hV2
      obtain ⟨ga, gc, hga, hgc1, hgc2, hgb⟩ := row_posB HRowk.out (by decide)
      have hgl := (HRowk.out.lt ga (by rw [hga]; rfl)).2
      have HRowz := HRowk
      clear hc9 hck hstk htk hpk hbk hV2 HRow HRow20 HRowq HRow9 HAp9
      subst hga
      have HRc := Lib.hid (fun (q : Nat) (hq : q < 20) => row_cells HRowz.out q (.string (V q)) (by rw [List.getElem?_map, List.getElem?_map, List.getElem?_range hq]; rfl))
      have HGl := Lib.hid hgl
      clear HRowz HRowk hgl
      go_wp2_with (fail)
      go_loopw [71] (fun i wr => ∃ q : Nat, q ≤ 20 ∧ i = .int .i64 q ∧ Below wk.heap.size wk wr) (fun i _ => 20 - (intOf i).toNat)
      case atStart => exact ⟨0, by omega, rfl, Below.refl _ _⟩
      case round =>
        obtain ⟨k, hk, rfl, hbel⟩ := hrel
        have HBe := Lib.hid hbel
        have hcr : wr.cell? ⟨cb, 0, none⟩ = some (.pointer (some ⟨bt, 0, none⟩)) := by rw [hbel.cell (p := ⟨cb, 0, none⟩) HSzk.out]; exact HCk.out
        have HTr := Lib.hid (HTk.out.still hbel)
        have HBer := Lib.hid (HBk.out.trans (hbel.mono HBk.out.size))
        clear hbel
        by_cases hlt : k < 20
        · have g1 : decide ((k : Int) < 20) = true := by simp; omega
          have g1' : decide (k < 20) = true := by simpa using hlt
          have hk0 : (0 : Int) ≤ (k : Int) := by omega
          have hk1 : (k : Int) < 20 := by omega
          have hrd := HTr.out.read (i := (k : Int)) (keyOk (by omega) (by omega))
          rw [HV2.out, homeSays_in (by omega)] at hrd
          have hq := HRc.out k hlt
          obtain ⟨z, hz⟩ : ∃ z, V (k : Int) = z := ⟨_, rfl⟩
          rw [hz] at hrd hq
          have HRd2 := Lib.hid hrd
          have HQc := Lib.hid hq
          clear hrd hq hz
          go_wp2_with (go_at_call 14
                       refine (HRd2.out).mono ?_
                       rintro e wA ⟨rfl, hbA⟩
                       have hqA : wA.cell? ⟨ga, k, none⟩ = some (.string z) := by rw [hbA.cell (p := ⟨ga, k, none⟩) (Nat.lt_of_lt_of_le HGl.out HBe.out.size), HBe.out.cell (p := ⟨ga, k, none⟩) HGl.out]; exact HQc.out)
          go_roundw
          case rel => exact ⟨k + 1, by omega, rfl, HBe.out.trans (hbA.mono HBe.out.size)⟩
          case measure => simp [intOf]; omega
        · have g1 : decide ((k : Int) < 20) = false := by simp; omega
          have g1' : decide (k < 20) = false := by simpa using hlt
          have hm9 := HTr.out.mark
          rw [HPk.out, HM0.out] at hm9
          have hto9 := HTr.out.touched
          rw [HPk.out, HT0.out] at hto9
          have HM9 := Lib.hid hm9
          have HTo9 := Lib.hid hto9
          clear hm9 hto9
          go_wp2_with (first
            | (go_at_call 16; with_reducible refine (HM9.out).mono ?_; rintro e wq ⟨rfl, rfl⟩)
            | (go_at_call 22; with_reducible refine (HTo9.out).mono ?_; rintro e wq ⟨rfl, rfl⟩))
          go_ret
          exact ⟨rfl, HBer.out⟩
end Go.Proofs.YtnfdplhcpiknpaaGreatDoor
