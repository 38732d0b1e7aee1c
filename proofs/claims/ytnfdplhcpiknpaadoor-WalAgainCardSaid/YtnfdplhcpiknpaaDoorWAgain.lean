/-
  THE LAWS of layer 5: WalAgain walked.
-/
import Derived.Test.YtnfdplhcpiknpaaDoorByt5
import Derived.Test.YtnfdplhcpiknpaaDoorOne
import Derived.Test.YtnfdplhcpiknpaaDoorOpenK
import Derived.Laws.OwnMore
import Derived.Laws.MakeOwn
namespace Go.Proofs.YtnfdplhcpiknpaaDoor
open Go.RowKit Go.MapKept
attribute [local go_sem] gives givesH
set_option maxRecDepth 100000

theorem infoBool : (Tryd.prog.info? 4).map (fun i => (i.zero, i.size, i.bytes)) = some (some (.bool false), 1, 1) := by kernel_rfl
/-- make([]bool, n) -/
theorem mk_bools (n : Nat) (hn : n ≤ 281474976710656) (w : World) :
    (Instr.makeSlice 38 (.int .i64 n) (.int .i64 n)).run Tryd.prog w = .ok (.slice (some ⟨w.heap.size, 0, none⟩) n n) (w.alloc (.cells (madeCells #[.bool false] n) 4)) := by
  obtain ⟨i0, hi, hz0, hz1, hz2⟩ := info_parts infoBool
  have hr := run_make (P := Tryd.prog) w 38 4 i0 (.bool false) Tryd.underlying38 hi hz0 .i64 .i64 n n (by omega) (Int.le_refl _) (by rw [hz2]; omega) (by omega)
  rw [hz1, Int.toNat_natCast, Nat.mul_one] at hr
  exact hr
/-- a row of Booleans of which the first k are b -/
def RowB (w : World) (ab : Nat) (b : Bool) (k : Nat) : Prop := ∃ cs : Array Value, w.heap[ab]? = some (.cells cs 4 (0, 0)) ∧ cs.size = 100 ∧ (∀ j, j < 100 → ∃ c, cs[j]? = some (.bool c)) ∧ ∀ j, j < k → cs[j]? = some (.bool b)
theorem RowB.zero (w : World) (b : Bool) : RowB (w.alloc (.cells (madeCells #[.bool false] 100) 4)) w.heap.size b 0 := by
  refine ⟨_, heap_alloc_new w _, ?_, fun j hj => ⟨false, ?_⟩, fun j hj => absurd hj (Nat.not_lt_zero j)⟩
  · simp [madeCells]
  · simp [madeCells, hj]
    rw [Nat.mod_one]; rfl
theorem RowB.set {w : World} {ab k : Nat} {b : Bool} (h : RowB w ab b k) (hk : k < 100) : RowB (w.setCell ⟨ab, k, none⟩ (.bool b)) ab b (k + 1) := by
  obtain ⟨cs, h1, h2, h3, h4⟩ := h
  refine ⟨cs.setIfInBounds k (.bool b), ?_, by simp [h2], fun j hj => ?_, fun j hj => ?_⟩
  · simp [World.setCell, Array.getElem?_modify, h1]
  · by_cases hjk : k = j
    · subst hjk; exact ⟨b, by rw [Array.getElem?_setIfInBounds]; simp [h2, hk]⟩
    · rw [Array.getElem?_setIfInBounds, if_neg hjk]; exact h3 j hj
  · by_cases hjk : k = j
    · subst hjk; rw [Array.getElem?_setIfInBounds]; simp [h2, hk]
    · rw [Array.getElem?_setIfInBounds, if_neg hjk]; exact h4 j (by omega)
set_option maxHeartbeats 4000000 in
theorem wagain_walk {v vk : Value} {l : List Nat} {falls : List Bool} (w : World) (h : BytesAt w w.heap.size v l) (hk : BoolsAt w w.heap.size vk falls) :
    Calls Tryd.prog 4 #[v, vk] w fun e w' => e = .returned (.bool true) ∧ Below w.heap.size w w' := by
  have H1 := Lib.hid (awake5_any w)
  obtain ⟨i0, hi0, hz0, hz1, hz2⟩ := info_parts infoStr
  have HI := Lib.hid hi0
  have Hz0 := Lib.hid hz0
  have Hz1 := Lib.hid hz1
  have Hz2 := Lib.hid hz2
  clear hi0 hz0 hz1 hz2
  obtain ⟨pa, pb, po, pc, hv, hpp, hpc⟩ := h
  obtain ⟨ka, kb, ko, kc, hkv, hka, hkc⟩ := hk
  subst hv hkv
  obtain ⟨pl, hpl⟩ : ∃ pl, l.length = pl := ⟨_, rfl⟩
  obtain ⟨kl, hkl⟩ : ∃ kl, falls.length = kl := ⟨_, rfl⟩
  rw [hpl] at hpp ⊢
  rw [hkl] at hka ⊢
  have HPp := Lib.hid hpp
  have HPc := Lib.hid hpc
  have HPl := Lib.hid hpl
  have HKl := Lib.hid hkl
  have HKa := Lib.hid hka
  have HKc := Lib.hid hkc
  clear hpp hpc hpl hkl hka hkc
  by_cases c1 : 20 < pl
  · have d1 : decide ((20 : Int) < (pl : Int)) = true := by simp; omega
    have d1' : decide (20 < pl) = true := by simpa using c1
    go_enter Tryd.func4, Tryd.ntmps4
    go_wp2_with (go_at_call 8; refine (H1.out).mono ?_; rintro e w1 ⟨rfl, hb1⟩)
    go_ret
    exact ⟨rfl, hb1⟩
  have d1 : decide ((20 : Int) < (pl : Int)) = false := by simp; omega
  have d1' : decide (20 < pl) = false := by simpa using c1
  by_cases c2 : 8 < kl
  · have d2 : decide ((8 : Int) < (kl : Int)) = true := by simp; omega
    have d2' : decide (8 < kl) = true := by simpa using c2
    go_enter Tryd.func4, Tryd.ntmps4
    go_wp2_with (go_at_call 8; refine (H1.out).mono ?_; rintro e w1 ⟨rfl, hb1⟩)
    go_ret
    exact ⟨rfl, hb1⟩
  have d2 : decide ((8 : Int) < (kl : Int)) = false := by simp; omega
  have d2' : decide (8 < kl) = false := by simpa using c2
  go_enter Tryd.func4, Tryd.ntmps4
  go_wp2_with (go_at_call 8; refine (H1.out).mono ?_; rintro e w1 ⟨rfl, hb1⟩
               have HB1 := Lib.hid hb1
               have HN := Lib.hid (new5_any 29 (by decide) (by decide) w1)
               clear hb1)
  refine (HN.out).mono ?_
  rintro e w3 ⟨bd, D, rfl, hf⟩
  have HF := Lib.hid hf
  have HB3 := Lib.hid (HB1.out.trans (hf.below.mono HB1.out.size))
  clear hf
  have HO := Lib.hid (open5_any HF.out.at_ HF.out.dk rfl rfl 8 (by decide) (by decide) (homes := 20) (by rw [HF.out.size]) (by decide) (by decide) (dFresh_bears 29 8 20 (by decide)))
  go_wp2_with (fail)
  refine (HO.out).mono ?_
  rintro e w4 ⟨bl, L, rfl, ho⟩
  have HOp := Lib.hid ho
  have HNw := Lib.hid (ho.newer HF.out.newer HF.out.below.size)
  clear ho
  have hB4 : Below w.heap.size w w4 := HB3.out.trans (HNw.out.2.mono (by have := HB1.out.size; omega))
  have hlin : LogIn w.heap.size w4 bl L (dFresh 29) 0 20 8 (fun _ => zeros 512) :=
    ⟨HOp.out.up, by rw [HOp.out.homes, HF.out.size], HOp.out.ringE, fun k hk => Nat.le_trans HB1.out.size (HNw.out.1 k hk), rfl⟩
  have HLin := Lib.hid hlin
  have HB4 := Lib.hid hB4
  have HBd := Lib.hid HOp.out.bdE
  clear hlin hB4
  go_wp2_with (fail)
  go_loopw [42] (fun i wr => ∃ k : Nat, k ≤ pl ∧ i = .int .i64 k ∧ (∃ L d W, LogIn w.heap.size wr bl L d k 20 8 W ∧ L.bd = bd) ∧ Below w.heap.size w wr) (fun i _ => pl - (intOf i).toNat)
  case atStart => exact ⟨0, by omega, rfl, ⟨L, _, _, HLin.out, HBd.out⟩, HB4.out⟩
  case round =>
    obtain ⟨k, hk, rfl, ⟨Lk, dk, Wk, hlin, hbd⟩, hbel⟩ := hrel
    have HLk := Lib.hid hlin
    have HBk := Lib.hid hbel
    have HBdk := Lib.hid hbd
    by_cases hlt : k < pl
    · have g1 : decide ((k : Int) < (pl : Int)) = true := by simp; omega
      have g1' : decide (k < pl) = true := by simpa using hlt
      obtain ⟨rfl, hb⟩ := HPp.out (by omega)
      obtain ⟨x, hx⟩ : ∃ x, l[k]? = some x := ⟨_, List.getElem?_eq_getElem (by rw [HPl.out]; exact hlt)⟩
      obtain ⟨q0, hx8⟩ := HPc.out k x hx
      rw [← HBk.out.cell (p := ⟨pb, po + k, none⟩) hb] at q0
      have hk0 : (0 : Int) ≤ (k : Int) := by omega
      have hk1 : (k : Int) < (pl : Int) := by omega
      obtain ⟨c, hc⟩ : ∃ c, k + 1 = c := ⟨_, rfl⟩
      obtain ⟨y, hy⟩ : ∃ y, x % 20 = y := ⟨_, rfl⟩
      have e1 : IntKind.u8.wrap (k : Int) = (k : Int) := wraps_u8 _ (by omega) (by omega)
      have e2 : IntKind.u8.wrap ((k : Int) + 1) = (c : Int) := by rw [wraps_u8 _ (by omega) (by omega)]; omega
      have e3 : IntKind.i64.wrap (x : Int) = (x : Int) := wrapI (by omega) (by omega)
      have e4 : (x : Int).tmod 20 = (y : Int) := by rw [Int.tmod_eq_emod_of_nonneg (by omega)]; omega
      have e5 : IntKind.i64.wrap (y : Int) = (y : Int) := wrapI (by omega) (by omega)
      have cv := byteS_conv (wr.alloc (Obj.cells #[.int .u8 c] 5)) wr.heap.size c (by omega) (heap_alloc_new wr _) 1
      have HCo := Lib.hid (hlin.commitByte (by omega) hbel.size (by decide) y c (by omega))
      clear hlin hbd hbel hx
      go_wp2_with (fail)
      refine (HCo.out).mono ?_
      rintro e w5 ⟨rfl, L5, d5, hl5, hst5, hb5⟩
      have HL5 := Lib.hid hl5
      have HBd5 := Lib.hid (hst5.bd.trans HBdk.out)
      have HB5 := Lib.hid (HBk.out.trans hb5)
      clear hl5 hst5 hb5 cv hc
      go_wp2
      go_roundw
      case rel => exact ⟨k + 1, by omega, rfl, ⟨L5, d5, _, HL5.out, HBd5.out⟩, HB5.out⟩
      case measure => simp [intOf]; omega
    · have g1 : decide ((k : Int) < (pl : Int)) = false := by simp; omega
      have g1' : decide (k < pl) = false := by simpa using hlt
      obtain rfl : k = pl := by omega
      clear hlin hbd hbel
      go_wp2
      obtain ⟨wm, hwm⟩ : ∃ wm, wr = wm := ⟨_, rfl⟩
      rw [hwm] at HLk HBk ⊢
      clear hwm
      go_loopw [11, 62] (fun v i wr => ∃ j : Nat, j ≤ 20 ∧ i = .int .i64 j ∧ wr.ownsRow wm.heap.size 9 1 v j (((List.range j).map fun (q : Nat) => Wk q).map .string) ∧ Below wm.heap.size wm wr) (fun _ i _ => 20 - (intOf i).toNat)
      case atStart => exact ⟨0, by omega, rfl, World.ownsRow_nil _ _ _ _, Below.refl _ _⟩
      case round =>
        obtain ⟨j, hj, rfl, hrow, hbel⟩ := hrel
        have HRow := Lib.hid hrow
        have HBj := Lib.hid hbel
        have HLj := Lib.hid (HLk.out.still hbel)
        clear hrow hbel
        by_cases hlt : j < 20
        · have g1 : decide ((j : Int) < 20) = true := by simp; omega
          have g1' : decide (j < 20) = true := by simpa using hlt
          have hk0 : (0 : Int) ≤ (j : Int) := by omega
          have HRd := Lib.hid (HLj.out.up.readAt HLj.out.homes j hlt)
          obtain ⟨z, hz⟩ : ∃ z, Wk (j : Int) = z := ⟨_, rfl⟩
          rw [hz] at HRd
          have HZ := Lib.hid hz
          clear hz
          go_wp2_with (first
            | (go_at_call 19; refine (HRd.out).mono ?_; rintro e wA ⟨rfl, hbA⟩
               have hrowA := (Keep.ofBelow (S := fun _ => False) hbA).ownsRow HRow.out (fun _ _ e => e)
               have HRowA := Lib.hid hrowA
               have HBA := Lib.hid (HBj.out.trans (hbA.mono HBj.out.size))
               clear hbA hrowA)
            | (at_builtin
               refine wpList_append_own_at _ (by rfl) _ _ 34 (by rfl) wm.heap.size 9 i0 _ 1 16 Tryd.underlying34 HI.out Hz0.out Hz1.out Hz2.out (by rfl) (by decide) _ _ _ (by rfl) (HRowA.out.alloc _) ⟨wA.heap.size, 0, none⟩ 1 1 [.string z] (by rfl) (by rfl) (World.news_of_block (cs := #[.string z]) (t := 9) (fr := (0, 0)) (heap_alloc_new wA _)) (by simp [Value.oneCell']) (by unfold maxLen; omega) (by omega) ?_ ?_
               · have := HBA.out.size; simp; omega
               intro v' w8 hown8 hg8 hnil hloc
               have HOw := Lib.hid hown8
               have HB8 := Lib.hid (((Keep.ofBelow (S := fun k => wm.heap.size ≤ k) HBA.out).alloc _).grown hg8 (fun j hj e => (HRowA.out.lt j e).1) |>.below (Nat.le_refl _) (fun i hi e => by omega))
               clear hown8 hg8 hnil hloc))
          go_roundw
          case rel =>
            refine ⟨j + 1, by omega, rfl, ?_, HB8.out⟩
            have e1 : (((List.range (j + 1)).map fun (q : Nat) => Wk q).map Value.string) = (((List.range j).map fun (q : Nat) => Wk q).map Value.string) ++ [.string z] := by
              rw [List.range_succ, List.map_append, List.map_append, ← HZ.out]; rfl
            rw [e1]
            exact HOw.out
          case measure => simp [intOf]; omega
        · have g1 : decide ((j : Int) < 20) = false := by simp; omega
          have g1' : decide (j < 20) = false := by simpa using hlt
          have hj20 : j = 20 := by omega
          obtain ⟨ws, hws⟩ : ∃ ws, ((List.range 20).map fun (q : Nat) => Wk q) = ws := ⟨_, rfl⟩
          have hrow := HRow.out
          rw [hj20, hws] at hrow
          have hwl : ws.length = 20 := by rw [← hws]; simp
          clear hj20
          have htx : TextsAt wr wm.heap.size u11 ws := by
            show wr.ownsRow wm.heap.size 9 1 u11 ws.length _
            rw [hwl]; exact hrow
          have htxt : Txt w.heap.size wr bl Lk u11 ws := Txt.made htx HLk.out.up.at_ HBk.out.size
          have hlin2 : LogIn w.heap.size wr bl Lk dk k 20 8 (atL ws) := ⟨HLj.out.up.congr (fun q hq => by
            rw [HLj.out.homes] at hq
            unfold atL
            rw [Int.toNat_natCast, List.getD_eq_getElem?_getD, ← hws, List.getElem?_map, List.getElem?_range hq]
            rfl), HLj.out.homes, HLj.out.ring, HLj.out.newer, HLj.out.free⟩
          have HTxt := Lib.hid htxt
          have HLin2 := Lib.hid hlin2
          have HWl := Lib.hid hwl
          have HB0 := Lib.hid (HBk.out.trans (HBj.out.mono HBk.out.size))
          clear hrow hwl htx htxt hlin2 hws
          go_wp2
          go_loopw [7, 80] (fun lv i wr => ∃ j : Nat, j ≤ kl ∧ i = .int .i64 j ∧ (∃ bl L d, lv = .pointer (some ⟨bl, 0, none⟩) ∧ LogIn w.heap.size wr bl L d k 20 8 (atL ws) ∧ L.bd = bd ∧ Txt w.heap.size wr bl L u11 ws) ∧ Below w.heap.size w wr) (fun _ i _ => kl - (intOf i).toNat)
          case atStart => exact ⟨0, by omega, rfl, ⟨bl, Lk, dk, rfl, HLin2.out, HBdk.out, HTxt.out⟩, HB0.out⟩
          case round =>
            obtain ⟨j, hj, rfl, ⟨bl, L1, d1, rfl, hlin, hbd, htxt⟩, hbel⟩ := hrel
            have HL1 := Lib.hid hlin
            have HT1 := Lib.hid htxt
            have HBd1 := Lib.hid hbd
            have HBe := Lib.hid hbel
            clear hlin htxt hbd hbel
            by_cases hlt : j < kl
            · have g1 : decide ((j : Int) < (kl : Int)) = true := by simp; omega
              have g1' : decide (j < kl) = true := by simpa using hlt
              obtain ⟨rfl, hb⟩ := HKa.out (by omega)
              have q0 := HKc.out j (by rw [HKl.out]; exact hlt)
              rw [← HBe.out.cell (p := ⟨kb, ko + j, none⟩) hb] at q0
              have hk0 : (0 : Int) ≤ (j : Int) := by omega
              have hk1 : (j : Int) < (kl : Int) := by omega
              obtain ⟨kp, hkp⟩ : ∃ kp, falls.getD j false = kp := ⟨_, rfl⟩
              rw [hkp] at q0
              have mk : (Instr.makeSlice 38 (.int .i64 100) (.int .i64 100)).run Tryd.prog wr = .ok (.slice (some ⟨wr.heap.size, 0, none⟩) 100 100) (wr.alloc (.cells (madeCells #[.bool false] 100) 4)) := mk_bools 100 (by decide) wr
              have hr0 := RowB.zero wr kp
              have hbc : Below wr.heap.size wr (wr.alloc (.cells (madeCells #[.bool false] 100) 4)) := (Below.refl _ _).alloc (Nat.le_refl _) _
              have hsz : wr.heap.size < (wr.alloc (.cells (madeCells #[.bool false] 100) 4)).heap.size := by simp
              obtain ⟨wc, hwc⟩ : ∃ wc, wr.alloc (.cells (madeCells #[.bool false] 100) 4) = wc := ⟨_, rfl⟩
              rw [hwc] at mk hr0 hbc hsz
              have hnf : ¬ L1.foot bl wr.heap.size := fun hf => by have := HL1.out.up.at_.foot_lt hf; omega
              obtain ⟨ab, hab⟩ : ∃ ab, wr.heap.size = ab := ⟨_, rfl⟩
              rw [hab] at mk hr0 hsz hnf
              have hab2 : w.heap.size ≤ ab := by rw [← hab]; exact HBe.out.size
              have HLc := Lib.hid (HL1.out.still hbc)
              have HTc := Lib.hid (HT1.out.still hbc)
              have HBc := Lib.hid (HBe.out.trans (hbc.mono HBe.out.size))
              have HR0 := Lib.hid hr0
              have HSz := Lib.hid hsz
              have HNf := Lib.hid hnf
              have HAb := Lib.hid hab2
              have htn : ∀ q, u11.ownBlock = some q → q ≠ ab := fun q hq e => by have := (World.ownsRow.lt HT1.out.row q hq).2; omega
              have HTn := Lib.hid htn
              clear hwc hab hr0 hbc hsz hnf hab2 hkp htn
              go_wp2
              go_loopw [87] (fun i wr => ∃ q : Nat, q ≤ 100 ∧ i = .int .i64 q ∧ RowB wr ab kp q ∧ Keep (· = ab) wc wr) (fun i _ => 100 - (intOf i).toNat)
              case atStart => exact ⟨0, by omega, rfl, HR0.out, Keep.refl _ _⟩
              case round =>
                obtain ⟨q, hq, rfl, hrb, hkp⟩ := hrel
                by_cases hlt : q < 100
                · have f1 : decide ((q : Int) < 100) = true := by simp; omega
                  have f1' : decide (q < 100) = true := by simpa using hlt
                  have hq0 : (0 : Int) ≤ (q : Int) := by omega
                  have hq1 : (q : Int) < 100 := by omega
                  have HRs := Lib.hid (hrb.set hlt)
                  have HKs := Lib.hid (hkp.trans ((Keep.refl (· = ab) _).setCell (p := ⟨ab, q, none⟩) (fun _ => rfl) (.bool kp)) (fun _ _ e => e))
                  obtain ⟨cs, h1, h2, h3, _⟩ := hrb
                  obtain ⟨c, hcq⟩ := h3 q hlt
                  have hcell : wr.cell? ⟨ab, q, none⟩ = some (.bool c) := by rw [Lib.cell_of_heap h1]; exact hcq
                  have hfz : wr.frozen? ⟨ab, q, none⟩ = false := by simp [World.frozen?, h1]
                  clear h1 h2 h3 hcq
                  go_wp2
                  go_roundw
                  case rel => exact ⟨q + 1, by omega, rfl, HRs.out, HKs.out⟩
                  case measure => simp [intOf]; omega
                · have f1 : decide ((q : Int) < 100) = false := by simp; omega
                  have f1' : decide (q < 100) = false := by simpa using hlt
                  have hq100 : q = 100 := by omega
                  rw [hq100] at hrb
                  clear hq100
                  have HLi := Lib.hid (HLc.out.keep hkp (fun x hx e => HNf.out (e ▸ hx)))
                  have HTi := Lib.hid (Txt.mk (hkp.ownsRow HTc.out.row (fun x hx e => HTn.out x hx e)) HTc.out.apart)
                  have HBi := Lib.hid (HBc.out.trans (hkp.below HBc.out.size (fun i hi e => by have := HAb.out; omega)))
                  have hrz : ∀ q, q < 100 → wr.cell? ⟨ab, q, none⟩ = some (.bool kp) := fun q hq => by
                    obtain ⟨cs, h1, _, _, h4⟩ := hrb
                    rw [Lib.cell_of_heap h1]; exact h4 q hq
                  have HRz := Lib.hid hrz
                  have HSzi := Lib.hid (Nat.lt_of_lt_of_le HSz.out hkp.size)
                  have HCk := Lib.hid (HLi.out.checkpoint (by omega) HBi.out.size)
                  clear hrb hkp hrz HLc HTc HBc
                  go_wp2_with (fail)
                  refine (HCk.out).mono ?_
                  rintro e wk ⟨rfl, L2, d2', hl2, hst2, hb2⟩
                  have HL2 := Lib.hid hl2
                  have HT2 := Lib.hid (HTi.out.step hst2)
                  have HB2 := Lib.hid (HBi.out.trans hb2)
                  have HBd2 := Lib.hid (hst2.bd.trans HBd1.out)
                  have hnf2 : ¬ L2.foot bl ab := fun hf => (hst2.own ab hf).elim HNf.out (fun e => by have := HSzi.out; omega)
                  have HNf2 := Lib.hid hnf2
                  have hrz2 : ∀ q, q < 100 → wk.cell? ⟨ab, q, none⟩ = some (.bool kp) := fun q hq => by
                    rw [hst2.keep.cell (p := ⟨ab, q, none⟩) HSzi.out HNf.out]; exact HRz.out q hq
                  have HRz2 := Lib.hid hrz2
                  have HSz2 := Lib.hid (Nat.lt_of_lt_of_le HSzi.out hst2.keep.size)
                  clear hl2 hst2 hb2 hnf2 hrz2
                  have hrl : (List.replicate 100 kp).length = 100 := List.length_replicate
                  have HFa := Lib.hid ((HL2.out).fall HB2.out.size (List.replicate 100 kp) (some ⟨ab, 0, none⟩) ab 0 100 (fun _ => ⟨rfl, HSz2.out, HNf2.out⟩) (fun q hq => by
                    rw [hrl] at hq
                    rw [Nat.zero_add, List.getD_eq_getElem?_getD, List.getElem?_replicate, if_pos hq]
                    exact HRz2.out q hq))
                  rw [hrl, HBd2.out] at HFa
                  clear hrl
                  go_wp2_with (fail)
                  refine (HFa.out).mono ?_
                  rintro e w8 ⟨rfl, L8, hst8, hb8, hfe8⟩
                  have HT8 := Lib.hid (HT2.out.step hst8)
                  have HB8 := Lib.hid (HB2.out.trans hb8)
                  have HFe8 := Lib.hid hfe8
                  have HOp8 := Lib.hid (hfe8.open (by omega) HB8.out.size (by decide))
                  clear hst8 hb8 hfe8
                  go_wp2_with (fail)
                  refine (HOp8.out).mono ?_
                  rintro e w9 ⟨b9, L9, rfl, ho9, hh9, hn9, hb9⟩
                  have HT9 := Lib.hid (HT8.out.opened HFe8.out.bdE ho9)
                  have HB9 := Lib.hid (HB8.out.trans hb9)
                  have HBd9 := Lib.hid ho9.bdE
                  have hl9 : LogIn w.heap.size w9 b9 L9 (d2'.fall (List.replicate 100 kp)) k 20 8 (atL ws) := ⟨ho9.up, hh9, ho9.ringE, hn9, rfl⟩
                  have HL9 := Lib.hid hl9
                  have HHo := Lib.hid (hl9.holds HWl.out HT9.out.row)
                  clear ho9 hh9 hn9 hb9 hl9
                  go_wp2_with (fail)
                  refine (HHo.out).mono ?_
                  rintro e wA ⟨rfl, hbA⟩
                  have HLA := Lib.hid (HL9.out.still hbA)
                  have HTA := Lib.hid (HT9.out.still hbA)
                  have HBA := Lib.hid (HB9.out.trans (hbA.mono HB9.out.size))
                  clear hbA
                  go_wp2
                  go_roundw
                  case rel => exact ⟨j + 1, by omega, rfl, ⟨b9, L9, _, rfl, HLA.out, HBd9.out, HTA.out⟩, HBA.out⟩
                  case measure => simp [intOf]; omega
            · have g1 : decide ((j : Int) < (kl : Int)) = false := by simp; omega
              have g1' : decide (j < kl) = false := by simpa using hlt
              go_wp2
              go_ret
              exact ⟨rfl, HBe.out⟩
end Go.Proofs.YtnfdplhcpiknpaaDoor
