/-
  THE LAWS of layer 5: WalApart walked.
-/
import Derived.Test.YtnfdplhcpiknpaaDoorByt5
import Derived.Test.YtnfdplhcpiknpaaDoorOne
namespace Go.Proofs.YtnfdplhcpiknpaaDoor
open Go.RowKit Go.MapKept
attribute [local go_sem] gives givesH
set_option maxRecDepth 100000

theorem apart_err {p : Puts} (hl : p.length ≤ 10) (h : ∀ x ∈ p, 0 ≤ x.1 ∧ x.1 ≤ 19 ∧ x.2.size ≤ 100) : cErr 20 16 p = 0 := by
  refine cErr_zero (fun x hx => ?_) ?_
  · have := h x hx
    exact ⟨this.1, by omega, by omega⟩
  · have := metL_le p
    unfold secs
    omega
theorem lastOf_memB {p : Puts} {i : Int} {t : ByteArray} (h : lastOf p i = some t) : (i, t) ∈ p := lastOf_mem h
theorem fullS_cut (t : ByteArray) : (fullS t).extract 0 t.size = t := by
  apply ByteArray.ext
  rw [ByteArray.data_extract]
  show (t.data ++ (List.replicate (512 - t.size) (0 : UInt8)).toArray).extract 0 t.data.size = t.data
  simp
theorem fullS_nought (t : ByteArray) (h : t.size < (fullS t).size) : (fullS t)[t.size]'h = 0 := by
  have h2 : t.data.size < 512 ∨ 512 ≤ t.data.size := by omega
  have hz : (fullS t).size = t.data.size + (512 - t.data.size) := by
    show (t.data ++ (List.replicate (512 - t.data.size) (0 : UInt8)).toArray).size = _
    simp only [Array.size_append, List.size_toArray, List.length_replicate]
  have hl : t.data.size < t.data.size + (512 - t.data.size) := by rw [← hz]; exact h
  have h3 : (fullS t).data[t.data.size]? = some 0 := by
    show (t.data ++ (List.replicate (512 - t.data.size) (0 : UInt8)).toArray)[t.data.size]? = some 0
    rw [Array.getElem?_append_right (Nat.le_refl _)]
    simp only [List.getElem?_toArray, Nat.sub_self]
    have h4 : t.size = t.data.size := rfl
    rw [List.getElem?_replicate, if_pos (by omega)]
  exact (Array.getElem?_eq_some_iff.1 h3).2
theorem fullS_all (t : ByteArray) (ht : t.size ≤ 512) : ∃ z, fullS t = z ∧ z.size = 512 ∧ z.extract 0 t.size = t ∧ ∀ h : t.size < z.size, z[t.size]'h = 0 := ⟨fullS t, rfl, fullS_size _ ht, fullS_cut t, fullS_nought t⟩
/-- a map beside a log -/
structure Beside (w : World) (bl : Nat) (L : LogS) (mb : Nat) (g : Int → Option Value) (n : Nat) : Prop where
  map : IMap w mb g n
  apart : ¬ L.foot bl mb
theorem Beside.still {w w' : World} {bl : Nat} {L : LogS} {mb n : Nat} {g : Int → Option Value} (h : Beside w bl L mb g n) (hb : Below w.heap.size w w') : Beside w' bl L mb g n := ⟨h.map.keep (Keep.still hb) (fun e => e), h.apart⟩
theorem Beside.step {w w' : World} {bl : Nat} {L L' : LogS} {mb n : Nat} {g : Int → Option Value} (h : Beside w bl L mb g n) (hs : LogStep bl w L w' L') : Beside w' bl L' mb g n :=
  ⟨h.map.keep hs.keep h.apart, fun hf => (hs.own mb hf).elim h.apart (fun e => by have := h.map.lt; omega)⟩
theorem Beside.opened {w w' : World} {bl bl' : Nat} {L L' : LogS} {d : Dk} {N ring bd mb n : Nat} {W : Int → ByteArray} {g : Int → Option Value} (h : Beside w bl L mb g n) (hbd : L.bd = bd) (ho : Open5 w w' bd L.D d ring N W bl' L') : Beside w' bl' L' mb g n := by
  have hn : ¬ L.D.foot bd mb := fun hf => h.apart (.inr (.inr (by rw [hbd]; exact hf)))
  refine ⟨h.map.keep ho.keep hn, fun hf => ?_⟩
  rcases ho.own mb hf with e | e
  · exact hn e
  · have := h.map.lt
    omega
set_option maxHeartbeats 4000000 in
theorem wapart_walk {v vk : Value} {p : Puts} {keep : List Bool} (settled : Bool) (w : World) (h : PutsAt w w.heap.size v p) (hs : Sizes p) (hk : BoolsAt w w.heap.size vk keep) :
    Calls Tryd.prog 6 #[v, vk, .bool settled] w fun e w' => e = .returned (.bool true) ∧ Below w.heap.size w w' := by
  have H1 := Lib.hid (awake5_any w)
  have HP := Lib.hid h
  have HK := Lib.hid hk
  obtain ⟨pa, pc, pb, po, hv, hpp, hpc⟩ := h.form
  obtain ⟨ka, kb, ko, kc, hkv, hka, hkc⟩ := hk
  subst hv hkv
  obtain ⟨pl, hpl⟩ : ∃ pl, p.length = pl := ⟨_, rfl⟩
  obtain ⟨kl, hkl⟩ : ∃ kl, keep.length = kl := ⟨_, rfl⟩
  rw [hpl] at hpp ⊢
  rw [hkl] at hka ⊢
  have HPp := Lib.hid hpp
  have HPc := Lib.hid hpc
  have HPl := Lib.hid hpl
  have HKl := Lib.hid hkl
  have HKa := Lib.hid hka
  have HKc := Lib.hid hkc
  have HSz := Lib.hid hs
  have hpl63 : (pl : Int) ≤ 140737488355328 := by have := hs.1; omega
  clear h hpp hpc hpl hkl hka hkc hs
  by_cases c1 : 10 < pl
  · have d1 : decide ((10 : Int) < (pl : Int)) = true := by simp; omega
    have d1' : decide (10 < pl) = true := by simpa using c1
    go_enter Tryd.func6, Tryd.ntmps6
    go_wp2_with (go_at_call 8; refine (H1.out).mono ?_; rintro e w1 ⟨rfl, hb1⟩)
    go_ret
    exact ⟨rfl, hb1⟩
  have d1 : decide ((10 : Int) < (pl : Int)) = false := by simp; omega
  have d1' : decide (10 < pl) = false := by simpa using c1
  by_cases c2 : 100 < kl
  · have d2 : decide ((100 : Int) < (kl : Int)) = true := by simp; omega
    have d2' : decide (100 < kl) = true := by simpa using c2
    go_enter Tryd.func6, Tryd.ntmps6
    go_wp2_with (go_at_call 8; refine (H1.out).mono ?_; rintro e w1 ⟨rfl, hb1⟩)
    go_ret
    exact ⟨rfl, hb1⟩
  have d2 : decide ((100 : Int) < (kl : Int)) = false := by simp; omega
  have d2' : decide (100 < kl) = false := by simpa using c2
  go_enter Tryd.func6, Tryd.ntmps6
  go_wp2_with (go_at_call 8; refine (H1.out).mono ?_; rintro e w1 ⟨rfl, hb1⟩
               have HB1 := Lib.hid hb1
               have HN := Lib.hid (new5_any 37 (by decide) (by decide) w1)
               clear hb1)
  refine (HN.out).mono ?_
  rintro e w3 ⟨bd, D, rfl, hf⟩
  have HF := Lib.hid hf
  have HB3 := Lib.hid (HB1.out.trans (hf.below.mono HB1.out.size))
  clear hf
  have HO := Lib.hid (open5_any HF.out.at_ HF.out.dk rfl rfl 16 (by decide) (by decide) (homes := 20) (by rw [HF.out.size]) (by decide) (by decide) (dFresh_bears 37 16 20 (by decide)))
  go_wp2_with (fail)
  refine (HO.out).mono ?_
  rintro e w4 ⟨bl, L, rfl, ho⟩
  have HOp := Lib.hid ho
  have HNw := Lib.hid (ho.newer HF.out.newer HF.out.below.size)
  clear ho
  have hB4 : Below w.heap.size w w4 := HB3.out.trans (HNw.out.2.mono (by have := HB1.out.size; omega))
  have hlin : LogIn w.heap.size w4 bl L (dFresh 37) 0 20 16 (fun _ => zeros 512) :=
    ⟨HOp.out.up, by rw [HOp.out.homes, HF.out.size], HOp.out.ringE, fun k hk => Nat.le_trans HB1.out.size (HNw.out.1 k hk), rfl⟩
  have HLin := Lib.hid hlin
  have HB4 := Lib.hid hB4
  have HBd := Lib.hid HOp.out.bdE
  clear hlin hB4
  go_wp2_with (fail)
  go_loopw [41] (fun i wr => ∃ k : Nat, k ≤ 20 ∧ i = .int .i64 k ∧ (∃ L d W, LogIn w.heap.size wr bl L d k 20 16 W ∧ L.bd = bd ∧ ∀ j : Nat, j < k → W j = fullS (byteS (j + 1))) ∧ Below w.heap.size w wr) (fun i _ => 20 - (intOf i).toNat)
  case atStart => exact ⟨0, by omega, rfl, ⟨L, _, _, HLin.out, HBd.out, fun j hj => absurd hj (Nat.not_lt_zero j)⟩, HB4.out⟩
  case round =>
    obtain ⟨k, hk, rfl, ⟨Lk, dk, Wk, hlin, hbd, hW⟩, hbel⟩ := hrel
    have HLk := Lib.hid hlin
    have HBk := Lib.hid hbel
    have HWk := Lib.hid hW
    have HBdk := Lib.hid hbd
    by_cases hlt : k < 20
    · have g1 : decide ((k : Int) < 20) = true := by simp; omega
      have g1' : decide (k < 20) = true := by simpa using hlt
      obtain ⟨c, hc⟩ : ∃ c, k + 1 = c := ⟨_, rfl⟩
      have e1 : IntKind.u8.wrap (k : Int) = (k : Int) := wraps_u8 _ (by omega) (by omega)
      have e2 : IntKind.u8.wrap ((k : Int) + 1) = (c : Int) := by rw [wraps_u8 _ (by omega) (by omega)]; omega
      have cv := byteS_conv (wr.alloc (Obj.cells #[.int .u8 c] 5)) wr.heap.size c (by omega) (heap_alloc_new wr _) 1
      have HCo := Lib.hid (hlin.commitByte (by omega) hbel.size (by decide) k c hlt)
      clear hlin hbd hW hbel
      go_wp2_with (fail)
      refine (HCo.out).mono ?_
      rintro e w5 ⟨rfl, L5, d5, hl5, hst5, hb5⟩
      have HL5 := Lib.hid hl5
      have HBd5 := Lib.hid (hst5.bd.trans HBdk.out)
      have HB5 := Lib.hid (HBk.out.trans hb5)
      have HC := Lib.hid hc
      clear hl5 hst5 hb5 cv hc
      go_wp2
      go_roundw
      case rel =>
        refine ⟨k + 1, by omega, rfl, ⟨L5, d5, _, HL5.out, HBd5.out, fun j hj => ?_⟩, HB5.out⟩
        by_cases hjk : j = k
        · subst hjk
          simp only [if_true]
          rw [HC.out]
        · rw [if_neg (by omega)]
          exact HWk.out j (by omega)
      case measure => simp [intOf]; omega
    · have g1 : decide ((k : Int) < 20) = false := by simp; omega
      have g1' : decide (k < 20) = false := by simpa using hlt
      obtain rfl : k = 20 := by omega
      have hmm := @run_makeMap Tryd.prog
      have hmA : IMap (wr.alloc (Obj.map #[] 0)) wr.heap.size (fun _ => none) 0 := IMap_empty (heap_alloc_new wr _)
      have hbm : Below wr.heap.size wr (wr.alloc (Obj.map #[] 0)) := (Below.refl _ _).alloc (Nat.le_refl _) _
      have hLm := hlin.still hbm
      have hBm := hbel.trans (hbm.mono hbel.size)
      have hfm : ∀ k, Lk.foot bl k → k < wr.heap.size := fun k hk => hlin.up.at_.foot_lt hk
      have hmb : w.heap.size ≤ wr.heap.size := hbel.size
      clear hlin hbd hW hbel hbm
      go_wp2
      obtain ⟨wm, hwm⟩ : ∃ wm, wr.alloc (Obj.map #[] 0) = wm := ⟨_, rfl⟩
      obtain ⟨mb, hmbe⟩ : ∃ mb, wr.heap.size = mb := ⟨_, rfl⟩
      rw [hwm] at hmA hLm hBm ⊢
      rw [hmbe] at hmA hfm hmb ⊢
      have HMA := Lib.hid hmA
      have HLm := Lib.hid hLm
      have HBm := Lib.hid hBm
      have HFm := Lib.hid hfm
      have HMb := Lib.hid hmb
      clear hmA hLm hBm hfm hmb hwm hmbe hmm
      go_loopw [60] (fun i wr => ∃ j : Nat, j ≤ pl ∧ i = .int .i64 j ∧ (∃ n, IMap wr mb (strs (lastOf (p.take j))) n) ∧ LogIn w.heap.size wr bl Lk dk 20 20 16 Wk ∧ (∀ x ∈ p.take j, 0 ≤ x.1 ∧ x.1 ≤ 19 ∧ x.2.size ≤ 100) ∧ Below w.heap.size w wr) (fun i _ => pl - (intOf i).toNat)
      case atStart => exact ⟨0, by omega, rfl, ⟨0, HMA.out⟩, HLm.out, fun x hx => by simp at hx, HBm.out⟩
      case round =>
        obtain ⟨j, hj, rfl, ⟨n, hmap⟩, hlin, hok, hbel⟩ := hrel
        have HMp := Lib.hid hmap
        have HLj := Lib.hid hlin
        have HOk := Lib.hid hok
        have HBj := Lib.hid hbel
        clear hmap hlin hok hbel
        by_cases hlt : j < pl
        · have g1 : decide ((j : Int) < (pl : Int)) = true := by simp; omega
          have g1' : decide (j < pl) = true := by simpa using hlt
          obtain ⟨rfl, hb⟩ := HPp.out (by omega)
          obtain ⟨x, hx⟩ : ∃ x, p[j]? = some x := ⟨_, List.getElem?_eq_getElem (by rw [HPl.out]; exact hlt)⟩
          obtain ⟨q0, q1⟩ := HPc.out j x hx
          rw [← HBj.out.cell (p := ⟨pb, po + j * 2, none⟩) hb] at q0
          rw [← HBj.out.cell (p := ⟨pb, po + j * 2 + 1, none⟩) hb] at q1
          have hk0 : (0 : Int) ≤ (j : Int) := by omega
          have hk1 : (j : Int) < (pl : Int) := by omega
          have hxs := HSz.out.2 x (List.mem_of_getElem? hx)
          obtain ⟨xi, xs⟩ := x
          have HX := Lib.hid hx
          have htk : p.take (j + 1) = p.take j ++ [(xi, xs)] := by
            rw [List.take_add_one, hx]; rfl
          have HTk := Lib.hid htk
          clear hx htk
          have hBx : Below w.heap.size w (wr.alloc (Obj.cells #[.int .i64 xi, .string xs] 47)) := HBj.out.alloc HBj.out.size _
          have hbx : Below wr.heap.size wr (wr.alloc (Obj.cells #[.int .i64 xi, .string xs] 47)) := (Below.refl _ _).alloc (Nat.le_refl _) _
          have HBx := Lib.hid hBx
          have Hbx := Lib.hid hbx
          clear hBx hbx
          simp only at q0 q1 hxs
          by_cases x1 : xi < 0
          · have f1 : decide (xi < 0) = true := by simpa using x1
            go_wp2
            go_ret
            exact ⟨rfl, HBx.out⟩
          have f1 : decide (xi < 0) = false := by simpa using x1
          by_cases x2 : 19 < xi
          · have f2 : decide (19 < xi) = true := by simpa using x2
            go_wp2
            go_ret
            exact ⟨rfl, HBx.out⟩
          have f2 : decide (19 < xi) = false := by simpa using x2
          by_cases x3 : 100 < xs.size
          · have f3 : decide ((100 : Int) < (xs.size : Int)) = true := by simp; omega
            have f3' : decide (100 < xs.size) = true := by simp; omega
            go_wp2
            go_ret
            exact ⟨rfl, HBx.out⟩
          have f3 : decide ((100 : Int) < (xs.size : Int)) = false := by simp; omega
          have f3' : decide (100 < xs.size) = false := by simp; omega
          have hwf : (Lit.int .i64 xi).wf = true := keyOk (by omega) (by omega)
          obtain ⟨u4, hr4, hm4, hk4, hz4, hd4⟩ := (HMp.out.keep (Keep.still Hbx.out) (fun e => e)).run_update Tryd.underlying3 Tryd.underlying54 hwf (.string xs)
          have HM4 := Lib.hid hm4
          have HK4 := Lib.hid hk4
          clear hm4 hk4 hz4 hd4
          go_wp2
          go_roundw
          case rel =>
            refine ⟨j + 1, by omega, rfl, ⟨(if (strs (lastOf (p.take j)) xi).isSome then n else n + 1), ?_⟩, (HLj.out.still Hbx.out).keep HK4.out (fun k hk e => by have := HFm.out k hk; omega), fun x hx => ?_, ?_⟩
            · rw [HTk.out]
              have e1 : strs (lastOf (p.take j ++ [(xi, xs)])) = putAt (strs (lastOf (p.take j))) xi (.string xs) := by
                funext i
                unfold putAt strs
                rw [lastOf_snoc]
                by_cases h : i = xi
                · subst h; simp
                · rw [if_neg h, if_neg (fun e => h e.symm)]
              rw [e1]
              exact HM4.out
            · rw [HTk.out] at hx
              rcases List.mem_append.1 hx with hx | hx
              · exact HOk.out x hx
              · have hx2 : x = (xi, xs) := by simpa using hx
                subst hx2
                exact ⟨by show 0 ≤ xi; omega, by show xi ≤ 19; omega, by show xs.size ≤ 100; omega⟩
            · exact HBx.out.trans (HK4.out.below HBx.out.size (fun i hi e => by have := HMb.out; omega))
          case measure => simp [intOf]; omega
        · have g1 : decide ((j : Int) < (pl : Int)) = false := by simp; omega
          have g1' : decide (j < pl) = false := by simpa using hlt
          obtain rfl : j = pl := by omega
          have htk : p.take j = p := by rw [← HPl.out]; exact List.take_length
          have hok := HOk.out
          have hmap := HMp.out
          rw [htk] at hok hmap
          have hbs : Beside wr bl Lk mb (strs (lastOf p)) n := ⟨hmap, fun hf => by have := HFm.out mb hf; omega⟩
          have hp2 : PutsAt wr wr.heap.size (.slice pa j pc) p := by
            have := (HP.out.still HBj.out).monoB HBj.out.size
            rwa [HPl.out] at this
          obtain ⟨hone, hb1⟩ := listsAt_one hp2
          have hce : cErr 20 16 p = 0 := apart_err (by rw [HPl.out]; omega) hok
          have HCo := Lib.hid ((HLj.out.still hb1).commitW (by decide) (Nat.le_trans HBj.out.size hb1.size) hone (by simp; have := HPl.out; omega) (by simp) (fun x hx => by
            have := hok x (by simpa using hx)
            omega))
          have e1 : [p].flatten = p := by simp
          unfold comW at HCo
          rw [e1, hce, if_pos rfl] at HCo
          have HBs := Lib.hid (hbs.still hb1)
          have HB1' := Lib.hid (HBj.out.trans (hb1.mono HBj.out.size))
          have HOkp := Lib.hid hok
          clear htk hok hmap hbs hp2 hone hb1 hce e1
          go_wp2_with (fail)
          refine (HCo.out).mono ?_
          rintro e w6 ⟨rfl, L6, d6, hl6, hst6, hb6⟩
          have HL6 := Lib.hid hl6
          have HBs6 := Lib.hid (HBs.out.step hst6)
          have HB6 := Lib.hid (HB1'.out.trans hb6)
          have HBd6 := Lib.hid (hst6.bd.trans HBdk.out)
          clear hl6 hst6 hb6
          cases settled with
          | false =>
            have HFa := Lib.hid ((HL6.out).fall HB6.out.size keep ka kb ko kc (fun h0 => by
              rw [HKl.out] at h0
              have h1 := HKa.out h0
              exact ⟨h1.1, Nat.lt_of_lt_of_le h1.2 HB6.out.size, fun hf => by have := HL6.out.newer kb hf; omega⟩) (fun k hk => by
              rw [HB6.out.cell (p := ⟨kb, ko + k, none⟩) (HKa.out (by rw [← HKl.out]; omega)).2]
              exact HKc.out k hk))
            rw [HKl.out, HBd6.out] at HFa
            go_wp2_with (fail)
            refine (HFa.out).mono ?_
            rintro e w8 ⟨rfl, L8, hst8, hb8, hfe8⟩
            have HBs8 := Lib.hid (HBs6.out.step hst8)
            have HB8 := Lib.hid (HB6.out.trans hb8)
            have HFe8 := Lib.hid hfe8
            have HOp8 := Lib.hid (hfe8.open (by decide) HB8.out.size (by decide))
            clear hst8 hb8 hfe8
            go_wp2_with (fail)
            refine (HOp8.out).mono ?_
            rintro e w9 ⟨b9, L9, rfl, ho9, hh9, hn9, hb9⟩
            have HBs9 := Lib.hid (HBs8.out.opened HFe8.out.bdE ho9)
            have HB9 := Lib.hid (HB8.out.trans hb9)
            have HU9 := Lib.hid ho9.up
            have HH9 := Lib.hid hh9
            clear ho9 hh9 hn9 hb9
            go_wp2_with (fail)
            obtain ⟨W9, hW9⟩ : ∃ W9, overG (fullG p) Wk = W9 := ⟨_, rfl⟩
            rw [hW9] at HU9
            have hsz : ∀ i : Nat, i < 20 → ∃ t : ByteArray, t.size ≤ 100 ∧ W9 i = fullS t ∧ ((lastOf p i = some t) ∨ (lastOf p i = none ∧ t = byteS (i + 1))) := fun i hi => by
              rw [← hW9]
              unfold overG fullG
              cases hlo : lastOf p (i : Int) with
              | some t => exact ⟨t, (HOkp.out _ (lastOf_memB hlo)).2.2, rfl, .inl rfl⟩
              | none => exact ⟨byteS (i + 1), by show (1 : Nat) ≤ 100; decide, HWk.out i hi, .inr ⟨rfl, rfl⟩⟩
            have HSz9 := Lib.hid hsz
            clear hW9 hsz
            go_loopw [107] (fun i wr => ∃ k : Nat, k ≤ 20 ∧ i = .int .i64 k ∧ Below w9.heap.size w9 wr) (fun i _ => 20 - (intOf i).toNat)
            case atStart => exact ⟨0, by omega, rfl, Below.refl _ _⟩
            case round =>
              obtain ⟨k, hk, rfl, hbel⟩ := hrel
              have HBe := Lib.hid hbel
              have HBk9 := Lib.hid (HB9.out.trans (hbel.mono HB9.out.size))
              have HMk := Lib.hid (HBs9.out.still hbel).map
              have HUk := Lib.hid (HU9.out.still hbel)
              clear hbel
              by_cases hlt : k < 20
              · have g1 : decide ((k : Int) < 20) = true := by simp; omega
                have g1' : decide (k < 20) = true := by simpa using hlt
                obtain ⟨t, ht, hWt, hcase⟩ := HSz9.out k hlt
                obtain ⟨z, hz, hz5, hx2, hx0⟩ := fullS_all t (by omega)
                have l1 := HMk.out.run_lookup Tryd.underlying3 Tryd.underlying54 (zeroStr wr) (i := (k : Int)) (keyOk (by omega) (by omega)) true
                rcases hcase with hlo | ⟨hlo, hte⟩
                · have hst : strs (lastOf p) k = some (.string t) := by unfold strs; rw [hlo]; rfl
                  rw [hst] at l1
                  simp only [Option.getD_some, Option.isSome_some, if_true] at l1
                  have HRd := Lib.hid (HUk.out.readAt HH9.out k hlt)
                  rw [hWt, hz] at HRd
                  clear hst hlo hWt hz
                  go_wp2_with (go_at_call 19; refine (HRd.out).mono ?_; rintro e wA ⟨rfl, hbA⟩)
                  go_roundw
                  case rel => exact ⟨k + 1, by omega, rfl, HBe.out.trans (hbA.mono HBe.out.size)⟩
                  case measure => simp [intOf]; omega
                · have hst : strs (lastOf p) k = none := by unfold strs; rw [hlo]; rfl
                  rw [hst] at l1
                  simp only [Option.getD_none, Option.isSome_none, if_true] at l1
                  obtain ⟨c, hc⟩ : ∃ c, k + 1 = c := ⟨_, rfl⟩
                  have e1 : IntKind.u8.wrap (k : Int) = (k : Int) := wraps_u8 _ (by omega) (by omega)
                  have e2 : IntKind.u8.wrap ((k : Int) + 1) = (c : Int) := by rw [wraps_u8 _ (by omega) (by omega)]; omega
                  have cv := byteS_conv (wr.alloc (Obj.cells #[.int .u8 c] 5)) wr.heap.size c (by omega) (heap_alloc_new wr _) 1
                  have hbc : Below wr.heap.size wr (wr.alloc (Obj.cells #[.int .u8 c] 5)) := (Below.refl _ _).alloc (Nat.le_refl _) _
                  have HRd := Lib.hid ((HUk.out.still hbc).readAt HH9.out k hlt)
                  rw [hWt, hz] at HRd
                  rw [hc] at hte
                  rw [← hte] at cv
                  have HBc := Lib.hid (HBe.out.trans (hbc.mono HBe.out.size))
                  clear hst hlo hWt hz hc hte hbc
                  go_wp2_with (go_at_call 19; refine (HRd.out).mono ?_; rintro e wA ⟨rfl, hbA⟩)
                  go_roundw
                  case rel => exact ⟨k + 1, by omega, rfl, HBc.out.trans (hbA.mono HBc.out.size)⟩
                  case measure => simp [intOf]; omega
              · have g1 : decide ((k : Int) < 20) = false := by simp; omega
                have g1' : decide (k < 20) = false := by simpa using hlt
                go_wp2
                go_ret
                exact ⟨rfl, HBk9.out⟩
          | true =>
            have HCk := Lib.hid (HL6.out.checkpoint (by decide) HB6.out.size)
            go_wp2_with (fail)
            refine (HCk.out).mono ?_
            rintro e w7 ⟨rfl, L7, d7, hl7, hst7, hb7⟩
            have HL7 := Lib.hid hl7
            have HBs7 := Lib.hid (HBs6.out.step hst7)
            have HB7 := Lib.hid (HB6.out.trans hb7)
            have HBd7 := Lib.hid (hst7.bd.trans HBd6.out)
            clear hl7 hst7 hb7
            have HFa := Lib.hid ((HL7.out).fall HB7.out.size keep ka kb ko kc (fun h0 => by
              rw [HKl.out] at h0
              have h1 := HKa.out h0
              exact ⟨h1.1, Nat.lt_of_lt_of_le h1.2 HB7.out.size, fun hf => by have := HL7.out.newer kb hf; omega⟩) (fun k hk => by
              rw [HB7.out.cell (p := ⟨kb, ko + k, none⟩) (HKa.out (by rw [← HKl.out]; omega)).2]
              exact HKc.out k hk))
            rw [HKl.out, HBd7.out] at HFa
            go_wp2_with (fail)
            refine (HFa.out).mono ?_
            rintro e w8 ⟨rfl, L8, hst8, hb8, hfe8⟩
            have HBs8 := Lib.hid (HBs7.out.step hst8)
            have HB8 := Lib.hid (HB7.out.trans hb8)
            have HFe8 := Lib.hid hfe8
            have HOp8 := Lib.hid (hfe8.open (by decide) HB8.out.size (by decide))
            clear hst8 hb8 hfe8
            go_wp2_with (fail)
            refine (HOp8.out).mono ?_
            rintro e w9 ⟨b9, L9, rfl, ho9, hh9, hn9, hb9⟩
            have HBs9 := Lib.hid (HBs8.out.opened HFe8.out.bdE ho9)
            have HB9 := Lib.hid (HB8.out.trans hb9)
            have HU9 := Lib.hid ho9.up
            have HH9 := Lib.hid hh9
            clear ho9 hh9 hn9 hb9
            go_wp2_with (fail)
            obtain ⟨W9, hW9⟩ : ∃ W9, overG (fullG p) Wk = W9 := ⟨_, rfl⟩
            rw [hW9] at HU9
            have hsz : ∀ i : Nat, i < 20 → ∃ t : ByteArray, t.size ≤ 100 ∧ W9 i = fullS t ∧ ((lastOf p i = some t) ∨ (lastOf p i = none ∧ t = byteS (i + 1))) := fun i hi => by
              rw [← hW9]
              unfold overG fullG
              cases hlo : lastOf p (i : Int) with
              | some t => exact ⟨t, (HOkp.out _ (lastOf_memB hlo)).2.2, rfl, .inl rfl⟩
              | none => exact ⟨byteS (i + 1), by show (1 : Nat) ≤ 100; decide, HWk.out i hi, .inr ⟨rfl, rfl⟩⟩
            have HSz9 := Lib.hid hsz
            clear hW9 hsz
            go_loopw [107] (fun i wr => ∃ k : Nat, k ≤ 20 ∧ i = .int .i64 k ∧ Below w9.heap.size w9 wr) (fun i _ => 20 - (intOf i).toNat)
            case atStart => exact ⟨0, by omega, rfl, Below.refl _ _⟩
            case round =>
              obtain ⟨k, hk, rfl, hbel⟩ := hrel
              have HBe := Lib.hid hbel
              have HBk9 := Lib.hid (HB9.out.trans (hbel.mono HB9.out.size))
              have HMk := Lib.hid (HBs9.out.still hbel).map
              have HUk := Lib.hid (HU9.out.still hbel)
              clear hbel
              by_cases hlt : k < 20
              · have g1 : decide ((k : Int) < 20) = true := by simp; omega
                have g1' : decide (k < 20) = true := by simpa using hlt
                obtain ⟨t, ht, hWt, hcase⟩ := HSz9.out k hlt
                obtain ⟨z, hz, hz5, hx2, hx0⟩ := fullS_all t (by omega)
                have l1 := HMk.out.run_lookup Tryd.underlying3 Tryd.underlying54 (zeroStr wr) (i := (k : Int)) (keyOk (by omega) (by omega)) true
                rcases hcase with hlo | ⟨hlo, hte⟩
                · have hst : strs (lastOf p) k = some (.string t) := by unfold strs; rw [hlo]; rfl
                  rw [hst] at l1
                  simp only [Option.getD_some, Option.isSome_some, if_true] at l1
                  have HRd := Lib.hid (HUk.out.readAt HH9.out k hlt)
                  rw [hWt, hz] at HRd
                  clear hst hlo hWt hz
                  go_wp2_with (go_at_call 19; refine (HRd.out).mono ?_; rintro e wA ⟨rfl, hbA⟩)
                  go_roundw
                  case rel => exact ⟨k + 1, by omega, rfl, HBe.out.trans (hbA.mono HBe.out.size)⟩
                  case measure => simp [intOf]; omega
                · have hst : strs (lastOf p) k = none := by unfold strs; rw [hlo]; rfl
                  rw [hst] at l1
                  simp only [Option.getD_none, Option.isSome_none, if_true] at l1
                  obtain ⟨c, hc⟩ : ∃ c, k + 1 = c := ⟨_, rfl⟩
                  have e1 : IntKind.u8.wrap (k : Int) = (k : Int) := wraps_u8 _ (by omega) (by omega)
                  have e2 : IntKind.u8.wrap ((k : Int) + 1) = (c : Int) := by rw [wraps_u8 _ (by omega) (by omega)]; omega
                  have cv := byteS_conv (wr.alloc (Obj.cells #[.int .u8 c] 5)) wr.heap.size c (by omega) (heap_alloc_new wr _) 1
                  have hbc : Below wr.heap.size wr (wr.alloc (Obj.cells #[.int .u8 c] 5)) := (Below.refl _ _).alloc (Nat.le_refl _) _
                  have HRd := Lib.hid ((HUk.out.still hbc).readAt HH9.out k hlt)
                  rw [hWt, hz] at HRd
                  rw [hc] at hte
                  rw [← hte] at cv
                  have HBc := Lib.hid (HBe.out.trans (hbc.mono HBe.out.size))
                  clear hst hlo hWt hz hc hte hbc
                  go_wp2_with (go_at_call 19; refine (HRd.out).mono ?_; rintro e wA ⟨rfl, hbA⟩)
                  go_roundw
                  case rel => exact ⟨k + 1, by omega, rfl, HBc.out.trans (hbA.mono HBc.out.size)⟩
                  case measure => simp [intOf]; omega
              · have g1 : decide ((k : Int) < 20) = false := by simp; omega
                have g1' : decide (k < 20) = false := by simpa using hlt
                go_wp2
                go_ret
                exact ⟨rfl, HBk9.out⟩
end Go.Proofs.YtnfdplhcpiknpaaDoor
