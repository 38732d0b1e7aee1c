/-
  THE LAWS of layer 6: TxLast walked.
-/
import Derived.Test.YtnfdplhcpiknpaaGreatDoorLaw6
namespace Go.Proofs.YtnfdplhcpiknpaaGreatDoor
open Go.RowKit Go.MapKept
attribute [local go_sem] gives givesH
set_option maxRecDepth 100000

set_option maxHeartbeats 4000000 in
theorem txlast_walk (at_ : Int) {v : Value} {l : List ByteArray} (w : World) (h : StrsAt w w.heap.size v l) :
    Calls Tryz.prog 4 #[v, .int .i64 at_] w fun e w' => e = .returned (.bool true) ∧ Below w.heap.size w w' := by
  have H1 := Lib.hid (awake6_any w)
  obtain ⟨pa, pb, po, pc, hv, hp63, hpp, hpc⟩ := h
  subst hv
  obtain ⟨pl, hpl⟩ : ∃ pl, l.length = pl := ⟨_, rfl⟩
  rw [hpl] at hpp hp63 ⊢
  have HPp := Lib.hid hpp
  have HPc := Lib.hid hpc
  have HPl := Lib.hid hpl
  clear hpp hpc hpl
  by_cases c1 : 30 < pl
  · have d1 : decide ((30 : Int) < (pl : Int)) = true := by simp; omega
    have d1' : decide (30 < pl) = true := by simpa using c1
    go_enter Tryz.func4, Tryz.ntmps4
    go_wp2_with (go_at_call 7; refine (H1.out).mono ?_; rintro e w1 ⟨rfl, hb1⟩)
    go_ret
    exact ⟨rfl, hb1⟩
  have d1 : decide ((30 : Int) < (pl : Int)) = false := by simp; omega
  have d1' : decide (30 < pl) = false := by simpa using c1
  by_cases c2 : at_ < 0
  · have d2 : decide (at_ < 0) = true := by simpa using c2
    go_enter Tryz.func4, Tryz.ntmps4
    go_wp2_with (go_at_call 7; refine (H1.out).mono ?_; rintro e w1 ⟨rfl, hb1⟩)
    go_ret
    exact ⟨rfl, hb1⟩
  have d2 : decide (at_ < 0) = false := by simpa using c2
  by_cases c3 : 19 < at_
  · have d3 : decide (19 < at_) = true := by simpa using c3
    go_enter Tryz.func4, Tryz.ntmps4
    go_wp2_with (go_at_call 7; refine (H1.out).mono ?_; rintro e w1 ⟨rfl, hb1⟩)
    go_ret
    exact ⟨rfl, hb1⟩
  have d3 : decide (19 < at_) = false := by simpa using c3
  have hin : 0 ≤ at_ ∧ at_ < (20 : Nat) := by omega
  have hwf : (Lit.int .i64 at_).wf = true := keyOk (by omega) (by omega)
  have HIn := Lib.hid hin
  clear hin
  go_enter Tryz.func4, Tryz.ntmps4
  go_wp2_with (go_at_call 7; refine (H1.out).mono ?_; rintro e w1 ⟨rfl, hb1⟩
               have HB1 := Lib.hid hb1
               have HN := Lib.hid (new5_any 37 (by decide) (by decide) w1)
               clear hb1)
  refine (HN.out).mono ?_
  rintro e w3 ⟨bd, D, rfl, hf⟩
  have HF := Lib.hid hf
  have HO := Lib.hid (open5_any hf.at_ hf.dk rfl rfl 16 (by decide) (by decide) (homes := 20) (by rw [hf.size]) (by decide) (by decide) (dFresh_bears 37 16 20 (by decide)))
  clear hf
  go_wp2_with (fail)
  refine (HO.out).mono ?_
  rintro e w4 ⟨bl, L, rfl, ho⟩
  obtain ⟨hlin, hb4⟩ := log_new (homes := 20) HF.out ho (by decide) HB1.out.size
  have HB4 := Lib.hid (HB1.out.trans (hb4.mono HB1.out.size))
  have HBg := Lib.hid (hlin.begin HB4.out.size)
  clear ho hlin hb4
  go_wp2_with (fail)
  refine (HBg.out).mono ?_
  rintro e w5 ⟨bt, T, rfl, ht, hp, _, hb5⟩
  have HT5 := Lib.hid ht
  have HB5 := Lib.hid (HB4.out.trans (hb5.mono HB4.out.size))
  have HP5 := Lib.hid hp
  have hrd := ht.read hwf
  rw [hp, homeSays_in HIn.out] at hrd
  have HRd := Lib.hid hrd
  clear ht hp hb5 hrd
  go_wp2_with (fail)
  refine (HRd.out).mono ?_
  rintro e w6 ⟨rfl, hb6⟩
  have HT6 := Lib.hid (HT5.out.still hb6)
  have HB6 := Lib.hid (HB5.out.trans (hb6.mono HB5.out.size))
  clear hb6
  obtain ⟨z0, hz0⟩ : ∃ z0, seen [] (fun _ => zeros 512) at_ = z0 := ⟨_, rfl⟩
  rw [hz0]
  go_wp2_with (fail)
  go_loopw [50] (fun i wr => ∃ k : Nat, k ≤ pl ∧ i = .int .i64 k ∧ (∃ T, TxIn w.heap.size wr bl L (dFresh 37) 0 20 16 (fun _ => zeros 512) bt T ∧ T.puts.length = k ∧ ∀ x ∈ T.puts, x.1 = at_) ∧ Below w.heap.size w wr) (fun i _ => pl - (intOf i).toNat)
  case atStart => exact ⟨0, by omega, rfl, ⟨T, HT6.out, by rw [HP5.out]; rfl, fun x hx => by rw [HP5.out] at hx; cases hx⟩, HB6.out⟩
  case round =>
    obtain ⟨k, hk, rfl, ⟨Tk, htk, hlk, hak⟩, hbel⟩ := hrel
    have HTk := Lib.hid htk
    have HLk := Lib.hid hlk
    have HAk := Lib.hid hak
    have HBk := Lib.hid hbel
    clear htk hlk hak hbel
    by_cases hlt : k < pl
    · have g1 : decide ((k : Int) < (pl : Int)) = true := by simp; omega
      have g1' : decide (k < pl) = true := by simpa using hlt
      obtain ⟨rfl, hb⟩ := HPp.out (by omega)
      obtain ⟨x, hx⟩ : ∃ x, l[k]? = some x := ⟨_, List.getElem?_eq_getElem (by rw [HPl.out]; exact hlt)⟩
      obtain ⟨q0, hx8⟩ := HPc.out k x hx
      rw [← HBk.out.cell (p := ⟨pb, po + k, none⟩) hb] at q0
      have hk0 : (0 : Int) ≤ (k : Int) := by omega
      have hk1 : (k : Int) < (pl : Int) := by omega
      clear hx
      by_cases c4 : 100 < x.size
      · have f1 : decide ((100 : Int) < (x.size : Int)) = true := by simp; omega
        have f1' : decide (100 < x.size) = true := by simpa using c4
        go_wp2
        go_ret
        exact ⟨rfl, HBk.out⟩
      have f1 : decide ((100 : Int) < (x.size : Int)) = false := by simp; omega
      have f1' : decide (100 < x.size) = false := by simpa using c4
      have hw := HTk.out.write (by rw [HLk.out]; omega) HBk.out.size (i := at_) x (by omega)
      rw [writeErr_zero HIn.out (by omega)] at hw
      have HW := Lib.hid hw
      have HFu := Lib.hid (fun u => ref4Full_any x (by omega) u)
      have hpo : putsOf 20 at_ x = [(at_, fullS x)] := putsOf_ok ⟨HIn.out.1, HIn.out.2, by omega⟩
      have HPo := Lib.hid hpo
      clear hw hpo
      go_wp2_with (fail)
      refine (HW.out).mono ?_
      rintro e w7 ⟨rfl, T7, _, ht7, hp7, hb7⟩
      rw [HPo.out] at hp7
      have hl7 : T7.puts.length = k + 1 := by rw [hp7, List.length_append, HLk.out]; rfl
      have ha7 : ∀ y ∈ T7.puts, y.1 = at_ := fun y hy => by
        rw [hp7] at hy
        rcases List.mem_append.1 hy with hy | hy
        · exact HAk.out y hy
        · have : y = (at_, fullS x) := by simpa using hy
          rw [this]
      have hm7 := ht7.mark
      rw [hl7] at hm7
      have e7 : ((k + 1 : Nat) : Int) = (k : Int) + 1 := by omega
      rw [e7] at hm7
      have hto := ht7.touched
      rw [metL_same ha7 (fun e => by rw [e] at hl7; cases hl7)] at hto
      have hto2 : Calls Tryz.prog 22 #[.pointer (some ⟨bt, 0, none⟩)] w7 fun e w' => e = .returned (.int .i64 1) ∧ w7 = w' := hto
      have hrd7 := ht7.read hwf
      rw [homeSays_in HIn.out, hp7, seen_snoc, if_pos rfl] at hrd7
      have HM7 := Lib.hid hm7
      have HTo := Lib.hid hto2
      have HRd7 := Lib.hid hrd7
      have HT7 := Lib.hid ht7
      have HL7 := Lib.hid hl7
      have HA7 := Lib.hid ha7
      have HB7 := Lib.hid (HBk.out.trans hb7)
      have e8 : IntKind.i64.wrap ((k : Int) + 1) = (k : Int) + 1 := wrapI (by omega) (by omega)
      obtain ⟨z, hz⟩ : ∃ z, fullS x = z := ⟨_, rfl⟩
      simp only at HRd7
      rw [hz] at HRd7 HFu
      clear ht7 hp7 hb7 hl7 ha7 hm7 e7 hto hto2 hrd7 hz
      go_wp2_with (first
        | (go_at_call 16; with_reducible refine (HM7.out).mono ?_; rintro e wq ⟨rfl, rfl⟩)
        | (go_at_call 22; with_reducible refine (HTo.out).mono ?_; rintro e wq ⟨rfl, rfl⟩)
        | (go_at_call 14; with_reducible refine (HRd7.out).mono ?_; rintro e w8 ⟨rfl, hb8⟩
           have HT8 := Lib.hid (HT7.out.still hb8)
           have HB8 := Lib.hid (HB7.out.trans (hb8.mono HB7.out.size))
           clear hb8)
        | (go_at_call 26; with_reducible refine (HFu.out _).mono ?_; rintro e w9 ⟨rfl, hb9⟩
           have HT9 := Lib.hid (HT8.out.still hb9)
           have HB9 := Lib.hid (HB8.out.trans (hb9.mono HB8.out.size))
           clear hb9))
      go_roundw
      case rel => exact ⟨k + 1, by omega, rfl, ⟨T7, HT9.out, HL7.out, HA7.out⟩, HB9.out⟩
      case measure => simp [intOf]; omega
    · have g1 : decide ((k : Int) < (pl : Int)) = false := by simp; omega
      have g1' : decide (k < pl) = false := by simpa using hlt
      have HDr := Lib.hid (HTk.out.drop (by rw [HLk.out]; omega) HBk.out.size)
      go_wp2_with (fail)
      refine (HDr.out).mono ?_
      rintro e w7 ⟨rfl, T7, _, ht7, hp7, hb7⟩
      have HB7 := Lib.hid (HBk.out.trans hb7)
      have hrd7 := ht7.read hwf
      rw [homeSays_in HIn.out, hp7] at hrd7
      rw [hz0] at hrd7
      have HRd7 := Lib.hid hrd7
      have HT7 := Lib.hid ht7
      have HP7 := Lib.hid hp7
      clear ht7 hp7 hb7 hrd7
      go_wp2_with (fail)
      refine (HRd7.out).mono ?_
      rintro e w8 ⟨rfl, hb8⟩
      have HB8 := Lib.hid (HB7.out.trans (hb8.mono HB7.out.size))
      have hm8 := (HT7.out.still hb8).mark
      have ht8 := (HT7.out.still hb8).touched
      rw [HP7.out] at hm8 ht8
      have HM8 : Hid (Calls Tryz.prog 16 #[.pointer (some ⟨bt, 0, none⟩)] w8 fun e w' => e = .returned (.int .i64 0) ∧ w8 = w') := Lib.hid hm8
      have HT8 : Hid (Calls Tryz.prog 22 #[.pointer (some ⟨bt, 0, none⟩)] w8 fun e w' => e = .returned (.int .i64 0) ∧ w8 = w') := Lib.hid ht8
      clear hb8 hm8 ht8
      go_wp2_with (first
        | (go_at_call 16; with_reducible refine (HM8.out).mono ?_; rintro e wq ⟨rfl, rfl⟩)
        | (go_at_call 22; with_reducible refine (HT8.out).mono ?_; rintro e wq ⟨rfl, rfl⟩))
      go_ret
      exact ⟨rfl, HB8.out⟩
end Go.Proofs.YtnfdplhcpiknpaaGreatDoor
