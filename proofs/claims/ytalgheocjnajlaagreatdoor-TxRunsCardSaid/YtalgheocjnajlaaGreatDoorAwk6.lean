/-
  THE LAWS of layer 6: a log, and a change of it; awake.
-/
import Derived.Test.YtalgheocjnajlaaGreatDoorTxAll
namespace Go.Proofs.YtalgheocjnajlaaGreatDoor
open Go.RowKit Go.MapKept
attribute [local go_sem] gives givesH
set_option maxRecDepth 100000

/-- a new disk with its log -/
theorem log_new {B : Nat} {w1 w3 w4 : World} {bd bl size ring homes : Nat} {D : DiskS} {L : LogS} (hf : Fresh5 w1 w3 bd D size) (ho : Open5 w3 w4 bd D (dFresh size) ring 0 (fun _ => zeros 512) bl L) (hh : size - 1 - ring = homes) (hB : B ≤ w1.heap.size) :
    LogIn B w4 bl L (dFresh size) 0 homes ring (fun _ => zeros 512) ∧ Below w1.heap.size w1 w4 := by
  have hn := ho.newer hf.newer hf.below.size
  exact ⟨⟨ho.up, by rw [ho.homes, hf.size]; exact hh, ho.ringE, fun k hk => Nat.le_trans hB (hn.1 k hk), rfl⟩, hf.below.trans hn.2⟩
def aS : ByteArray := ⟨#[97]⟩
def bS : ByteArray := ⟨#[98]⟩
theorem seen_snoc1 (i : Int) (s : ByteArray) (f : Int → ByteArray) : seen [(i, s)] f i = s := by
  have := seen_snoc [] f (i, s) i
  rw [if_pos rfl] at this
  exact this
theorem overG_one (a : Int) (s : ByteArray) (W : Int → ByteArray) (j : Int) : overG (fullG [(a, s)]) W j = if j = a then fullS s else W j := by
  unfold overG fullG
  have h : lastOf [(a, s)] j = if j = a then some s else none := by
    by_cases hj : j = a
    · subst hj; rw [if_pos rfl]; simp [lastOf]
    · rw [if_neg hj]; simp [lastOf]; exact fun e => hj e.symm
  rw [h]
  by_cases hj : j = a
  · rw [if_pos hj, if_pos hj]; rfl
  · rw [if_neg hj, if_neg hj]; rfl
theorem putsOf_ok {n : Nat} {i : Int} {s : ByteArray} (h : 0 ≤ i ∧ i < n ∧ s.size ≤ 512) : putsOf n i s = [(i, fullS s)] := by unfold putsOf; rw [if_pos h]
set_option maxHeartbeats 4000000 in
theorem awake6_any (w : World) : Calls Tryz.prog 7 #[] w fun e w' => e = .returned (.bool true) ∧ Below w.heap.size w w' := by
  have HN := Lib.hid (new5_any 20 (by decide) (by decide) w)
  go_enter Tryz.func7, Tryz.ntmps7
  go_wp2_with (fail)
  refine (HN.out).mono ?_
  rintro e w1 ⟨bd, D, rfl, hf⟩
  have HF := Lib.hid hf
  have HO := Lib.hid (open5_any hf.at_ hf.dk rfl rfl 8 (by decide) (by decide) (homes := 11) (by rw [hf.size]) (by decide) (by decide) (dFresh_bears 20 8 11 (by decide)))
  clear hf
  go_wp2_with (fail)
  refine (HO.out).mono ?_
  rintro e w2 ⟨bl, L, rfl, ho⟩
  obtain ⟨hlin, hb2⟩ := log_new (homes := 11) HF.out ho (by decide) (Nat.le_refl _)
  have HL2 := Lib.hid hlin
  have HB2 := Lib.hid hb2
  have HBg := Lib.hid (hlin.begin hb2.size)
  clear ho hlin hb2
  go_wp2_with (fail)
  refine (HBg.out).mono ?_
  rintro e w3 ⟨bt, T, rfl, ht, hp, _, hb3⟩
  have HT3 := Lib.hid ht
  have HB3 := Lib.hid (HB2.out.trans (hb3.mono HB2.out.size))
  have HP3 := Lib.hid hp
  have HW1 := Lib.hid (ht.write (by rw [hp]; decide) HB3.out.size (i := 1) ⟨#[97]⟩ (by decide))
  have e1 : writeErr 11 1 ⟨#[97]⟩ = 0 := by decide
  rw [e1] at HW1
  clear ht hp hb3
  go_wp2_with (fail)
  refine (HW1.out).mono ?_
  rintro e w4 ⟨rfl, T4, _, ht4, hp4, hb4⟩
  rw [HP3.out] at hp4
  have hq4 : T4.puts = [(1, fullS aS)] := hp4.trans (by rw [putsOf_ok (by decide)]; rfl)
  have HT4 := Lib.hid ht4
  have HQ4 := Lib.hid hq4
  have HB4 := Lib.hid (HB3.out.trans hb4)
  have HM4 := Lib.hid ht4.mark
  have hl4 : T4.puts.length = 1 := by rw [hq4]; rfl
  rw [hl4] at HM4
  have HW2 := Lib.hid (ht4.write (by rw [hq4]; decide) HB4.out.size (i := 1) ⟨#[98]⟩ (by decide))
  have e2 : writeErr 11 1 ⟨#[98]⟩ = 0 := by decide
  rw [e2] at HW2
  clear ht4 hp4 hq4 hb4 hl4
  go_wp2_with (go_at_call 16; refine (HM4.out).mono ?_; rintro e wq ⟨rfl, rfl⟩)
  refine (HW2.out).mono ?_
  rintro e w5 ⟨rfl, T5, _, ht5, hp5, hb5⟩
  have hq5 : T5.puts = [(1, fullS aS), (1, fullS bS)] := hp5.trans (by rw [HQ4.out, putsOf_ok (by decide)]; rfl)
  have HB5 := Lib.hid (HB4.out.trans hb5)
  have HQ5 := Lib.hid hq5
  have HBk := Lib.hid (ht5.back (by rw [hq5]; decide) HB5.out.size 1)
  clear ht5 hp5 hq5 hb5
  go_wp2_with (fail)
  refine (HBk.out).mono ?_
  rintro e w6 ⟨rfl, T6, _, ht6, hp6, hb6⟩
  have hq6 : T6.puts = [(1, fullS aS)] := hp6.trans (by rw [HQ5.out]; rfl)
  have HB6 := Lib.hid (HB5.out.trans hb6)
  have hrd := ht6.read (i := 1) (keyOk (by decide) (by decide))
  have hsy : homeSays 11 (seen T6.puts (fun _ => zeros 512)) 1 = .tuple #[.string (fullS aS), .int .i64 0] := by
    rw [hq6]
    unfold homeSays
    rw [homeStr_in (by decide), homeErr_in (by decide), seen_snoc1]
  rw [hsy] at hrd
  have HRd := Lib.hid hrd
  have HT6 := Lib.hid ht6
  have HQ6 := Lib.hid hq6
  clear ht6 hp6 hq6 hb6 hrd hsy
  go_wp2_with (fail)
  refine (HRd.out).mono ?_
  rintro e w7 ⟨rfl, hb7⟩
  have ht7 := HT6.out.still hb7
  have HB7 := Lib.hid (HB6.out.trans (hb7.mono HB6.out.size))
  have HCm := Lib.hid (txCommit_any ht7.log ht7.tx (by rw [HQ6.out]; decide) (by decide) HB7.out.size ht7.newer)
  clear ht7 hb7
  go_wp2_with (fail)
  refine (HCm.out).mono ?_
  rintro e w8 ⟨he, L8, d8, T8, hl8, ht8, _, _, _, _, hb8⟩
  have hce : cErr 11 8 T6.puts = 0 := by
    rw [HQ6.out]
    refine cErr_zero (fun x hx => ?_) (by have := metL_le [((1 : Int), fullS aS)]; have h1 : [((1 : Int), fullS aS)].length = 1 := rfl; unfold secs; omega)
    have hx2 : x = (1, fullS aS) := by simpa using hx
    subst hx2
    exact ⟨by show (0 : Int) ≤ 1; decide, by show (1 : Int) < 11; decide, Nat.le_of_eq (fullS_size _ (by decide))⟩
  rw [hce] at he
  subst he
  have hcw : comW 11 8 T6.puts (fun _ => zeros 512) 1 = fullS (fullS aS) := by
    unfold comW
    rw [if_pos hce, HQ6.out, overG_one, if_pos rfl]
  have hz5 : (fullS aS).size = 512 := fullS_size _ (by decide)
  rw [fullS_full _ hz5] at hcw
  have hrl := hl8.up.readAt hl8.homes 1 (by decide)
  have e3 : ((1 : Nat) : Int) = 1 := rfl
  rw [e3, hcw] at hrl
  have HRl := Lib.hid hrl
  have HB8 := Lib.hid (HB7.out.trans hb8)
  have hx2 : (fullS aS).extract 0 2 = ⟨#[97, 0]⟩ := by decide +kernel
  have hl2 : ((fullS aS).extract 0 2).toList = [97, 0] := by rw [hx2, ByteArray.toList_eq]
  generalize fullS aS = z at *
  clear hl8 ht8 hb8 hce hcw hrl e3
  go_wp2_with (fail)
  refine (HRl.out).mono ?_
  rintro e w9 ⟨rfl, hb9⟩
  go_wp2
  go_ret
  exact ⟨rfl, HB8.out.trans (hb9.mono HB8.out.size)⟩
end Go.Proofs.YtalgheocjnajlaaGreatDoor
