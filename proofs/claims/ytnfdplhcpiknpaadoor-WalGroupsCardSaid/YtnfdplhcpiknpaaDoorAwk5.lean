/-
  THE LAWS of layer 5: awake.
-/
import Derived.Test.YtnfdplhcpiknpaaDoorHol
namespace Go.Proofs.YtnfdplhcpiknpaaDoor
open Go.RowKit Go.MapKept
attribute [local go_sem] gives givesH
set_option maxRecDepth 100000

def awkP : Puts := [(1, ⟨#[97]⟩), (2, ⟨#[98]⟩)]
theorem awk_err : cErr 11 8 awkP = 0 := by decide +kernel
theorem awk_home : (overG (fullG awkP) (fun _ => zeros 512)) 2 = fullS ⟨#[98]⟩ := by
  show (Option.map fullS (lastOf awkP 2)).getD (zeros 512) = _
  have h : lastOf awkP 2 = some ⟨#[98]⟩ := by rfl
  rw [h]
  rfl
set_option maxHeartbeats 4000000 in
theorem awake5_any (w : World) : Calls Tryd.prog 8 #[] w fun e w' => e = .returned (.bool true) ∧ Below w.heap.size w w' := by
  have HN := Lib.hid (new5_any 20 (by decide) (by decide) w)
  go_enter Tryd.func8, Tryd.ntmps8
  go_wp2_with (fail)
  refine (HN.out).mono ?_
  rintro e w1 ⟨bd, D, rfl, hf⟩
  have HF := Lib.hid hf
  have HO := Lib.hid (open5_any hf.at_ hf.dk rfl rfl 8 (by decide) (by decide) (homes := 11) (by rw [hf.size]) (by decide) (by decide) (dFresh_bears 20 8 11 (by decide)))
  clear hf
  go_wp2_with (fail)
  refine (HO.out).mono ?_
  rintro e w2 ⟨bl, L, rfl, ho⟩
  have HOp := Lib.hid ho
  have HNw := Lib.hid (ho.newer HF.out.newer HF.out.below.size)
  clear ho
  have hn3 := new3 w2 (Obj.cells #[.int .i64 1, .string ⟨#[97]⟩] 47) (Obj.cells #[.int .i64 2, .string ⟨#[98]⟩] 47) (Obj.cells #[.slice (some ⟨w2.heap.size, 0, none⟩) 1 1, .slice (some ⟨w2.heap.size + 1, 0, none⟩) 1 1] 48)
  obtain ⟨w3, hw3⟩ : ∃ w3, ((w2.alloc (Obj.cells #[.int .i64 1, .string ⟨#[97]⟩] 47)).alloc (Obj.cells #[.int .i64 2, .string ⟨#[98]⟩] 47)).alloc (Obj.cells #[.slice (some ⟨w2.heap.size, 0, none⟩) 1 1, .slice (some ⟨w2.heap.size + 1, 0, none⟩) 1 1] 48) = w3 := ⟨_, rfl⟩
  have hsz3 : w3.heap.size = w2.heap.size + 3 := by rw [← hw3]; simp
  rw [hw3] at hn3
  obtain ⟨n1, n2, n3, nb⟩ := hn3
  have hl : ListsAt w3 w3.heap.size (.slice (some ⟨w2.heap.size + 1 + 1, 0, none⟩) 2 2) [[(1, ⟨#[97]⟩)], [(2, ⟨#[98]⟩)]] := by
    refine .inr ⟨⟨w2.heap.size + 1 + 1, 0, none⟩, w2.heap.size + 1 + 1, 0, 2, fun k => .slice (some ⟨w2.heap.size + k, 0, none⟩) 1 1, rfl, fun _ => ⟨rfl, by omega⟩, fun k p hp => ?_⟩
    have hk : k = 0 ∨ k = 1 := by have := (List.getElem?_eq_some_iff.1 hp).1; simp at this; omega
    rcases hk with rfl | rfl
    · have hp2 : p = [(1, ⟨#[97]⟩)] := by simpa using hp.symm
      subst hp2
      refine ⟨by simp [World.cell?, n3], .inr ⟨⟨w2.heap.size, 0, none⟩, w2.heap.size, 0, 1, rfl, fun _ => ⟨rfl, by omega⟩, fun k x hx => ?_⟩⟩
      have hk : k = 0 := by have := (List.getElem?_eq_some_iff.1 hx).1; simp at this; omega
      subst hk
      have hx2 : x = (1, ⟨#[97]⟩) := by simpa using hx.symm
      subst hx2
      exact ⟨by simp [World.cell?, n1], by simp [World.cell?, n1]⟩
    · have hp2 : p = [(2, ⟨#[98]⟩)] := by simpa using hp.symm
      subst hp2
      refine ⟨by simp [World.cell?, n3], .inr ⟨⟨w2.heap.size + 1, 0, none⟩, w2.heap.size + 1, 0, 1, rfl, fun _ => ⟨rfl, by omega⟩, fun k x hx => ?_⟩⟩
      have hk : k = 0 := by have := (List.getElem?_eq_some_iff.1 hx).1; simp at this; omega
      subst hk
      have hx2 : x = (2, ⟨#[98]⟩) := by simpa using hx.symm
      subst hx2
      exact ⟨by simp [World.cell?, n2], by simp [World.cell?, n2]⟩
  have HC := Lib.hid (commit_any (HOp.out.up.still nb) (by decide) hl (by decide) (by decide) (fun x hx => by
    have h2 : x = (1, ⟨#[97]⟩) ∨ x = (2, ⟨#[98]⟩) := by simpa using hx
    rcases h2 with rfl | rfl <;> (show (1 : Nat) ≤ _; decide)))
  have hB2 := HF.out.below.trans HNw.out.2
  have hB3 := hB2.trans (nb.mono hB2.size)
  have HB3 := Lib.hid hB3
  clear n1 n2 n3 hl hsz3 hB3 hB2
  go_wp2_with (fail)
  clear hw3 nb
  refine (HC.out).mono ?_
  rintro e w4 ⟨L4, d4, hst4, hbd4, hcase⟩
  have hhom : L.homes = 11 := by rw [HOp.out.homes, HF.out.size]
  rw [hhom, HOp.out.ringE] at hcase
  have hcase2 : e = .returned (.int .i64 0) ∧ LogUp w4 bl L4 d4 1 (overG (fullG awkP) (fun _ => zeros 512)) := by
    rcases hcase with ⟨h1, _⟩ | ⟨_, h1, h2⟩ | ⟨_, _, h1, _⟩
    · exact absurd awk_err h1
    · exact ⟨h1, h2⟩
    · cases h1
  obtain ⟨rfl, hup4⟩ := hcase2
  obtain ⟨hnw4, hb4⟩ := hst4.newer HNw.out.1 HB3.out.size
  have HSt4 := Lib.hid hst4
  have HU4 := Lib.hid hup4
  have HNw4 := Lib.hid hnw4
  have HB4 := Lib.hid (HB3.out.trans hb4)
  have HFa := Lib.hid (fall5_any hup4.at_ hup4.dk [] none 0 0 0 (fun h => absurd h (by decide)) (fun k hk => absurd hk (Nat.not_lt_zero k)))
  have hbd : L4.bd = bd := hst4.bd.trans HOp.out.bdE
  subst hbd
  have hh4 : L4.homes = 11 := hst4.homes.trans hhom
  have hr4 : L4.ring = 8 := hst4.ring.trans HOp.out.ringE
  have HH4 := Lib.hid hh4
  have HR4 := Lib.hid hr4
  clear hst4 hup4 hnw4 hb4 hcase hhom
  go_wp2_with (fail)
  refine (HFa.out).mono ?_
  rintro e w5 ⟨rfl, D5, hst5, hdk5⟩
  obtain ⟨hnw5, hb5⟩ := hst5.newer HNw4.out HB4.out.size
  have hbe := HU4.out.bears
  rw [hh4, hr4] at hbe
  obtain ⟨W5, hW5, hbe5⟩ := fall_bears (FallsTo.of_clean HU4.out.clean hbe) []
  subst hW5
  have hfp : ∀ k, D5.foot L4.bd k → w.heap.size ≤ k := fun k hk => hnw5 k (.inr (.inr hk))
  have hds5 : D5.size = 8 + 1 + 11 := by
    have e1 := hst5.size
    have e2 : L4.homes = L4.D.size - 1 - L4.ring := rfl
    have e3 : L4.ring + 2 ≤ L4.D.size := HU4.out.at_.ring.2.2
    have e4 : D5.size = L4.D.size := e1
    omega
  have hat5 : DiskAt w5 L4.bd D5 := hst5.at_.disk
  have HO5 := Lib.hid (open5_any hat5 hdk5 rfl rfl 8 (by decide) (by decide) hds5 (by decide) (by decide) hbe5)
  have HB5 := Lib.hid (HB4.out.trans hb5)
  have HFp := Lib.hid hfp
  have HDs5 := Lib.hid hds5
  clear hst5 hdk5 hnw5 hb5 hbe hbe5 hfp hds5 hat5 HNw4
  go_wp2_with (fail)
  refine (HO5.out).mono ?_
  rintro e w6 ⟨b6, L6, rfl, ho6⟩
  obtain ⟨hnw6, hb6⟩ := ho6.newer HFp.out HB5.out.size
  have hh6 : L6.homes = 11 := by rw [ho6.homes, HDs5.out]
  have hr2 := ho6.up.read 2 (by rw [hh6]; decide)
  have hsays : L6.says 2 = .tuple #[.string (fullS ⟨#[98]⟩), .int .i64 0] := by
    unfold LogS.says
    rw [if_pos (by rw [hh6]; decide)]
    have e2 : ((2 : Nat) : Int) = 2 := rfl
    rw [e2] at hr2
    rw [hr2, awk_home]
  have HRd := Lib.hid (logRead_any ho6.up.at_ ho6.up.lup ho6.up.dup (i := 2) (by decide))
  rw [hsays] at HRd
  have HHo := Lib.hid (fun u (hu : LogAt u b6 L6) => logHomes_any hu)
  rw [hh6] at HHo
  have HU6 := Lib.hid ho6.up.at_
  have HB6 := Lib.hid (HB5.out.trans hb6)
  have hz5 : (fullS (⟨#[98]⟩ : ByteArray)).size = 512 := fullS_size _ (by decide)
  have hx2 : (fullS (⟨#[98]⟩ : ByteArray)).extract 0 2 = ⟨#[98, 0]⟩ := by decide +kernel
  have hl2 : ((fullS (⟨#[98]⟩ : ByteArray)).extract 0 2).toList = [98, 0] := by rw [hx2, ByteArray.toList_eq]
  generalize fullS (⟨#[98]⟩ : ByteArray) = z at *
  have HZ5 := Lib.hid hz5
  clear ho6 hnw6 hb6 hh6 hr2 hsays
  go_wp2_with (first
    | (go_at_call 19; refine (HRd.out).mono ?_; rintro e w7 ⟨rfl, hb7⟩
       have HB7 := Lib.hid (HB6.out.trans (hb7.mono HB6.out.size))
       have HU7 := Lib.hid (HU6.out.still hb7)
       clear hb7)
    | (go_at_call 14; refine (HHo.out _ HU7.out).mono ?_; rintro e w8 ⟨rfl, hb8⟩
       have HB8 := Lib.hid (HB7.out.trans (hb8.mono HB7.out.size))
       clear hb8))
  go_ret
  exact ⟨rfl, HB8.out⟩
end Go.Proofs.YtnfdplhcpiknpaaDoor
