/-
  THE LOG, walked: recover.
-/
import Derived.Test.YtalgheocjnajlaaGreatDoorCra
import Derived.Test.YtalgheocjnajlaaGreatDoorUp
namespace Go.Proofs.YtalgheocjnajlaaGreatDoor
open Go.RowKit Go.MapKept
attribute [local go_sem] gives givesH
set_option maxRecDepth 100000

theorem byte_getElem {z : ByteArray} {k c : Nat} (h : k < z.size) (hb : byteN z k = c) : ((z[k]'h).toNat : Int) = (c : Int) := by
  rw [byteN_get z k h, hb]
/-- no record is next -/
theorem recover_end {w : World} {bl : Nat} {L : LogS} (h : LogAt w bl L) (hdd : L.D.down = false) (hnx : L.next < L.ring) (hsq : L.seq + 1 < 18446744073709551616)
    (hz : byteN (L.D.read ((1 + L.next % L.ring : Nat) : Int)) 0 = 67 → toldN ((L.D.read ((1 + L.next % L.ring : Nat) : Int)).extract 1 9) ≠ L.seq + 1) :
    Calls Tryz.prog 51 #[.pointer (some ⟨bl, 0, none⟩)] w fun e w' => e = .returned (.tuple #[.bool false, .int .i64 0]) ∧ Below w.heap.size w w' := by
  have hring := h.ring
  have H1 := Lib.hid (fun u (hu : LogAt u bl L) => logRing_any hu hdd L.next (by omega))
  have hs : (L.D.read ((1 + L.next % L.ring : Nat) : Int)).size = 512 := L.D.read_size h.disk _
  obtain ⟨c0, c1, c2, c3, c4, c5, c6, c7⟩ := lCells h.cells
  have e0 : (1 + ((L.next % L.ring : Nat) : Int)) = ((1 + L.next % L.ring : Nat) : Int) := by omega
  rw [e0] at H1
  generalize L.D.read ((1 + L.next % L.ring : Nat) : Int) = z at *
  have l13 : 13 ≤ z.size := by omega
  have l0 : 0 < z.size := by omega
  have hx : ∀ a b, (z.extract a b).size ≤ 9223372036854775807 := fun a b => by rw [ByteArray.size_extract]; omega
  have H2 := Lib.hid (fun a b => told_any (z.extract a b) (hx a b))
  have hb0 := byteN_get z 0 l0
  have hs1 : ((L.seq : Int) + 1) % 18446744073709551616 = ((L.seq + 1 : Nat) : Int) := by omega
  have HLg := Lib.hid h
  clear hx
  have hsq2 : IntKind.u64.wrap ((L.seq : Int) + 1) = ((L.seq + 1 : Nat) : Int) := by rw [IntKind.wrap_u64]; omega
  by_cases h0 : byteN z 0 = 67
  · have h1 := hz h0
    have h67 : (z[0]'l0).toNat = 67 := by rw [hb0, h0]
    have d1 : (((z[0]'l0).toNat : Int) != 67) = false := by simp; omega
    generalize ht : toldN (z.extract 1 9) = t9 at *
    obtain ⟨sq, hsq3⟩ : ∃ sq, L.seq + 1 = sq := ⟨_, rfl⟩
    rw [hsq3] at hs1 hsq2 h1
    have d2 : ((t9 : Int) != (sq : Int)) = true := by simp; omega
    have d2' : (t9 != sq) = true := by simp; omega
    have HT9 := Lib.hid ht
    have H2b : Hid (∀ u : World, Calls Tryz.prog 50 #[.string (z.extract 1 9)] u fun e w' => e = .returned (.int .u64 t9) ∧ u = w') := Lib.hid (fun u => by have := H2.out 1 9 u; rw [ht] at this; exact this)
    clear h ht hb0 h67
    go_enter Tryz.func51, Tryz.ntmps51
    go_wp2_with (first
      | (go_at_call 84; refine (H1.out _ HLg.out).mono ?_; rintro e w1 ⟨rfl, hb⟩
         have HL1 := Lib.hid (HLg.out.still hb)
         have HB1 := Lib.hid hb
         clear hb)
      | (go_at_call 50; with_reducible refine (H2.out _ _ _).mono ?_; rintro e w2 ⟨rfl, rfl⟩))
    obtain ⟨C, hC⟩ : ∃ C : World → Prop, ∀ u, C u ↔ Below (w1).heap.size (w1) u := ⟨fun u => Below (w1).heap.size (w1) u, fun _ => Iff.rfl⟩
    have F : ∀ u, C u → LogAt u bl L := fun u hu => by
      have hu := (hC u).1 hu
      exact HL1.out.still hu
    have step : ∀ u u', C u → Below u.heap.size u u' → C u' := fun u u' hu hb => (hC u').2 (((hC u).1 hu).trans (hb.mono ((hC u).1 hu).size))
    have HC := Lib.hid hC
    have FF := Lib.hid F
    clear hC F
    refine wp_region_inv 21 C (by kernel_rfl) (by kernel_rfl) ((HC.out _).2 (Below.refl _ _).drew) ?_
    simp only [List.take_succ_cons, List.take_zero, List.drop_succ_cons, List.drop_zero]
    repeat
      first
      | (refine wpInv_plain rfl (fun K hK => ?_)
         apply Exists.intro
         refine ⟨fun u hu => ?_, ?_⟩
         · have HU := Lib.hid hu
           obtain ⟨c0, c1, c2, c3, c4, c5, c6, c7⟩ := lCells (FF.out u hu).cells
           clear hu
           go_simp
           first
             | exact ⟨HU.out, rfl⟩
             | (go_at_call 50; with_reducible refine (H2b.out _).mono ?_; rintro e w' ⟨rfl, rfl⟩; exact ⟨rfl, HU.out⟩)
         go_simp
         refine hK _ ?_
         clear hK K)
      | (refine wpInv_passed (by rfl) (fun K hK => ?_); go_simp; refine hK _ ?_; clear hK K)
      | (refine wpInv_wanted (by rfl) (fun K hK => ?_)
         apply Exists.intro
         refine ⟨fun u hu => ?_, ?_⟩
         · have HU := Lib.hid hu
           obtain ⟨c0, c1, c2, c3, c4, c5, c6, c7⟩ := lCells (FF.out u hu).cells
           clear hu
           go_simp
           first
             | exact ⟨HU.out, rfl⟩
             | (go_at_call 50; with_reducible refine (H2b.out _).mono ?_; rintro e w' ⟨rfl, rfl⟩; exact ⟨rfl, HU.out⟩)
         go_simp
         refine hK _ ?_
         clear hK K)
    refine wpInv_nil ?_
    intro w3 hw3
    go_wp2
    go_ret2
    exact ⟨rfl, HB1.out.trans (((HC.out _).1 hw3).mono HB1.out.size)⟩
  · have h67 : (z[0]'l0).toNat ≠ 67 := by rw [hb0]; exact h0
    have d1 : (((z[0]'l0).toNat : Int) != 67) = true := by simp; omega
    clear h hb0 h67
    go_enter Tryz.func51, Tryz.ntmps51
    go_wp2_with (first
      | (go_at_call 84; refine (H1.out _ HLg.out).mono ?_; rintro e w1 ⟨rfl, hb⟩
         have HL1 := Lib.hid (HLg.out.still hb)
         have HB1 := Lib.hid hb
         clear hb)
      | (go_at_call 50; with_reducible refine (H2.out _ _ _).mono ?_; rintro e w2 ⟨rfl, rfl⟩))
    go_quiet (fail)
    go_wp2
    go_ret2
    exact ⟨rfl, HB1.out.trans ⟨rfl, rfl, rfl, Nat.le_refl _, fun _ _ => rfl⟩⟩
theorem pad_at {l : Grp} (h512 : ∀ p ∈ l, p.2.size = 512) (k m : Nat) {x : Nat} {t : ByteArray} (hl : l[m]? = some (x, t)) :
    (padL (recL l) k).drop (516 * m) = numL x 4 ++ (t.data.toList ++ (padL (recL l) k).drop (516 * (m + 1))) := by
  obtain ⟨hm, he⟩ := List.getElem?_eq_some_iff.1 hl
  have hlen := recL_length l h512
  unfold padL
  rw [List.drop_append_of_le_length (by omega), List.drop_append_of_le_length (by omega), recL_drop l h512, recL_drop l h512, List.drop_eq_getElem_cons hm, he]
  show ((numL x 4 ++ t.data.toList) ++ recL (l.drop (m + 1))) ++ _ = _
  simp only [List.append_assoc]
theorem ext_of {s : ByteArray} {l : List UInt8} (h : s.data.toList = l) : s = ⟨l.toArray⟩ := by
  apply ByteArray.ext
  apply Array.ext'
  simpa using h
theorem strs_putO (o : Int → Option ByteArray) (x : Nat) (t : ByteArray) : strs (putO o x t) = putAt (strs o) (x : Int) (.string t) := by
  funext i
  unfold strs putO putAt
  by_cases h : i = (x : Int)
  · simp [h]
  · simp [h]
theorem lastO_take {o : Int → Option ByteArray} {l : Grp} {m x : Nat} {t : ByteArray} (h : l[m]? = some (x, t)) : lastO o (l.take (m + 1)) = putO (lastO o (l.take m)) x t := by
  rw [List.take_add_one, h]
  unfold lastO
  rw [List.foldl_append]
  rfl
/-- a record is next -/
theorem RecAt.mod {S : Int → ByteArray} {ring pos seq : Nat} {l : Grp} (h : RecAt S ring pos seq l) : RecAt S ring (pos % ring) seq l := by
  refine ⟨by rw [Nat.mod_mod]; exact h.hdr, fun i hi => ?_⟩
  rw [show pos % ring + 1 + i = pos % ring + (1 + i) by omega, Nat.mod_add_mod, ← Nat.add_assoc]
  exact h.pieces i hi
set_option maxHeartbeats 4000000 in
theorem recover_rec {w : World} {bl : Nat} {L : LogS} (h : LogAt w bl L) (hdd : L.D.down = false) (hnx : L.next < L.ring) (hsq : L.seq + 1 < 18446744073709551616) {l : Grp} (hr : RecAt L.D.read L.ring L.next (L.seq + 1) l) (hg : GoodGrp L.homes l) (hu : L.used + secs l.length + 1 ≤ L.ring) :
    Calls Tryz.prog 51 #[.pointer (some ⟨bl, 0, none⟩)] w fun e w' => e = .returned (.tuple #[.bool true, .int .i64 0]) ∧ ∃ no, LogStep bl w L w' { L with over := lastO L.over l, no := no, next := (L.next + (secs l.length + 1)) % L.ring, used := L.used + (secs l.length + 1), seq := L.seq + 1 } := by
  have hring := h.ring
  have H1 := Lib.hid (fun u (hu : LogAt u bl L) (k : Nat) (hk : k < 4611686018427387904) => logRing_any hu hdd k hk)
  obtain ⟨n, hn⟩ : ∃ n, l.length = n := ⟨_, rfl⟩
  have hnm : n ≤ 4096 := by have := secs_ge l.length; omega
  have hn1 : 1 ≤ n := hn ▸ hg.pos
  have hz := hr.hdr
  rw [hn] at hz
  have hs : (hdrS (L.seq + 1) n).size = 512 := hdrS_size _ _
  have hb0 := hdr_0 (L.seq + 1) n
  have ht1 := hdr_seq (L.seq + 1) n hsq
  have ht2 := hdr_n (L.seq + 1) n (by omega)
  have H1z := Lib.hid (fun u (hu : LogAt u bl L) => logRing_any hu hdd L.next (by omega))
  have e0 : (1 + ((L.next % L.ring : Nat) : Int)) = ((1 + L.next % L.ring : Nat) : Int) := by omega
  rw [e0, hz] at H1z
  generalize hdrS (L.seq + 1) n = z at *
  have l13 : 13 ≤ z.size := by omega
  have l0 : 0 < z.size := by omega
  have hx : ∀ a b, (z.extract a b).size ≤ 9223372036854775807 := fun a b => by rw [ByteArray.size_extract]; omega
  obtain ⟨sq, hsq3⟩ : ∃ sq, L.seq + 1 = sq := ⟨_, rfl⟩
  have H2a : Hid (∀ u : World, Calls Tryz.prog 50 #[.string (z.extract 9 13)] u fun e w' => e = .returned (.int .u64 n) ∧ u = w') := Lib.hid (fun u => by have := told_any _ (hx 9 13) u; rw [ht2] at this; exact this)
  have H2b : Hid (∀ u : World, Calls Tryz.prog 50 #[.string (z.extract 1 9)] u fun e w' => e = .returned (.int .u64 sq) ∧ u = w') := Lib.hid (fun u => by have := told_any _ (hx 1 9) u; rw [ht1, hsq3] at this; exact this)
  have d1 : (((z[0]'l0).toNat : Int) != 67) = false := by have := byteN_get z 0 l0; simp; omega
  have hsq2 : IntKind.u64.wrap ((L.seq : Int) + 1) = (sq : Int) := by rw [IntKind.wrap_u64]; omega
  have d2 : ((sq : Int) != (sq : Int)) = false := by simp
  have d3 : decide ((n : Int) < 1) = false := by simp; omega
  have d4 : decide ((4096 : Int) < (n : Int)) = false := by simp; omega
  have d5 : IntKind.i64.wrap (n : Int) = (n : Int) := wrapI (by omega) (by omega)
  have HSe := Lib.hid (fun u => sectors_any n (by omega) u)
  obtain ⟨k, hk⟩ : ∃ k, secs n = k := ⟨_, rfl⟩
  rw [hk] at HSe
  rw [hn, hk] at hu ⊢
  have e2 : IntKind.i64.wrap ((L.used : Int) + (k : Int)) = (L.used : Int) + (k : Int) := wrapI (by omega) (by omega)
  have e3 : IntKind.i64.wrap ((L.used : Int) + (k : Int) + 1) = (L.used : Int) + (k : Int) + 1 := wrapI (by omega) (by omega)
  have d6 : decide ((L.ring : Int) < (L.used : Int) + (k : Int) + 1) = false := by simp; omega
  have HRec := Lib.hid hr
  have HG := Lib.hid hg
  have HLg := Lib.hid h
  have HK := Lib.hid hk
  have HN := Lib.hid hn
  have HSq := Lib.hid hsq3
  obtain ⟨c0, c1, c2, c3, c4, c5, c6, c7⟩ := lCells h.cells
  clear hx ht1 ht2 hz hr hg h hk hn hsq3
  go_enter Tryz.func51, Tryz.ntmps51
  go_wp2_with (first
    | (go_at_call 84; refine (H1z.out _ HLg.out).mono ?_; rintro e w1 ⟨rfl, hb⟩
       have HL1 := Lib.hid (HLg.out.still hb)
       have HB1 := Lib.hid hb
       clear hb)
    | (go_at_call 50; with_reducible refine (H2a.out _).mono ?_; rintro e w2 ⟨rfl, rfl⟩))
  obtain ⟨C, hC⟩ : ∃ C : World → Prop, ∀ u, C u ↔ Below (w1).heap.size (w1) u := ⟨fun u => Below (w1).heap.size (w1) u, fun _ => Iff.rfl⟩
  have F : ∀ u, C u → LogAt u bl L := fun u hu => by
    have hu := (hC u).1 hu
    exact HL1.out.still hu
  have step : ∀ u u', C u → Below u.heap.size u u' → C u' := fun u u' hu hb => (hC u').2 (((hC u).1 hu).trans (hb.mono ((hC u).1 hu).size))
  have HC := Lib.hid hC
  have FF := Lib.hid F
  clear hC F
  refine wp_region_inv 21 C (by kernel_rfl) (by kernel_rfl) ((HC.out _).2 (Below.refl _ _).drew) ?_
  simp only [List.take_succ_cons, List.take_zero, List.drop_succ_cons, List.drop_zero]
  repeat
    first
    | (refine wpInv_plain rfl (fun K hK => ?_)
       apply Exists.intro
       refine ⟨fun u hu => ?_, ?_⟩
       · have HU := Lib.hid hu
         obtain ⟨c0, c1, c2, c3, c4, c5, c6, c7⟩ := lCells (FF.out u hu).cells
         clear hu
         go_simp
         first
           | exact ⟨HU.out, rfl⟩
           | (go_at_call 50; with_reducible refine (H2b.out _).mono ?_; rintro e w' ⟨rfl, rfl⟩; exact ⟨rfl, HU.out⟩)
       go_simp
       refine hK _ ?_
       clear hK K)
    | (refine wpInv_passed (by rfl) (fun K hK => ?_); go_simp; refine hK _ ?_; clear hK K)
    | (refine wpInv_wanted (by rfl) (fun K hK => ?_)
       apply Exists.intro
       refine ⟨fun u hu => ?_, ?_⟩
       · have HU := Lib.hid hu
         obtain ⟨c0, c1, c2, c3, c4, c5, c6, c7⟩ := lCells (FF.out u hu).cells
         clear hu
         go_simp
         first
           | exact ⟨HU.out, rfl⟩
           | (go_at_call 50; with_reducible refine (H2b.out _).mono ?_; rintro e w' ⟨rfl, rfl⟩; exact ⟨rfl, HU.out⟩)
       go_simp
       refine hK _ ?_
       clear hK K)
  refine wpInv_nil ?_
  intro w3 hw3
  have HL3 := Lib.hid (FF.out _ hw3)
  have HB3 := Lib.hid (HB1.out.trans (((HC.out _).1 hw3).mono HB1.out.size))
  clear hw3
  go_wp2_with (first
    | (go_at_call 85; refine (HSe.out _).mono ?_; rintro e w4 ⟨rfl, rfl⟩))
  obtain ⟨S, hS⟩ : ∃ S : World → Prop, ∀ u, S u ↔ Keep (fun _ => False) (w3) u := ⟨fun u => Keep (fun _ => False) (w3) u, fun _ => Iff.rfl⟩
  have HS := Lib.hid hS
  clear hS
  refine wp_region_ord 11 [(0, true), (1, true), (2, true), (3, true), (4, true), (5, true), (6, true), (7, true), (8, true), (9, true), (10, true)] S (by kernel_rfl) (by kernel_rfl) ((HS.out _).2 (Keep.refl _ _).drew) ?_
  iterate 11
    first
      | (refine wpH_passed rfl (by rfl) (fun K hK => ?_); go_simp; refine hK _ ?_; clear hK K)
      | (first
           | refine wpH_read rfl rfl (fun K hK => ?_)
           | refine wpH_readw rfl (by rfl) (fun K hK => ?_)
         apply Exists.intro
         refine ⟨fun u hu => ?_, ?_⟩
         · have hu := (HS.out u).1 hu
           have c1 : u.cell? ⟨bl, 1, none⟩ = some (.int .i64 L.ring) := (lCells (hu.at HL3.out.cells (fun e => e))).2.1
           have c4 : u.cell? ⟨bl, 4, none⟩ = some (.int .i64 L.used) := (lCells (hu.at HL3.out.cells (fun e => e))).2.2.2.2.1
           clear hu
           go_simp
           exact ⟨rfl, rfl⟩
         go_simp
         refine hK _ ?_
         clear hK K)
  refine wpH_nil ?_
  simp only [List.drop_succ_cons, List.drop_zero]
  clear S HS
  go_wp2
  have hB0 : IsB w3.heap.size w3.heap.size [] (w3.alloc (.cells #[.pointer none, .slice none 0 0] 122)) := Lib.fresh_isBuilder _ _ w3
  have hbel0 : Below w3.heap.size w3 (w3.alloc (.cells #[.pointer none, .slice none 0 0] 122)).drew := ((Below.refl _ w3).alloc (Nat.le_refl _) _).trans ⟨rfl, rfl, rfl, Nat.le_refl _, fun _ _ => rfl⟩
  have HB0 := Lib.hid (isB_still hB0 (w' := (w3.alloc (.cells #[.pointer none, .slice none 0 0] 122)).drew) ⟨rfl, rfl, rfl, Nat.le_refl _, fun _ _ => rfl⟩)
  have HBel0 := Lib.hid hbel0
  clear hB0 hbel0
  obtain ⟨T, hT⟩ : ∃ T, recL l = T := ⟨_, rfl⟩
  have h512 : ∀ p ∈ l, p.2.size = 512 := fun p hp => (HG.out.ats p hp).2
  have hTl : T.length = 516 * n := by rw [← hT, recL_length l h512, HN.out]
  have hcov : T.length ≤ 511 * k := by rw [hTl, ← HK.out]; exact secs_covers n
  have hk4 : k ≤ 4096 := by omega
  have hpc : ∀ j, j < k → L.D.read (1 + ((L.next + 1 + j) % L.ring : Nat)) = pieceS T j := fun j hj => by
    rw [← hT, ← HRec.out.pieces j (by rw [HN.out, HK.out]; exact hj)]
    congr 1
  have HPc := Lib.hid hpc
  have HT := Lib.hid hT
  have H512 := Lib.hid h512
  clear hpc hT h512
  go_loopw [67] (fun i wr => ∃ j : Nat, j ≤ k ∧ i = .int .i64 j ∧ IsB w3.heap.size w3.heap.size (Lib.byteCells ((padL T k).take (511 * j))) wr ∧ Below w3.heap.size w3 wr) (fun i _ => k - (intOf i).toNat)
  case atStart => exact ⟨0, by omega, rfl, by have := HB0.out; simpa [Lib.byteCells] using this, HBel0.out⟩
  case round =>
    obtain ⟨j, hj, rfl, hib, hbel⟩ := hrel
    have HIB := Lib.hid hib
    have HB := Lib.hid hbel
    clear hib hbel
    by_cases hlt : j < k
    · have g1 : decide ((j : Int) < (k : Int)) = true := by simp; omega
      have g1' : decide (j < k) = true := by simpa using hlt
      have hLr := HL3.out.still HB.out
      have H1j := Lib.hid (H1.out wr hLr (L.next + 1 + j) (by omega))
      rw [HPc.out j hlt] at H1j
      have hps := pieceS_size T j
      have hp0 := piece_0 T j
      have hpt := piece_tail T k j hcov hlt
      obtain ⟨q, hq⟩ : ∃ q, pieceS T j = q := ⟨_, rfl⟩
      rw [hq] at H1j hps hp0 hpt
      have lq : 0 < q.size := by omega
      have lq1 : 1 ≤ q.size := by omega
      have dq : (((q[0]'lq).toNat : Int) != 80) = false := by have := byteN_get q 0 lq; simp; omega
      obtain ⟨c0, c1, c2, c3, c4, c5, c6, c7⟩ := lCells hLr.cells
      obtain ⟨N, hNN⟩ : ∃ N, L.next + 1 + j = N := ⟨_, rfl⟩
      rw [hNN] at H1j
      have w1 : IntKind.i64.wrap ((L.next : Int) + 1) = (L.next : Int) + 1 := wrapI (by omega) (by omega)
      have e1 : (L.next : Int) + 1 + (j : Int) = (N : Int) := by omega
      have w2 : IntKind.i64.wrap (N : Int) = (N : Int) := wrapI (by omega) (by omega)
      have hqe : (q.extract 1 512).size = 511 := by rw [ByteArray.size_extract]; omega
      have HQe := Lib.hid hqe
      have HPt := Lib.hid hpt
      have hj0 : (0 : Int) ≤ (j : Int) := by omega
      have hj1 : (j : Int) < (k : Int) := by omega
      have hbl : ((padL T k).take (511 * j)).length ≤ 511 * j := List.length_take_le _ _
      have HBl := Lib.hid hbl
      clear hq hp0 hpt hqe hNN hLr hbl
      go_wp2_with (first
        | (go_at_call 84; refine (H1j.out).mono ?_; rintro e w5 ⟨rfl, hb5⟩
           have HI5 := Lib.hid (isB_still HIB.out hb5)
           have HB5 := Lib.hid (HB.out.trans (hb5.mono HB.out.size))
           clear hb5))
      have A1 := Lib.hid (writeString_any HI5.out HB5.out.size (q.extract 1 512) (by rw [HQe.out, Lib.byteCells_length]; have := HBl.out; omega))
      refine (A1.out).mono ?_
      rintro e w6 ⟨rfl, hi6, hb6, ho6⟩
      rw [strCells_eq, HPt.out, ← byteCells_append, pad_step] at hi6
      have HI6 := Lib.hid hi6
      have HB6 := Lib.hid (HB5.out.trans hb6)
      clear hi6 hb6 ho6
      go_wp2
      go_roundw
      case rel => exact ⟨j + 1, by omega, rfl, HI6.out, HB6.out⟩
      case measure => simp [intOf]; omega
    · have g1 : decide ((j : Int) < (k : Int)) = false := by simp; omega
      have g1' : decide (j < k) = false := by simpa using hlt
      obtain rfl : j = k := by omega
      have hib := HIB.out
      have hpl : (padL T j).length = 511 * j := by unfold padL; rw [List.length_append, List.length_replicate]; omega
      rw [List.take_of_length_le (by omega)] at hib
      obtain ⟨U, hU⟩ : ∃ U, padL T j = U := ⟨_, rfl⟩
      rw [hU] at hib hpl
      have HSt := Lib.hid (Tryz.Builder_String_any_k w3.heap.size w3.heap.size U wr (Lib.IsBuilderF.of hib) HB.out.size)
      have HUe := Lib.hid hU
      clear hib hU
      go_wp2_with (go_at_call 74; refine (HSt.out).mono ?_; rintro e w5 ⟨rfl, hi5, hb5, ho5⟩
                   have HB5 := Lib.hid (HB.out.trans hb5)
                   clear hi5 hb5 ho5)
      have hat : ∀ m, m < n → ∃ (x : Nat) (t : ByteArray), l[m]? = some (x, t) ∧ U.drop (516 * m) = numL x 4 ++ (t.data.toList ++ U.drop (516 * (m + 1))) ∧ x < L.homes ∧ t.size = 512 := fun m hm => by
        obtain ⟨y, hy⟩ : ∃ y, l[m]? = some y := ⟨_, List.getElem?_eq_getElem (by rw [HN.out]; exact hm)⟩
        have hyg := HG.out.ats y (List.mem_of_getElem? hy)
        refine ⟨y.1, y.2, hy, ?_, hyg.1, hyg.2⟩
        rw [← HUe.out, ← HT.out]
        exact pad_at H512.out j m hy
      have HAt := Lib.hid hat
      have hcov2 : 516 * n ≤ 511 * j := by omega
      have hhom : L.homes ≤ 65536 := by unfold LogS.homes; have := HLg.out.disk.size; omega
      have HS5 : Hid (∀ (m : Nat) i t, lastO L.over (l.take m) i = some t → t.size = 512) := Lib.hid (fun m i t ht => by
        rcases lastO_cases _ _ _ _ ht with h1 | ⟨y, hy, _, h2⟩
        · exact HLg.out.s512 i t h1
        · rw [← h2]; exact H512.out y (List.mem_of_mem_take hy))
      have HO0 : Hid (∃ no, IMap w5 L.bo (strs (lastO L.over (l.take 0))) no) := Lib.hid ⟨L.no, HLg.out.over.keep (Keep.ofBelow (S := fun _ => False) (HB3.out.trans (HB5.out.mono HB3.out.size))) (fun e => e)⟩
      have HKp0 : Hid (Keep (· = L.bo) w w5) := Lib.hid (Keep.ofBelow (HB3.out.trans (HB5.out.mono HB3.out.size)))
      clear hat
      go_loopw [12, 95] (fun ts i wr2 => ∃ m : Nat, m ≤ n ∧ i = .int .i64 m ∧ ts = .string ⟨(U.drop (516 * m)).toArray⟩ ∧ (∃ no, IMap wr2 L.bo (strs (lastO L.over (l.take m))) no) ∧ Keep (· = L.bo) w wr2) (fun _ i _ => n - (intOf i).toNat)
      case atStart => exact ⟨0, by omega, rfl, by simp, HO0.out, HKp0.out⟩
      case round =>
        obtain ⟨m, hm, rfl, rfl, hmap, hkp⟩ := hrel
        have HMp := Lib.hid hmap
        have HKp := Lib.hid hkp
        obtain ⟨no, hm0⟩ := hmap
        have HLs := Lib.hid (HLg.out.turn_over hm0 hkp (HS5.out m))
        have HM0 := Lib.hid hm0
        clear hkp hm0
        by_cases hlt2 : m < n
        · have g2 : decide ((m : Int) < (n : Int)) = true := by simp; omega
          have g2' : decide (m < n) = true := by simpa using hlt2
          obtain ⟨x, t, hlx, hdx, hxh, ht5⟩ := HAt.out m hlt2
          obtain ⟨sm, hsm⟩ : ∃ sm : ByteArray, ⟨(U.drop (516 * m)).toArray⟩ = sm := ⟨_, rfl⟩
          have hsl : sm.data.toList = numL x 4 ++ (t.data.toList ++ U.drop (516 * (m + 1))) := by rw [← hsm, bytesOf, hdx]
          have hssz : sm.size = 511 * j - 516 * m := by rw [← hsm, size_of, List.length_drop, hpl]
          have htl : t.data.toList.length = 512 := by simpa using ht5
          have hx4 : sm.extract 0 4 = ⟨(numL x 4).toArray⟩ := ext_of (by rw [extract_list, hsl, List.drop_zero, List.take_left' (by rw [numL_length])])
          have hxt : sm.extract 4 516 = t := by
            rw [ext_of (s := t) rfl]
            exact ext_of (by rw [extract_list, hsl, List.drop_left' (by rw [numL_length]), List.take_left' (by rw [htl])])
          have hxr : sm.extract 516 sm.size = ⟨(U.drop (516 * (m + 1))).toArray⟩ := ext_of (by
            rw [extract_list, hsl, ← List.append_assoc, List.drop_left' (by rw [List.length_append, numL_length, htl]), List.take_of_length_le (by rw [List.length_drop, hpl, hssz]; omega)])
          have HTo : Hid (∀ u : World, Calls Tryz.prog 50 #[.string (sm.extract 0 4)] u fun e w' => e = .returned (.int .u64 x) ∧ u = w') := Lib.hid (fun u => by
            have := told_any (sm.extract 0 4) (by rw [ByteArray.size_extract]; omega) u
            rw [hx4, toldN_eq, bytesOf, told_num _ _ (by decide), Nat.mod_eq_of_lt (by omega)] at this
            rw [hx4]
            exact this)
          have hhs := HLs.out.homes
          have HHo := Lib.hid (logHomes_any HLs.out.at_)
          rw [hhs] at HHo
          obtain ⟨sz, hsze⟩ : ∃ sz, 511 * j - 516 * m = sz := ⟨_, rfl⟩
          have l516 : 516 ≤ sz := by omega
          have l516' : (516 : Int) ≤ (sz : Int) := by omega
          have l4 : 4 ≤ sz := by omega
          have l4' : (4 : Int) ≤ (sz : Int) := by omega
          rw [hsze] at hssz
          rw [hssz] at hxr
          have hwf : (Lit.int .i64 (x : Int)).wf = true := keyOk (by omega) (by omega)
          have d7 : decide ((L.homes : Int) ≤ (x : Int)) = false := by simp; omega
          have w8 : IntKind.i64.wrap (x : Int) = (x : Int) := wrapI (by omega) (by omega)
          have hst : strs (lastO L.over (l.take (m + 1))) = putAt (strs (lastO L.over (l.take m))) (x : Int) (.string t) := by rw [lastO_take hlx]; exact strs_putO _ _ _
          have HXt := Lib.hid hxt
          have HXr := Lib.hid hxr
          have HSt2 := Lib.hid hst
          have hm1 : (0 : Int) ≤ (m : Int) := by omega
          have hm2 : (m : Int) < (n : Int) := by omega
          rw [hsm]
          clear hlx hdx hsm hsl htl hx4 hxt hxr hhs hst hsze
          go_wp2_with (first
            | (go_at_call 50; refine (HTo.out _).mono ?_; rintro e w6 ⟨rfl, rfl⟩)
            | (go_at_call 56; refine (HHo.out).mono ?_; rintro e w7 ⟨rfl, hb7⟩
               have HB7 := Lib.hid hb7
               have HL7 := Lib.hid (HLs.out.at_.still hb7)
               have HM7 := Lib.hid (HM0.out.keep (Keep.still hb7) (fun e => e))
               have HK7 := Lib.hid (HKp.out.trans (Keep.ofBelow (S := fun _ => False) hb7) (fun _ _ e => e.elim))
               clear hb7))
          obtain ⟨S, hS⟩ : ∃ S : World → Prop, ∀ u, S u ↔ Keep (fun _ => False) (w7) u := ⟨fun u => Keep (fun _ => False) (w7) u, fun _ => Iff.rfl⟩
          have HS := Lib.hid hS
          clear hS
          refine wp_region_ord 7 [(0, true), (1, true), (2, true), (3, true), (4, true), (5, true), (6, true)] S (by kernel_rfl) (by kernel_rfl) ((HS.out _).2 (Keep.refl _ _).drew) ?_
          iterate 7
            first
              | (refine wpH_passed rfl (by rfl) (fun K hK => ?_); go_simp; refine hK _ ?_; clear hK K)
              | (first
                   | refine wpH_read rfl rfl (fun K hK => ?_)
                   | refine wpH_readw rfl (by rfl) (fun K hK => ?_)
                 apply Exists.intro
                 refine ⟨fun u hu => ?_, ?_⟩
                 · have hu := (HS.out u).1 hu
                   have c6 : u.cell? ⟨bl, 6, none⟩ = some (.map (some L.bo)) := (lCells (hu.at HL7.out.cells (fun e => e))).2.2.2.2.2.2.1
                   have c9 := HXt.out
                   clear hu
                   go_simp
                   exact ⟨rfl, rfl⟩
                 go_simp
                 refine hK _ ?_
                 clear hK K)
          refine wpH_nil ?_
          simp only [List.drop_succ_cons, List.drop_zero]
          clear S HS
          obtain ⟨u6, hr6, hm6, hk6, hz6, hd6⟩ := (HM7.out.keep ((Keep.refl (fun _ => False) w7).drew) (fun e => e)).run_update Tryz.underlying3 Tryz.underlying94 hwf (.string t)
          rw [← HSt2.out] at hm6
          have HM6 := Lib.hid hm6
          have HK6 := Lib.hid ((HK7.out.drew).trans hk6 (fun _ _ e => e))
          clear hm6 hk6 hz6 hd6
          go_wp2
          go_roundw
          case rel => exact ⟨m + 1, by omega, rfl, by rw [HXr.out], ⟨_, HM6.out⟩, HK6.out⟩
          case measure => simp [intOf]; omega
        · have g2 : decide ((m : Int) < (n : Int)) = false := by simp; omega
          have g2' : decide (m < n) = false := by simpa using hlt2
          obtain rfl : m = n := by omega
          have hsl := HLs.out
          rw [List.take_of_length_le (by rw [HN.out]; exact Nat.le_refl _)] at hsl
          have HSl := Lib.hid hsl
          have HGo := Lib.hid (goOn_any hsl.at_ (j + 1) (by omega) hnx (by show L.used ≤ 65536; omega) hsq)
          have w9 : IntKind.i64.wrap ((j : Int) + 1) = (j : Int) + 1 := wrapI (by omega) (by omega)
          clear hsl
          go_wp2_with (go_at_call 86; refine (HGo.out).mono ?_; rintro e w8 ⟨rfl, hst8⟩
                       have HSt8 := Lib.hid hst8
                       clear hst8)
          go_ret2
          exact ⟨rfl, _, HSl.out.trans HSt8.out⟩
end Go.Proofs.YtalgheocjnajlaaGreatDoor
