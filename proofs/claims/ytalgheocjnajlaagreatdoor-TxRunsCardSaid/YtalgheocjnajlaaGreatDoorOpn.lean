/-
  THE LOG, walked: Open on any disk that bears a log.
-/
import Derived.Test.YtalgheocjnajlaaGreatDoorRcv
namespace Go.Proofs.YtalgheocjnajlaaGreatDoor
open Go.RowKit Go.MapKept
attribute [local go_sem] gives givesH
set_option maxRecDepth 100000

/-- the log after j records -/
def LogS.recd (L : LogS) (tail seq0 : Nat) (recs : List Grp) (j no : Nat) : LogS := { L with tail := tail, next := (tail + usedOf (recs.take j)) % L.ring, used := usedOf (recs.take j), seq := seq0 + j, over := overAll (recs.take j), no := no }
theorem dropWhile_nil (p : UInt8 → Bool) (l : List UInt8) (h : l.dropWhile p = []) : ∀ x ∈ l, p x = true := by
  induction l with
  | nil => intro x hx; cases hx
  | cons c l ih =>
    rw [List.dropWhile_cons] at h
    cases hp : p c with
    | false => rw [hp] at h; cases h
    | true =>
      rw [hp] at h
      intro x hx
      rcases List.mem_cons.1 hx with rfl | hx
      · exact hp
      · exact ih h x hx
theorem takeWhile_mem (p : UInt8 → Bool) (l : List UInt8) : ∀ x ∈ l.takeWhile p, p x = true := by
  induction l with
  | nil => intro x hx; cases hx
  | cons c l ih =>
    intro x hx
    rw [List.takeWhile_cons] at hx
    cases hp : p c with
    | false => rw [hp] at hx; cases hx
    | true =>
      rw [hp] at hx
      rcases List.mem_cons.1 hx with rfl | hx
      · exact hp
      · exact ih x hx
theorem trim_some (l : List UInt8) (h : (72 : UInt8) ∈ l) : Lib.trimB l 0 ≠ [] := by
  intro he
  have hs : l = Lib.trimRightB l 0 ++ (l.reverse.takeWhile (· == 0)).reverse := by
    unfold Lib.trimRightB
    rw [← List.reverse_append, List.takeWhile_append_dropWhile, List.reverse_reverse]
  rw [hs] at h
  have h1 := dropWhile_nil _ _ he
  rcases List.mem_append.1 h with h | h
  · exact absurd (h1 72 h) (by decide)
  · have h2 := takeWhile_mem _ _ _ (List.mem_reverse.1 h)
    exact absurd h2 (by decide)
theorem head_mem (tail seq : Nat) : (72 : UInt8) ∈ (headS tail seq).data.toList := by
  unfold headS
  rw [fullS_list]
  simp
theorem trim_head (tail seq : Nat) : (⟨(Lib.trimB (headS tail seq).data.toList 0).toArray⟩ : ByteArray) ≠ ByteArray.empty := by
  intro e
  apply trim_some _ (head_mem tail seq)
  have := congrArg (fun s : ByteArray => s.data.toList) e
  simpa using this
set_option maxHeartbeats 4000000 in
theorem open_any {w : World} {bd : Nat} {D : DiskS} {d : Dk} {homes N : Nat} {W : Int → ByteArray} (h : DiskAt w bd D) (hd : DkOf D d) (hup : d.down = false) (hcl : d.writes = []) (ring : Nat) (h1 : 4 ≤ ring) (h2 : ring ≤ 4096) (h3 : D.size = ring + 1 + homes) (h4 : 1 ≤ homes) (hN : N < 4611686018427387904)
    (hb : Bears d.firm ring homes N W) :
    Calls Tryz.prog 9 #[.pointer (some ⟨bd, 0, none⟩), .int .i64 ring] w fun e w' => ∃ bl L, e = .returned (.tuple #[.pointer (some ⟨bl, 0, none⟩), .int .i64 0]) ∧
      LogUp w' bl L d N W ∧ L.D = D ∧ L.bd = bd ∧ L.ring = ring ∧ w.heap.size ≤ bl ∧ w.heap.size ≤ L.bo ∧ Keep (D.foot bd) w w' := by
  obtain ⟨tail, seq0, recs, hdur, hsq, hW⟩ := hb
  have hsz := h.size
  have htl := hdur.tail_
  have hrd : ∀ i, D.read i = d.firm i := fun i => by
    rw [hd.read]; unfold Dk.read; rw [hcl, seen_nil]
  have e1 : decide ((ring : Int) < 4) = false := by simp; omega
  have e2 : decide ((4096 : Int) < ring) = false := by simp; omega
  have e4 : IntKind.i64.wrap ((ring : Int) + 2) = (ring : Int) + 2 := wrapI (by omega) (by omega)
  have e3 : decide ((D.size : Int) < (ring : Int) + 2) = false := by simp; omega
  have H1 := Lib.hid (fun u (hu : DiskAt u bd D) => diskSize_any hu.cells)
  have H2 := Lib.hid (fun u (hu : DiskAt u bd D) => diskDown_any hu.cells)
  have H3 := Lib.hid (fun u (hu : DiskAt u bd D) => diskRead_any hu (i := 0) (by decide))
  have hdd : D.down = false := hd.down.trans hup
  have ds : D.says 0 = .tuple #[.string (d.firm 0), .int .i64 0] := by
    have hin : (0 : Int) ≤ 0 ∧ (0 : Int) < D.size := by omega
    unfold DiskS.says; rw [hdd, if_pos hin, hrd]; rfl
  rw [ds] at H3
  rw [hdd] at H2
  have HN := Lib.hid (new2 w (Obj.map #[] 0) (Obj.cells #[.pointer (some ⟨bd, 0, none⟩), .int .i64 ring, .int .i64 0, .int .i64 0, .int .i64 0, .int .u64 0, .map (some w.heap.size), .bool false] 99))
  have H0 : LogAt ((w.alloc (Obj.map #[] 0)).alloc (Obj.cells #[.pointer (some ⟨bd, 0, none⟩), .int .i64 ring, .int .i64 0, .int .i64 0, .int .i64 0, .int .u64 0, .map (some w.heap.size), .bool false] 99)) (w.heap.size + 1) (freshLog bd D ring w.heap.size) := by
    obtain ⟨n1, n2, nb⟩ := HN.out
    refine ⟨n2, h.still nb, IMap_empty n1, ⟨?_, ?_, ?_⟩, ?_, h1, h2, by show ring + 2 ≤ D.size; omega⟩
    · show w.heap.size + 1 ≠ w.heap.size; omega
    · intro hf; have := h.foot_lt hf; omega
    · intro hf; have hlt : w.heap.size < w.heap.size := h.foot_lt hf; omega
    · intro i s hs; cases hs
  have HB := Lib.hid HN.out.2.2
  have HL := Lib.hid H0
  have HD := Lib.hid h
  have HDk := Lib.hid hd
  have HDur := Lib.hid hdur
  have HW := Lib.hid hW
  have HRd := Lib.hid hrd
  -- recover from any state
  have hrec : ∀ u j no, j ≤ recs.length → LogAt u (w.heap.size + 1) ((freshLog bd D ring w.heap.size).recd tail seq0 recs j no) →
      Calls Tryz.prog 51 #[.pointer (some ⟨w.heap.size + 1, 0, none⟩)] u fun e w' =>
        (j < recs.length ∧ e = .returned (.tuple #[.bool true, .int .i64 0]) ∧ ∃ no', LogAt w' (w.heap.size + 1) ((freshLog bd D ring w.heap.size).recd tail seq0 recs (j + 1) no') ∧ Keep ((freshLog bd D ring w.heap.size).foot (w.heap.size + 1)) u w') ∨
        (j = recs.length ∧ e = .returned (.tuple #[.bool false, .int .i64 0]) ∧ Below u.heap.size u w') := fun u j no hj hu => by
    have hmod : (tail + usedOf (recs.take j)) % ring < ring := Nat.mod_lt _ (by omega)
    by_cases hlt : j < recs.length
    · have hra := (hdur.chain j hlt).mod
      have hgd := hdur.good _ (List.getElem_mem hlt)
      have hus := usedOf_take_succ recs j hlt
      have hul := usedOf_take_le recs (j + 1)
      have hue := hdur.used
      refine (recover_rec hu hdd hmod (by show seq0 + j + 1 < _; omega) (l := recs[j]) ?_ ?_ (by show usedOf (recs.take j) + secs _ + 1 ≤ ring; omega)).mono (fun e w' hh => .inl ⟨hlt, hh.1, ?_⟩)
      · have e : (fun i => D.read i) = d.firm := funext hrd
        show RecAt (fun i => D.read i) ring ((tail + usedOf (recs.take j)) % ring) (seq0 + j + 1) recs[j]
        rw [e]
        exact hra
      · have e : ((freshLog bd D ring w.heap.size).recd tail seq0 recs j no).homes = homes := by show D.size - 1 - ring = homes; omega
        rw [e]; exact hgd
      · obtain ⟨no', hst⟩ := hh.2
        refine ⟨no', ?_, hst.keep⟩
        have hat := hst.at_
        have e1 : overAll (recs.take (j + 1)) = lastO (overAll (recs.take j)) recs[j] := by rw [List.take_succ_eq_append_getElem hlt, overAll_snoc]
        have e2 : (tail + usedOf (recs.take (j + 1))) % ring = ((tail + usedOf (recs.take j)) % ring + (secs recs[j].length + 1)) % ring := by rw [hus, Nat.mod_add_mod, Nat.add_assoc]
        unfold LogS.recd at hat ⊢
        rw [e1, show (freshLog bd D ring w.heap.size).ring = ring from rfl, e2, hus, ← Nat.add_assoc]
        exact hat
    · obtain rfl : j = recs.length := by omega
      refine (recover_end hu hdd hmod (by show seq0 + recs.length + 1 < _; omega) ?_).mono (fun e w' hh => .inr ⟨rfl, hh.1, hh.2⟩)
      show byteN (D.read ((1 + (tail + usedOf (recs.take recs.length)) % ring % ring : Nat) : Int)) 0 = 67 → toldN ((D.read ((1 + (tail + usedOf (recs.take recs.length)) % ring % ring : Nat) : Int)).extract 1 9) ≠ seq0 + recs.length + 1
      rw [hrd, Nat.mod_mod]
      intro hb0
      have := hdur.old _ hmod hb0
      omega
  have HR := Lib.hid hrec
  clear H0 HN hrec h hd hdur hW hrd ds
  have hmm := @run_makeMap Tryz.prog
  have hfin : ∀ u no, LogAt u (w.heap.size + 1) ((freshLog bd D ring w.heap.size).recd tail seq0 recs recs.length no) → LogUp u (w.heap.size + 1) ((freshLog bd D ring w.heap.size).recd tail seq0 recs recs.length no) d N W := fun u no hu => by
    have e : ((freshLog bd D ring w.heap.size).recd tail seq0 recs recs.length no).homes = homes := by show D.size - 1 - ring = homes; omega
    refine ⟨hu, HDk.out, rfl, hup, hcl, ⟨seq0, recs, ?_, ?_, ?_, rfl, ?_, fun k hk => HW.out k (by rw [← e]; exact hk)⟩, by show seq0 + recs.length ≤ N; omega⟩
    · rw [e]; exact HDur.out
    · show usedOf (recs.take recs.length) = _
      rw [List.take_length]
    · show (tail + usedOf (recs.take recs.length)) % ring = _
      rw [List.take_length]; rfl
    · show overAll (recs.take recs.length) = _
      rw [List.take_length]
  have HFin := Lib.hid hfin
  clear hfin
  obtain ⟨z, hzz⟩ : ∃ z, d.firm 0 = z := ⟨_, rfl⟩
  have hz5 : z.size = 512 := by rw [← hzz, ← HRd.out]; exact D.read_size HD.out 0
  rw [hzz] at H3
  have H4 := Lib.hid (fun u => Tryz.strings_Trim_one z 0 (by decide) u (by omega))
  have HSz := Lib.hid h3
  clear h3
  rcases HDur.out.head with ⟨hz, rfl, rfl⟩ | hz
  · rw [hzz] at hz
    have ht : (⟨(Lib.trimB z.data.toList 0).toArray⟩ : ByteArray) = ByteArray.empty := by rw [hz]; exact trim_zeros
    rw [ht] at H4
    clear hz hzz ht
    go_enter Tryz.func9, Tryz.ntmps9
    go_wp2_with (first
      | (go_at_call 46; refine (H1.out _ HD.out).mono ?_; rintro e w1 ⟨rfl, rfl⟩)
      | (go_at_call 47; refine (H2.out _ HD.out).mono ?_; rintro e w1 ⟨rfl, rfl⟩)
      | (go_at_call 48
         refine (H3.out _ (HD.out.still HB.out)).mono ?_
         rintro e w1 ⟨rfl, hb1⟩
         have HL1 := Lib.hid (HL.out.still hb1)
         have HB1 := Lib.hid (HB.out.trans (hb1.mono HB.out.size))
         clear hb1)
      | (go_at_call 49
         refine (H4.out _).mono ?_
         rintro e w2 ⟨rfl, hw2⟩
         have hb2 : Below w1.heap.size w1 w2 := by rcases hw2 with rfl | rfl <;> exact ⟨rfl, rfl, rfl, Nat.le_refl _, fun _ _ => rfl⟩
         have HL2 := Lib.hid (HL1.out.still hb2)
         have HB2 := Lib.hid (HB1.out.trans (hb2.mono HB1.out.size))
         clear hw2 hb2
         obtain ⟨c0, c1, c2, c3, c4, c5, c6, c7⟩ := lCells HL2.out.cells
         have f3 := frozen_not HL2.out.cells 3))
    have hid3 : Below w2.heap.size w2 (w2.setCell ⟨w.heap.size + 1, 3, none⟩ (.int .i64 0)) := set_idle HL2.out.cells 3 _ rfl
    have hfr : freshLog bd D ring w.heap.size = (freshLog bd D ring w.heap.size).recd 0 0 recs 0 0 := by
      unfold LogS.recd freshLog
      simp [usedOf, overAll]
    have hA0 := HL2.out.still hid3
    rw [hfr] at hA0
    have HA0 := Lib.hid hA0
    have HK0 : Hid (Keep (D.foot bd) w (w2.setCell ⟨w.heap.size + 1, 3, none⟩ (.int .i64 0))) := Lib.hid (Keep.ofBelow (HB2.out.trans (hid3.mono HB2.out.size)))
    clear hid3 hfr hA0
    go_loopw [9] (fun _ wr => ∃ j no, j ≤ recs.length ∧ LogAt wr (w.heap.size + 1) ((freshLog bd D ring w.heap.size).recd 0 0 recs j no) ∧ Keep (D.foot bd) w wr) (fun _ wr => ring - (intOf ((wr.cell? ⟨w.heap.size + 1, 4, none⟩).getD undef)).toNat)
    case atStart => exact ⟨0, 0, Nat.zero_le _, HA0.out, HK0.out⟩
    case round =>
      obtain ⟨j, no, hj, hat, hkp⟩ := hrel
      have HAt := Lib.hid hat
      have HKp := Lib.hid hkp
      have hcs : wr.cell? ⟨w.heap.size + 1, 4, none⟩ = some (.int .i64 (usedOf (recs.take j) : Nat)) := (lCells hat.cells).2.2.2.2.1
      have HCs := Lib.hid hcs
      have hrr := HR.out wr j no hj hat
      clear hat hkp hcs
      by_cases hlt : j < recs.length
      · have hrr2 := hrr.mono (fun e w' hh => hh.resolve_right (fun h => by omega))
        have HRr := Lib.hid hrr2
        clear hrr hrr2
        go_wp2_with (go_at_call 51; refine (HRr.out).mono ?_; rintro e w4 ⟨_, rfl, no', hat4, hk4⟩
                     have HAt4 := Lib.hid hat4
                     have HK4 := Lib.hid hk4
                     clear hat4 hk4)
        go_roundw
        case rel =>
          refine ⟨j + 1, no', by omega, HAt4.out, HKp.out.trans HK4.out (fun i hi hf => ?_)⟩
          rcases hf with e | e | e
          · omega
          · have e2 : i = w.heap.size := e
            omega
          · exact e
        case measure =>
          have hc4 : w4.cell? ⟨w.heap.size + 1, 4, none⟩ = some (.int .i64 (usedOf (recs.take (j + 1)) : Nat)) := (lCells HAt4.out.cells).2.2.2.2.1
          have h1' := usedOf_take_succ recs j hlt
          have h2' := usedOf_take_le recs (j + 1)
          have h3' := HDur.out.used
          rw [hc4, HCs.out]
          simp [intOf]
          omega
      · have hrr2 := hrr.mono (fun e w' hh => hh.resolve_left (fun h => hlt h.1))
        have HRr := Lib.hid hrr2
        obtain rfl : j = recs.length := by omega
        clear hrr hrr2
        go_wp2_with (go_at_call 51; refine (HRr.out).mono ?_; rintro e w4 ⟨_, rfl, hb4⟩)
        go_ret2
        exact ⟨_, _, rfl, HFin.out _ _ (HAt.out.still hb4), rfl, rfl, rfl, Nat.le_succ _, Nat.le_refl _, HKp.out.trans (Keep.ofBelow (S := fun _ => False) hb4) (fun _ _ e => e.elim)⟩
  · rw [hzz] at hz
    have ht := trim_head tail seq0
    rw [← hz] at ht
    obtain ⟨tz, htz⟩ : ∃ tz : ByteArray, ⟨(Lib.trimB z.data.toList 0).toArray⟩ = tz := ⟨_, rfl⟩
    rw [htz] at H4 ht
    have hz0 := head_0 tail seq0
    have hz1 := head_tail tail seq0 (by omega)
    have hz2 := head_seq tail seq0 (by omega)
    rw [← hz] at hz0 hz1 hz2
    have l0 : 0 < z.size := by omega
    have l13 : 13 ≤ z.size := by omega
    have d1 : (((z[0]'l0).toNat : Int) == 72) = true := by have := byteN_get z 0 l0; simp; omega
    have hx : ∀ a b, (z.extract a b).size ≤ 9223372036854775807 := fun a b => by rw [ByteArray.size_extract]; omega
    have H5 : Hid (∀ u : World, Calls Tryz.prog 50 #[.string (z.extract 1 5)] u fun e w' => e = .returned (.int .u64 tail) ∧ u = w') := Lib.hid (fun u => by have := told_any _ (hx 1 5) u; rw [hz1] at this; exact this)
    have H6 : Hid (∀ u : World, Calls Tryz.prog 50 #[.string (z.extract 5 13)] u fun e w' => e = .returned (.int .u64 seq0) ∧ u = w') := Lib.hid (fun u => by have := told_any _ (hx 5 13) u; rw [hz2] at this; exact this)
    have d2 : decide ((tail : Int) < (ring : Int)) = true := by simp; omega
    have d3 : IntKind.u64.wrap (ring : Int) = (ring : Int) := by rw [IntKind.wrap_u64]; omega
    have d4 : IntKind.i64.wrap (tail : Int) = (tail : Int) := wrapI (by omega) (by omega)
    have ht2 : tz ≠ (⟨#[]⟩ : ByteArray) := ht
    have d5 : tz.toList.isEmpty = false := by
      rw [ByteArray.toList_eq]
      cases hl : tz.data.toList with
      | nil => exact absurd (ByteArray.ext (Array.ext' hl)) ht2
      | cons _ _ => rfl
    clear hz hzz htz hz0 hz1 hz2 hx
    go_enter Tryz.func9, Tryz.ntmps9
    go_wp2_with (first
      | (go_at_call 46; refine (H1.out _ HD.out).mono ?_; rintro e w1 ⟨rfl, rfl⟩)
      | (go_at_call 47; refine (H2.out _ HD.out).mono ?_; rintro e w1 ⟨rfl, rfl⟩)
      | (go_at_call 48
         refine (H3.out _ (HD.out.still HB.out)).mono ?_
         rintro e w1 ⟨rfl, hb1⟩
         have HL1 := Lib.hid (HL.out.still hb1)
         have HB1 := Lib.hid (HB.out.trans (hb1.mono HB.out.size))
         clear hb1)
      | (go_at_call 49
         refine (H4.out _).mono ?_
         rintro e w2 ⟨rfl, hw2⟩
         have hb2 : Below w1.heap.size w1 w2 := by rcases hw2 with rfl | rfl <;> exact ⟨rfl, rfl, rfl, Nat.le_refl _, fun _ _ => rfl⟩
         have HL2 := Lib.hid (HL1.out.still hb2)
         have HB2 := Lib.hid (HB1.out.trans (hb2.mono HB1.out.size))
         clear hw2 hb2
         obtain ⟨c0, c1, c2, c3, c4, c5, c6, c7⟩ := lCells HL2.out.cells
         have f2 := frozen_not HL2.out.cells 2
         have f3 := frozen_not HL2.out.cells 3
         have f5 := frozen_not HL2.out.cells 5)
      | (go_at_call 50; first | (with_reducible refine (H5.out _).mono ?_; rintro e w3 ⟨rfl, rfl⟩) | (with_reducible refine (H6.out _).mono ?_; rintro e w3 ⟨rfl, rfl⟩)))
    obtain ⟨S, hS⟩ : ∃ S : World → Prop, ∀ u, S u ↔ Keep (fun k => k = w.heap.size + 1) (w2) u := ⟨fun u => Keep (fun k => k = w.heap.size + 1) (w2) u, fun _ => Iff.rfl⟩
    have HS := Lib.hid hS
    clear hS
    refine wp_region_ord 12 [(0, true), (1, true), (2, true), (3, true), (6, true), (7, true), (4, false), (5, true), (8, false), (9, true), (10, true), (11, false)] S (by kernel_rfl) (by kernel_rfl) ((HS.out _).2 (Keep.refl _ _).drew) ?_
    iterate 6
      first
        | (refine wpH_passed rfl (by rfl) (fun K hK => ?_); go_simp; refine hK _ ?_; clear hK K)
        | (first
             | refine wpH_read rfl rfl (fun K hK => ?_)
             | refine wpH_readw rfl (by rfl) (fun K hK => ?_)
           apply Exists.intro
           refine ⟨fun u hu => ?_, ?_⟩
           · have hu := (HS.out u).1 hu
             clear hu
             go_simp
             exact ⟨rfl, rfl⟩
           go_simp
           refine hK _ ?_
           clear hK K)
    refine wpH_do rfl rfl (fun K hK => ?_)
    go_simp
    go_at_call 50
    refine (H5.out _).mono ?_
    rintro e u5 ⟨rfl, hb5⟩
    subst hb5
    have k5 : Keep (fun k => k = w.heap.size + 1) w2 w2.drew := (Keep.refl _ _).drew
    refine hK _ _ ((HS.out _).2 k5) ?_
    clear hK K
    iterate 1
      first
        | (refine wpH_passed rfl (by rfl) (fun K hK => ?_); go_simp; refine hK _ ?_; clear hK K)
        | (first
             | refine wpH_read rfl rfl (fun K hK => ?_)
             | refine wpH_readw rfl (by rfl) (fun K hK => ?_)
           apply Exists.intro
           refine ⟨fun u hu => ?_, ?_⟩
           · have hu := (HS.out u).1 hu
             clear hu
             go_simp
             exact ⟨rfl, rfl⟩
           go_simp
           refine hK _ ?_
           clear hK K)
    refine wpH_do rfl rfl (fun K hK => ?_)
    go_simp
    go_at_call 50
    refine (H6.out _).mono ?_
    rintro e u6 ⟨rfl, hb6⟩
    subst hb6
    refine hK _ _ ((HS.out _).2 k5) ?_
    clear hK K
    iterate 2
      first
        | (refine wpH_passed rfl (by rfl) (fun K hK => ?_); go_simp; refine hK _ ?_; clear hK K)
        | (first
             | refine wpH_read rfl rfl (fun K hK => ?_)
             | refine wpH_readw rfl (by rfl) (fun K hK => ?_)
           apply Exists.intro
           refine ⟨fun u hu => ?_, ?_⟩
           · have hu := (HS.out u).1 hu
             clear hu
             go_simp
             exact ⟨rfl, rfl⟩
           go_simp
           refine hK _ ?_
           clear hK K)
    refine wpH_do rfl rfl (fun K hK => ?_)
    go_simp
    refine hK _ _ ((HS.out _).2 (k5.setCell (p := ⟨w.heap.size + 1, 2, none⟩) (fun _ => rfl) _)) ?_
    clear hK K
    refine wpH_nil ?_
    simp only [List.drop_succ_cons, List.drop_zero]
    clear S HS
    go_wp2
    have kS : Keep (· = w.heap.size + 1) w2 (((w2.setCell ⟨w.heap.size + 1, 2, none⟩ (.int .i64 tail)).setCell ⟨w.heap.size + 1, 5, none⟩ (.int .u64 seq0)).setCell ⟨w.heap.size + 1, 3, none⟩ (.int .i64 tail)).drew :=
      ((((Keep.refl (· = w.heap.size + 1) w2).setCell (p := ⟨w.heap.size + 1, 2, none⟩) (fun _ => rfl) _).setCell (p := ⟨w.heap.size + 1, 5, none⟩) (fun _ => rfl) _).setCell (p := ⟨w.heap.size + 1, 3, none⟩) (fun _ => rfl) _).drew
    have hA0 := (HL2.out.turn tail tail 0 seq0 false kS (by
      have hst := HL2.out.cells
      show (((w2.setCell ⟨w.heap.size + 1, 2, none⟩ (.int .i64 tail)).setCell ⟨w.heap.size + 1, 5, none⟩ (.int .u64 seq0)).setCell ⟨w.heap.size + 1, 3, none⟩ (.int .i64 tail)).heap[w.heap.size + 1]? = _
      simp [World.setCell, Array.getElem?_modify, hst, LogS.cells, freshLog])).at_
    have hfr : ({ freshLog bd D ring w.heap.size with tail := tail, next := tail, used := 0, seq := seq0, down := false } : LogS) = (freshLog bd D ring w.heap.size).recd tail seq0 recs 0 0 := by
      unfold LogS.recd freshLog
      simp [usedOf, overAll, Nat.mod_eq_of_lt htl]
    rw [hfr] at hA0
    have HA0 := Lib.hid hA0
    have HK0 : Hid (Keep (D.foot bd) w (((w2.setCell ⟨w.heap.size + 1, 2, none⟩ (.int .i64 tail)).setCell ⟨w.heap.size + 1, 5, none⟩ (.int .u64 seq0)).setCell ⟨w.heap.size + 1, 3, none⟩ (.int .i64 tail)).drew) := Lib.hid ((Keep.ofBelow HB2.out).trans kS (fun i hi e => by omega))
    clear hfr hA0 kS
    go_loopw [9] (fun _ wr => ∃ j no, j ≤ recs.length ∧ LogAt wr (w.heap.size + 1) ((freshLog bd D ring w.heap.size).recd tail seq0 recs j no) ∧ Keep (D.foot bd) w wr) (fun _ wr => ring - (intOf ((wr.cell? ⟨w.heap.size + 1, 4, none⟩).getD undef)).toNat)
    case atStart => exact ⟨0, 0, Nat.zero_le _, HA0.out, HK0.out⟩
    case round =>
      obtain ⟨j, no, hj, hat, hkp⟩ := hrel
      have HAt := Lib.hid hat
      have HKp := Lib.hid hkp
      have hcs : wr.cell? ⟨w.heap.size + 1, 4, none⟩ = some (.int .i64 (usedOf (recs.take j) : Nat)) := (lCells hat.cells).2.2.2.2.1
      have HCs := Lib.hid hcs
      have hrr := HR.out wr j no hj hat
      clear hat hkp hcs
      by_cases hlt : j < recs.length
      · have hrr2 := hrr.mono (fun e w' hh => hh.resolve_right (fun h => by omega))
        have HRr := Lib.hid hrr2
        clear hrr hrr2
        go_wp2_with (go_at_call 51; refine (HRr.out).mono ?_; rintro e w4 ⟨_, rfl, no', hat4, hk4⟩
                     have HAt4 := Lib.hid hat4
                     have HK4 := Lib.hid hk4
                     clear hat4 hk4)
        go_roundw
        case rel =>
          refine ⟨j + 1, no', by omega, HAt4.out, HKp.out.trans HK4.out (fun i hi hf => ?_)⟩
          rcases hf with e | e | e
          · omega
          · have e2 : i = w.heap.size := e
            omega
          · exact e
        case measure =>
          have hc4 : w4.cell? ⟨w.heap.size + 1, 4, none⟩ = some (.int .i64 (usedOf (recs.take (j + 1)) : Nat)) := (lCells HAt4.out.cells).2.2.2.2.1
          have h1' := usedOf_take_succ recs j hlt
          have h2' := usedOf_take_le recs (j + 1)
          have h3' := HDur.out.used
          rw [hc4, HCs.out]
          simp [intOf]
          omega
      · have hrr2 := hrr.mono (fun e w' hh => hh.resolve_left (fun h => hlt h.1))
        have HRr := Lib.hid hrr2
        obtain rfl : j = recs.length := by omega
        clear hrr hrr2
        go_wp2_with (go_at_call 51; refine (HRr.out).mono ?_; rintro e w4 ⟨_, rfl, hb4⟩)
        go_ret2
        exact ⟨_, _, rfl, HFin.out _ _ (HAt.out.still hb4), rfl, rfl, rfl, Nat.le_succ _, Nat.le_refl _, HKp.out.trans (Keep.ofBelow (S := fun _ => False) hb4) (fun _ _ e => e.elim)⟩
end Go.Proofs.YtalgheocjnajlaaGreatDoor
