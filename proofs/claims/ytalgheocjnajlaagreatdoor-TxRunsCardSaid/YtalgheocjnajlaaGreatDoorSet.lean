/-
  THE LOG, walked: settle.
-/
import Derived.Test.YtalgheocjnajlaaGreatDoorCra
import Derived.Test.YtalgheocjnajlaaGreatDoorRec
namespace Go.Proofs.YtalgheocjnajlaaGreatDoor
open Go.RowKit Go.MapKept
attribute [local go_sem] gives givesH
set_option maxRecDepth 100000

/-- as Ran; the blocks X are none of the log's -/
def RanX (X : Nat → Prop) (bl : Nat) (w : World) (L : LogS) (d : Dk) (ops : List DOp) (w' : World) : Prop := ∃ D', LogStep bl w L w' { L with D := D' } ∧ DkOf D' (d.run ops) ∧ ∀ k, X k → k < w'.heap.size ∧ ¬ ({ L with D := D' } : LogS).foot bl k
section
variable {X : Nat → Prop} {bl : Nat} {w w' w'' : World} {L : LogS} {d : Dk} {ops : List DOp}
theorem RanX.ran (h : RanX X bl w L d ops w') : Ran bl w L d ops w' := by
  obtain ⟨D', h1, h2, _⟩ := h
  exact ⟨D', h1, h2⟩
theorem RanX.still (h : RanX X bl w L d ops w') (hb : Below w'.heap.size w' w'') : RanX X bl w L d ops w'' := by
  obtain ⟨D', h1, h2, h3⟩ := h
  exact ⟨D', h1.trans (LogStep.still h1.at_ hb), h2, fun k hk => ⟨Nat.lt_of_lt_of_le (h3 k hk).1 hb.size, (h3 k hk).2⟩⟩
theorem RanX.drew (h : RanX X bl w L d ops w') : RanX X bl w L d ops w'.drew := h.still ⟨rfl, rfl, rfl, Nat.le_refl _, fun _ _ => rfl⟩
theorem RanX.turn {D' : DiskS} {o : DOp} (h1 : LogStep bl w L w' { L with D := D' }) (h3 : ∀ k, X k → k < w'.heap.size ∧ ¬ ({ L with D := D' } : LogS).foot bl k) {D2 : DiskS} (hs : DiskStep L.bd w' D' w'' D2) (hd : DkOf D2 (d.run (ops ++ [o]))) :
    RanX X bl w L d (ops ++ [o]) w'' ∧ Keep (fun k => ¬ X k) w' w'' := by
  have hst := h1.at_.disk_step hs
  refine ⟨⟨D2, h1.trans hst, hd, fun k hk => ⟨Nat.lt_of_lt_of_le (h3 k hk).1 hs.keep.size, fun hf => ?_⟩⟩, hst.keep.mono (fun k _ hf hx => (h3 k hx).2 hf)⟩
  rcases hst.own k hf with e | e
  · exact (h3 k hk).2 e
  · have := (h3 k hk).1; omega
theorem RanX.write (h : RanX X bl w L d ops w') (hup : (d.run ops).down = false) (hlen : d.writes.length + ops.length < 1000000000) {i : Int} (hi : 0 ≤ i ∧ i < (L.D.size : Nat)) (s : ByteArray) (hs : s.size ≤ 512) :
    Calls Tryz.prog 112 #[.pointer (some ⟨L.bd, 0, none⟩), .int .i64 i, .string s] w' fun e w'' => e = .returned (.int .i64 (if (d.run (ops ++ [.write i (fullS s)])).down then 3 else 0)) ∧ RanX X bl w L d (ops ++ [.write i (fullS s)]) w'' ∧ Keep (fun k => ¬ X k) w' w'' := by
  obtain ⟨D', hst, hd, hx⟩ := h
  have hsz : D'.size = L.D.size := hst.size
  have hl := d.run_writes_le ops
  refine (diskWrite_any hst.at_.disk hd hup (by omega) ⟨hi.1, by rw [← hd.size, hsz]; exact hi.2⟩ s hs).mono fun e u ⟨he, D2, hs2, hd2⟩ => ?_
  rw [Dk.op_full _ _ _ hs, ← Dk.run_snoc] at he hd2
  exact ⟨he, RanX.turn hst hx hs2 hd2⟩
theorem RanX.flush (h : RanX X bl w L d ops w') (hup : (d.run ops).down = false) :
    Calls Tryz.prog 113 #[.pointer (some ⟨L.bd, 0, none⟩)] w' fun e w'' => e = .returned (.int .i64 (if (d.run (ops ++ [.flush])).down then 3 else 0)) ∧ RanX X bl w L d (ops ++ [.flush]) w'' ∧ Keep (fun k => ¬ X k) w' w'' := by
  obtain ⟨D', hst, hd, hx⟩ := h
  refine (diskFlush_any hst.at_.disk hd hup).mono fun e u ⟨he, D2, hs2, hd2⟩ => ?_
  rw [← Dk.run_snoc] at he hd2
  exact ⟨he, RanX.turn hst hx hs2 hd2⟩
end
theorem homeP_snoc (ring : Nat) (l : Grp) (x : Nat × ByteArray) : homeP ring (l ++ [x]) = homeP ring l ++ [(1 + (ring : Int) + (x.1 : Int), x.2)] := by simp [homeP]
theorem homeP_take (ring : Nat) (l : Grp) (j : Nat) : ∃ q, homeP ring l = homeP ring (l.take j) ++ q := ⟨homeP ring (l.drop j), by unfold homeP; rw [← List.map_append, List.take_append_drop]⟩
theorem setOps_prefix (ring next seq : Nat) (l : Grp) (j : Nat) : ∃ q, setOps ring next seq l = wops (homeP ring (l.take j)) ++ q := by
  obtain ⟨q, hq⟩ := homeP_take ring l j
  exact ⟨wops q ++ [.flush, .write 0 (headS next seq), .flush], by unfold setOps; rw [hq, wops_append, List.append_assoc]⟩
set_option maxHeartbeats 4000000 in
theorem settle_any {w : World} {bl : Nat} {L : LogS} {d : Dk} (h : LogAt w bl L) (hd : DkOf L.D d) (hup : d.down = false) (hlen : d.writes.length ≤ 100000)
    (hk : ∀ i, L.over i ≠ none → 0 ≤ i ∧ i < L.homes) (hnx : L.next < L.ring) (hsq : L.seq < 18446744073709551616) :
    Calls Tryz.prog 108 #[.pointer (some ⟨bl, 0, none⟩)] w fun e w' => ∃ l, GrpOf L.over l ∧
      (((d.run (setOps L.ring L.next L.seq l)).down = true ∧ e = .returned (.int .i64 3) ∧ Ran bl w L d (setOps L.ring L.next L.seq l) w') ∨
       ((d.run (setOps L.ring L.next L.seq l)).down = false ∧ e = .returned (.int .i64 0) ∧ ∃ D', LogStep bl w L w' { L with D := D', over := fun _ => none, no := 0, tail := L.next, used := 0 } ∧ DkOf D' (d.run (setOps L.ring L.next L.seq l)))) := by
  have hsz := h.disk.size
  have hring := h.ring
  have hhom : L.homes = L.D.size - 1 - L.ring := rfl
  have hno : L.no ≤ L.homes := h.over.count_le (fun i v hv => hk i (by
    intro e
    unfold strs at hv
    rw [e] at hv
    cases hv))
  obtain ⟨n, hn⟩ : ∃ n, L.no = n := ⟨_, rfl⟩
  rw [hn] at hno
  have hn6 : n ≤ 65536 := by omega
  have hov : IMap w L.bo (strs L.over) n := hn ▸ h.over
  have HSo := sorted_any hov hn6
  have HKy := Lib.hid (fun mb u => keys_any mb u)
  have HLg := Lib.hid h
  have HDk := Lib.hid hd
  have Hk0 := Lib.hid hk
  have HHom := Lib.hid hhom
  have HOv := Lib.hid hov
  have hbl : bl < w.heap.size := h.foot_lt (.inl rfl)
  have hfl : ∀ k, L.foot bl k → k < w.heap.size := fun k hk => h.foot_lt hk
  have HFl := Lib.hid hfl
  obtain ⟨c0, c1, c2, c3, c4, c5, c6, c7⟩ := lCells h.cells
  clear h hd hk hhom hov hn hno hfl
  go_enter Tryz.func108, Tryz.ntmps108
  go_wp2_with (first
    | (go_at_call 110; refine (HKy.out _ _).mono ?_; rintro e w1 ⟨rfl, rfl⟩)
    | (go_at_call 109; refine (HSo).mono ?_; rintro e w2 ⟨v2, ks, rfl, hks, hkl, hrow, hb2⟩
       obtain ⟨a2, c2, rfl⟩ := slice_formB hrow
       have HB2 := Lib.hid hb2
       have HR2 := Lib.hid hrow
       have HKs := Lib.hid hks
       have HKl := Lib.hid hkl
       clear hrow hks hkl hb2))
  obtain ⟨l, hl⟩ : ∃ l, grpOf L.over ks = l := ⟨_, rfl⟩
  have hG : GrpOf L.over l := hl ▸ HKs.out.grp (fun i hi => (Hk0.out i hi).1)
  have hll : l.length = n := by rw [← hl]; unfold grpOf; rw [List.length_map]; exact HKl.out
  have hlk : ∀ k, k < n → ∃ (x : Nat) (t : ByteArray), l[k]? = some (x, t) ∧ ks[k]? = some (x : Int) ∧ L.over (x : Int) = some t ∧ t.size = 512 ∧ x < L.homes := fun k hk => by
    obtain ⟨i, hi⟩ : ∃ i, ks[k]? = some i := ⟨_, List.getElem?_eq_getElem (by rw [HKl.out]; exact hk)⟩
    have hg := (HKs.out.mem i).1 (List.mem_of_getElem? hi)
    obtain ⟨h1, h2⟩ := Hk0.out i hg
    have e : ((i.toNat : Nat) : Int) = i := Int.toNat_of_nonneg h1
    obtain ⟨t, ht⟩ := Option.ne_none_iff_exists'.1 hg
    refine ⟨i.toNat, t, ?_, by rw [e]; exact hi, by rw [e]; exact ht, HLg.out.s512 i t ht, by omega⟩
    rw [← hl]
    unfold grpOf
    rw [List.getElem?_map, hi]
    simp [ht]
  have HG := Lib.hid hG
  have HLL := Lib.hid hll
  have HLk := Lib.hid hlk
  have hX0 : RanX (fun k => w.heap.size ≤ k ∧ k < w2.heap.size) bl w L d (wops (homeP L.ring (l.take 0))) w2 := by
    refine ⟨L.D, LogStep.still HLg.out HB2.out, HDk.out, fun k hk => ⟨hk.2, fun hf => ?_⟩⟩
    have := HFl.out k hf
    omega
  have HX0 := Lib.hid hX0
  obtain ⟨X, hX⟩ : ∃ X : Nat → Prop, X = fun k => w.heap.size ≤ k ∧ k < w2.heap.size := ⟨_, rfl⟩
  rw [← hX] at HX0
  have hXr : ∀ k, (Value.slice a2 n c2).ownBlock = some k → X k := fun k hk => by
    rw [hX]
    exact HR2.out.lt k hk
  have HXr := Lib.hid hXr
  clear hl hG hll hlk hX0 hX hXr
  go_loopw [16] (fun i wr => ∃ k : Nat, k ≤ n ∧ i = .int .i64 k ∧ RanX X bl w L d (wops (homeP L.ring (l.take k))) wr ∧ (d.run (wops (homeP L.ring (l.take k)))).down = false ∧ wr.ownsRow w.heap.size 3 1 (.slice a2 n c2) n (ks.map fun i => .int .i64 i)) (fun i _ => n - (intOf i).toNat)
  case atStart => exact ⟨0, by omega, rfl, HX0.out, hup, HR2.out⟩
  case round =>
    obtain ⟨k, hk, rfl, hran, hdn, hrow⟩ := hrel
    have HRan := Lib.hid hran
    have HDn := Lib.hid hdn
    have HR := Lib.hid hrow
    clear hran hdn hrow
    by_cases hlt : k < n
    · have g1 : decide ((k : Int) < (n : Int)) = true := by simp; omega
      have g1' : decide (k < n) = true := by simpa using hlt
      obtain ⟨x, t, hlx, hkx, hgx, ht5, hxh⟩ := HLk.out k hlt
      obtain ⟨ga, cb, hga, hcb, hcm, hgb⟩ := row_posB HR.out (by omega)
      obtain ⟨rfl, rfl⟩ : a2 = some ⟨ga, 0, none⟩ ∧ cb = c2 := by cases hga; exact ⟨rfl, rfl⟩
      clear hga
      have q0 := row_cells HR.out k _ (by rw [List.getElem?_map, hkx]; rfl)
      have htk : l.take (k + 1) = l.take k ++ [(x, t)] := by rw [List.take_add_one, hlx]; rfl
      have hhom := HHom.out
      have hx6 : x < 65536 := by omega
      have hwf : (Lit.int .i64 (x : Int)).wf = true := keyOk (by omega) (by omega)
      have hgs : strs L.over (x : Int) = some (.string t) := by unfold strs; rw [hgx]; rfl
      obtain ⟨pl, hpl⟩ : ∃ pl : Int, 1 + (L.ring : Int) + (x : Int) = pl := ⟨_, rfl⟩
      have w1 : IntKind.i64.wrap (1 + (L.ring : Int)) = 1 + (L.ring : Int) := wrapI (by omega) (by omega)
      have w2' : IntKind.i64.wrap pl = pl := wrapI (by omega) (by omega)
      have hpr : 0 ≤ pl ∧ pl < (L.D.size : Nat) := ⟨by omega, by omega⟩
      have hopl : (wops (homeP L.ring (l.take k))).length = k := by
        simp only [wops, homeP, List.length_map, List.length_take, HLL.out]; omega
      have HW := Lib.hid ((HRan.out.drew).write HDn.out (by rw [hopl]; omega) hpr t (by omega))
      have hop : wops (homeP L.ring (l.take k)) ++ [.write pl (fullS t)] = wops (homeP L.ring (l.take (k + 1))) := by
        rw [htk, homeP_snoc, wops_snoc, fullS_same t ht5, hpl]
      rw [hop] at HW
      obtain ⟨D', hst, hdk, hxx⟩ := HRan.out
      have HCe := Lib.hid hst.at_.cells
      have HOver := Lib.hid hst.at_.over
      have HGs := Lib.hid hgs
      have hk0 : (0 : Int) ≤ (k : Int) := by omega
      have hk1 : (k : Int) < (n : Int) := by omega
      clear hlx hkx hgx hgs htk hop hopl hst hdk hxx hpr
      cases hdd : (d.run (wops (homeP L.ring (l.take (k + 1))))).down with
      | true =>
        rw [hdd] at HW
        simp only [if_true] at HW
        have HDd := Lib.hid hdd
        clear hdd
        go_wp2
        obtain ⟨S, hS⟩ : ∃ S : World → Prop, ∀ u, S u ↔ Keep (fun _ => False) (wr) u := ⟨fun u => Keep (fun _ => False) (wr) u, fun _ => Iff.rfl⟩
        have HS := Lib.hid hS
        clear hS
        refine wp_region_ord 17 [(0, true), (1, true), (2, true), (3, true), (4, true), (5, true), (6, true), (7, true), (8, true), (9, true), (10, true), (11, true), (12, true), (13, true), (14, true), (15, true), (16, true)] S (by kernel_rfl) (by kernel_rfl) ((HS.out _).2 (Keep.refl _ _).drew) ?_
        iterate 17
          first
            | (refine wpH_passed rfl (by rfl) (fun K hK => ?_); go_simp; refine hK _ ?_; clear hK K)
            | (first
                 | refine wpH_read rfl rfl (fun K hK => ?_)
                 | refine wpH_readw rfl (by rfl) (fun K hK => ?_)
               apply Exists.intro
               refine ⟨fun u hu => ?_, ?_⟩
               · have hu := (HS.out u).1 hu
                 have c0 : u.cell? ⟨bl, 0, none⟩ = some (.pointer (some ⟨L.bd, 0, none⟩)) := (lCells (hu.at HCe.out (fun e => e))).1
                 have c1 : u.cell? ⟨bl, 1, none⟩ = some (.int .i64 L.ring) := (lCells (hu.at HCe.out (fun e => e))).2.1
                 have c6 : u.cell? ⟨bl, 6, none⟩ = some (.map (some L.bo)) := (lCells (hu.at HCe.out (fun e => e))).2.2.2.2.2.2.1
                 have l1 := (HOver.out.keep hu (fun e => e)).run_lookup Tryz.underlying3 Tryz.underlying94 (zeroStr _) hwf false
                 rw [HGs.out] at l1
                 simp only [Bool.false_eq_true, if_false, Option.getD_some] at l1
                 clear hu
                 go_simp
                 exact ⟨rfl, rfl⟩
               go_simp
               refine hK _ ?_
               clear hK K)
        refine wpH_nil ?_
        simp only [List.drop_succ_cons, List.drop_zero]
        clear S HS
        go_wp2_with (go_at_call 112; refine (HW.out).mono ?_; rintro e w6 ⟨rfl, hr6, hk6⟩)
        go_ret
        have h6 := hr6.ran.rest HDd.out (setOps_prefix L.ring L.next L.seq l (k + 1))
        exact ⟨l, HG.out, .inl ⟨h6.2, rfl, h6.1⟩⟩
      | false =>
        rw [hdd] at HW
        simp only [Bool.false_eq_true, if_false] at HW
        have HDd := Lib.hid hdd
        clear hdd
        go_wp2
        obtain ⟨S, hS⟩ : ∃ S : World → Prop, ∀ u, S u ↔ Keep (fun _ => False) (wr) u := ⟨fun u => Keep (fun _ => False) (wr) u, fun _ => Iff.rfl⟩
        have HS := Lib.hid hS
        clear hS
        refine wp_region_ord 17 [(0, true), (1, true), (2, true), (3, true), (4, true), (5, true), (6, true), (7, true), (8, true), (9, true), (10, true), (11, true), (12, true), (13, true), (14, true), (15, true), (16, true)] S (by kernel_rfl) (by kernel_rfl) ((HS.out _).2 (Keep.refl _ _).drew) ?_
        iterate 17
          first
            | (refine wpH_passed rfl (by rfl) (fun K hK => ?_); go_simp; refine hK _ ?_; clear hK K)
            | (first
                 | refine wpH_read rfl rfl (fun K hK => ?_)
                 | refine wpH_readw rfl (by rfl) (fun K hK => ?_)
               apply Exists.intro
               refine ⟨fun u hu => ?_, ?_⟩
               · have hu := (HS.out u).1 hu
                 have c0 : u.cell? ⟨bl, 0, none⟩ = some (.pointer (some ⟨L.bd, 0, none⟩)) := (lCells (hu.at HCe.out (fun e => e))).1
                 have c1 : u.cell? ⟨bl, 1, none⟩ = some (.int .i64 L.ring) := (lCells (hu.at HCe.out (fun e => e))).2.1
                 have c6 : u.cell? ⟨bl, 6, none⟩ = some (.map (some L.bo)) := (lCells (hu.at HCe.out (fun e => e))).2.2.2.2.2.2.1
                 have l1 := (HOver.out.keep hu (fun e => e)).run_lookup Tryz.underlying3 Tryz.underlying94 (zeroStr _) hwf false
                 rw [HGs.out] at l1
                 simp only [Bool.false_eq_true, if_false, Option.getD_some] at l1
                 clear hu
                 go_simp
                 exact ⟨rfl, rfl⟩
               go_simp
               refine hK _ ?_
               clear hK K)
        refine wpH_nil ?_
        simp only [List.drop_succ_cons, List.drop_zero]
        clear S HS
        go_wp2_with (go_at_call 112; refine (HW.out).mono ?_; rintro e w6 ⟨rfl, hr6, hk6⟩
                     have HR6 := Lib.hid hr6
                     have HRw6 := Lib.hid (((Keep.refl (fun k => ¬ X k) wr).drew.trans hk6 (fun _ _ e => e)).ownsRow HR.out (fun q hq e => e (HXr.out q hq)))
                     clear hr6 hk6)
        go_roundw
        case rel => exact ⟨k + 1, by omega, rfl, HR6.out, HDd.out, HRw6.out⟩
        case measure => simp [intOf]; omega
    · have g1 : decide ((k : Int) < (n : Int)) = false := by simp; omega
      have g1' : decide (k < n) = false := by simpa using hlt
      obtain rfl : k = n := by omega
      have htl : l.take k = l := List.take_of_length_le (by rw [HLL.out]; exact Nat.le_refl _)
      have hset : setOps L.ring L.next L.seq l = wops (homeP L.ring (l.take k)) ++ [.flush, .write 0 (headS L.next L.seq), .flush] := by rw [htl]; rfl
      have HSet := Lib.hid hset
      have hopl : (wops (homeP L.ring (l.take k))).length = k := by
        simp only [wops, homeP, List.length_map, List.length_take, HLL.out]; omega
      have HFl := Lib.hid (HRan.out.flush HDn.out)
      clear htl hset
      generalize wops (homeP L.ring (l.take k)) = A at *
      cases hdd : (d.run (A ++ [.flush])).down with
      | true =>
        rw [hdd] at HFl
        simp only [if_true] at HFl
        have HDd := Lib.hid hdd
        obtain ⟨D', hst, _⟩ := HRan.out
        obtain ⟨c0, c1, c2, c3, c4, c5, c6, c7⟩ := lCells hst.at_.cells
        clear hdd hst
        go_wp2_with (go_at_call 113; refine (HFl.out).mono ?_; rintro e w6 ⟨rfl, hr6, _⟩)
        go_ret
        have h6 := hr6.ran.rest (all := setOps L.ring L.next L.seq l) HDd.out ⟨[.write 0 (headS L.next L.seq), .flush], by rw [HSet.out]; simp⟩
        exact ⟨l, HG.out, .inl ⟨h6.2, rfl, h6.1⟩⟩
      | false =>
        rw [hdd] at HFl
        simp only [Bool.false_eq_true, if_false] at HFl
        have HDd := Lib.hid hdd
        obtain ⟨D', hst, _⟩ := HRan.out
        obtain ⟨c0, c1, c2, c3, c4, c5, c6, c7⟩ := lCells hst.at_.cells
        clear hdd hst
        go_wp2_with (go_at_call 113; refine (HFl.out).mono ?_; rintro e w7 ⟨rfl, hr7, _⟩
                     have HR7 := Lib.hid hr7
                     clear hr7)
        obtain ⟨D7, hst7, _⟩ := HR7.out
        have HCe := Lib.hid hst7.at_.cells
        have HN1 := Lib.hid (fun u => number_any L.next 4 (by omega) (by decide) (by decide) u)
        have HN2 := Lib.hid (fun u => number_any L.seq 8 hsq (by decide) (by decide) u)
        obtain ⟨s4, hs4⟩ : ∃ s4 : ByteArray, ⟨(numL L.next 4).toArray⟩ = s4 := ⟨_, rfl⟩
        obtain ⟨s8, hs8⟩ : ∃ s8 : ByteArray, ⟨(numL L.seq 8).toArray⟩ = s8 := ⟨_, rfl⟩
        have hz8 : s8.size = 8 := by rw [← hs8, size_of, numL_length]
        have hz4 : s4.size = 4 := by rw [← hs4, size_of, numL_length]
        have hz1 : (⟨#[72]⟩ : ByteArray).size = 1 := rfl
        have hz9 : ((⟨#[72]⟩ : ByteArray) ++ s4).size = 5 := by rw [ByteArray.size_append, hz1, hz4]
        have hcat1 := fun u => run_string_add_sum (P := Tryz.prog) u ⟨#[72]⟩ s4 (by omega)
        have hcat2 := fun u => run_string_add_sum (P := Tryz.prog) u ((⟨#[72]⟩ : ByteArray) ++ s4) s8 (by omega)
        have hfs : fullS ((⟨#[72]⟩ : ByteArray) ++ s4 ++ s8) = headS L.next L.seq := by
          rw [← hs8, ← hs4]
          unfold headS
          congr 1
        have hrs : ((⟨#[72]⟩ : ByteArray) ++ s4 ++ s8).size ≤ 512 := by rw [ByteArray.size_append, hz9, hz8]; decide
        rw [hs4] at HN1
        rw [hs8] at HN2
        have HCat1 := Lib.hid hcat1
        have HCat2 := Lib.hid hcat2
        have HFs := Lib.hid hfs
        clear hst7 hs8 hs4 hz8 hz4 hcat1 hcat2 hfs
        generalize hraw : (⟨#[72]⟩ : ByteArray) ++ s4 ++ s8 = raw at *
        generalize (⟨#[72]⟩ : ByteArray) ++ s4 = s9 at *
        obtain ⟨sq, hsqe⟩ : ∃ sq, L.seq = sq := ⟨_, rfl⟩
        obtain ⟨nx, hnxe⟩ : ∃ nx, L.next = nx := ⟨_, rfl⟩
        rw [hnxe] at HN1
        rw [hsqe] at HN2
        have e2 : (L.seq : Int) = (sq : Int) := by omega
        have e3w : IntKind.u64.wrap (sq : Int) = (sq : Int) := by rw [IntKind.wrap_u64]; omega
        have e4 : (nx : Int) % 18446744073709551616 = (nx : Int) := by omega
        have e4w : IntKind.u64.wrap (nx : Int) = (nx : Int) := by rw [IntKind.wrap_u64]; omega
        have hdl : d.writes.length + (A ++ [DOp.flush]).length < 1000000000 := by rw [List.length_append, hopl]; simp; omega
        have HDl := Lib.hid hdl
        clear hraw hz1 hz9 hdl
        go_wp2
        obtain ⟨S, hS⟩ : ∃ S : World → Prop, ∀ u, S u ↔ Keep (fun _ => False) (w7) u := ⟨fun u => Keep (fun _ => False) (w7) u, fun _ => Iff.rfl⟩
        have HS := Lib.hid hS
        clear hS
        refine wp_region_ord 17 [(0, true), (1, true), (2, true), (3, true), (4, true), (5, true), (6, true), (7, true), (8, true), (11, true), (12, true), (13, true), (14, true), (9, false), (10, true), (15, false), (16, true)] S (by kernel_rfl) (by kernel_rfl) ((HS.out _).2 (Keep.refl _ _).drew) ?_
        iterate 13
          first
            | (refine wpH_passed rfl (by rfl) (fun K hK => ?_); go_simp; refine hK _ ?_; clear hK K)
            | (first
                 | refine wpH_read rfl rfl (fun K hK => ?_)
                 | refine wpH_readw rfl (by rfl) (fun K hK => ?_)
               apply Exists.intro
               refine ⟨fun u hu => ?_, ?_⟩
               · have hu := (HS.out u).1 hu
                 have c0 : u.cell? ⟨bl, 0, none⟩ = some (.pointer (some ⟨L.bd, 0, none⟩)) := (lCells (hu.at HCe.out (fun e => e))).1
                 have c3 : u.cell? ⟨bl, 3, none⟩ = some (.int .i64 nx) := hnxe ▸ (lCells (hu.at HCe.out (fun e => e))).2.2.2.1
                 have c5 : u.cell? ⟨bl, 5, none⟩ = some (.int .u64 sq) := hsqe ▸ (lCells (hu.at HCe.out (fun e => e))).2.2.2.2.2.1
                 have l1 := HCat1.out u
                 have l2 := HCat2.out u
                 clear hu
                 go_simp
                 exact ⟨rfl, rfl⟩
               go_simp
               refine hK _ ?_
               clear hK K)
        refine wpH_do rfl rfl (fun K hK => ?_)
        go_simp
        go_at_call 111
        refine (HN1.out _).mono ?_
        rintro e u5 ⟨rfl, hb5⟩
        have k5 : Keep (fun _ => False) w7 u5 := (Keep.refl _ _).drew.trans (Keep.ofBelow (S := fun _ => False) hb5) (fun _ _ h => h)
        refine hK _ _ ((HS.out _).2 k5) ?_
        clear hK K
        iterate 1
          first
            | (refine wpH_passed rfl (by rfl) (fun K hK => ?_); go_simp; refine hK _ ?_; clear hK K)
            | (first
                 | refine wpH_read rfl rfl (fun K hK => ?_)
                 | refine wpH_readw rfl (by rfl) (fun K hK => ?_)
               apply Exists.intro
               refine ⟨fun u hu => ?_, ?_⟩
               · have hu := (HS.out u).1 hu
                 have c0 : u.cell? ⟨bl, 0, none⟩ = some (.pointer (some ⟨L.bd, 0, none⟩)) := (lCells (hu.at HCe.out (fun e => e))).1
                 have c3 : u.cell? ⟨bl, 3, none⟩ = some (.int .i64 nx) := hnxe ▸ (lCells (hu.at HCe.out (fun e => e))).2.2.2.1
                 have c5 : u.cell? ⟨bl, 5, none⟩ = some (.int .u64 sq) := hsqe ▸ (lCells (hu.at HCe.out (fun e => e))).2.2.2.2.2.1
                 have l1 := HCat1.out u
                 have l2 := HCat2.out u
                 clear hu
                 go_simp
                 exact ⟨rfl, rfl⟩
               go_simp
               refine hK _ ?_
               clear hK K)
        refine wpH_do rfl rfl (fun K hK => ?_)
        go_simp
        go_at_call 111
        refine (HN2.out _).mono ?_
        rintro e u6 ⟨rfl, hb6⟩
        have k6 : Keep (fun _ => False) w7 u6 := k5.trans (Keep.ofBelow (S := fun _ => False) hb6) (fun _ _ h => h)
        refine hK _ _ ((HS.out _).2 k6) ?_
        clear hK K
        iterate 1
          first
            | (refine wpH_passed rfl (by rfl) (fun K hK => ?_); go_simp; refine hK _ ?_; clear hK K)
            | (first
                 | refine wpH_read rfl rfl (fun K hK => ?_)
                 | refine wpH_readw rfl (by rfl) (fun K hK => ?_)
               apply Exists.intro
               refine ⟨fun u hu => ?_, ?_⟩
               · have hu := (HS.out u).1 hu
                 have c0 : u.cell? ⟨bl, 0, none⟩ = some (.pointer (some ⟨L.bd, 0, none⟩)) := (lCells (hu.at HCe.out (fun e => e))).1
                 have c3 : u.cell? ⟨bl, 3, none⟩ = some (.int .i64 nx) := hnxe ▸ (lCells (hu.at HCe.out (fun e => e))).2.2.2.1
                 have c5 : u.cell? ⟨bl, 5, none⟩ = some (.int .u64 sq) := hsqe ▸ (lCells (hu.at HCe.out (fun e => e))).2.2.2.2.2.1
                 have l1 := HCat1.out u
                 have l2 := HCat2.out u
                 clear hu
                 go_simp
                 exact ⟨rfl, rfl⟩
               go_simp
               refine hK _ ?_
               clear hK K)
        refine wpH_nil ?_
        simp only [List.drop_succ_cons, List.drop_zero]
        have HR8 := Lib.hid (HR7.out.still (k6.below (Nat.le_refl _) (fun i hi e => e)))
        have HW := Lib.hid (HR8.out.write HDd.out HDl.out (i := 0) ⟨Int.le_refl 0, by omega⟩ raw hrs)
        rw [HFs.out] at HW
        clear k5 k6 hb5 hb6 S HS
        cases hdd : (d.run (A ++ [.flush] ++ [.write 0 (headS L.next L.seq)])).down with
        | true =>
          rw [hdd] at HW
          simp only [if_true] at HW
          have HDe := Lib.hid hdd
          clear hdd
          go_wp2_with (go_at_call 112; refine (HW.out).mono ?_; rintro e w9 ⟨rfl, hr9, _⟩)
          go_ret
          have h6 := hr9.ran.rest (all := setOps L.ring L.next L.seq l) HDe.out ⟨[.flush], by rw [HSet.out]; simp⟩
          exact ⟨l, HG.out, .inl ⟨h6.2, rfl, h6.1⟩⟩
        | false =>
          rw [hdd] at HW
          simp only [Bool.false_eq_true, if_false] at HW
          have HDe := Lib.hid hdd
          have he : A ++ [.flush] ++ [.write 0 (headS L.next L.seq)] ++ [.flush] = setOps L.ring L.next L.seq l := by rw [HSet.out]; simp
          have HE := Lib.hid he
          clear hdd he
          cases hdf : (d.run (A ++ [.flush] ++ [.write 0 (headS L.next L.seq)] ++ [.flush])).down with
          | true =>
            have HDf := Lib.hid hdf
            clear hdf
            go_wp2_with (first
              | (go_at_call 112; refine (HW.out).mono ?_; rintro e w9 ⟨rfl, hr9, _⟩
                 have hfl2 := hr9.flush HDe.out
                 rw [HDf.out] at hfl2
                 simp only [if_true] at hfl2
                 have HFl2 := Lib.hid hfl2
                 obtain ⟨D9, hst9, _⟩ := hr9
                 obtain ⟨c0, c1, c2, c3, c4, c5, c6, c7⟩ := lCells hst9.at_.cells
                 clear hst9 hfl2)
              | (go_at_call 113; refine (HFl2.out).mono ?_; rintro e wA ⟨rfl, hrA, _⟩))
            go_ret
            have hdf := HDf.out
            rw [HE.out] at hrA hdf
            exact ⟨l, HG.out, .inl ⟨hdf, rfl, hrA.ran⟩⟩
          | false =>
            have HDf := Lib.hid hdf
            clear hdf
            go_wp2_with (first
              | (go_at_call 112; refine (HW.out).mono ?_; rintro e w9 ⟨rfl, hr9, _⟩
                 have hfl2 := hr9.flush HDe.out
                 rw [HDf.out] at hfl2
                 simp only [Bool.false_eq_true, if_false] at hfl2
                 have HFl2 := Lib.hid hfl2
                 obtain ⟨D9, hst9, _⟩ := hr9
                 obtain ⟨c0, c1, c2, c3, c4, c5, c6, c7⟩ := lCells hst9.at_.cells
                 clear hst9 hfl2))
            go_at_call 113
            refine (HFl2.out).mono ?_
            rintro e wA ⟨rfl, hrA, _⟩
            obtain ⟨DA, hstA, hdA, _⟩ := hrA
            obtain ⟨a0, a1, a2', a3, a4, a5, a6, a7⟩ := lCells hstA.at_.cells
            obtain ⟨uc, hcr, hcm, hck, hcz⟩ := hstA.at_.over.run_clear (ty := 0) Tryz.underlying94
            have hstc := hstA.trans (hstA.at_.turn_over (over := fun _ => none) (no := 0) hcm hck (fun i s hs => by cases hs))
            have HStc := Lib.hid hstc
            have HDA := Lib.hid hdA
            obtain ⟨b0, b1, b2, b3, b4, b5, b6, b7⟩ := lCells hstc.at_.cells
            have f2 := lCellsF hstc.at_.cells 2
            have f4 := lCellsF hstc.at_.cells 4
            clear hstA hdA hstc hcm hck hcz
            go_wp2
            go_ret
            have hdf := HDf.out
            have hda := HDA.out
            rw [HE.out] at hda hdf
            refine ⟨l, HG.out, .inr ⟨hdf, rfl, DA, HStc.out.trans (HStc.out.at_.turn L.next L.next 0 L.seq L.down (((Keep.refl (· = bl) uc).setCell (p := ⟨bl, 2, none⟩) (fun _ => rfl) _).setCell (p := ⟨bl, 4, none⟩) (fun _ => rfl) _) ?_), hda⟩⟩
            have hst2 := HStc.out.at_.cells
            rw [← hnxe]
            simp [World.setCell, Array.getElem?_modify, hst2, LogS.cells]
end Go.Proofs.YtalgheocjnajlaaGreatDoor
