/-
  THE DISK (sector), in memory: Fall.
-/
import Derived.Test.YtnfdplhcpiknpaaDoorLg2
namespace Go.Proofs.YtnfdplhcpiknpaaDoor
open Go.RowKit Go.MapKept
attribute [local go_sem] gives givesH
set_option maxRecDepth 100000

theorem kept_snoc (p : Puts) (x : Int × ByteArray) (keep : List Bool) : kept (p ++ [x]) keep = kept p keep ++ if keep.getD p.length false then [x] else [] := by
  induction p generalizing keep with
  | nil =>
    cases keep with
    | nil => rfl
    | cons b l => cases b <;> simp [kept]
  | cons y p ih =>
    cases keep with
    | nil => simp [kept]
    | cons b l =>
      have := ih l
      unfold kept at this ⊢
      cases b <;> simp [this]
theorem writeCells_row (p : Puts) (k : Nat) (x : Int × ByteArray) (h : p[k]? = some x) : (writeCells p)[k * 2]? = some (.int .i64 x.1) ∧ (writeCells p)[k * 2 + 1]? = some (.string x.2) := by
  induction p generalizing k with
  | nil => simp at h
  | cons y p ih =>
    have e : writeCells (y :: p) = .int .i64 y.1 :: .string y.2 :: writeCells p := rfl
    rw [e]
    cases k with
    | zero =>
      simp at h
      subst h
      exact ⟨rfl, rfl⟩
    | succ k =>
      have := ih k (by simpa using h)
      rw [show (k + 1) * 2 = k * 2 + 1 + 1 by omega]
      simpa using this
theorem Keep.cell {S : Nat → Prop} {w w' : World} (h : Keep S w w') {p : Addr} (hlt : p.block < w.heap.size) (hn : ¬ S p.block) : w'.cell? p = w.cell? p := by
  unfold World.cell?
  rw [h.block p.block hlt hn]
/-- the firm map after some of the loose writes -/
def fellG (D : DiskS) (p : Puts) : Int → Option ByteArray := fun i => (lastOf p i).or (D.firm i)
theorem fellG_snoc (D : DiskS) (p : Puts) (x : Int × ByteArray) : strs (fellG D (p ++ [x])) = putAt (strs (fellG D p)) x.1 (.string x.2) := by
  funext i
  unfold putAt strs fellG
  rw [lastOf_snoc]
  by_cases h : i = x.1
  · subst h; simp
  · rw [if_neg h, if_neg (fun e => h e.symm)]
theorem fell_disk {w u : World} {bd : Nat} {D : DiskS} {d : Dk} {p : Puts} {nf : Nat} (h : DiskAt w bd D) (hd : DkOf D d) (hp : ∀ x ∈ p, x ∈ d.writes) (hm : IMap u D.bf (strs (fellG D p)) nf) (hk : Keep (· = D.bf) w u) :
    DiskStep bd w D u { D with firm := fellG D p, nf := nf } := by
  obtain ⟨a1, a2, a3, a4, a5, a6⟩ := h.apart
  refine ⟨⟨h.size, hk.at h.cells a1, hm, h.now.keep hk (fun e => a3 e.symm), hk.ownsRow h.loose (fun k hk2 e => a5 (e ▸ hk2)), ⟨a1, a2, a3, a4, a5, a6⟩, fun i s hs => ?_, h.s512.2⟩, rfl, rfl, rfl, hk.mono (fun k _ e => .inr (.inl e)), fun k hk => .inl hk⟩
  have hs2 : (lastOf p i).or (D.firm i) = some s := hs
  cases hn : lastOf p i with
  | none => rw [hn] at hs2; exact h.s512.1 i s hs2
  | some t => rw [hn] at hs2; exact (Option.some.inj hs2) ▸ (hd.ins _ (hp _ (lastOf_mem hn))).2.2
set_option maxHeartbeats 2000000 in
theorem diskFall_any {w : World} {bd : Nat} {D : DiskS} {d : Dk} (h : DiskAt w bd D) (hd : DkOf D d) (keep : List Bool) (a : Option Addr) (b off cap : Nat) (ha : 0 < keep.length → a = some ⟨b, off, none⟩) (hb : b ≠ D.bf) (hbs : b < w.heap.size)
    (hc : ∀ k, k < keep.length → w.cell? ⟨b, off + k, none⟩ = some (.bool (keep.getD k false))) :
    Calls Tryd.prog 20 #[.pointer (some ⟨bd, 0, none⟩), .slice a keep.length cap] w fun e w' => e = .returned (.tuple #[]) ∧ ∃ D', DiskStep bd w D w' D' ∧ DkOf D' (d.fall keep) := by
  obtain ⟨c0, c1, c2, c3, c4, c5, c6⟩ := dCells h.cells
  obtain ⟨la, lc, hl⟩ := slice_formB h.loose
  rw [hl] at c2
  obtain ⟨n, hn⟩ : ∃ n, D.writes.length = n := ⟨_, rfl⟩
  obtain ⟨m, hm⟩ : ∃ m, keep.length = m := ⟨_, rfl⟩
  have hrow := h.loose
  rw [hl, hn] at hrow
  rw [hn] at c2
  rw [hm] at ha hc ⊢
  have H := Lib.hid h
  have HD := Lib.hid hd
  have HRow := Lib.hid hrow
  have HC := Lib.hid hc
  have HA := Lib.hid ha
  have HN := Lib.hid hn
  have HM := Lib.hid hm
  have HL := Lib.hid hl
  have hst0 : fellG D (kept (D.writes.take 0) keep) = D.firm := by
    funext i
    simp [fellG, kept, lastOf]
  have HF0 : Hid (∃ nf, IMap w D.bf (strs (fellG D (kept (D.writes.take 0) keep))) nf) := by
    refine Lib.hid ?_
    rw [hst0]
    exact ⟨_, h.firm⟩
  clear h hd hrow hc ha hn hm hl hst0
  go_enter Tryd.func20, Tryd.ntmps20
  go_wp2
  go_loopw [13] (fun i wr => ∃ k : Nat, k ≤ n ∧ i = .int .i64 k ∧ (∃ nf, IMap wr D.bf (strs (fellG D (kept (D.writes.take k) keep))) nf) ∧ Keep (· = D.bf) w wr) (fun i _ => n - (intOf i).toNat)
  case atStart => exact ⟨0, by omega, rfl, HF0.out, Keep.refl _ _⟩
  case round =>
    obtain ⟨k, hk, rfl, hfirm, hkp⟩ := hrel
    have HKp := Lib.hid hkp
    have HFm := Lib.hid hfirm
    clear hkp hfirm
    by_cases hkl : k < n
    · have g1 : decide ((k : Int) < (n : Int)) = true := by simp; omega
      have g1' : decide (k < n) = true := by simpa using hkl
      obtain ⟨x, hx⟩ : ∃ x, D.writes[k]? = some x := ⟨_, List.getElem?_eq_getElem (by rw [HN.out]; exact hkl)⟩
      obtain ⟨ga, cb, hga, hcb, hcm, hgb⟩ := row_posB HRow.out (by omega)
      obtain ⟨rfl, rfl⟩ : la = some ⟨ga, 0, none⟩ ∧ cb = lc := by cases hga; exact ⟨rfl, rfl⟩
      clear hga
      have hnb : D.loose.ownBlock = some ga := by rw [HL.out]; rfl
      have hrw := HKp.out.ownsRow HRow.out (fun q hq e => by
        cases hq
        exact H.out.apart.2.2.2.2.1 (e ▸ hnb))
      have q0 := row_cells hrw (k * 2) _ (writeCells_row D.writes k x hx).1
      have q1 := row_cells hrw (k * 2 + 1) _ (writeCells_row D.writes k x hx).2
      have htk : D.writes.take (k + 1) = D.writes.take k ++ [x] := by
        rw [List.take_add_one, hx]; rfl
      have hks : kept (D.writes.take (k + 1)) keep = kept (D.writes.take k) keep ++ if keep.getD k false then [x] else [] := by
        rw [htk, kept_snoc, List.length_take, HN.out, Nat.min_eq_left (by omega)]
      have hk0 : (0 : Int) ≤ (k : Int) := by omega
      have hk1 : (k : Int) < (n : Int) := by omega
      have hn63 : (n : Int) ≤ 9223372036854775807 := by unfold maxLen at hcm; omega
      have HX := Lib.hid hx
      have hin := HD.out.ins x (by rw [← HD.out.writes]; exact List.mem_of_getElem? hx)
      have hsz := H.out.size
      have hszd := HD.out.size
      have hwf : (Lit.int .i64 x.1).wf = true := keyOk (by omega) (by omega)
      obtain ⟨nf, hfm⟩ := HFm.out
      have hka : Keep (· = D.bf) w (wr.alloc (Obj.cells #[Value.int IntKind.i64 x.1, Value.string x.2] 78)) := HKp.out.alloc _
      have HKa := Lib.hid hka
      have hma := hfm.keep ((Keep.refl (fun _ => False) wr).alloc (Obj.cells #[Value.int IntKind.i64 x.1, Value.string x.2] 78)) (fun e => e)
      have HMa := Lib.hid hma
      have HKs := Lib.hid hks
      have hno : (keep.getD k false) = false → (∃ nf, IMap (wr.alloc (Obj.cells #[Value.int IntKind.i64 x.1, Value.string x.2] 78)) D.bf (strs (fellG D (kept (D.writes.take (k + 1)) keep))) nf) := fun hb => by
        rw [HKs.out, hb]
        simp only [Bool.false_eq_true, if_false, List.append_nil]
        exact ⟨_, HMa.out⟩
      have HNo := Lib.hid hno
      clear hrw htk hks hx hin hfm hma hno hka
      by_cases hkm : k < m
      · have g2 : decide ((k : Int) < (m : Int)) = true := by simp; omega
        have g2' : decide (k < m) = true := by simpa using hkm
        obtain rfl := HA.out (by omega)
        have q2 := HC.out k hkm
        rw [← HKa.out.cell (p := ⟨b, off + k, none⟩) hbs hb] at q2
        have hkm0 : (k : Int) < (m : Int) := by omega
        cases hkb : keep.getD k false with
        | false =>
          rw [hkb] at q2
          have HB := Lib.hid hkb
          clear hkb
          go_wp2
          go_roundw
          case rel => exact ⟨k + 1, by omega, rfl, HNo.out HB.out, HKa.out⟩
          case measure => simp [intOf]; omega
        | true =>
          rw [hkb] at q2
          have HB := Lib.hid hkb
          clear hkb
          obtain ⟨u5, hr5, hm5, hk5, hz5, hd5⟩ := (HMa.out.keep (Keep.refl (fun _ => False) _).drew (fun e => e)).run_update Tryd.underlying3 Tryd.underlying54 hwf (.string x.2)
          rw [← fellG_snoc] at hm5
          have hm6 : ∃ nf, IMap u5 D.bf (strs (fellG D (kept (D.writes.take (k + 1)) keep))) nf := by
            rw [HKs.out, HB.out, if_pos rfl]; exact ⟨_, hm5⟩
          have HM6 := Lib.hid hm6
          have HK6 := Lib.hid (HKa.out.drew.trans hk5 (fun _ _ e => e))
          clear hm5 hk5 hz5 hd5 hm6
          go_wp2
          obtain ⟨S, hS⟩ : ∃ S : World → Prop, ∀ u, S u ↔ Keep (fun _ => False) ((wr.alloc (Obj.cells #[Value.int IntKind.i64 x.1, Value.string x.2] 78))) u := ⟨fun u => Keep (fun _ => False) ((wr.alloc (Obj.cells #[Value.int IntKind.i64 x.1, Value.string x.2] 78))) u, fun _ => Iff.rfl⟩
          have HS := Lib.hid hS
          clear hS
          refine wp_region_ord 8 [(0, true), (1, true), (2, true), (3, true), (4, true), (5, true), (6, true), (7, true)] S (by kernel_rfl) (by kernel_rfl) ((HS.out _).2 (Keep.refl _ _).drew) ?_
          iterate 8
            first
              | (refine wpH_passed rfl (by rfl) (fun K hK => ?_); go_simp; refine hK _ ?_; clear hK K)
              | (first
                   | refine wpH_read rfl rfl (fun K hK => ?_)
                   | refine wpH_readw rfl (by rfl) (fun K hK => ?_)
                 apply Exists.intro
                 refine ⟨fun u hu => ?_, ?_⟩
                 · have hu := (HS.out u).1 hu
                   obtain ⟨e0, e1, e2, e3, e4, e5, e6⟩ := dCells (hu.at (HKa.out.at H.out.cells H.out.apart.1) (fun e => e))
                   have b0 := Lib.cell_of_heap (hu.at (heap_alloc_new wr _) (fun e => e)) 0
                   have b1 := Lib.cell_of_heap (hu.at (heap_alloc_new wr _) (fun e => e)) 1
                   clear hu
                   go_simp
                   exact ⟨rfl, rfl⟩
                 go_simp
                 refine hK _ ?_
                 clear hK K)
          refine wpH_nil ?_
          simp only [List.drop_succ_cons, List.drop_zero]
          clear S HS
          go_wp2
          go_roundw
          case rel => exact ⟨k + 1, by omega, rfl, HM6.out, HK6.out⟩
          case measure => simp [intOf]; omega
      · have g2 : decide ((k : Int) < (m : Int)) = false := by simp; omega
        have g2' : decide (k < m) = false := by simpa using hkm
        have hkb : keep.getD k false = false := by
          rw [List.getD_eq_getElem?_getD, List.getElem?_eq_none (by rw [HM.out]; omega)]; rfl
        have HB := Lib.hid hkb
        clear hkb
        go_wp2
        go_roundw
        case rel => exact ⟨k + 1, by omega, rfl, HNo.out HB.out, HKa.out⟩
        case measure => simp [intOf]; omega
    · have g1 : decide ((k : Int) < (n : Int)) = false := by simp; omega
      have g1' : decide (k < n) = false := by simpa using hkl
      obtain ⟨nf, hfm⟩ := HFm.out
      rw [List.take_of_length_le (by rw [HN.out]; omega)] at hfm
      have hst := fell_disk H.out HD.out (fun x hx => by rw [← HD.out.writes]; exact kept_sub _ _ x hx) hfm HKp.out
      have HSt := Lib.hid hst
      have HSe := Lib.hid (diskSettle_any hst.at_)
      clear hst hfm
      go_wp2_with (go_at_call 37; refine (HSe.out).mono ?_; rintro e w4 ⟨rfl, hst4⟩
                   have H4 := Lib.hid hst4
                   obtain ⟨e0, e1, e2, e3, e4, e5, e6⟩ := dCells hst4.at_.cells
                   have f5 := dCellsF hst4.at_.cells 5
                   have f6 := dCellsF hst4.at_.cells 6
                   clear hst4)
      go_end0
      have T := H4.out.at_.turn D.fuel false false (w' := (w4.setCell ⟨bd, 6, none⟩ (.bool false)).setCell ⟨bd, 5, none⟩ (.bool false)) (((Keep.refl (· = bd) w4).setCell (p := ⟨bd, 6, none⟩) (fun _ => rfl) _).setCell (p := ⟨bd, 5, none⟩) (fun _ => rfl) _) (by
        have hst2 := H4.out.at_.cells
        simp [World.setCell, Array.getElem?_modify, hst2, DiskS.cells, DiskS.settled])
      refine ⟨rfl, _, (HSt.out.trans H4.out).trans T, ⟨HD.out.size, fun i => ?_, fun i => by simp [DiskS.settled, Dk.fall, lastOf], rfl, fun hb => (by cases hb), rfl, rfl, fun x hx => (by cases hx)⟩⟩
      show ((lastOf (kept D.writes keep) i).or (D.firm i)).getD (zeros 512) = seen (kept d.writes keep) d.firm i
      rw [seen_lastOf, ← HD.out.firm, HD.out.writes]
      cases lastOf (kept d.writes keep) i <;> rfl
end Go.Proofs.YtnfdplhcpiknpaaDoor
