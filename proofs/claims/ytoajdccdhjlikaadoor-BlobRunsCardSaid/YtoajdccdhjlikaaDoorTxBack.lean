/-
  CHANGES (tx): Write at every argument; Back.
-/
import Derived.Test.YtoajdccdhjlikaaDoorTxW
namespace Go.Proofs.YtoajdccdhjlikaaDoor
open Go.RowKit Go.MapKept
attribute [local go_sem] gives givesH
set_option maxRecDepth 100000

theorem writeErr_up (n : Nat) (i : Int) (s : ByteArray) : writeErr n i s ≠ 3 := by unfold writeErr; split <;> (try split) <;> decide
def putsOf (n : Nat) (i : Int) (s : ByteArray) : Puts := if 0 ≤ i ∧ i < n ∧ s.size ≤ 512 then [(i, fullS s)] else []
theorem txWrite_any {w : World} {bt : Nat} {T : TxS} (h : TxAt w bt T) (hlen : T.puts.length < 1000000000000) {i : Int} (s : ByteArray) (hs : s.size ≤ 9223372036854775807) :
    Calls Tryd.prog 54 #[.pointer (some ⟨bt, 0, none⟩), .int .i64 i, .string s] w fun e w' => e = .returned (.int .i64 (writeErr T.n i s)) ∧ ∃ T', TxStep bt w T w' T' ∧ T'.puts = T.puts ++ putsOf T.n i s := by
  have hn := h.log.small
  by_cases hr : 0 ≤ i ∧ i < T.n
  · by_cases h5 : s.size ≤ 512
    · have e1 : writeErr T.n i s = 0 := by unfold writeErr; rw [if_pos hr, if_neg (by omega)]
      have e2 : putsOf T.n i s = [(i, fullS s)] := by unfold putsOf; rw [if_pos ⟨hr.1, hr.2, h5⟩]
      rw [e1, e2]
      exact txWrite_ok h hlen hr s h5
    · have e1 : writeErr T.n i s = 5 := by unfold writeErr; rw [if_pos hr, if_pos (by omega)]
      have e2 : putsOf T.n i s = [] := by unfold putsOf; rw [if_neg (by omega)]
      rw [e1, e2]
      have H1 := Lib.hid (fun u (hu : TxAt u bt T) => txDead_any hu)
      have H2 := Lib.hid (fun u (hu : TxAt u bt T) => txHomes_any hu)
      have d1 : decide (i < 0) = false := by simp; omega
      have d2 : decide ((T.n : Int) ≤ i) = false := by simp; omega
      have d3 : decide ((512 : Int) < (s.size : Nat)) = true := by simp; omega
      have H := Lib.hid h
      clear h e1 e2 hr h5
      go_enter Tryd.func54, Tryd.ntmps54
      go_wp2_with (first
        | (go_at_call 84; refine (H1.out _ H.out).mono ?_; rintro e w1 ⟨rfl, rfl⟩)
        | (go_at_call 49; refine (H2.out _ H.out).mono ?_; rintro e w1 ⟨rfl, hb1⟩))
      go_ret
      exact ⟨rfl, T, TxStep.still H.out hb1, by simp⟩
  · have e1 : writeErr T.n i s = 2 := by unfold writeErr; rw [if_neg hr]
    have e2 : putsOf T.n i s = [] := by unfold putsOf; rw [if_neg (fun h => hr ⟨h.1, h.2.1⟩)]
    rw [e1, e2]
    have H1 := Lib.hid (fun u (hu : TxAt u bt T) => txDead_any hu)
    have H2 := Lib.hid (fun u (hu : TxAt u bt T) => txHomes_any hu)
    have H := Lib.hid h
    clear h e1 e2
    by_cases h0 : i < 0
    · have d1 : decide (i < 0) = true := by simpa using h0
      clear hr
      go_enter Tryd.func54, Tryd.ntmps54
      go_wp2_with (first
        | (go_at_call 84; refine (H1.out _ H.out).mono ?_; rintro e w1 ⟨rfl, rfl⟩)
        | (go_at_call 49; refine (H2.out _ H.out).mono ?_; rintro e w1 ⟨rfl, hb1⟩))
      go_ret
      exact ⟨rfl, T, TxStep.refl H.out, by simp⟩
    · have d1 : decide (i < 0) = false := by simpa using h0
      have d2 : decide ((T.n : Int) ≤ i) = true := by simp; omega
      clear hr
      go_enter Tryd.func54, Tryd.ntmps54
      go_wp2_with (first
        | (go_at_call 84; refine (H1.out _ H.out).mono ?_; rintro e w1 ⟨rfl, rfl⟩)
        | (go_at_call 49; refine (H2.out _ H.out).mono ?_; rintro e w1 ⟨rfl, hb1⟩))
      go_ret
      exact ⟨rfl, T, TxStep.still H.out hb1, by simp⟩

/-! ## Back -/
theorem ownsRow_cut {w : World} {e : TypeId} {size : Nat} {g n c m : Nat} {xs : List Value} (h : w.ownsRow 0 e size (.slice (some ⟨g, 0, none⟩) n c) n xs) (hm : m ≤ n) :
    w.ownsRow 0 e size (.slice (some ⟨g, 0, none⟩) m c) m (xs.take (m * size)) := by
  rcases h.2 with ⟨h1, _⟩ | ⟨g', cap, cur, hv, hb, hg, h1, h2, h3, h4⟩
  · cases h1
  · cases hv
    have hms : m * size ≤ n * size := Nat.mul_le_mul_right _ hm
    refine ⟨by rw [List.length_take, h.1]; omega, .inr ⟨g, c, cur, rfl, hb, hg, by omega, h2, h3, ?_⟩⟩
    rw [← h4, List.take_take, Nat.min_eq_left hms]

def TxS.cut (T : TxS) (Q : Puts) (g' : Int → Option Value) (ng' : Nat) (rowv' : Value) : TxS := { T with puts := Q, rowv := rowv', g := g', ng := ng' }
/-- what the forgetting of the last put leaves -/
theorem back_step {w : World} {bt : Nat} {T : TxS} (h : TxAt w bt T) {Q : Puts} {x : Int × ByteArray} (hp : T.puts = Q ++ [x])
    {u : World} {g' : Int → Option Value} {ng' : Nat} {rowv' : Value} (hm : IMap u T.bw g' ng') (hk : Keep (· = T.bw) w u)
    (hg' : ∀ j, j ≠ x.1 → g' j = T.g j) (hgx : posns Q x.1 = [] → g' x.1 = none)
    (hgy : posns Q x.1 ≠ [] → ∃ v, g' x.1 = some v ∧ v.ownBlock = (T.slot x.1).ownBlock ∧ w.ownsRow 0 3 1 v (posns Q x.1).length ((posns Q x.1).map (fun k => Value.int .i64 (k : Nat))))
    (hrow : w.ownsRow 0 88 2 rowv' Q.length (writeCells Q)) (hrv : rowv'.ownBlock = T.rowv.ownBlock) :
    TxStep bt w T (u.setCell ⟨bt, 1, none⟩ rowv') (T.cut Q g' ng' rowv') := by
  have nbw : ∀ k, T.rowv.ownBlock = some k → k ≠ bt ∧ k ≠ T.bw ∧ ¬ T.Fl k := h.apart.2.2.2
  have cu : u.heap[bt]? = some (.cells #[.pointer (some ⟨T.bl, 0, none⟩), T.rowv, .map (some T.bw)] 102 (0, 0)) := hk.at h.cells h.apart.1
  have kset : Keep (· = bt) u (u.setCell ⟨bt, 1, none⟩ rowv') := (Keep.refl (· = bt) u).setCell (p := ⟨bt, 1, none⟩) (fun _ => rfl) _
  have kall : Keep (fun k => k = T.bw ∨ k = bt) w (u.setCell ⟨bt, 1, none⟩ rowv') := (hk.mono (fun _ _ e => .inl e)).trans kset (fun _ _ e => .inr e)
  -- what a list of g' is
  have lst : ∀ j v, g' j = some v → ∃ v0, T.g j = some v0 ∧ v.ownBlock = v0.ownBlock := fun j v hv => by
    by_cases hj : j = x.1
    · subst hj
      by_cases hq : posns Q x.1 = []
      · rw [hgx hq] at hv; cases hv
      · obtain ⟨v2, hv2, ho, hw2⟩ := hgy hq
        rw [hv] at hv2
        cases hv2
        have hne : posns T.puts x.1 ≠ [] := by rw [hp, posns_snoc, if_pos rfl]; simp
        obtain ⟨v0, hv0, _⟩ := h.some_ x.1 hne
        exact ⟨v0, hv0, by rw [ho]; unfold TxS.slot; rw [hv0]; rfl⟩
    · exact ⟨v, by rw [← hg' j hj]; exact hv, rfl⟩
  refine ⟨⟨?_, ?_, ?_, ?_, ?_, ?_, ?_, ?_, ?_, ?_⟩, rfl, rfl, rfl, rfl, ?_, ?_⟩
  · show (u.setCell ⟨bt, 1, none⟩ rowv').heap[bt]? = some (.cells #[.pointer (some ⟨T.bl, 0, none⟩), rowv', .map (some T.bw)] 102 (0, 0))
    simp [World.setCell, Array.getElem?_modify, cu]
  · refine h.log.keep kall (fun k hf e => ?_)
    rcases e with e | e
    · exact h.apart.2.2.1 (e ▸ hf)
    · exact h.apart.2.1 (e ▸ hf)
  · refine kall.ownsRow hrow (fun k hk e => ?_)
    obtain ⟨a, b, _⟩ := nbw k (hrv ▸ hk)
    rcases e with e | e
    · exact b e
    · exact a e
  · exact hm.keep kset (fun e => h.apart.1 e.symm)
  · intro j hj
    by_cases hjx : j = x.1
    · subst hjx; exact hgx hj
    · show g' j = none
      rw [hg' j hjx]
      refine h.none_ j ?_
      rw [hp, posns_snoc, if_neg (fun e => hjx e.symm), List.append_nil]
      exact hj
  · intro j hj
    show ∃ v, g' j = some v ∧ World.ownsRow _ 0 3 1 v (posns Q j).length _
    by_cases hjx : j = x.1
    · subst hjx
      obtain ⟨v, hv, ho, hw2⟩ := hgy hj
      refine ⟨v, hv, kall.ownsRow hw2 (fun k hk e => ?_)⟩
      obtain ⟨a, b, _⟩ := h.slot_ne (ho ▸ hk)
      rcases e with e | e
      · exact b e
      · exact a e
    · have hj2 : posns T.puts j = posns Q j := by rw [hp, posns_snoc, if_neg (fun e => hjx e.symm), List.append_nil]
      obtain ⟨v, hv, ho⟩ := h.some_ j (by rw [hj2]; exact hj)
      rw [hj2] at ho
      refine ⟨v, by rw [hg' j hjx]; exact hv, kall.ownsRow ho (fun k hk e => ?_)⟩
      obtain ⟨a, b, _⟩ := h.lists j v k hv hk
      rcases e with e | e
      · exact b e
      · exact a e
  · exact ⟨h.apart.1, h.apart.2.1, h.apart.2.2.1, fun k hk => nbw k (hrv ▸ hk)⟩
  · intro j v k hv hk
    obtain ⟨v0, hv0, ho⟩ := lst j v hv
    show k ≠ bt ∧ k ≠ T.bw ∧ ¬ T.Fl k ∧ rowv'.ownBlock ≠ some k
    rw [hrv]
    exact h.lists j v0 k hv0 (ho ▸ hk)
  · intro i j v v' k hv hv' hij hk hk'
    obtain ⟨v0, hv0, ho⟩ := lst i v hv
    obtain ⟨v1, hv1, ho1⟩ := lst j v' hv'
    exact h.each i j v0 v1 k hv0 hv1 hij (ho ▸ hk) (ho1 ▸ hk')
  · intro y hy
    exact h.good y (by rw [hp]; exact List.mem_append_left _ hy)
  · refine kall.mono (fun k _ e => ?_)
    rcases e with e | e
    · exact .inr (.inl e)
    · exact .inl e
  · intro k hk
    rcases hk with e | e | e | ⟨j, v, hv, e⟩
    · exact .inl (.inl e)
    · exact .inl (.inr (.inl e))
    · exact .inl (.inr (.inr (.inl (hrv ▸ e))))
    · obtain ⟨v0, hv0, ho⟩ := lst j v hv
      exact .inl (.inr (.inr (.inr ⟨j, v0, hv0, ho ▸ e⟩)))
def rowLen (w : World) (bt : Nat) : Nat := match w.cell? ⟨bt, 1, none⟩ with
  | some (.slice _ n _) => n
  | _ => 0
theorem rowLen_of {w : World} {bt : Nat} {T : TxS} (h : TxAt w bt T) : rowLen w bt = T.puts.length := by
  obtain ⟨⟨c0, c1, c2⟩, _⟩ := tCells h.cells
  obtain ⟨a, c, hv, _⟩ := slice_form h.row
  unfold rowLen
  rw [c1, hv]

theorem writeCells_take (p : Puts) (m : Nat) : (writeCells p).take (m * 2) = writeCells (p.take m) := by
  induction p generalizing m with
  | nil => simp [writeCells]
  | cons x p ih =>
    have e : ∀ p, writeCells (x :: p) = .int .i64 x.1 :: .string x.2 :: writeCells p := fun _ => rfl
    cases m with
    | zero => simp [writeCells]
    | succ m =>
      rw [e, List.take_succ_cons, e, show (m + 1) * 2 = m * 2 + 1 + 1 by omega, List.take_succ_cons, List.take_succ_cons, ih]

/-- back to a mark: so many puts are left -/
def BackRel (bt : Nat) (w : World) (T : TxS) (tgt : Nat) (wr : World) : Prop :=
  ∃ T', TxStep bt w T wr T' ∧ ∃ k, k ≤ T.puts.length ∧ T'.puts = T.puts.take k ∧ (tgt ≤ k ∨ k = T.puts.length)

set_option maxHeartbeats 2000000 in
theorem txBack_any {w : World} {bt : Nat} {T : TxS} (h : TxAt w bt T) (hlen : T.puts.length < 1000000000000) (mark : Int) :
    Calls Tryd.prog 90 #[.pointer (some ⟨bt, 0, none⟩), .int .i64 mark] w fun e w' => e = .returned (.tuple #[]) ∧ ∃ T', TxStep bt w T w' T' ∧ T'.puts = T.puts.take mark.toNat := by
  obtain ⟨tgt, em⟩ : ∃ tgt : Nat, max mark 0 = (tgt : Int) := ⟨mark.toNat, by omega⟩
  have hmt : mark.toNat = tgt := by omega
  rw [hmt]
  clear hmt
  have H := Lib.hid h
  clear h
  go_enter Tryd.func90, Tryd.ntmps90
  go_wp2
  go_loopw [4, 5, 6] (fun a b c wr => BackRel bt w T tgt wr) (fun _ _ _ wr => rowLen wr bt)
  case atStart => exact ⟨T, TxStep.refl H.out, T.puts.length, Nat.le_refl _, by simp, .inr rfl⟩
  case round =>
    obtain ⟨T', hst, k, hk, hpk, hor⟩ := hrel
    have hkl : T'.puts.length = k := by rw [hpk, List.length_take]; omega
    have hA := hst.at_
    obtain ⟨⟨c0, c1, c2⟩, f0, f1, f2⟩ := tCells hA.cells
    by_cases hgo : tgt < k
    · obtain ⟨m, rfl⟩ : ∃ m, k = m + 1 := ⟨k - 1, by omega⟩
      have hml : m < T.puts.length := by omega
      have hQ : T'.puts = T.puts.take m ++ [T.puts[m]] := by rw [hpk, List.take_succ_eq_append_getElem hml]
      have hQl : (T.puts.take m).length = m := by rw [List.length_take]; omega
      generalize hx : T.puts[m] = x at hQ
      have hgood := hA.good x (by rw [hQ]; simp)
      have hn := hA.log.small
      have hwf : (Lit.int .i64 x.1).wf = true := keyOk (by omega) (by omega)
      have hmem : T'.puts[m]? = some (x.1, x.2) := by rw [hQ, List.getElem?_append_right (by omega)]; simp [hQl]
      obtain ⟨r, rc, hr, hr1, hr2, hrow⟩ := row_pos hA.row (by omega)
      have hrow' := hA.row
      rw [hr, hkl] at hrow'
      have cx := hrow (m * 2) _ (writeCells_at T'.puts m x.1 x.2 hmem).1
      have hcut := ownsRow_cut hrow' (show m ≤ m + 1 by omega)
      rw [writeCells_take, hpk, List.take_take, Nat.min_eq_left (by omega)] at hcut
      -- the places of the home
      have hpos : posns T'.puts x.1 = posns (T.puts.take m) x.1 ++ [m] := by rw [hQ, posns_snoc, if_pos rfl, hQl]
      have hs0 := hA.slot x.1
      obtain ⟨g, c, hg, hg1, hg2, _⟩ := row_pos hs0 (by rw [hpos]; simp)
      rw [hpos, List.length_append, List.length_singleton] at hg
      rw [hg, hpos, List.length_append, List.length_singleton] at hs0
      have hscut := ownsRow_cut hs0 (show (posns (T.puts.take m) x.1).length ≤ (posns (T.puts.take m) x.1).length + 1 by omega)
      have htk : (((posns (T.puts.take m) x.1 ++ [m]).map (fun k => Value.int .i64 (k : Nat))).take ((posns (T.puts.take m) x.1).length * 1)) = (posns (T.puts.take m) x.1).map (fun k => Value.int .i64 (k : Nat)) := by
        rw [Nat.mul_one, List.map_append, List.take_left' (by simp)]
      rw [htk] at hscut
      have l1 := hA.where_.run_lookup Tryd.underlying3 Tryd.underlying100 (zeroInts wr) hwf false
      simp only [Bool.false_eq_true, if_false] at l1
      have hslot : (T'.g x.1).getD (Value.slice none 0 0) = T'.slot x.1 := rfl
      rw [hslot, hg] at l1
      rw [hr, hkl] at c1
      rw [hpos, List.length_append, List.length_singleton] at hg1
      have hpl : (posns (T.puts.take m) x.1).length ≤ m := by have := posns_le (T.puts.take m) x.1; omega
      have e1 : decide ((tgt : Int) < (m : Int) + 1) = true := by simp; omega
      unfold maxLen at hg2 hr2
      have hrl := rowLen_of hA
      rw [hkl] at hrl
      have HST := Lib.hid hst
      have HPK := Lib.hid hpk
      have HQ := Lib.hid hQ
      have HQL := Lib.hid hQl
      have HCut := Lib.hid hcut
      have HSC := Lib.hid hscut
      have HR := Lib.hid hr
      have HG := Lib.hid hg
      have HA := Lib.hid hA
      have HRL := Lib.hid hrl
      rw [hkl] at hr1
      have hx0 : 0 ≤ x.1 := hgood.1
      generalize hq : (posns (T.puts.take m) x.1).length = q at *
      have HQQ := Lib.hid hq
      clear hq hst hpk hQ hQl hcut hscut hr hg hA hrl hrow hrow' hs0 htk hslot hpos hmem hkl hgood hx
      by_cases hq0 : 0 < q
      · have e2 : decide ((1 : Int) < (q : Int) + 1) = true := by simp; omega
        have hq1 : (0 : Int) ≤ (q : Int) := by omega
        have hq2 : (q : Int) ≤ (c : Int) := by omega
        have hqw : IntKind.i64.wrap (q : Int) = (q : Int) := wrapI (by omega) (by omega)
        have hmu : IMap wr.drew T'.bw T'.g T'.ng := HA.out.where_.congr rfl
        obtain ⟨u4, hr4, hm4, hk4, hz4, hd4⟩ := hmu.run_update Tryd.underlying3 Tryd.underlying100 hwf (.slice (some ⟨g, 0, none⟩) q c)
        have hk4' : Keep (· = T'.bw) wr u4 := ((Keep.refl _ wr).drew).trans hk4 (fun _ _ e => e)
        have c4 := hk4'.at HA.out.cells HA.out.apart.1
        rw [HR.out] at c4
        obtain ⟨⟨d0, d1, d2⟩, g0, g1, g2⟩ := tCells c4
        have hpl2 : T'.puts.length = m + 1 := by rw [HQ.out, List.length_append, HQL.out]; rfl
        rw [hpl2] at d1
        have ST := Lib.hid (back_step HA.out HQ.out (g' := putAt T'.g x.1 (.slice (some ⟨g, 0, none⟩) q c)) (rowv' := .slice (some ⟨r, 0, none⟩) m rc) hm4 hk4' (fun j hj => if_neg hj)
          (fun he => by have := HQQ.out; rw [he] at this; simp at this; omega)
          (fun _ => ⟨_, if_pos rfl, by rw [HG.out]; rfl, by have := HSC.out; rwa [HQQ.out]⟩)
          (by have := HCut.out; rwa [HQL.out]) (by rw [HR.out]; rfl))
        have HK4 := Lib.hid hk4'
        have HM1 : (0 : Int) ≤ (m : Int) := by omega
        have HM2 : (m : Int) ≤ (rc : Int) := by omega
        clear hmu hm4 hk4 hk4' hz4 hd4 c4 hpl2 hor hpl hg1
        go_wp2
        obtain ⟨S, hS⟩ : ∃ S : World → Prop, ∀ u, S u ↔ Keep (fun _ => False) (wr) u := ⟨fun u => Keep (fun _ => False) (wr) u, fun _ => Iff.rfl⟩
        have HS := Lib.hid hS
        clear hS
        refine wp_region_ord 10 [(0, true), (1, true), (2, true), (3, true), (4, true), (5, true), (6, true), (7, true), (8, true), (9, true)] S (by kernel_rfl) (by kernel_rfl) ((HS.out _).2 (Keep.refl _ _).drew) ?_
        iterate 10
          first
            | (refine wpH_passed rfl (by rfl) (fun K hK => ?_); go_simp; refine hK _ ?_; clear hK K)
            | (first
                 | refine wpH_read rfl rfl (fun K hK => ?_)
                 | refine wpH_readw rfl (by rfl) (fun K hK => ?_)
               apply Exists.intro
               refine ⟨fun u hu => ?_, ?_⟩
               · have hu := (HS.out u).1 hu
                 obtain ⟨⟨c0, c1, c2⟩, _⟩ := tCells (hu.at HA.out.cells (fun e => e))
                 clear hu
                 go_simp
                 exact ⟨rfl, rfl⟩
               go_simp
               refine hK _ ?_
               clear hK K)
        refine wpH_nil ?_
        simp only [List.drop_succ_cons, List.drop_zero]
        clear S HS
        go_wp2
        refine ⟨⟨_, HST.out.trans ST.out, m, by omega, rfl, .inl (by omega)⟩, ?_⟩
        rw [rowLen_of ST.out.at_, HRL.out]
        show (T.puts.take m).length < m + 1
        rw [HQL.out]; omega
      · have e2 : decide ((1 : Int) < (q : Int) + 1) = false := by simp; omega
        have hqe : posns (T.puts.take m) x.1 = [] := List.eq_nil_of_length_eq_zero (by have := HQQ.out; omega)
        obtain ⟨u4, hr4, hm4, hk4, hz4, hd4⟩ := HA.out.where_.run_delete (ty := 0) Tryd.underlying3 Tryd.underlying100 hwf
        have c4 := hk4.at HA.out.cells HA.out.apart.1
        rw [HR.out] at c4
        obtain ⟨⟨d0, d1, d2⟩, g0, g1, g2⟩ := tCells c4
        have hpl2 : T'.puts.length = m + 1 := by rw [HQ.out, List.length_append, HQL.out]; rfl
        rw [hpl2] at d1
        have ST := Lib.hid (back_step HA.out HQ.out (g' := dropAt T'.g x.1) (rowv' := .slice (some ⟨r, 0, none⟩) m rc) hm4 hk4 (fun j hj => if_neg hj)
          (fun _ => if_pos rfl) (fun he => absurd hqe he) (by have := HCut.out; rwa [HQL.out]) (by rw [HR.out]; rfl))
        have HK4 := Lib.hid hk4
        have HM1 : (0 : Int) ≤ (m : Int) := by omega
        have HM2 : (m : Int) ≤ (rc : Int) := by omega
        clear hm4 hk4 hz4 hd4 c4 hpl2 hor hpl hg1 hqe hq0
        go_wp2
        refine ⟨⟨_, HST.out.trans ST.out, m, by omega, rfl, .inl (by omega)⟩, ?_⟩
        rw [rowLen_of ST.out.at_, HRL.out]
        show (T.puts.take m).length < m + 1
        rw [HQL.out]; omega
    · obtain ⟨a, c, hv, _⟩ := slice_form hA.row
      rw [hv] at c1
      rw [hkl] at c1
      have e1 : decide ((tgt : Int) < (k : Int)) = false := by simp; omega
      have HST := Lib.hid hst
      have HPK := Lib.hid hpk
      clear hv hst hpk hkl hA
      go_wp2
      go_end0
      refine ⟨rfl, T', HST.out, ?_⟩
      rw [HPK.out]
      rcases hor with h1 | h1
      · rw [show tgt = k by omega]
      · rw [List.take_of_length_le (by omega), List.take_of_length_le (by omega)]

end Go.Proofs.YtoajdccdhjlikaaDoor
