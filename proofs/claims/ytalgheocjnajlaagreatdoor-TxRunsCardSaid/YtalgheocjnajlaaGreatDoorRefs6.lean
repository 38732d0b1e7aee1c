/-
  THE LAWS of layer 6: the reference's transaction walked.
-/
import Derived.Test.YtalgheocjnajlaaGreatDoorLaw6
import Derived.Laws.ResultCell
import Derived.Laws.Rows

namespace Go.Proofs.YtalgheocjnajlaaGreatDoor
open Go.RowKit Go.MapKept
attribute [local go_sem] gives givesH
set_option maxRecDepth 100000

/-- puts as the document has them, and what they put -/
def fullP (p : Puts) : Puts := p.map (fun x => (x.1, fullS x.2))
theorem fullP_snoc (p : Puts) (x : Int × ByteArray) : fullP (p ++ [x]) = fullP p ++ [(x.1, fullS x.2)] := by unfold fullP; simp
theorem fullP_length (p : Puts) : (fullP p).length = p.length := by unfold fullP; simp
theorem metL_fullP (p : Puts) : metL (fullP p) = metL p := by
  refine snoc_ind (p := fun p => metL (fullP p) = metL p) p rfl (fun p x ih => ?_)
  rw [fullP_snoc, metL_snoc, metL_snoc, ih]
abbrev RowP (w : World) (v : Value) (p : Puts) : Prop := w.ownsRow 0 60 2 v p.length (writeCells p)
theorem RowP.still {w w' : World} {v : Value} {p : Puts} (h : RowP w v p) (hb : Below w.heap.size w w') : RowP w' v p := (Keep.still hb).ownsRow h (fun _ _ e => e)
theorem RowP.cut {w : World} {v : Value} {p : Puts} (h : RowP w v p) {m : Nat} (hm : m ≤ p.length) : ∃ a c, v = .slice a p.length c ∧ RowP w (.slice a m c) (p.take m) ∧ m ≤ c ∧ c ≤ maxLen := by
  obtain ⟨a, c, hv, hn, hc⟩ := slice_form h
  refine ⟨a, c, hv, ?_, by omega, hc⟩
  have hl : (p.take m).length = m := by rw [List.length_take]; omega
  show World.ownsRow w 0 _ 2 _ (p.take m).length (writeCells (p.take m))
  rw [hl]
  cases hp0 : p.length with
  | zero =>
    rw [hp0] at hm
    obtain rfl : m = 0 := by omega
    have h2 : RowP w v p := h
    have hpn : p = [] := List.length_eq_zero_iff.1 hp0
    subst hpn
    rw [← show v = .slice a 0 c from hv]
    exact h2
  | succ n =>
    obtain ⟨g, c2, hg, _, _, _⟩ := row_posB h (by omega)
    rw [hv] at hg
    cases hg
    rw [hv] at h
    have := ownsRow_cut h hm
    rwa [writeCells_take] at this
section
variable {w : World} {Bh : Nat} {hv pv : Value} {ws : List ByteArray} {P : Puts}
set_option maxHeartbeats 2000000 in
theorem ref6Read_any (hh : TextsAt w Bh hv ws) (h6 : ws.length ≤ 65536) (hp : RowP w pv P) (hP : ∀ x ∈ P, x.2.size ≤ 512) (hl : P.length ≤ 1000) (ring : Int) {i : Int} (hi : (Lit.int .i64 i).wf = true) :
    Calls Tryz.prog 15 #[.agg #[hv, .int .i64 ring, pv], .int .i64 i] w fun e w' => e = .returned (homeSays ws.length (seen (fullP P) (atL ws)) i) ∧ Below w.heap.size w w' := by
  obtain ⟨ha, hc, hhv⟩ := slice_formB hh
  obtain ⟨pa, pc, hpv, hpn, hpm⟩ := slice_form hp
  obtain ⟨n, hn⟩ : ∃ n, P.length = n := ⟨_, rfl⟩
  obtain ⟨hl2, hl3⟩ : ∃ hl2, ws.length = hl2 := ⟨_, rfl⟩
  have HH := Lib.hid hh
  have HPr := Lib.hid hp
  have HPs := Lib.hid hP
  have HN := Lib.hid hn
  have HW := Lib.hid hl3
  rw [hn] at hpv hl
  rw [hl3] at hhv h6
  have hb1 : Below w.heap.size w (w.alloc (Obj.cells #[hv, .int .i64 ring, pv] 38)) := (Below.refl _ _).alloc (Nat.le_refl _) _
  by_cases c1 : i < 0
  · have d1 : decide (i < 0) = true := by simpa using c1
    have hs : homeSays ws.length (seen (fullP P) (atL ws)) i = .tuple #[.string ⟨#[]⟩, .int .i64 2] := by
      unfold homeSays homeStr homeErr
      rw [if_neg (by omega), if_neg (by omega)]
    rw [hs]
    subst hhv hpv
    clear hh hp hP hn hl3 hs
    go_enter Tryz.func15, Tryz.ntmps15
    go_wp2
    go_ret2
    exact ⟨rfl, hb1⟩
  have d1 : decide (i < 0) = false := by simpa using c1
  by_cases c2 : (hl2 : Int) ≤ i
  · have d2 : decide ((hl2 : Int) ≤ i) = true := by simpa using c2
    have hs : homeSays ws.length (seen (fullP P) (atL ws)) i = .tuple #[.string ⟨#[]⟩, .int .i64 2] := by
      unfold homeSays homeStr homeErr
      rw [if_neg (by omega), if_neg (by omega)]
    rw [hs]
    subst hhv hpv
    clear hh hp hP hn hl3 hs
    go_enter Tryz.func15, Tryz.ntmps15
    go_wp2
    go_ret2
    exact ⟨rfl, hb1⟩
  have d2 : decide ((hl2 : Int) ≤ i) = false := by simpa using c2
  rw [homeSays_in (by omega)]
  obtain ⟨g, c', hg, _, _, _⟩ := row_posB hh (by omega)
  have hgl := (World.ownsRow.lt hh g (by rw [hg]; rfl)).2
  rw [hhv, hl3] at hg
  cases hg
  have hx : (ws.map Value.string)[i.toNat]? = some (.string (atL ws i)) := by
    rw [List.getElem?_map, List.getElem?_eq_getElem (by omega)]
    unfold atL
    rw [List.getD_eq_getElem?_getD, List.getElem?_eq_getElem (by omega)]
    rfl
  rw [hhv] at hh
  have hh2 : w.ownsRow Bh 9 1 (.slice (some ⟨g, 0, none⟩) hl2 hc) hl2 (ws.map .string) := by
    have h3 : w.ownsRow Bh 9 1 (.slice (some ⟨g, 0, none⟩) hl2 hc) ws.length (ws.map .string) := hh
    rwa [hl3] at h3
  have q0 := row_cells hh2 i.toNat _ hx
  subst hhv hpv
  have q1 : (w.alloc (Obj.cells #[.slice (some ⟨g, 0, none⟩) hl2 hc, .int .i64 ring, .slice pa n pc] 38)).cell? ⟨g, i.toNat, none⟩ = some (.string (atL ws i)) := by rw [hb1.cell (p := ⟨g, i.toNat, none⟩) hgl]; exact q0
  have b0 : (w.alloc (Obj.cells #[.slice (some ⟨g, 0, none⟩) hl2 hc, .int .i64 ring, .slice pa n pc] 38)).cell? ⟨w.heap.size, 2, none⟩ = some (.slice pa n pc) := Lib.cell_of_heap (heap_alloc_new w _) 2
  have hsz : w.heap.size < (w.alloc (Obj.cells #[.slice (some ⟨g, 0, none⟩) hl2 hc, .int .i64 ring, .slice pa n pc] 38)).heap.size := by simp
  have hi0 : 0 ≤ i := by omega
  have hi1 : i < (hl2 : Int) := by omega
  have HPw := Lib.hid (RowP.still hp hb1)
  obtain ⟨w1, hw1⟩ : ∃ w1, w.alloc (Obj.cells #[.slice (some ⟨g, 0, none⟩) hl2 hc, .int .i64 ring, .slice pa n pc] 38) = w1 := ⟨_, rfl⟩
  rw [hw1] at hb1 HPw
  have HB1 := Lib.hid hb1
  have HW1 := Lib.hid hw1
  have B0 := Lib.hid b0
  have HSz := Lib.hid hsz
  have hs0 : atL ws i = seen (fullP (P.take 0)) (atL ws) i := rfl
  clear hh hh2 hp hP hn hl3 q0 hx hgl hs0 hsz b0 hb1 hw1
  go_enter Tryz.func15, Tryz.ntmps15
  go_wp2
  rw [HW1.out]
  rw [HW1.out] at B0 HSz
  obtain ⟨rb, hrb⟩ : ∃ rb, w.heap.size = rb := ⟨_, rfl⟩
  rw [hrb] at B0 HSz ⊢
  go_loopw [6, 7] (fun s k wr => ∃ j : Nat, j ≤ n ∧ k = .int .i64 j ∧ s = .string (seen (fullP (P.take j)) (atL ws) i) ∧ Below w1.heap.size w1 wr) (fun _ k _ => n - (intOf k).toNat)
  case atStart => exact ⟨0, by omega, rfl, rfl, Below.refl _ _⟩
  case round =>
    obtain ⟨j, hj, rfl, rfl, hbel⟩ := hrel
    have b2 : wr.cell? ⟨rb, 2, none⟩ = some (.slice pa n pc) := by rw [hbel.cell (p := ⟨rb, 2, none⟩) HSz.out]; exact B0.out
    have HBe := Lib.hid hbel
    have HPj := Lib.hid (RowP.still HPw.out hbel)
    clear hbel
    by_cases hlt : j < n
    · have g1 : decide ((j : Int) < (n : Int)) = true := by simp; omega
      have g1' : decide (j < n) = true := by simpa using hlt
      obtain ⟨x, hx⟩ : ∃ x, P[j]? = some x := ⟨_, List.getElem?_eq_getElem (by rw [HN.out]; exact hlt)⟩
      have hxm := HPs.out x (List.mem_of_getElem? hx)
      have htk : P.take (j + 1) = P.take j ++ [x] := by rw [List.take_add_one, hx]; rfl
      obtain ⟨r, rc, hr, _, _, hcell⟩ := row_pos HPj.out (by rw [HN.out]; omega)
      rw [HN.out] at hr
      cases hr
      obtain ⟨xi, xs⟩ := x
      have p0 := hcell (j * 2) _ (writeCells_at P j xi xs hx).1
      have p1 := hcell (j * 2 + 1) _ (writeCells_at P j xi xs hx).2
      have hk0 : (0 : Int) ≤ (j : Int) := by omega
      have hk1 : (j : Int) < (n : Int) := by omega
      have HTk := Lib.hid htk
      simp only at hxm
      clear hx htk hcell
      by_cases hxe : xi = i
      · subst hxe
        have f1 : decide (xi = xi) = true := by simp
        have HF := Lib.hid (ref4Full_any xs hxm wr)
        have hsn : seen (fullP (P.take (j + 1))) (atL ws) xi = fullS xs := by rw [HTk.out, fullP_snoc, seen_snoc, if_pos rfl]
        have HSn := Lib.hid hsn
        clear hsn
        obtain ⟨sj, hsj⟩ : ∃ sj, seen (fullP (P.take j)) (atL ws) xi = sj := ⟨_, rfl⟩
        rw [hsj]
        clear hsj
        go_wp2_with (go_at_call 26; refine (HF.out).mono ?_; rintro e wA ⟨rfl, hbA⟩)
        go_roundw
        case rel => exact ⟨j + 1, by omega, rfl, by rw [HSn.out], HBe.out.trans (hbA.mono HBe.out.size)⟩
        case measure => simp [intOf]; omega
      · have f1 : decide (xi = i) = false := by simpa using hxe
        have f1' : (xi == i) = false := by simpa using hxe
        have hsn : seen (fullP (P.take (j + 1))) (atL ws) i = seen (fullP (P.take j)) (atL ws) i := by rw [HTk.out, fullP_snoc, seen_snoc, if_neg hxe]
        have HSn := Lib.hid hsn
        clear hsn
        obtain ⟨sj, hsj⟩ : ∃ sj, seen (fullP (P.take j)) (atL ws) i = sj := ⟨_, rfl⟩
        rw [hsj] at HSn ⊢
        clear hsj
        go_wp2
        go_roundw
        case rel => exact ⟨j + 1, by omega, rfl, by rw [HSn.out], HBe.out⟩
        case measure => simp [intOf]; omega
    · have g1 : decide ((j : Int) < (n : Int)) = false := by simp; omega
      have g1' : decide (j < n) = false := by simpa using hlt
      have hjn : P.take j = P := List.take_of_length_le (by rw [HN.out]; omega)
      rw [hjn]
      obtain ⟨sj, hsj⟩ : ∃ sj, seen (fullP P) (atL ws) i = sj := ⟨_, rfl⟩
      rw [hsj]
      have HSj := Lib.hid hsj
      clear hjn hsj
      go_wp2
      go_ret2
      exact ⟨by rw [HSj.out]; rfl, HB1.out.trans (HBe.out.mono HB1.out.size)⟩
end
end Go.Proofs.YtalgheocjnajlaaGreatDoor

namespace Go.Proofs.YtalgheocjnajlaaGreatDoor
open Go.RowKit Go.MapKept
attribute [local go_sem] gives givesH
set_option maxRecDepth 100000

theorem results_box {P : Program} {fn : Func} {p u : Tmp} {ty : TypeId} (h : fn.results = #[.cell p ty, .tmp u]) (tmps : Array Value) (w : World) (g : Nat) (t : TypeId) (cs : Array Value) (fr : Nat × Nat) (d : TypeDesc)
    (hp : tmps.getD p undef = .pointer (some ⟨g, 0, none⟩)) (hg : w.heap[g]? = some (.cells cs t fr))
    (hu : P.underlying ty = some d) (hd : (match d with | .struct _ | .array _ _ => true | _ => false) = true) (hi : (P.info? ty).map (·.size) = some cs.size) :
    (results fn tmps).run P w = .ok (.tuple #[.agg cs, tmps.getD u undef]) w := by
  have hp' : tmps[p]?.getD undef = .pointer (some ⟨g, 0, none⟩) := by simpa using hp
  rw [results_cell_tmp h]
  simp [hp', asAddr, run_loadVar_row w g t ty cs fr d hg hu hd hi, Result.andThen]
section
variable {w : World} {Bh : Nat} {hv pv : Value} {ws : List ByteArray} {P : Puts}
/-- what an answer leaves of the puts -/
structure Ref6Out (w w' : World) (pv pv' : Value) (Q : Puts) : Prop where
  row : RowP w' pv' Q
  own : pv'.ownBlock = pv.ownBlock ∨ ∀ k, pv'.ownBlock = some k → w.heap.size ≤ k
  below : Below w.heap.size w w'
set_option maxHeartbeats 2000000 in
theorem ref6Back_any {ha : Option Addr} {hl hc : Nat} (hp : RowP w pv P) (ring mark : Int) :
    Calls Tryz.prog 18 #[.agg #[.slice ha hl hc, .int .i64 ring, pv], .int .i64 mark] w fun e w' => ∃ pv', e = .returned (.agg #[.slice ha hl hc, .int .i64 ring, pv']) ∧ Ref6Out w w' pv pv' (P.take mark.toNat) := by
  obtain ⟨tgt, em⟩ : ∃ tgt : Nat, max mark 0 = (tgt : Int) := ⟨mark.toNat, by omega⟩
  have hmt : mark.toNat = tgt := by omega
  rw [hmt]
  obtain ⟨n, hn⟩ : ∃ n, P.length = n := ⟨_, rfl⟩
  have HP := Lib.hid hp
  have HN := Lib.hid hn
  by_cases c1 : tgt < n
  · obtain ⟨pa, pc, hpv, hcut, hle, hcm⟩ := hp.cut (m := tgt) (by omega)
    rw [hn] at hpv
    subst hpv
    have d1 : decide ((tgt : Int) < (n : Int)) = true := by simp; omega
    have d1' : decide (tgt < n) = true := by simpa using c1
    have ht0 : (0 : Int) ≤ (tgt : Int) := by omega
    have ht1 : (tgt : Int) ≤ (pc : Int) := by omega
    unfold maxLen at hcm
    have HC := Lib.hid hcut
    clear hp hcut hn hmt
    go_enter Tryz.func18, Tryz.ntmps18
    go_wp2
    obtain ⟨n1, n2, nb⟩ := new2 w (Obj.cells #[.slice ha hl hc, .int .i64 ring, .slice pa tgt pc] 38) (Obj.cells #[.slice ha hl hc, .int .i64 ring, .slice pa tgt pc] 38)
    refine bodyPost_ret (results_cell_row rfl _ _ (w.heap.size + 1) _ _ _ _ rfl n2 Tryz.underlying38 rfl (by kernel_rfl)) rfl ?_
    refine ⟨_, rfl, RowP.still HC.out nb, .inl ?_, nb⟩
    cases pa <;> rfl
  · obtain ⟨pa, pc, hpv, hpn, hpm⟩ := slice_form hp
    rw [hn] at hpv
    subst hpv
    have d1 : decide ((tgt : Int) < (n : Int)) = false := by simp; omega
    have d1' : decide (tgt < n) = false := by simpa using c1
    clear hp hn hmt
    go_enter Tryz.func18, Tryz.ntmps18
    go_wp2
    obtain ⟨n1, n2, nb⟩ := new2 w (Obj.cells #[.slice ha hl hc, .int .i64 ring, .slice pa n pc] 38) (Obj.cells #[.slice ha hl hc, .int .i64 ring, .slice pa n pc] 38)
    refine bodyPost_ret (results_cell_row rfl _ _ (w.heap.size + 1) _ _ _ _ rfl n2 Tryz.underlying38 rfl (by kernel_rfl)) rfl ?_
    have ht : P.take tgt = P := List.take_of_length_le (by rw [HN.out]; omega)
    exact ⟨_, rfl, by rw [ht]; exact RowP.still HP.out nb, .inl rfl, nb⟩
set_option maxHeartbeats 2000000 in
theorem ref6Write_bad {ha : Option Addr} {hl hc : Nat} {pa : Option Addr} {pl pc : Nat} (ring : Int) {i : Int} {s : ByteArray} (c : Int) (hc2 : (c = 2 ∧ (i < 0 ∨ (hl : Int) ≤ i)) ∨ (c = 5 ∧ 0 ≤ i ∧ i < hl ∧ 512 < s.size)) :
    Calls Tryz.prog 12 #[.agg #[.slice ha hl hc, .int .i64 ring, .slice pa pl pc], .int .i64 i, .string s] w fun e w' => e = .returned (.tuple #[.agg #[.slice ha hl hc, .int .i64 ring, .slice pa pl pc], .int .i64 c]) ∧ Below w.heap.size w w' := by
  obtain ⟨n1, n2, nb⟩ := new2 w (Obj.cells #[.slice ha hl hc, .int .i64 ring, .slice pa pl pc] 38) (Obj.cells #[.slice ha hl hc, .int .i64 ring, .slice pa pl pc] 38)
  rcases hc2 with ⟨rfl, hlo | hhi⟩ | ⟨rfl, h0, h1, h2⟩
  · have d1 : decide (i < 0) = true := by simpa using hlo
    go_enter Tryz.func12, Tryz.ntmps12
    go_wp2
    refine bodyPost_ret (results_box rfl _ _ (w.heap.size + 1) _ _ _ _ rfl n2 Tryz.underlying38 rfl (by kernel_rfl)) rfl ?_
    exact ⟨rfl, nb⟩
  · by_cases hlo : i < 0
    · exfalso; omega
    have d1 : decide (i < 0) = false := by simpa using hlo
    have d2 : decide ((hl : Int) ≤ i) = true := by simpa using hhi
    go_enter Tryz.func12, Tryz.ntmps12
    go_wp2
    refine bodyPost_ret (results_box rfl _ _ (w.heap.size + 1) _ _ _ _ rfl n2 Tryz.underlying38 rfl (by kernel_rfl)) rfl ?_
    exact ⟨rfl, nb⟩
  · have d1 : decide (i < 0) = false := by simp; omega
    have d2 : decide ((hl : Int) ≤ i) = false := by simp; omega
    have d3 : decide ((512 : Int) < (s.size : Int)) = true := by simp; omega
    have d3' : decide (512 < s.size) = true := by simpa using h2
    go_enter Tryz.func12, Tryz.ntmps12
    go_wp2
    refine bodyPost_ret (results_box rfl _ _ (w.heap.size + 1) _ _ _ _ rfl n2 Tryz.underlying38 rfl (by kernel_rfl)) rfl ?_
    exact ⟨rfl, nb⟩
theorem write_end {w w2 w6 : World} {P : Puts} {ha : Option Addr} {hl hc n g6 c6 : Nat} {ring i : Int} {s : ByteArray} {pv : Value} (hb : Below w.heap.size w w2) (hk : Keep (fun k => w.heap.size + 1 + 1 ≤ k) w2 w6) (hn : P.length = n)
    (h1 : w6.heap[w.heap.size + 1]? = some (Obj.cells #[.slice none 0 0, .int .i64 0, .slice none 0 0] 38 (0, 0))) (ho : w6.ownsRow (w.heap.size + 1 + 1) 60 2 (.slice (some ⟨g6, 0, none⟩) (n + 1) c6) (n + 1) (writeCells P ++ [.int .i64 i, .string s])) (W : World)
    (hW : W = (((w6.setCell ⟨w.heap.size, 2, none⟩ (.slice (some ⟨g6, 0, none⟩) (n + 1) c6)).setCell ⟨w.heap.size + 1, 0, none⟩ (.slice ha hl hc)).setCell ⟨w.heap.size + 1, 1, none⟩ (.int .i64 ring)).setCell ⟨w.heap.size + 1, 2, none⟩ (.slice (some ⟨g6, 0, none⟩) (n + 1) c6)) :
    W.heap[w.heap.size + 1]? = some (Obj.cells #[.slice ha hl hc, .int .i64 ring, .slice (some ⟨g6, 0, none⟩) (n + 1) c6] 38 (0, 0)) ∧ Ref6Out w W pv (.slice (some ⟨g6, 0, none⟩) (n + 1) c6) (P ++ [(i, s)]) := by
  have hset : Keep (fun k => k = w.heap.size ∨ k = w.heap.size + 1) w6 W := by
    rw [hW]
    exact ((((Keep.refl (fun k => k = w.heap.size ∨ k = w.heap.size + 1) w6).setCell (p := ⟨w.heap.size, 2, none⟩) (fun _ => .inl rfl) _).setCell (p := ⟨w.heap.size + 1, 0, none⟩) (fun _ => .inr rfl) _).setCell (p := ⟨w.heap.size + 1, 1, none⟩) (fun _ => .inr rfl) _).setCell (p := ⟨w.heap.size + 1, 2, none⟩) (fun _ => .inr rfl) _
  have hkw : Keep (fun k => w.heap.size ≤ k) w W := ((Keep.ofBelow (S := fun k => w.heap.size ≤ k) hb).trans hk (fun k _ e => by omega)).trans hset (fun k _ e => by omega)
  have hg6 := (ho.lt g6 rfl).1
  refine ⟨?_, ?_, .inr (fun k hk2 => ?_), hkw.below (Nat.le_refl _) (fun i hi e => by omega)⟩
  · rw [hW]
    simp [World.setCell, Array.getElem?_modify, h1]
  · have e1 : writeCells (P ++ [(i, s)]) = writeCells P ++ [.int .i64 i, .string s] := by simp [writeCells]
    have e2 : (P ++ [(i, s)]).length = n + 1 := by simp [hn]
    show World.ownsRow W 0 _ 2 _ (P ++ [(i, s)]).length (writeCells (P ++ [(i, s)]))
    rw [e1, e2]
    have := hset.ownsRow ho (fun k hk2 e => by have := (ho.lt k hk2).1; omega)
    exact ownsRow_base_a this (Nat.zero_le _)
  · have : k = g6 := (Option.some.inj hk2).symm
    omega
set_option maxHeartbeats 2000000 in
theorem ref6Write_ok {ha : Option Addr} {hl hc : Nat} (hp : RowP w pv P) (hl1 : P.length ≤ 1000) (ring : Int) {i : Int} {s : ByteArray} (h0 : 0 ≤ i) (h1 : i < hl) (h2 : s.size ≤ 512) :
    Calls Tryz.prog 12 #[.agg #[.slice ha hl hc, .int .i64 ring, pv], .int .i64 i, .string s] w fun e w' => ∃ pv', e = .returned (.tuple #[.agg #[.slice ha hl hc, .int .i64 ring, pv'], .int .i64 0]) ∧ Ref6Out w w' pv pv' (P ++ [(i, s)]) := by
  obtain ⟨j0, hj0, hy0, hy1, hy2⟩ := info_parts infoPut
  have HJ := Lib.hid hj0
  have Hy0 := Lib.hid hy0
  have Hy1 := Lib.hid hy1
  have Hy2 := Lib.hid hy2
  have d1 : decide (i < 0) = false := by simp; omega
  have d2 : decide ((hl : Int) ≤ i) = false := by simp; omega
  have d3 : decide ((512 : Int) < (s.size : Int)) = false := by simp; omega
  have d3' : decide (512 < s.size) = false := by simp; omega
  obtain ⟨n, hn⟩ : ∃ n, P.length = n := ⟨_, rfl⟩
  have HN := Lib.hid hn
  obtain ⟨w2, hw2⟩ : ∃ w2, (w.alloc (Obj.cells #[.slice ha hl hc, .int .i64 ring, pv] 38)).alloc (Obj.cells #[.slice none 0 0, .int .i64 0, .slice none 0 0] 38) = w2 := ⟨_, rfl⟩
  obtain ⟨n1, n2, nb⟩ := new2 w (Obj.cells #[.slice ha hl hc, .int .i64 ring, pv] 38) (Obj.cells #[.slice none 0 0, .int .i64 0, .slice none 0 0] 38)
  have hsz2 : w2.heap.size = w.heap.size + 1 + 1 := by rw [← hw2]; simp
  rw [hw2] at n1 n2 nb
  have ho0 : (w2.alloc (.cells #[] 60)).ownsRow w2.heap.size 60 2 (.slice (some ⟨w2.heap.size, 0, none⟩) 0 0) 0 [] := ⟨rfl, .inr ⟨w2.heap.size, 0, _, rfl, Nat.le_refl _, heap_alloc_new w2 _, Nat.le_refl _, Nat.zero_le _, rfl, rfl⟩⟩
  rw [hsz2] at ho0
  have HO0 := Lib.hid ho0
  have HSz2 := Lib.hid hsz2
  have HN1 := Lib.hid n1
  have HN2 := Lib.hid n2
  have HB2 := Lib.hid nb
  have HPw := Lib.hid (RowP.still hp nb)
  have HPl := Lib.hid (show ∀ g, pv.ownBlock = some g → g < w.heap.size from fun g hg => (hp.lt g hg).2)
  obtain ⟨pa, pc, hpv, hpn, hpm⟩ := slice_form hp
  rw [HN.out] at hpv hpn
  have hbA : Below w2.heap.size w2 (w2.alloc (.cells #[] 60)) := (Below.refl _ _).alloc (Nat.le_refl _) _
  have HBA := Lib.hid hbA
  clear hj0 hy0 hy1 hy2 ho0 hn n1 n2 nb hbA
  subst hpv
  have b0 : w2.cell? ⟨w.heap.size, 0, none⟩ = some (.slice ha hl hc) := Lib.cell_of_heap HN1.out 0
  have b1 : w2.cell? ⟨w.heap.size, 1, none⟩ = some (.int .i64 ring) := Lib.cell_of_heap HN1.out 1
  have b2 : w2.cell? ⟨w.heap.size, 2, none⟩ = some (.slice pa n pc) := Lib.cell_of_heap HN1.out 2
  clear hp hpm
  go_enter Tryz.func12, Tryz.ntmps12
  cases pa with
  | none =>
    have hnil : n = 0 ∧ pc = 0 ∧ P = [] := by
      rcases HPw.out.2 with ⟨e, e2⟩ | ⟨g, cap, cur, e, _⟩
      · have h3 : P = [] := by
          have := writeCells_length P
          rw [e2] at this
          exact List.length_eq_zero_iff.1 (by simp at this; omega)
        have h4 := HN.out
        rw [h3] at h4
        cases e
        exact ⟨h4.symm, rfl, h3⟩
      · cases e
    obtain ⟨rfl, rfl, rfl⟩ := hnil
    go_wp2_with (first
      | (at_builtin
         refine wpList_append_own_none (by rfl) _ _ 36 (by rfl) (w.heap.size + 1 + 1) 60 j0 2 Tryz.underlying36 HJ.out _ _ _ (by rfl) HO0.out (by rfl) ?_)
      | (at_builtin
         refine wpList_append_own_at _ (by rfl) _ _ 36 (by rfl) (w.heap.size + 1 + 1) 60 j0 _ 2 24 Tryz.underlying36 HJ.out Hy0.out Hy1.out Hy2.out (by rfl) (by decide) _ _ _ (by rfl) (HO0.out.alloc _) ⟨w.heap.size + 1 + 1 + 1, 0, none⟩ 1 1 [.int .i64 i, .string s] (by rfl) (by rfl) (World.news_of_block (cs := #[.int .i64 i, .string s]) (t := 60) (fr := (0, 0)) (by
           have hq := heap_alloc_new (w2.alloc (.cells #[] 60)) (Obj.cells #[.int .i64 i, .string s] 60)
           rw [World.size_alloc, HSz2.out] at hq
           exact hq)) (by simp [Value.oneCell']) (by unfold maxLen; omega) (by omega) ?_ ?_
         · have := HBA.out.size; have := HSz2.out; simp; omega
         intro v6 w6 hown6 hg6 hnil6 hloc6
         have hk6 : Keep (fun k => w.heap.size + 1 + 1 ≤ k) w2 w6 := ((Keep.ofBelow (S := fun k => w.heap.size + 1 + 1 ≤ k) HBA.out).alloc _).grown hg6 (fun j hj e => (HO0.out.lt j e).1)
         obtain ⟨g6, c6, hv6, _, _, hg6B⟩ := row_posB hown6 (by omega)
         subst hv6
         have m0 : w6.heap[w.heap.size]? = _ := hk6.at HN1.out (by omega)
         have m1 : w6.heap[w.heap.size + 1]? = _ := hk6.at HN2.out (by omega)
         have b0 : w6.cell? ⟨w.heap.size, 0, none⟩ = some (.slice ha hl hc) := Lib.cell_of_heap m0 0
         have b1 : w6.cell? ⟨w.heap.size, 1, none⟩ = some (.int .i64 ring) := Lib.cell_of_heap m0 1
         have b2 : w6.cell? ⟨w.heap.size, 2, none⟩ = some (.slice none 0 0) := Lib.cell_of_heap m0 2
         have f2 : w6.frozen? ⟨w.heap.size, 2, none⟩ = false := by simp [World.frozen?, m0]
         have r0 : w6.cell? ⟨w.heap.size + 1, 0, none⟩ = some (.slice none 0 0) := Lib.cell_of_heap m1 0
         have r1 : w6.cell? ⟨w.heap.size + 1, 1, none⟩ = some (.int .i64 0) := Lib.cell_of_heap m1 1
         have r2 : w6.cell? ⟨w.heap.size + 1, 2, none⟩ = some (.slice none 0 0) := Lib.cell_of_heap m1 2
         have s0 : w6.frozen? ⟨w.heap.size + 1, 0, none⟩ = false := by simp [World.frozen?, m1]
         have s1 : w6.frozen? ⟨w.heap.size + 1, 1, none⟩ = false := by simp [World.frozen?, m1]
         have s2 : w6.frozen? ⟨w.heap.size + 1, 2, none⟩ = false := by simp [World.frozen?, m1]
         have HOw6 := Lib.hid hown6
         have HK6 := Lib.hid hk6
         have HM1 := Lib.hid m1
         clear hown6 hg6 hnil6 hloc6 hk6 m0 m1 hg6B))
    obtain ⟨hg, ho⟩ := write_end (pv := .slice none 0 0) (ha := ha) (hl := hl) (hc := hc) (ring := ring) HB2.out HK6.out HN.out HM1.out HOw6.out _ rfl
    refine bodyPost_ret (results_box rfl _ _ (w.heap.size + 1) _ _ _ _ rfl hg Tryz.underlying38 rfl (by kernel_rfl)) rfl ?_
    exact ⟨_, rfl, ho⟩
  | some ad =>
    have hcell : ∃ g, ad = ⟨g, 0, none⟩ ∧ g < w.heap.size ∧ ∀ j u, (writeCells P)[j]? = some u → w2.cell? ⟨g, j, none⟩ = some u := by
      rcases HPw.out.2 with ⟨e, _⟩ | ⟨g, cap, cur, e, _⟩
      · cases e
      · cases e
        exact ⟨g, rfl, HPl.out g rfl, fun j u hu => row_cells HPw.out j u hu⟩
    obtain ⟨g, rfl, hgl, hcell⟩ := hcell
    have HCell := Lib.hid hcell
    have hgl2 : g < w2.heap.size := by omega
    clear hcell
    go_wp2_with (first
      | (at_builtin
         refine wpList_append_own_at _ (by rfl) _ _ 36 (by rfl) (w.heap.size + 1 + 1) 60 j0 _ 2 24 Tryz.underlying36 HJ.out Hy0.out Hy1.out Hy2.out (by rfl) (by decide) _ _ _ (by rfl) HO0.out ⟨g, 0, none⟩ n pc (writeCells P) (by rfl) (by rw [writeCells_length, HN.out]) (fun j u hu => by
           rw [addr_none, Nat.zero_add, HBA.out.cell (p := ⟨g, j, none⟩) hgl2]
           exact HCell.out j u hu) (writeCells_one P) (by unfold maxLen; have := HN.out; omega) (by have := HN.out; omega) ?_ ?_
         · rw [← HSz2.out]; exact HBA.out.size
         intro v4 w4 hown4 hg4 hnil4 hloc4
         rw [Nat.zero_add, List.nil_append] at hown4
         have hk4 : Keep (fun k => w.heap.size + 1 + 1 ≤ k) w2 w4 := ((Keep.ofBelow (S := fun k => w.heap.size + 1 + 1 ≤ k) HBA.out)).grown hg4 (fun j hj e => (HO0.out.lt j e).1)
         obtain ⟨a4, c4, hv4⟩ := slice_formB (show w4.ownsRow (w.heap.size + 1 + 1) 60 2 v4 n (writeCells P) from hown4)
         subst hv4
         have HOw4 := Lib.hid hown4
         have HK4 := Lib.hid hk4
         clear hown4 hg4 hnil4 hloc4 hk4)
      | (at_builtin
         refine wpList_append_own_at _ (by rfl) _ _ 36 (by rfl) (w.heap.size + 1 + 1) 60 j0 _ 2 24 Tryz.underlying36 HJ.out Hy0.out Hy1.out Hy2.out (by rfl) (by decide) _ _ _ (by rfl) (HOw4.out.alloc _) ⟨w4.heap.size, 0, none⟩ 1 1 [.int .i64 i, .string s] (by rfl) (by rfl) (World.news_of_block (cs := #[.int .i64 i, .string s]) (t := 60) (fr := (0, 0)) (heap_alloc_new w4 _)) (by simp [Value.oneCell']) (by unfold maxLen; have := HN.out; omega) (by have := HN.out; omega) ?_ ?_
         · have := HK4.out.size; have := HSz2.out; simp; omega
         intro v6 w6 hown6 hg6 hnil6 hloc6
         have hk6 : Keep (fun k => w.heap.size + 1 + 1 ≤ k) w2 w6 := (HK4.out.alloc _).grown hg6 (fun j hj e => (HOw4.out.lt j e).1)
         obtain ⟨g6, c6, hv6, _, _, hg6B⟩ := row_posB hown6 (by omega)
         subst hv6
         have m0 : w6.heap[w.heap.size]? = _ := hk6.at HN1.out (by omega)
         have m1 : w6.heap[w.heap.size + 1]? = _ := hk6.at HN2.out (by omega)
         have b0 : w6.cell? ⟨w.heap.size, 0, none⟩ = some (.slice ha hl hc) := Lib.cell_of_heap m0 0
         have b1 : w6.cell? ⟨w.heap.size, 1, none⟩ = some (.int .i64 ring) := Lib.cell_of_heap m0 1
         have b2 : w6.cell? ⟨w.heap.size, 2, none⟩ = some (.slice (some ⟨g, 0, none⟩) n pc) := Lib.cell_of_heap m0 2
         have f2 : w6.frozen? ⟨w.heap.size, 2, none⟩ = false := by simp [World.frozen?, m0]
         have r0 : w6.cell? ⟨w.heap.size + 1, 0, none⟩ = some (.slice none 0 0) := Lib.cell_of_heap m1 0
         have r1 : w6.cell? ⟨w.heap.size + 1, 1, none⟩ = some (.int .i64 0) := Lib.cell_of_heap m1 1
         have r2 : w6.cell? ⟨w.heap.size + 1, 2, none⟩ = some (.slice none 0 0) := Lib.cell_of_heap m1 2
         have s0 : w6.frozen? ⟨w.heap.size + 1, 0, none⟩ = false := by simp [World.frozen?, m1]
         have s1 : w6.frozen? ⟨w.heap.size + 1, 1, none⟩ = false := by simp [World.frozen?, m1]
         have s2 : w6.frozen? ⟨w.heap.size + 1, 2, none⟩ = false := by simp [World.frozen?, m1]
         have HOw6 := Lib.hid hown6
         have HK6 := Lib.hid hk6
         have HM0 := Lib.hid m0
         have HM1 := Lib.hid m1
         have HG6 := Lib.hid hg6B
         clear hown6 hg6 hnil6 hloc6 hk6 m0 m1 hg6B))
    obtain ⟨hg, ho⟩ := write_end (pv := .slice (some ⟨g, 0, none⟩) n pc) (ha := ha) (hl := hl) (hc := hc) (ring := ring) HB2.out HK6.out HN.out HM1.out HOw6.out _ rfl
    refine bodyPost_ret (results_box rfl _ _ (w.heap.size + 1) _ _ _ _ rfl hg Tryz.underlying38 rfl (by kernel_rfl)) rfl ?_
    exact ⟨_, rfl, ho⟩
end
end Go.Proofs.YtalgheocjnajlaaGreatDoor

namespace Go.Proofs.YtalgheocjnajlaaGreatDoor
open Go.RowKit Go.MapKept
attribute [local go_sem] gives givesH
set_option maxRecDepth 100000

section
variable {w : World} {Bh : Nat} {hv pv : Value} {ws : List ByteArray} {P : Puts}
/-- what a commit answers -/
def Com6 (w : World) (hv pv : Value) (ws : List ByteArray) (ring : Nat) (P : Puts) (e : Ending) (w' : World) : Prop :=
  ∃ hv' pv', e = .returned (.tuple #[.agg #[hv', .int .i64 ring, pv'], .int .i64 (cErr ws.length ring P)]) ∧ Below w.heap.size w w' ∧
    ((cErr ws.length ring P ≠ 0 ∧ hv' = hv ∧ pv' = pv) ∨ (cErr ws.length ring P = 0 ∧ pv' = .slice none 0 0 ∧ ((hv' = hv ∧ refL ws ring P = ws) ∨ TextsAt w' w.heap.size hv' (refL ws ring P))))
theorem box_end {w w4 : World} {r : Nat} (hr : w.heap.size ≤ r) (hb : Below w.heap.size w w4) (h1 : w4.heap[r]? = some (Obj.cells #[.slice none 0 0, .int .i64 0, .slice none 0 0] 38 (0, 0))) (x y z : Value) :
    (((w4.setCell ⟨r, 0, none⟩ x).setCell ⟨r, 1, none⟩ y).setCell ⟨r, 2, none⟩ z).heap[r]? = some (Obj.cells #[x, y, z] 38 (0, 0)) ∧ Below w.heap.size w (((w4.setCell ⟨r, 0, none⟩ x).setCell ⟨r, 1, none⟩ y).setCell ⟨r, 2, none⟩ z) ∧
      Keep (fun k => k = r) w4 (((w4.setCell ⟨r, 0, none⟩ x).setCell ⟨r, 1, none⟩ y).setCell ⟨r, 2, none⟩ z) := by
  have hk : Keep (fun k => k = r) w4 (((w4.setCell ⟨r, 0, none⟩ x).setCell ⟨r, 1, none⟩ y).setCell ⟨r, 2, none⟩ z) := (((Keep.refl (fun k => k = r) w4).setCell (p := ⟨r, 0, none⟩) (fun _ => rfl) _).setCell (p := ⟨r, 1, none⟩) (fun _ => rfl) _).setCell (p := ⟨r, 2, none⟩) (fun _ => rfl) _
  refine ⟨?_, hb.trans (hk.below hb.size (fun i hi e => by omega)), hk⟩
  simp [World.setCell, Array.getElem?_modify, h1]
set_option maxHeartbeats 2000000 in
theorem ref6Commit_any {ha : Option Addr} {hl hc : Nat} (hh : TextsAt w Bh (.slice ha hl hc) ws) (h1 : 1 ≤ ws.length) (h6 : ws.length ≤ 65536) {pa : Option Addr} {pl pc : Nat} (hp : RowP w (.slice pa pl pc) P) (hl1 : P.length ≤ 1000) (hP : ∀ x ∈ P, x.2.size ≤ 512) (ring : Nat) :
    Calls Tryz.prog 19 #[.agg #[.slice ha hl hc, .int .i64 ring, .slice pa pl pc]] w (Com6 w (.slice ha hl hc) (.slice pa pl pc) ws ring P) := by
  obtain ⟨w2, hw2⟩ : ∃ w2, (w.alloc (Obj.cells #[.slice ha hl hc, .int .i64 ring, .slice pa pl pc] 38)).alloc (Obj.cells #[.slice none 0 0, .int .i64 0, .slice none 0 0] 38) = w2 := ⟨_, rfl⟩
  obtain ⟨n1, n2, nb⟩ := new2 w (Obj.cells #[.slice ha hl hc, .int .i64 ring, .slice pa pl pc] 38) (Obj.cells #[.slice none 0 0, .int .i64 0, .slice none 0 0] 38)
  have hsz2 : w2.heap.size = w.heap.size + 1 + 1 := by rw [← hw2]; simp
  rw [hw2] at n1 n2 nb
  obtain ⟨hone, hb3⟩ := listsAt_one (putsAt_row (RowP.still hp nb))
  have hf : [P].flatten = P := by simp
  have hh3 : TextsAt (w2.alloc (Obj.cells #[.slice pa pl pc] 36)) Bh (.slice ha hl hc) ws := (Keep.ofBelow (S := fun _ => False) (nb.trans (hb3.mono nb.size))).ownsRow hh (fun _ _ e => e)
  have hco := refCommit_any hh3 h1 h6 hone (by rw [hf]; omega) (by show (1 : Nat) ≤ _; decide) (fun x hx => by
    rw [hf] at hx
    have := hP x hx
    omega) ring
  rw [hf] at hco
  have HCo := Lib.hid hco
  have hb13 := nb.trans (hb3.mono nb.size)
  have HB3 := Lib.hid hb13
  have hm0 : (w2.alloc (Obj.cells #[.slice pa pl pc] 36)).heap[w.heap.size]? = _ := (Keep.ofBelow (S := fun _ => False) hb3).at n1 (fun e => e)
  have hm1 : (w2.alloc (Obj.cells #[.slice pa pl pc] 36)).heap[w.heap.size + 1]? = _ := (Keep.ofBelow (S := fun _ => False) hb3).at n2 (fun e => e)
  have HM0 := Lib.hid hm0
  have HM1 := Lib.hid hm1
  have b0 : w2.cell? ⟨w.heap.size, 0, none⟩ = some (.slice ha hl hc) := Lib.cell_of_heap n1 0
  have b1 : w2.cell? ⟨w.heap.size, 1, none⟩ = some (.int .i64 ring) := Lib.cell_of_heap n1 1
  have b2 : w2.cell? ⟨w.heap.size, 2, none⟩ = some (.slice pa pl pc) := Lib.cell_of_heap n1 2
  clear hm0 hm1 hco hh3 hf hone hb3 n1 n2 nb hb13
  go_enter Tryz.func19, Tryz.ntmps19
  go_wp2_with (fail)
  rw [hsz2] at HCo
  refine (HCo.out).mono ?_
  rintro e w4 ⟨hv4, rfl, hv, hb4⟩
  obtain ⟨ce, hce⟩ : ∃ ce, cErr ws.length ring P = ce := ⟨_, rfl⟩
  rw [hce]
  have HCe := Lib.hid hce
  have m0 : w4.heap[w.heap.size]? = _ := (Keep.ofBelow (S := fun _ => False) hb4).at HM0.out (fun e => e)
  have m1 : w4.heap[w.heap.size + 1]? = _ := (Keep.ofBelow (S := fun _ => False) hb4).at HM1.out (fun e => e)
  have a0 : w4.cell? ⟨w.heap.size, 0, none⟩ = some (.slice ha hl hc) := Lib.cell_of_heap m0 0
  have a1 : w4.cell? ⟨w.heap.size, 1, none⟩ = some (.int .i64 ring) := Lib.cell_of_heap m0 1
  have a2 : w4.cell? ⟨w.heap.size, 2, none⟩ = some (.slice pa pl pc) := Lib.cell_of_heap m0 2
  have r0 : w4.cell? ⟨w.heap.size + 1, 0, none⟩ = some (.slice none 0 0) := Lib.cell_of_heap m1 0
  have r1 : w4.cell? ⟨w.heap.size + 1, 1, none⟩ = some (.int .i64 0) := Lib.cell_of_heap m1 1
  have r2 : w4.cell? ⟨w.heap.size + 1, 2, none⟩ = some (.slice none 0 0) := Lib.cell_of_heap m1 2
  have s0 : w4.frozen? ⟨w.heap.size + 1, 0, none⟩ = false := by simp [World.frozen?, m1]
  have s1 : w4.frozen? ⟨w.heap.size + 1, 1, none⟩ = false := by simp [World.frozen?, m1]
  have s2 : w4.frozen? ⟨w.heap.size + 1, 2, none⟩ = false := by simp [World.frozen?, m1]
  have HM1' := Lib.hid m1
  have HB4 := Lib.hid (HB3.out.trans (hb4.mono HB3.out.size))
  have hs3 := HB3.out.size
  have HS4 := Lib.hid hb4.size
  have HV := Lib.hid hv
  clear m0 m1 hb4 hce b0 b1 b2
  by_cases c0 : ce = 0
  · subst c0
    obtain ⟨xa, xl, xc, hx⟩ : ∃ xa xl xc, hv4 = .slice xa xl xc := by
      rcases hv with ⟨e, _⟩ | e
      · exact ⟨_, _, _, e⟩
      · obtain ⟨a, c, h⟩ := slice_formB e; exact ⟨_, _, _, h⟩
    subst hx
    clear hv
    go_wp2
    obtain ⟨hg, hbl, hkp⟩ := box_end (Nat.le_succ w.heap.size) HB4.out HM1'.out (.slice xa xl xc) (.int .i64 ring) (.slice none 0 0)
    refine bodyPost_ret (results_box rfl _ _ (w.heap.size + 1) _ _ _ _ rfl hg Tryz.underlying38 rfl (by kernel_rfl)) rfl ?_
    refine ⟨_, _, by rw [HCe.out]; rfl, hbl, .inr ⟨HCe.out, rfl, HV.out.imp id (fun ht => ?_)⟩⟩
    have ht2 := hkp.ownsRow ht (fun k hk e => by have := (ht.lt k hk).1; rw [World.size_alloc, hsz2] at this; omega)
    exact ownsRow_base_a ht2 (by rw [World.size_alloc, hsz2]; omega)
  · have f0 : decide (ce = 0) = false := by simpa using c0
    have f0' : (ce == 0) = false := by simpa using c0
    clear hv
    go_wp2
    obtain ⟨hg, hbl, hkp⟩ := box_end (Nat.le_succ w.heap.size) HB4.out HM1'.out (.slice ha hl hc) (.int .i64 ring) (.slice pa pl pc)
    refine bodyPost_ret (results_box rfl _ _ (w.heap.size + 1) _ _ _ _ rfl hg Tryz.underlying38 rfl (by kernel_rfl)) rfl ?_
    exact ⟨_, _, by rw [HCe.out]; rfl, hbl, .inl ⟨by rw [HCe.out]; exact c0, rfl, rfl⟩⟩
end
end Go.Proofs.YtalgheocjnajlaaGreatDoor

namespace Go.Proofs.YtalgheocjnajlaaGreatDoor
open Go.RowKit Go.MapKept
attribute [local go_sem] gives givesH
set_option maxRecDepth 100000

section
variable {w : World} {P : Puts}
set_option maxHeartbeats 2000000 in
theorem ref6Touched_any {ha : Option Addr} {hl hc : Nat} {pa : Option Addr} {pl pc : Nat} (hp : RowP w (.slice pa pl pc) P) (hl1 : P.length ≤ 1000) (hg : ∀ x ∈ P, -9223372036854775808 ≤ x.1 ∧ x.1 ≤ 9223372036854775807) (ring : Int) :
    Calls Tryz.prog 23 #[.agg #[.slice ha hl hc, .int .i64 ring, .slice pa pl pc]] w fun e w' => e = .returned (.int .i64 (metL P).length) ∧ Below w.heap.size w w' := by
  obtain ⟨w1, hw1⟩ : ∃ w1, w.alloc (Obj.cells #[.slice ha hl hc, .int .i64 ring, .slice pa pl pc] 38) = w1 := ⟨_, rfl⟩
  have n1 := heap_alloc_new w (Obj.cells #[.slice ha hl hc, .int .i64 ring, .slice pa pl pc] 38)
  have nb : Below w.heap.size w (w.alloc (Obj.cells #[.slice ha hl hc, .int .i64 ring, .slice pa pl pc] 38)) := (Below.refl _ _).alloc (Nat.le_refl _) _
  rw [hw1] at n1 nb
  have HN1 := Lib.hid n1
  have HB1 := Lib.hid nb
  have HP1 := Lib.hid (RowP.still hp nb)
  obtain ⟨_, _, hv, _, _⟩ := slice_form hp
  obtain ⟨n, hn⟩ : ∃ n, P.length = n := ⟨_, rfl⟩
  have hpl : pl = n := by rw [hn] at hv; cases hv; rfl
  subst hpl
  have HN := Lib.hid hn
  have hplk : pl ≤ 1000 := by omega
  clear n1 nb hp hv hn
  go_enter Tryz.func23, Tryz.ntmps23
  go_wp2_with (fail)
  try rw [hw1]
  obtain ⟨rb, hrb⟩ : ∃ rb, w.heap.size = rb := ⟨_, rfl⟩
  have hc1 : w1.cell? ⟨rb, 2, none⟩ = some (.slice pa pl pc) := by rw [← hrb]; exact Lib.cell_of_heap HN1.out 2
  have hrl : rb < w1.heap.size := by rw [← hrb, ← hw1]; simp
  have HC1 := Lib.hid hc1
  have HRl := Lib.hid hrl
  rw [hrb]
  clear hw1 hc1 hrl hrb
  go_loopw [3, 4] (fun nv iv wr => ∃ i : Nat, i ≤ pl ∧ iv = .int .i64 i ∧ nv = .int .i64 (metL (P.take i)).length ∧ Below w1.heap.size w1 wr) (fun _ iv _ => pl - (intOf iv).toNat)
  case atStart => exact ⟨0, by omega, rfl, rfl, Below.refl _ _⟩
  case round =>
    obtain ⟨i, hi, rfl, rfl, hbel⟩ := hrel
    have HBi := Lib.hid hbel
    have b2 : wr.cell? ⟨rb, 2, none⟩ = some (.slice pa pl pc) := by rw [hbel.cell (p := ⟨rb, 2, none⟩) HRl.out]; exact HC1.out
    have hPi := RowP.still HP1.out hbel
    obtain ⟨m, hm⟩ : ∃ m, (metL (P.take i)).length = m := ⟨_, rfl⟩
    rw [hm]
    have HM := Lib.hid hm
    have hml : m ≤ 1000 := by have := metL_le (P.take i); rw [List.length_take] at this; omega
    clear hbel hm
    by_cases hlt : i < pl
    · have g1 : decide ((i : Int) < (pl : Int)) = true := by simp; omega
      have g1' : decide (i < pl) = true := by simpa using hlt
      obtain ⟨x, hx⟩ : ∃ x, P[i]? = some x := ⟨_, List.getElem?_eq_getElem (by rw [HN.out]; exact hlt)⟩
      obtain ⟨g, c, hgv, _, _, hcell⟩ := row_pos hPi (by rw [HN.out]; omega)
      rw [HN.out] at hgv
      cases hgv
      obtain ⟨xi, xs⟩ := x
      have hxg := hg _ (List.mem_of_getElem? hx)
      have hgl := (hPi.lt g rfl).2
      have hci := hcell (i * 2) _ (writeCells_at P i xi xs hx).1
      have HCi := Lib.hid hci
      have HGl := Lib.hid hgl
      have HCell := Lib.hid hcell
      have HX := Lib.hid hx
      have HB2 := Lib.hid b2
      have hi0 : (0 : Int) ≤ (i : Int) := by omega
      have hi1 : (i : Int) < (pl : Int) := by omega
      have hrl := Nat.lt_of_lt_of_le HRl.out HBi.out.size
      have HRl2 := Lib.hid hrl
      clear hPi hcell hci hgl hx hrl
      go_wp2
      obtain ⟨wo, hwo⟩ : ∃ wo, wr = wo := ⟨_, rfl⟩
      rw [hwo] at HBi b2 HCi HGl HCell HB2 HRl2 ⊢
      clear hwo
      go_loopw [5, 6] (fun fv kv wr => ∃ k : Nat, k ≤ i ∧ kv = .int .i64 k ∧ fv = .bool (!((P.take k).any fun y => decide (y.1 = xi))) ∧ Below wo.heap.size wo wr) (fun _ kv _ => i - (intOf kv).toNat)
      case atStart => exact ⟨0, by omega, rfl, rfl, Below.refl _ _⟩
      case round =>
        obtain ⟨k, hk, rfl, rfl, hbel⟩ := hrel
        have HBk := Lib.hid hbel
        obtain ⟨fb, hfb⟩ : ∃ fb, (!((P.take k).any fun y => decide (y.1 = xi))) = fb := ⟨_, rfl⟩
        rw [hfb]
        have HFb := Lib.hid hfb
        have a2 : wr.cell? ⟨rb, 2, none⟩ = some (.slice (some ⟨g, 0, none⟩) pl pc) := by rw [hbel.cell (p := ⟨rb, 2, none⟩) HRl2.out]; exact HB2.out
        have p1 : wr.cell? ⟨g, i * 2, none⟩ = some (.int .i64 xi) := by rw [hbel.cell (p := ⟨g, i * 2, none⟩) HGl.out]; exact HCi.out
        clear hbel hfb
        by_cases hlt2 : k < i
        · have g2 : decide ((k : Int) < (i : Int)) = true := by simp; omega
          have g2' : decide (k < i) = true := by simpa using hlt2
          obtain ⟨y, hy⟩ : ∃ y, P[k]? = some y := ⟨_, List.getElem?_eq_getElem (by rw [HN.out]; omega)⟩
          obtain ⟨yi, ys⟩ := y
          have hyg := hg _ (List.mem_of_getElem? hy)
          have p2 : wr.cell? ⟨g, k * 2, none⟩ = some (.int .i64 yi) := by rw [HBk.out.cell (p := ⟨g, k * 2, none⟩) HGl.out]; exact HCell.out (k * 2) _ (writeCells_at P k yi ys hy).1
          have htk : (!((P.take (k + 1)).any fun y => decide (y.1 = xi))) = (fb && !decide (yi = xi)) := by
            rw [List.take_add_one, hy, ← HFb.out]
            simp [Bool.not_or]
          have HTk := Lib.hid htk
          have hk0 : (0 : Int) ≤ (k : Int) := by omega
          have hk1 : (k : Int) < (pl : Int) := by omega
          clear hy htk
          by_cases he : yi = xi
          · subst he
            have e1 : decide (yi = yi) = true := by simp
            have e1' : (yi == yi) = true := by simp
            go_wp2
            go_quiet (fail)
            go_wp2
            go_roundw
            case rel =>
              refine ⟨k + 1, by omega, rfl, ?_, HBk.out.trans (Below.mono (⟨rfl, rfl, rfl, Nat.le_refl _, fun _ _ => rfl⟩ : Below wr.heap.size wr (wr.drewN nq)) HBk.out.size)⟩
              rw [HTk.out]
              simp
            case measure => simp [intOf]; omega
          · have e1 : decide (yi = xi) = false := by simpa using he
            have e1' : (yi == xi) = false := by simpa using he
            go_wp2
            go_quiet (fail)
            go_wp2
            go_roundw
            case rel =>
              refine ⟨k + 1, by omega, rfl, ?_, HBk.out.trans (Below.mono (⟨rfl, rfl, rfl, Nat.le_refl _, fun _ _ => rfl⟩ : Below wr.heap.size wr (wr.drewN nq)) HBk.out.size)⟩
              rw [HTk.out, e1]
              simp
            case measure => simp [intOf]; omega
        · have g2 : decide ((k : Int) < (i : Int)) = false := by simp; omega
          have g2' : decide (k < i) = false := by simpa using hlt2
          have hki : k = i := by omega
          have hfi := HFb.out
          rw [hki] at hfi
          have htk : P.take (i + 1) = P.take i ++ [(xi, xs)] := by rw [List.take_add_one, HX.out]; rfl
          have hms : (metL (P.take (i + 1))).length = if fb then m + 1 else m := by
            rw [htk, metL_snoc, ← HM.out]
            cases hfv : fb with
            | true =>
              rw [hfv] at hfi
              rw [if_neg (fun hm => by
                obtain ⟨y, hy, he⟩ := (metL_mem _ _).1 hm
                have h2 : ((P.take i).any fun y => decide (y.1 = xi)) = true := List.any_eq_true.2 ⟨y, hy, by simpa using he⟩
                rw [h2] at hfi
                cases hfi)]
              simp
            | false =>
              rw [hfv] at hfi
              have h2 : ((P.take i).any fun y => decide (y.1 = xi)) = true := by simpa using hfi
              obtain ⟨y, hy, he⟩ := List.any_eq_true.1 h2
              rw [if_pos ((metL_mem _ _).2 ⟨y, hy, by simpa using he⟩)]
              simp
          have HMs := Lib.hid hms
          have e9 : IntKind.i64.wrap ((m : Int) + 1) = (m : Int) + 1 := wrapI (by omega) (by omega)
          clear hfi htk hms hki
          cases fb with
          | true =>
            go_wp2
            go_roundw
            case rel => exact ⟨i + 1, by omega, rfl, by rw [HMs.out]; rfl, HBi.out.trans (HBk.out.mono HBi.out.size)⟩
            case measure => simp [intOf]; omega
          | false =>
            go_wp2
            go_roundw
            case rel => exact ⟨i + 1, by omega, rfl, by rw [HMs.out]; rfl, HBi.out.trans (HBk.out.mono HBi.out.size)⟩
            case measure => simp [intOf]; omega
    · have g1 : decide ((i : Int) < (pl : Int)) = false := by simp; omega
      have g1' : decide (i < pl) = false := by simpa using hlt
      have hip : P.take i = P := List.take_of_length_le (by rw [HN.out]; omega)
      have hM := HM.out
      rw [hip] at hM
      have HM2 := Lib.hid hM
      clear hip hM
      go_wp2
      go_ret
      exact ⟨by rw [HM2.out]; rfl, HB1.out.trans (HBi.out.mono HB1.out.size)⟩
end
end Go.Proofs.YtalgheocjnajlaaGreatDoor
