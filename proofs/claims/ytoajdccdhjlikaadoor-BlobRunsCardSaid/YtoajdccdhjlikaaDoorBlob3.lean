/-
  BLOBS (blob): Put; walk: a blob's pages, and its text.
-/
import Derived.Test.YtoajdccdhjlikaaDoorBlob2
import Derived.Test.YtoajdccdhjlikaaDoorShelf2
namespace Go.Proofs.YtoajdccdhjlikaaDoor
open Go.RowKit Go.MapKept
attribute [local go_sem] gives givesH
set_option maxRecDepth 100000

theorem roomMark_any {w : World} {br : Nat} {R : RoomS} (h : RoomAt w br R) :
    Calls Tryd.prog 61 #[.pointer (some ⟨br, 0, none⟩)] w fun e w' => e = .returned (.int .i64 R.T.puts.length) ∧ w = w' := by
  obtain ⟨⟨c0, c1, c2⟩, _⟩ := tCells h.cells
  have H := Lib.hid (txMark_any h.tx)
  go_enter Tryd.func61, Tryd.ntmps61
  go_wp2_with (go_at_call 88; refine (H.out).mono ?_; rintro e w1 ⟨rfl, rfl⟩)
  go_ret
  exact ⟨rfl, rfl⟩
theorem roomBack_any {w : World} {br : Nat} {R : RoomS} (h : RoomAt w br R) (hlen : R.T.puts.length < 1000000000000) (mark : Int) :
    Calls Tryd.prog 63 #[.pointer (some ⟨br, 0, none⟩), .int .i64 mark] w fun e w' => e = .returned (.tuple #[]) ∧ ∃ R', RoomStep br w R w' R' ∧ R'.T.puts = R.T.puts.take mark.toNat := by
  obtain ⟨⟨c0, c1, c2⟩, _⟩ := tCells h.cells
  have H := Lib.hid (txBack_any h.tx hlen mark)
  have HR := Lib.hid h
  clear h
  go_enter Tryd.func63, Tryd.ntmps63
  go_wp2_with (go_at_call 90; refine (H.out).mono ?_; rintro e w1 ⟨rfl, T', hst, hpp⟩)
  go_end0
  exact ⟨rfl, R.turned T', HR.out.step hst, hpp⟩

/-- what Put comes to, of a text that is not too long -/
def PutSays (br : Nat) (w : World) (R : RoomS) (s : ByteArray) (e : Ending) (w' : World) : Prop :=
  (∃ R' ps, e = .returned (.tuple #[.int .i64 (ps.getD 0 0 : Nat), .int .i64 0]) ∧ RoomStep br w R w' R' ∧ Took R R' ps ∧ BlobIn R' s ps ∧ ∃ a, R'.T.puts = R.T.puts ++ a ∧ a.length ≤ 3 * pagesB s.size) ∨
  (∃ R', e = .returned (.tuple #[.int .i64 0, .int .i64 4]) ∧ RoomStep br w R w' R' ∧ R.pages < cnt R.has R.pages + pagesB s.size ∧ R'.T.puts = R.T.puts)
set_option maxHeartbeats 1000000 in
theorem putP_any {w : World} {br : Nat} {R : RoomS} (h : RoomAt w br R) (hlen : R.T.puts.length < 100000000000) (s : ByteArray) (hs : s.size ≤ 131072) :
    Calls Tryd.prog 26 #[.pointer (some ⟨br, 0, none⟩), .string s] w (PutSays br w R s) := by
  have HM := Lib.hid (roomMark_any h)
  have HP := Lib.hid (put_any h hlen s hs)
  have HB := Lib.hid (fun u R' (hu : RoomAt u br R') hl => roomBack_any hu hl R.T.puts.length)
  have hn := pagesB_le s.size hs
  have e1 : decide ((131072 : Int) < (s.size : Int)) = false := by simp; omega
  have HR := Lib.hid h
  have HN := Lib.hid hn
  have HL := Lib.hid hlen
  clear h hn hlen
  go_enter Tryd.func26, Tryd.ntmps26
  go_wp2_with (go_at_call 61; refine (HM.out).mono ?_; rintro e w1 ⟨rfl, rfl⟩)
  refine (HP.out).mono ?_
  rintro e w1 (⟨R1, ps, rfl, hst, htook, hb, a, ha, hal⟩ | ⟨R1, rfl, hst, hc, a, ha, hal⟩)
  · have HST := Lib.hid hst
    have HTo := Lib.hid htook
    have HBl := Lib.hid hb
    have HA := Lib.hid ha
    have HAl := Lib.hid hal
    generalize hpk : ps.getD 0 0 = pk at *
    have HPK := Lib.hid hpk
    clear hst htook hb ha hal hpk
    go_wp2
    go_ret2
    exact .inl ⟨R1, ps, by rw [HPK.out]; rfl, HST.out, HTo.out, HBl.out, a, HA.out, HAl.out⟩
  · have HST := Lib.hid hst
    have HC := Lib.hid hc
    have HA := Lib.hid ha
    have HBk := Lib.hid (HB.out w1 R1 hst.at_ (by rw [ha, List.length_append]; have := HN.out; have := HL.out; omega))
    clear hst hc ha
    go_wp2_with (go_at_call 63; refine (HBk.out).mono ?_; rintro e w2 ⟨rfl, R2, hst2, hpp⟩
                 have HST2 := Lib.hid hst2
                 have HPP := Lib.hid hpp
                 clear hst2 hpp)
    go_ret2
    refine .inr ⟨R2, rfl, HST.out.trans HST2.out, HC.out, ?_⟩
    rw [HPP.out, HA.out, Int.toNat_natCast, List.take_left]
theorem putP_big {w : World} {br : Nat} {R : RoomS} (h : RoomAt w br R) (s : ByteArray) (hs : 131072 < s.size) :
    Calls Tryd.prog 26 #[.pointer (some ⟨br, 0, none⟩), .string s] w fun e w' => e = .returned (.tuple #[.int .i64 0, .int .i64 5]) ∧ Below w.heap.size w w' := by
  have HU := Lib.hid (used_any h)
  have e1 : decide ((131072 : Int) < (s.size : Int)) = true := by simp; omega
  clear h
  go_enter Tryd.func26, Tryd.ntmps26
  go_wp2_with (go_at_call 27; refine (HU.out).mono ?_; rintro e w1 ⟨rfl, hb⟩)
  go_ret2
  exact ⟨rfl, hb⟩

/-! ## walk -/
theorem contains_row {w : World} {B n g c : Nat} {ps : List Nat} (h : w.ownsRow B 3 1 (.slice (some ⟨g, 0, none⟩) n c) n (numV ps)) (hl : ps.length = n) (hn : n ≤ 1000000) (x : Nat) :
    Calls Tryd.prog 92 #[.slice (some ⟨g, 0, none⟩) n c, .int .i64 x] w fun e w' => e = .returned (.bool (decide (x ∈ ps))) ∧ w = w' := by
  have hz : ∀ j, j < (ps.map (fun k : Nat => (k : Int))).length → w.cell? ⟨g, 0 + j, none⟩ = some (.int .i64 ((ps.map (fun k : Nat => (k : Int))).getD j 0)) := fun j hj => by
    rw [List.length_map] at hj
    rw [Nat.zero_add, row_cells h j _ (numV_at ps j hj), List.getD_eq_getElem?_getD, List.getD_eq_getElem?_getD, List.getElem?_map, List.getElem?_eq_getElem hj]
    rfl
  have := Tryd.slices_Contains_int g 0 n c (ps.map (fun k : Nat => (k : Int))) x w (by rw [List.length_map]; omega) (by omega) hz
  refine this.mono fun e w' ⟨he, hw⟩ => ⟨?_, hw.symm⟩
  rw [he, List.take_of_length_le (by rw [List.length_map]; omega)]
  congr 2
  rw [Bool.eq_iff_iff]
  simp
  exact ⟨fun ⟨a, h, e⟩ => (show a = x by omega) ▸ h, fun h => ⟨x, h, rfl⟩⟩
theorem isB_lt {B b : Nat} {bs : List Value} {w : World} (h : IsB B b bs w) : ∃ p v, w.heap[b]? = some (.cells #[p, v] 105 (0, 0)) := by
  rcases h with ⟨_, v, hb, _⟩ | ⟨_, v, hb, _⟩ <;> exact ⟨_, v, hb⟩
/-- rows of numbers turn: the builder is as it was -/
theorem isB_keep {B b : Nat} {bs : List Value} {w w' : World} {S : Nat → Prop} (h : IsB B b bs w) (hk : Keep S w w') (hS : ∀ k, S k → ∃ c fz, w.heap[k]? = some (.cells c 3 fz)) : IsB B b bs w' := by
  have key : ∀ p, Lib.BuilderAt 105 5 B b p bs w → Lib.BuilderAt 105 5 B b p bs w' := fun p ⟨hB, v, hb, ho, hn⟩ => by
    refine ⟨hB, v, hk.at hb (fun hs => ?_), hk.ownsRow ho (fun k hkv hs => ?_), hn⟩
    · obtain ⟨c, fz, hc⟩ := hS _ hs
      rw [hb] at hc
      cases hc
    · obtain ⟨c, fz, hc⟩ := hS _ hs
      obtain ⟨c2, fz2, hc2⟩ := row_form ho k hkv
      rw [hc] at hc2
      cases hc2
  exact h.imp (key _) (key _)
theorem isB_still {B b : Nat} {bs : List Value} {w w' : World} (h : IsB B b bs w) (hk : Below w.heap.size w w') : IsB B b bs w' :=
  isB_keep h (Keep.ofBelow (S := fun _ => False) hk) (fun _ e => e.elim)
theorem row_formE {w : World} {B : Nat} {e : TypeId} {v : Value} {n : Nat} {xs : List Value} (h : w.ownsRow B e 1 v n xs) : ∀ g, v.ownBlock = some g → ∃ c fz, w.heap[g]? = some (.cells c e fz) := by
  intro g hg
  rcases h.2 with ⟨rfl, _⟩ | ⟨g', cap, cur, rfl, _, hgg, _⟩
  · cases hg
  · cases hg
    exact ⟨_, _, hgg⟩
/-- bytes turn: a row of numbers is as it was -/
theorem row_others {w w' : World} {B b n : Nat} {v : Value} {xs : List Value} (h : w.ownsRow B 3 1 v n xs) (hB : ∃ p u, w.heap[b]? = some (.cells #[p, u] 105 (0, 0))) (ho : Lib.OthersKept 5 (some b) w w') : w'.ownsRow B 3 1 v n xs := by
  refine ⟨h.1, ?_⟩
  rcases h.2 with hv | ⟨g, cap, cur, rfl, hb, hg, rest⟩
  · exact .inl hv
  · refine .inr ⟨g, cap, cur, rfl, hb, ho g _ hg (fun e => ?_) (fun c fz e => by cases e), rest⟩
    obtain ⟨p, u, hbb⟩ := hB
    cases e
    rw [hg] at hbb
    cases hbb
def lenV : Value → Nat
  | .slice _ k _ => k
  | _ => 0
def Walking (w : World) (s : ByteArray) (ps : List Nat) (v : Value) (k : Nat) (wr : World) : Prop :=
  Below w.heap.size w wr ∧ wr.ownsRow w.heap.size 3 1 v k (numV (ps.take k)) ∧ IsB w.heap.size w.heap.size (Lib.byteCells (s.data.toList.take (506 * k))) wr
set_option maxHeartbeats 4000000 in
theorem walk_ok {w : World} {br : Nat} {R : RoomS} (h : RoomAt w br R) {s : ByteArray} {ps : List Nat} (hb : BlobIn R s ps) (hs : s.size ≤ 131072) :
    Calls Tryd.prog 65 #[.pointer (some ⟨br, 0, none⟩), .int .i64 (ps.getD 0 0 : Nat)] w fun e w' => ∃ v, e = .returned (.tuple #[v, .string s, .int .i64 0]) ∧ w'.ownsRow w.heap.size 3 1 v ps.length (numV ps) ∧ Below w.heap.size w w' := by
  have hn := pagesB_le s.size hs
  have hn1 := pagesB_pos s.size
  obtain ⟨n, hnn⟩ : ∃ n, ps.length = n := ⟨_, rfl⟩
  have hnp : pagesB s.size = n := by rw [← hb.len]; exact hnn
  rw [hnp] at hn hn1
  have hcov := pagesB_covers s.size
  have hleast := pagesB_least s.size
  rw [hnp] at hcov hleast
  obtain ⟨i0, hi0, hz0, hz1, hz2⟩ := info_parts infoInt
  have HI := Lib.hid hi0
  have Hz0 := Lib.hid hz0
  have Hz1 := Lib.hid hz1
  have Hz2 := Lib.hid hz2
  have HR := Lib.hid h
  have HBl := Lib.hid hb
  have HNN := Lib.hid hnn
  have HLeast := Lib.hid hleast
  have hsm := h.tx.log.small
  have hfit := h.fit
  have hpg : R.pages ≤ 65536 := by omega
  obtain ⟨p0, hp0⟩ : ∃ p0, ps.getD 0 0 = p0 := ⟨_, rfl⟩
  rw [hp0]
  have HP0 := Lib.hid hp0
  clear hp0
  have HF := Lib.hid (Lib.fresh_isBuilder 105 5 w)
  clear h hb hnn hnp hleast hi0 hz0 hz1 hz2 hsm hfit
  go_enter Tryd.func65, Tryd.ntmps65
  go_wp2
  go_loopw [7, 9] (fun v at_ wr => ∃ k : Nat, k < n ∧ at_ = .int .i64 (ps.getD k 0 : Nat) ∧ Walking w s ps v k wr) (fun v _ _ => n - lenV v)
  case atStart => exact ⟨0, by omega, by rw [HP0.out], (Below.refl _ _).alloc (Nat.le_refl _) _, World.ownsRow_nil _ _ _ _, by simpa [Lib.byteCells] using HF.out⟩
  case round =>
    obtain ⟨k, hk, rfl, hbl, hrow, hib⟩ := hrel
    obtain ⟨a0, c0, rfl⟩ := slice_formB hrow
    have hkl : k < ps.length := by rw [HNN.out]; exact hk
    have hpk := HBl.out.pages _ (getD_mem hkl)
    have htx := HBl.out.text k hkl
    have hck := chunkB_size s k
    have hk6 : 506 * k ≤ s.size := by
      by_cases h0 : k = 0
      · omega
      · have := HLeast.out (k - 1) (by omega); omega
    have hcat := chunk_cat s k hk6
    obtain ⟨nx, hnx, hnx2⟩ : ∃ nx, nextOf ps k = nx ∧ ((k + 1 < n ∧ ∃ np, nx = np + 1 ∧ np ≤ 65536 ∧ np = ps.getD (k + 1) 0 ∧ np ∉ ps.take (k + 1)) ∨ (k + 1 = n ∧ nx = 0)) := by
      refine ⟨_, rfl, ?_⟩
      unfold nextOf
      rw [HNN.out]
      by_cases h1 : k + 1 < n
      · rw [if_pos h1]
        have h2 : k + 1 < ps.length := by rw [HNN.out]; exact h1
        have h3 := (HBl.out.pages _ (getD_mem h2)).1
        refine .inl ⟨h1, _, rfl, by omega, rfl, fun hm => ?_⟩
        obtain ⟨j, hj, hj2⟩ := List.getElem_of_mem hm
        have hj3 : j < k + 1 := by rw [List.length_take] at hj; omega
        have h4 : ps.getD j 0 = ps.getD (k + 1) 0 := by
          rw [← hj2, List.getElem_take, List.getD_eq_getElem?_getD, List.getElem?_eq_getElem (by omega)]; rfl
        have := getD_inj HBl.out.nodup (by omega) h2 h4
        omega
      · rw [if_neg h1]
        exact .inr ⟨by omega, rfl⟩
    rw [hnx] at htx
    have hnx3 : nx < 4294967296 := by
      rcases hnx2 with ⟨_, np, h1, h2, _⟩ | ⟨_, h1⟩ <;> omega
    have HRd := Lib.hid (blobRead_ok (HR.out.still hbl) (ps.getD k 0) hpk.1 hpk.2 nx (chunkB s k) hnx3 (by omega) htx)
    have hbsl : (Lib.byteCells (s.data.toList.take (506 * k))).length = 506 * k := by simp [Lib.byteCells]; omega
    have hnum : numV (ps.take k) ++ [.int .i64 (ps.getD k 0 : Nat)] = numV (ps.take (k + 1)) := by
      unfold numV
      rw [List.take_succ_eq_append_getElem hkl, List.map_append, List.getD_eq_getElem?_getD, List.getElem?_eq_getElem hkl]
      rfl
    have hstr : Lib.byteCells (s.data.toList.take (506 * k)) ++ Lib.strCells (chunkB s k) = Lib.byteCells (s.data.toList.take (506 * (k + 1))) := by
      rw [strCells_eq, ← byteCells_append, hcat]
    have hcl : (Lib.byteCells (s.data.toList.take (506 * k))).length + (chunkB s k).size ≤ 140737488355328 := by omega
    have HBL := Lib.hid hbl
    have HRow := Lib.hid hrow
    have HIB := Lib.hid hib
    have HNum := Lib.hid hnum
    have HStr := Lib.hid hstr
    have HCl := Lib.hid hcl
    have HCk := Lib.hid hck
    have HKl := Lib.hid hkl
    have hk26 : k ≤ 260 := by omega
    generalize ps.getD k 0 = pk at *
    generalize chunkB s k = ck at *
    clear hbl hrow hib hpk htx hck hk6 hcat hnx hnx3 hbsl hnum hstr hcl hkl
    rcases hnx2 with ⟨hk1, np, rfl, hnp, hnpe, hnin⟩ | ⟨rfl, rfl⟩
    · have g1 : (((np + 1 : Nat) : Int) == 0) = false := by simp; omega
      have e1 : ((np + 1 : Nat) : Int) - 1 = (np : Int) := by omega
      have hl5 : (Lib.byteCells (s.data.toList.take (506 * (k + 1)))).length = 506 * (k + 1) := by
        have := HLeast.out k hk1
        simp [Lib.byteCells]; omega
      have hl6 : 506 * (k + 1) ≤ 131072 := by have := HLeast.out k hk1; omega
      have g2 : decide ((131072 : Int) < ((506 * (k + 1) : Nat) : Int)) = false := by simp; omega
      have htl : (ps.take (k + 1)).length = k + 1 := by rw [List.length_take]; have := HKl.out; omega
      have HL5 := Lib.hid hl5
      have HTL := Lib.hid htl
      have HNin := Lib.hid hnin
      have HNpe := Lib.hid hnpe
      have hnpi : (np : Int) ≤ 65536 := by omega
      clear hl5 htl hnin hnpe
      generalize hbs : Lib.byteCells (s.data.toList.take (506 * (k + 1))) = bs1 at *
      have HBS := Lib.hid hbs
      clear hbs
      generalize hLe : 506 * (k + 1) = L at *
      have HLe := Lib.hid hLe
      clear hLe
      go_wp2_with (first
        | (go_at_call 91; refine (HRd.out).mono ?_; rintro e w1 ⟨rfl, hb1⟩
           have HB1 := Lib.hid (HBL.out.trans (hb1.mono HBL.out.size))
           have HRow1 := Lib.hid ((Keep.ofBelow (S := fun _ => False) hb1).ownsRow HRow.out (fun _ _ e => e))
           have HIB1 := Lib.hid (isB_still HIB.out hb1)
           clear hb1)
        | (at_builtin
           refine wpList_append_own_at _ (by rfl) _ _ 63 (by rfl) w.heap.size 3 i0 (.int .i64 0) 1 8 Tryd.underlying63 HI.out Hz0.out Hz1.out Hz2.out (by rfl) (by decide) (.slice a0 k c0) _ _ (by rfl) (HRow1.out.alloc _) ⟨w1.heap.size, 0, none⟩ 1 1 [.int .i64 (pk : Nat)] (by rfl) (by rfl) (cell_one_new _ _ _) (ints_oneCell .i64 [(pk : Int)]) (by unfold maxLen; omega) (by omega) ?_ ?_
           · have := HB1.out.size; simp; omega
           intro v' w3 hown3 hg3 hnil hloc
           rw [HNum.out] at hown3
           obtain ⟨gb, c3, rfl, hc31, hc32, hgB⟩ := row_posB hown3 (by omega)
           have hk3 : Keep (fun j => (Value.slice a0 k c0).ownBlock = some j) w1 w3 := ((Keep.refl _ w1).alloc _).grown hg3 (fun k _ e => e)
           have HB3 := Lib.hid (HB1.out.trans (hk3.below HB1.out.size (fun i hi e => by have := (HRow1.out.lt i e).1; omega)))
           have HIB3 := Lib.hid (isB_keep HIB1.out hk3 (fun j e => row_formE HRow1.out j e))
           have HO3 := Lib.hid hown3
           clear hown3 hg3 hnil hloc hk3)
        | (go_at_call 58; refine (writeString_any HIB3.out HB3.out.size ck HCl.out).mono ?_; rintro e w4 ⟨rfl, hib4, hb4, ho4⟩
           rw [HStr.out] at hib4
           have HB4 := Lib.hid (HB3.out.trans hb4)
           have HO4 := Lib.hid (row_others HO3.out (isB_lt HIB3.out) ho4)
           have HIB4 := Lib.hid hib4
           clear hib4 hb4 ho4)
        | (go_at_call 92; refine (contains_row HO4.out HTL.out (by omega) np).mono ?_; rintro e w5 ⟨rfl, rfl⟩
           rw [decide_eq_false HNin.out])
        | (go_at_call 93; refine (Tryd.Builder_Len _ _ _ _ HIB4.out).mono ?_; rintro e w6 ⟨rfl, hw6⟩
           subst hw6
           rw [HL5.out]))
      refine ⟨⟨k + 1, by omega, by rw [HNpe.out], HB4.out, HO4.out, by rw [HLe.out, HBS.out]; exact HIB4.out⟩, ?_⟩
      show n - (k + 1) < n - k
      omega
    · have g1 : (((0 : Nat) : Int) == 0) = true := rfl
      have hall : s.data.toList.take (506 * (k + 1)) = s.data.toList := List.take_of_length_le (by simp; omega)
      have htl : ps.take (k + 1) = ps := List.take_of_length_le (by rw [HNN.out]; exact Nat.le_refl _)
      rw [hall] at HStr
      have HTL := Lib.hid htl
      clear hall htl
      go_wp2_with (first
        | (go_at_call 91; refine (HRd.out).mono ?_; rintro e w1 ⟨rfl, hb1⟩
           have HB1 := Lib.hid (HBL.out.trans (hb1.mono HBL.out.size))
           have HRow1 := Lib.hid ((Keep.ofBelow (S := fun _ => False) hb1).ownsRow HRow.out (fun _ _ e => e))
           have HIB1 := Lib.hid (isB_still HIB.out hb1)
           clear hb1)
        | (at_builtin
           refine wpList_append_own_at _ (by rfl) _ _ 63 (by rfl) w.heap.size 3 i0 (.int .i64 0) 1 8 Tryd.underlying63 HI.out Hz0.out Hz1.out Hz2.out (by rfl) (by decide) (.slice a0 k c0) _ _ (by rfl) (HRow1.out.alloc _) ⟨w1.heap.size, 0, none⟩ 1 1 [.int .i64 (pk : Nat)] (by rfl) (by rfl) (cell_one_new _ _ _) (ints_oneCell .i64 [(pk : Int)]) (by unfold maxLen; omega) (by omega) ?_ ?_
           · have := HB1.out.size; simp; omega
           intro v' w3 hown3 hg3 hnil hloc
           rw [HNum.out] at hown3
           obtain ⟨gb, c3, rfl, hc31, hc32, hgB⟩ := row_posB hown3 (by omega)
           have hk3 : Keep (fun j => (Value.slice a0 k c0).ownBlock = some j) w1 w3 := ((Keep.refl _ w1).alloc _).grown hg3 (fun k _ e => e)
           have HB3 := Lib.hid (HB1.out.trans (hk3.below HB1.out.size (fun i hi e => by have := (HRow1.out.lt i e).1; omega)))
           have HIB3 := Lib.hid (isB_keep HIB1.out hk3 (fun j e => row_formE HRow1.out j e))
           have HO3 := Lib.hid hown3
           clear hown3 hg3 hnil hloc hk3)
        | (go_at_call 58; refine (writeString_any HIB3.out HB3.out.size ck HCl.out).mono ?_; rintro e w4 ⟨rfl, hib4, hb4, ho4⟩
           rw [HStr.out] at hib4
           have HB4 := Lib.hid (HB3.out.trans hb4)
           have HO4 := Lib.hid (row_others HO3.out (isB_lt HIB3.out) ho4)
           have HIB4 := Lib.hid hib4
           clear hib4 hb4 ho4)
        | (go_at_call 60; refine (Tryd.Builder_String_any_k _ _ _ _ (Lib.IsBuilderF.of HIB4.out) HB4.out.size).mono ?_; rintro e w5 ⟨rfl, _, hb5, ho5⟩
           have HB5 := Lib.hid (HB4.out.trans hb5)
           have HO5 := Lib.hid (row_others HO4.out (isB_lt HIB4.out) ho5)
           clear hb5 ho5))
      go_ret3
      refine ⟨_, rfl, ?_, HB5.out⟩
      have := HO5.out
      rw [HTL.out] at this
      rw [HNN.out]
      exact this
/-- a walk that finds no page at its first step -/
theorem walk_bad {w : World} {br : Nat} {R : RoomS} (h : RoomAt w br R) (i : Int) (he : R.err i ≠ 0) :
    Calls Tryd.prog 65 #[.pointer (some ⟨br, 0, none⟩), .int .i64 i] w fun e w' => e = .returned (.tuple #[.slice none 0 0, .string ⟨#[]⟩, .int .i64 (R.err i)]) ∧ Below w.heap.size w w' := by
  have hb0 : Below w.heap.size w (w.alloc (Obj.cells #[Value.pointer none, Value.slice none 0 0] 105)) := (Below.refl _ _).alloc (Nat.le_refl _) _
  have HRd := Lib.hid (blobRead_bad (h.still hb0) i he)
  have HB0 := Lib.hid hb0
  generalize R.err i = c at *
  have e1 : (c != 0) = true := by simpa using he
  clear h hb0
  go_enter Tryd.func65, Tryd.ntmps65
  go_wp2
  refine wp_loop_rounds 1 ?_
  rw [rounds_succ]
  by_cases h2 : c = 2
  · subst h2
    go_wp2_with (go_at_call 91; refine (HRd.out).mono ?_; rintro e w1 ⟨rfl, hb1⟩)
    go_ret3
    exact ⟨rfl, HB0.out.trans (hb1.mono HB0.out.size)⟩
  · have e2 : (c == 2) = false := by simpa using h2
    go_wp2_with (go_at_call 91; refine (HRd.out).mono ?_; rintro e w1 ⟨rfl, hb1⟩)
    go_ret3
    exact ⟨rfl, HB0.out.trans (hb1.mono HB0.out.size)⟩

/-! ## Get, List -/
theorem get_ok {w : World} {br : Nat} {R : RoomS} (h : RoomAt w br R) {s : ByteArray} {ps : List Nat} (hb : BlobIn R s ps) (hs : s.size ≤ 131072) :
    Calls Tryd.prog 28 #[.pointer (some ⟨br, 0, none⟩), .int .i64 (ps.getD 0 0 : Nat)] w fun e w' => e = .returned (.tuple #[.string s, .int .i64 0]) ∧ Below w.heap.size w w' := by
  have H := Lib.hid (walk_ok h hb hs)
  generalize ps.getD 0 0 = p0 at *
  go_enter Tryd.func28, Tryd.ntmps28
  go_wp2_with (go_at_call 65; refine (H.out).mono ?_; rintro e w1 ⟨v, rfl, ho, hb1⟩)
  go_ret2
  exact ⟨rfl, hb1⟩
theorem get_bad {w : World} {br : Nat} {R : RoomS} (h : RoomAt w br R) (i : Int) (he : R.err i ≠ 0) :
    Calls Tryd.prog 28 #[.pointer (some ⟨br, 0, none⟩), .int .i64 i] w fun e w' => e = .returned (.tuple #[.string ⟨#[]⟩, .int .i64 (R.err i)]) ∧ Below w.heap.size w w' := by
  have H := Lib.hid (walk_bad h i he)
  generalize R.err i = c at *
  clear h
  go_enter Tryd.func28, Tryd.ntmps28
  go_wp2_with (go_at_call 65; refine (H.out).mono ?_; rintro e w1 ⟨rfl, hb1⟩)
  go_ret2
  exact ⟨rfl, hb1⟩
end Go.Proofs.YtoajdccdhjlikaaDoor
