/-
  BLOBS (blob): List, Drop.
-/
import Derived.Test.YtoajdccdhjlikaaDoorBlob3
namespace Go.Proofs.YtoajdccdhjlikaaDoor
open Go.RowKit Go.MapKept
attribute [local go_sem] gives givesH
set_option maxRecDepth 100000

theorem list_ok {w : World} {br : Nat} {R : RoomS} (h : RoomAt w br R) {s : ByteArray} {ps : List Nat} (hb : BlobIn R s ps) (hs : s.size ≤ 131072) :
    Calls Tryd.prog 32 #[.pointer (some ⟨br, 0, none⟩), .int .i64 (ps.getD 0 0 : Nat)] w fun e w' => ∃ v, e = .returned (.tuple #[v, .int .i64 0]) ∧ w'.ownsRow w.heap.size 3 1 v ps.length (numV ps) ∧ Below w.heap.size w w' := by
  have H := Lib.hid (walk_ok h hb hs)
  generalize ps.getD 0 0 = p0 at *
  go_enter Tryd.func32, Tryd.ntmps32
  go_wp2_with (go_at_call 65; refine (H.out).mono ?_; rintro e w1 ⟨v, rfl, ho, hb1⟩)
  go_ret2
  exact ⟨_, rfl, ho, hb1⟩

/-- R' is R, these pages given back -/
structure Gone (R R' : RoomS) (ps : List Nat) : Prop where
  has : ∀ q, q < R.maps * 4096 → R'.has q = (!decide (q ∈ ps) && R.has q)
  text : ∀ q, q < R.pages → R'.text q = R.text q
  zero : R'.home 0 = R.home 0
theorem Gone.nil (R : RoomS) : Gone R R [] := ⟨fun q _ => by simp, fun q _ => rfl, rfl⟩
theorem Gone.free {R R1 R2 : RoomS} {ps : List Nat} {p : Nat} (h : Gone R R1 ps) (hm : R1.maps = R.maps) (hg : R1.pages = R.pages) (hf : Freed R1 R2 p) : Gone R R2 (ps ++ [p]) := by
  refine ⟨fun q hq => ?_, fun q hq => ?_, hf.zero.trans h.zero⟩
  · rw [hf.has q (by rw [hm]; exact hq), h.has q hq]
    by_cases e : q = p <;> simp [e, List.mem_append]
  · rw [hf.text q (by omega), h.text q hq]
def Dropping (br : Nat) (w : World) (R : RoomS) (v : Value) (ps : List Nat) (k : Nat) (wr : World) : Prop :=
  ∃ R1, RoomStep br w R wr R1 ∧ Gone R R1 (ps.take k) ∧ wr.ownsRow w.heap.size 3 1 v ps.length (numV ps) ∧ (∀ g, v.ownBlock = some g → ¬ R1.foot br g) ∧ ∃ a, R1.T.puts = R.T.puts ++ a ∧ a.length ≤ k
set_option maxHeartbeats 2000000 in
theorem drop_ok {w : World} {br : Nat} {R : RoomS} (h : RoomAt w br R) (hlen : R.T.puts.length < 100000000000) {s : ByteArray} {ps : List Nat} (hb : BlobIn R s ps) (hs : s.size ≤ 131072) :
    Calls Tryd.prog 29 #[.pointer (some ⟨br, 0, none⟩), .int .i64 (ps.getD 0 0 : Nat)] w fun e w' => e = .returned (.int .i64 0) ∧ ∃ R', RoomStep br w R w' R' ∧ Gone R R' ps ∧ ∃ a, R'.T.puts = R.T.puts ++ a ∧ a.length ≤ pagesB s.size := by
  have H := Lib.hid (walk_ok h hb hs)
  have hn := pagesB_le s.size hs
  rw [← hb.len] at hn ⊢
  obtain ⟨n, hnn⟩ : ∃ n, ps.length = n := ⟨_, rfl⟩
  have hn1 : 1 ≤ n := by rw [← hnn, hb.len]; exact pagesB_pos _
  rw [hnn] at hn H ⊢
  have HR := Lib.hid h
  have HBl := Lib.hid hb
  have HNN := Lib.hid hnn
  have hple := h.pages_le
  generalize ps.getD 0 0 = p0 at *
  clear h hb hnn
  go_enter Tryd.func29, Tryd.ntmps29
  go_wp2_with (go_at_call 65; refine (H.out).mono ?_; rintro e w1 ⟨v, rfl, ho, hb1⟩
               obtain ⟨gb, c, rfl, hc1, hc2, hgB⟩ := row_posB ho (by omega)
               have hd : Dropping br w R (.slice (some ⟨gb, 0, none⟩) n c) ps 0 w1 := ⟨R, RoomStep.still HR.out hb1, by rw [List.take_zero]; exact Gone.nil R, by rw [HNN.out]; exact ho, fun g hg hf => by have h1 := room_foot_lt HR.out hf; have h2 := (ho.lt g hg).1; omega, [], by simp, by simp⟩
               have HD := Lib.hid hd
               clear ho hb1 hd)
  unfold maxLen at hc2
  go_loopw [23] (fun i wr => ∃ k : Nat, k ≤ n ∧ i = .int .i64 k ∧ Dropping br w R (.slice (some ⟨gb, 0, none⟩) n c) ps k wr) (fun i _ => n - (intOf i).toNat)
  case atStart => exact ⟨0, by omega, rfl, HD.out⟩
  case round =>
    obtain ⟨k, hk, rfl, R1, hst, hgone, hrow, hap, a, ha, hal⟩ := hrel
    by_cases hlt : k < n
    · have g2 : decide ((k : Int) < (n : Int)) = true := by simp; omega
      have hkl : k < ps.length := by rw [HNN.out]; exact hlt
      rw [HNN.out] at hrow
      have q1 := row_cells hrow k _ (numV_at ps k hkl)
      have hpk := HBl.out.pages _ (getD_mem hkl)
      have htk : R1.has (ps.getD k 0) = true := by
        rw [hgone.has _ (by omega), hpk.2, decide_eq_false]
        · rfl
        · intro hm
          obtain ⟨j, hj, hj2⟩ := List.getElem_of_mem hm
          have hj3 : j < k := by rw [List.length_take] at hj; omega
          have h4 : ps.getD j 0 = ps.getD k 0 := by
            rw [← hj2, List.getElem_take, List.getD_eq_getElem?_getD, List.getElem?_eq_getElem (by omega)]; rfl
          have := getD_inj HBl.out.nodup (by omega) hkl h4
          omega
      have htake : ps.take k ++ [ps.getD k 0] = ps.take (k + 1) := by
        rw [List.take_succ_eq_append_getElem hkl, List.getD_eq_getElem?_getD, List.getElem?_eq_getElem hkl]; rfl
      have HF := Lib.hid (fun u (hu : RoomAt u br R1) => free_ok hu (by rw [ha, List.length_append]; omega) (ps.getD k 0) (by rw [hst.pages]; exact hpk.1) htk)
      have HST := Lib.hid hst
      have HG := Lib.hid hgone
      have HRow := Lib.hid hrow
      have HAp := Lib.hid hap
      have HAl := Lib.hid ha
      have HTake := Lib.hid htake
      generalize ps.getD k 0 = pk at *
      have hk0 : (0 : Int) ≤ (k : Int) := by omega
      have hk1 : (k : Int) < (n : Int) := by omega
      clear hst hgone hrow hap ha hpk htk hkl htake
      go_wp2_with (go_at_call 19; refine (HF.out _ HST.out.at_).mono ?_; rintro e w2 ⟨rfl, R2, hst2, hf2⟩
                   have hst3 := HST.out.trans hst2
                   have hg3 := HG.out.free HST.out.maps HST.out.pages hf2
                   rw [HTake.out] at hg3
                   have HST3 := Lib.hid hst3
                   have HG3 := Lib.hid hg3
                   have HRow2 := Lib.hid (hst2.keep.ownsRow HRow.out HAp.out)
                   have HAp2 := Lib.hid (fun g hg => hst2.apart_ (HRow.out.lt g hg).2 (HAp.out g hg))
                   have HF2 := Lib.hid hf2.puts
                   clear hst2 hf2 hst3 hg3)
      go_roundw
      case rel =>
        obtain ⟨x, hx1, hx2⟩ := HF2.out
        exact ⟨k + 1, by omega, by go_num, R2, HST3.out, HG3.out, by rw [HNN.out]; exact HRow2.out, HAp2.out, a ++ x, by rw [hx1, HAl.out, List.append_assoc], by rw [List.length_append]; omega⟩
      case measure => simp [intOf]; omega
    · obtain rfl : k = n := by omega
      have g2 : decide ((k : Int) < (k : Int)) = false := by simp
      have HST := Lib.hid hst
      have HAl := Lib.hid ha
      rw [List.take_of_length_le (by rw [HNN.out]; exact Nat.le_refl _)] at hgone
      have HG := Lib.hid hgone
      clear hst hgone hrow hap ha
      go_wp2
      go_ret
      exact ⟨rfl, R1, HST.out, HG.out, a, HAl.out, hal⟩
theorem drop_bad {w : World} {br : Nat} {R : RoomS} (h : RoomAt w br R) (i : Int) (he : R.err i ≠ 0) :
    Calls Tryd.prog 29 #[.pointer (some ⟨br, 0, none⟩), .int .i64 i] w fun e w' => e = .returned (.int .i64 (R.err i)) ∧ Below w.heap.size w w' := by
  have H := Lib.hid (walk_bad h i he)
  generalize R.err i = c at *
  have e1 : (c != 0) = true := by simpa using he
  clear h
  go_enter Tryd.func29, Tryd.ntmps29
  go_wp2_with (go_at_call 65; refine (H.out).mono ?_; rintro e w1 ⟨rfl, hb1⟩)
  go_ret
  exact ⟨rfl, hb1⟩
end Go.Proofs.YtoajdccdhjlikaaDoor
