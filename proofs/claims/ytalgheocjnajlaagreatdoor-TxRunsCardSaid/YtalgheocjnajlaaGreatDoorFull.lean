/-
  THE DOCUMENT's ANSWER of layer 4, walked: Full; a row of bytes that a conversion made, and what is appended to it.
-/
import Derived.Test.YtalgheocjnajlaaGreatDoorNew5
import Derived.Laws.CopyRow
namespace Go.Proofs.YtalgheocjnajlaaGreatDoor
open Go.RowKit Go.MapKept
attribute [local go_sem] gives givesH
set_option maxRecDepth 100000

theorem addr_none (b off i : Nat) : (⟨b, off, none⟩ : Addr).add i = ⟨b, off + i, none⟩ := by unfold Addr.add; split <;> simp_all
def lenS (v : Value) : Nat := match v with | .slice _ n _ => n | _ => 0
def ByteRow (w : World) (B : Nat) (v : Value) (l : List UInt8) : Prop :=
  ∃ g cap cur fz, v = .slice (some ⟨g, 0, none⟩) l.length cap ∧ B ≤ g ∧ w.heap[g]? = some (.cells cur 5 fz) ∧ l.length ≤ cap ∧ cap ≤ cur.size ∧ cap ≤ maxLen ∧ (cap ≤ fz.1 ∨ fz.2 ≤ l.length) ∧ ∀ (j : Nat) c, l[j]? = some c → cur[j]? = some (.int .u8 (c.toNat : Int))
theorem ByteRow.keep {w w' : World} {B : Nat} {v : Value} {l : List UInt8} (h : ByteRow w B v l) {S : Nat → Prop} (hk : Keep S w w') (hn : ∀ k, v.ownBlock = some k → ¬ S k) : ByteRow w' B v l := by
  obtain ⟨g, cap, cur, fz, rfl, h1, h2, h3⟩ := h
  exact ⟨g, cap, cur, fz, rfl, h1, hk.at h2 (hn g rfl), h3⟩
theorem ByteRow.bytes {w : World} {B : Nat} {v : Value} {l : List UInt8} (h : ByteRow w B v l) : ∃ g cap, v = .slice (some ⟨g, 0, none⟩) l.length cap ∧ Lib.Bytes w g 0 ⟨l.toArray⟩ ∧ B ≤ g ∧ g < w.heap.size := by
  obtain ⟨g, cap, cur, fz, rfl, h1, h2, h3, h4, h5, h6, h7⟩ := h
  refine ⟨g, cap, rfl, fun i hi => ?_, h1, (Array.getElem?_eq_some_iff.1 h2).1⟩
  have hi2 : i < l.length := by rw [← size_of]; exact hi
  have := h7 i l[i] (List.getElem?_eq_getElem hi2)
  rw [Nat.zero_add]
  simp [World.cell?, h2, this, ByteArray.getElem_eq_getElem_data]
theorem bytes_conv (w : World) (s : ByteArray) (hs : s.size ≤ 1000000) : ∃ v w', (convert 9 113 (.string s)).run Tryz.prog w = .ok v w' ∧ ByteRow w' w.heap.size v s.data.toList ∧ Below w.heap.size w w' := by
  refine ⟨_, _, Lib.run_convert_string_bytes w 9 113 5 s Tryz.underlying9 Tryz.underlying113 Tryz.underlying5, ⟨w.heap.size, grownCap w s.size 0 5, _, _, ?_, Nat.le_refl _, Lib.bytesWorld_at_new w 5 s, ?_, ?_, ?_, .inl ?_, fun j c hj => ?_⟩, rfl, rfl, rfl, by rw [Lib.bytesWorld_size]; omega, fun k hk => Lib.bytesWorld_at_old w 5 s k hk⟩
  · simp
  · have := grownCap_ge w s.size 0 5
    simpa using this
  · unfold Lib.bytesCells
    have h2 : (s.data.map fun b => Value.int .u8 b.toNat).size = s.size := by simp
    rw [Array.size_append, h2, Array.size_replicate]
    omega
  · exact grownCap_le_maxLen w s.size 0 5 (by unfold maxLen; omega)
  · unfold Lib.bytesCells
    have h2 : (s.data.map fun b => Value.int .u8 b.toNat).size = s.size := by simp
    rw [Array.size_append, h2, Array.size_replicate]
    have := grownCap_ge w s.size 0 5
    omega
  · unfold Lib.bytesCells
    have hlt : j < s.data.size := by simpa using (List.getElem?_eq_some_iff.1 hj).1
    have hc : s.data[j]? = some c := by simpa using hj
    rw [Array.getElem?_append_left (by simpa using hlt), Array.getElem?_map, hc]
    rfl
theorem byteRow_append {w : World} {B : Nat} {v : Value} {l : List UInt8} (h : ByteRow w B v l) (hB : B ≤ w.heap.size) (hl : l.length ≤ 1000000) (ty : TypeId) (c : UInt8) (a : Addr) (cc : Nat) (hx : ∀ j u, [Value.int .u8 (c.toNat : Int)][j]? = some u → w.cell? (a.add j) = some u) :
    ∃ v' w', (Builtin.append_ #[113, 113] ty #[v, .slice (some a) 1 cc]).run Tryz.prog w = .ok v' w' ∧ ByteRow w' B v' (l ++ [c]) ∧ Below B w w' := by
  obtain ⟨g, cap, cur, fz, rfl, h1, h2, h3, h4, h5, h6, h7⟩ := h
  obtain ⟨i0, hi0, hz0, hz1, hz2⟩ := info_parts infoByte
  by_cases hroom : l.length + 1 ≤ cap
  · have hlt : l.length < cur.size := by omega
    have hfro : w.frozen? ⟨g, l.length, none⟩ = false := by
      obtain ⟨lo, hi'⟩ := fz
      simp only [World.frozen?, h2, Bool.and_eq_false_iff, decide_eq_false_iff_not]
      simp only at h6
      omega
    have hcell : w.cell? ⟨g, l.length, none⟩ = some cur[l.length] := by simp [World.cell?, h2, hlt]
    have hadd : (⟨g, 0, none⟩ : Addr).add l.length = ⟨g, l.length, none⟩ := by rw [addr_none, Nat.zero_add]
    have hst : (storeCells ⟨g, l.length, none⟩ [Value.int .u8 (c.toNat : Int)]).run Tryz.prog w = .ok () (w.setCell ⟨g, l.length, none⟩ (.int .u8 (c.toNat : Int))) := by
      have e : (⟨g, l.length, none⟩ : Addr).add 0 = ⟨g, l.length, none⟩ := by rw [addr_none, Nat.add_zero]
      simp only [storeCells, Sem.run_bind]
      rw [e, run_store Tryz.prog w _ _ _ rfl, hcell]
      simp [hfro]
    have hf := run_firstCells_some (P := Tryz.prog) w 1 1 a 1 cc [Value.int .u8 (c.toNat : Int)] rfl hx
    refine ⟨.slice (some ⟨g, 0, none⟩) (l.length + 1) cap, w.setCell ⟨g, l.length, none⟩ (.int .u8 (c.toNat : Int)), ?_, ⟨g, cap, cur.setIfInBounds l.length (.int .u8 (c.toNat : Int)), fz, by simp, h1, ?_, by simpa using hroom, by simpa using h4, h5, ?_, fun j b hj => ?_⟩, (Below.refl B w).setCell (p := ⟨g, l.length, none⟩) h1 _⟩
    · simp [Builtin.append_, run_underlying Tryz.underlying113, sizeOf, typeInfo, hi0, hz1, Builtin.lenOf, hroom, hf, hadd, hst]
    · simp [World.setCell, Array.getElem?_modify, h2]
    · rw [List.length_append, List.length_singleton]
      exact h6.imp id (fun e => by omega)
    · by_cases hj2 : j < l.length
      · rw [List.getElem?_append_left hj2] at hj
        rw [Array.getElem?_setIfInBounds, if_neg (by omega)]
        exact h7 j b hj
      · have hj3 : j = l.length := by
          have := (List.getElem?_eq_some_iff.1 hj).1
          rw [List.length_append, List.length_singleton] at this
          omega
        subst hj3
        rw [List.getElem?_append_right (Nat.le_refl _)] at hj
        simp at hj
        subst hj
        rw [Array.getElem?_setIfInBounds, if_pos rfl, if_pos hlt]
  · have hold : ∀ j u, (Lib.byteCells l)[j]? = some u → w.cell? ((⟨g, 0, none⟩ : Addr).add j) = some u := fun j u hu => by
      obtain ⟨b, hb, hbu⟩ : ∃ b, l[j]? = some b ∧ Value.int .u8 (b.toNat : Int) = u := by
        unfold Lib.byteCells at hu
        rw [List.getElem?_map] at hu
        cases hlj : l[j]? with
        | none => rw [hlj] at hu; cases hu
        | some b => rw [hlj] at hu; exact ⟨b, rfl, Option.some.inj hu⟩
      rw [addr_none, Nat.zero_add]
      simp [World.cell?, h2, h7 j b hb, hbu]
    have hr := run_append_grow (P := Tryz.prog) w 113 ty 5 i0 _ Tryz.underlying113 hi0 hz0 ⟨g, 0, none⟩ l.length cap (Lib.byteCells l) (by rw [hz1, Lib.byteCells_length, Nat.mul_one]) hold a 1 cc [Value.int .u8 (c.toNat : Int)] (by rw [hz1]; rfl) hx (by omega) (by omega)
      (growslice_fits (by omega) (by rw [hz2]; omega))
    have hge := grownCap_ge w (l.length + 1) cap 5
    have hgm : grownCap w (l.length + 1) cap 5 ≤ maxLen := grownCap_le_maxLen w (l.length + 1) cap 5 (by unfold maxLen; omega)
    refine ⟨_, _, hr, ⟨w.heap.size, _, _, (0, 0), by simp, hB, heap_alloc_new w.drew _, by simpa using hge, ?_, hgm, .inr (Nat.zero_le _), fun j b hj => ?_⟩, (Below.refl B w).drew.alloc hB _⟩
    · simp only [Array.size_append, List.size_toArray, size_zeroCells, Lib.byteCells_length, List.length_singleton]
      have : (Value.int IntKind.u8 0).cells.size = 1 := rfl
      rw [this]
      omega
    · rw [Array.getElem?_append_left (by
        simp only [Array.size_append, List.size_toArray, Lib.byteCells_length, List.length_singleton]
        have := (List.getElem?_eq_some_iff.1 hj).1
        rw [List.length_append, List.length_singleton] at this
        exact this)]
      have e : (Lib.byteCells l).toArray ++ [Value.int .u8 (c.toNat : Int)].toArray = (Lib.byteCells (l ++ [c])).toArray := by
        rw [byteCells_append]
        simp [Lib.byteCells]
      rw [e, List.getElem?_toArray]
      unfold Lib.byteCells
      rw [List.getElem?_map, hj]
      rfl
set_option maxHeartbeats 1000000 in
theorem ref4Full_any (s : ByteArray) (hs : s.size ≤ 512) (w : World) : Calls Tryz.prog 26 #[.string s] w fun e w' => e = .returned (.string (fullS s)) ∧ Below w.heap.size w w' := by
  obtain ⟨v0, w0, hr0, hrow0, hb0⟩ := bytes_conv w s (by omega)
  have HR0 := Lib.hid hrow0
  have HB0 := Lib.hid hb0
  have hl0 : s.data.toList.length = s.size := by simp
  obtain ⟨n, hn⟩ : ∃ n, s.size = n := ⟨_, rfl⟩
  rw [hn] at hl0 hs
  have HCV := Lib.hid (fun u (b : Nat) (hu : Lib.Bytes u b 0 (fullS s)) c => Lib.run_convert_whole (P := Tryz.prog) u 113 5 9 Tryz.underlying113 Tryz.underlying5 Tryz.underlying9 b 0 (fullS s) hu c)
  have hfs : (fullS s).size = 512 := fullS_size s (by omega)
  have hfl : ∀ k, n + k = 512 → fullS s = ⟨(s.data.toList ++ List.replicate k 0).toArray⟩ := fun k hk => by
    unfold fullS
    apply ByteArray.ext
    apply Array.ext'
    rw [hn, show 512 - n = k by omega]
    simp
  have HFl := Lib.hid hfl
  have HFs := Lib.hid hfs
  generalize s.data.toList = l at *
  clear hrow0 hb0 hn hfl hfs
  go_enter Tryz.func26, Tryz.ntmps26
  go_wp2
  go_loopw [3] (fun v wr => ∃ k : Nat, n + k ≤ 512 ∧ ByteRow wr w.heap.size v (l ++ List.replicate k 0) ∧ Below w.heap.size w wr) (fun v _ => 512 - lenS v)
  case atStart => exact ⟨0, by omega, by simpa using HR0.out, HB0.out⟩
  case round =>
    obtain ⟨k, hk, hrow, hbel⟩ := hrel
    have hln : (l ++ List.replicate k (0 : UInt8)).length = n + k := by rw [List.length_append, List.length_replicate, hl0]
    have HLn := Lib.hid hln
    have HR := Lib.hid hrow
    have HB := Lib.hid hbel
    obtain ⟨g, cap, cur, fz, hv, _⟩ := hrow
    rw [hln] at hv
    subst hv
    clear hbel hln
    by_cases hlt : n + k < 512
    · have g1 : decide (((n + k : Nat) : Int) < 512) = true := by simp; omega
      obtain ⟨v', w', hr', hrow', hb'⟩ := byteRow_append (w := wr.alloc (.cells #[.int .u8 0] 5)) (HR.out.keep ((Keep.refl (fun _ => False) wr).alloc _) (fun _ _ e => e)) (by have := HB.out.size; simp; omega) (by rw [HLn.out]; omega) 113 0 ⟨wr.heap.size, 0, none⟩ 1 (cell_one_new _ _ _)
      rw [List.append_assoc, ← List.replicate_succ'] at hrow'
      have HR' := Lib.hid hrow'
      have HB' := Lib.hid ((HB.out.alloc HB.out.size (.cells #[.int .u8 0] 5)).trans hb')
      obtain ⟨g', cap', cur', fz', hv', _⟩ := hrow'
      rw [List.length_append, List.length_replicate, hl0] at hv'
      subst hv'
      have HRun := Lib.hid hr'
      clear hb' hr'
      go_wp2_with (at_builtin; refine Lib.wpList_append_run _ rfl _ _ _ _ rfl _ _ rfl rfl _ _ HRun.out ?_)
      go_roundw
      case rel => exact ⟨k + 1, by omega, HR'.out, HB'.out⟩
      case measure => simp [lenS]; omega
    · have g1 : decide (((n + k : Nat) : Int) < 512) = false := by simp; omega
      have hfe := HFl.out k (by omega)
      obtain ⟨g2, cap2, hv2, hby, _⟩ := HR.out.bytes
      rw [← hfe] at hby
      have hcv := HCV.out wr g2 hby cap2
      rw [HFs.out] at hcv
      have hnk : n + k = 512 := by omega
      rw [HLn.out] at hv2
      rw [hnk] at hv2 g1 ⊢
      obtain ⟨rfl, rfl⟩ : g = g2 ∧ cap = cap2 := by cases hv2; exact ⟨rfl, rfl⟩
      clear hfe hby hv2
      go_wp2
      go_ret
      exact ⟨rfl, HB.out⟩
end Go.Proofs.YtalgheocjnajlaaGreatDoor
