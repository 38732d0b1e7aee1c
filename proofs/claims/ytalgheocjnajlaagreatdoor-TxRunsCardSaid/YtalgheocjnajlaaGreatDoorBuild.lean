/-
  strings.Builder: copyCheck, WriteByte, WriteString, String: the frame below, and of all that is no row of bytes.
-/
import Derived.Test.YtalgheocjnajlaaGreatDoorBase
import Derived.Lib.Builder
import Derived.Lib.OthersKept
import Derived.Lib.AppendStr
import Derived.Laws.Externs
namespace Go.Proofs.YtalgheocjnajlaaGreatDoor
open Go.RowKit Go.MapKept
attribute [local go_sem] gives givesH
set_option maxRecDepth 100000

abbrev bldT : TypeId := 122
abbrev IsB (B b : Nat) (bs : List Value) (w : World) : Prop := Lib.IsBuilder 122 5 B b bs w
theorem bldInfo : ∃ j, Tryz.prog.info? 122 = some j ∧ j.size = 2 := by
  have h : (Tryz.prog.info? 122).map (·.size) = some 2 := by kernel_rfl
  obtain ⟨j, h1, h2⟩ := Option.map_eq_some_iff.1 h
  exact ⟨j, h1, h2⟩
theorem bldLies : liesAt Tryz.prog Tryz.prog.depth 122 (2 / Tryz.prog.cellsOf 122) 0 122 1 = true := by kernel_rfl
theorem infoU8 : (Tryz.prog.info? 5).map (fun i => (i.zero, i.size, i.bytes)) = some (some (.int .u8 0), 1, 1) := by kernel_rfl
theorem bldCells {w : World} {b : Nat} {p v : Value} {t : TypeId} (h : w.heap[b]? = some (.cells #[p, v] t (0, 0))) :
    (w.cell? ⟨b, 0, none⟩ = some p ∧ w.cell? ⟨b, 1, none⟩ = some v) ∧ w.frozen? ⟨b, 0, none⟩ = false ∧ w.frozen? ⟨b, 1, none⟩ = false ∧ w.shape? b = some (t, 2) := by
  simp [World.cell?, World.frozen?, World.shape?, h]

/-- behind copyCheck the builder is used -/
theorem copyCheck_any {w : World} {B b : Nat} {bs : List Value} (h : IsB B b bs w) :
    Calls Tryz.prog 98 #[.pointer (some ⟨b, 0, none⟩)] w fun e w' => e = .returned (.tuple #[]) ∧
      Lib.BuilderAt 122 5 B b (.pointer (some ⟨b, 0, none⟩)) bs w' ∧ Below B w w' ∧ Lib.OthersKept 5 (some b) w w' := by
  obtain ⟨j, hj, hjs⟩ := bldInfo
  rcases h with h | h
  · obtain ⟨hB, v, hb, hown, hne⟩ := h
    obtain ⟨⟨c0, c1⟩, f0, f1, hsh⟩ := bldCells hb
    have l1 := Lib.run_to_unsafe (P := Tryz.prog) w ⟨b, 0, none⟩ Tryz.underlying120 Tryz.underlying161 hj (by rw [hjs]; decide) hsh (Nat.zero_lt_succ 1)
    have l2 := run_callFunc_extern (P := Tryz.prog) (w := w) (args := #[.pointer (some ⟨b, 0, none⟩)]) Tryz.func114 (by kernel_rfl) (by kernel_rfl) (by kernel_rfl) (e := Extern.AbiNoEscape.same) (by kernel_rfl)
    rw [Lib.run_noEscape] at l2
    have l3 := Lib.run_from_unsafe (P := Tryz.prog) (w := w) ⟨b, 0, none⟩ Tryz.underlying161 Tryz.underlying120 hj hsh bldLies
    have HU := Lib.hid (show Lib.BuilderAt 122 5 B b (.pointer none) bs w from ⟨hB, v, hb, hown, hne⟩)
    clear hb hown hne hsh hj hjs
    go_enter Tryz.func98, Tryz.ntmps98
    go_wp2
    go_end0
    exact ⟨rfl, HU.out.used _, (Below.refl B w).setCell (p := ⟨b, 0, none⟩) HU.out.1 _, (Lib.OthersKept.refl _ _ w).setCell ⟨b, 0, none⟩ rfl _⟩
  · obtain ⟨hB, v, hb, hown, hne⟩ := h
    obtain ⟨⟨c0, c1⟩, f0, f1, hsh⟩ := bldCells hb
    have l1 := Lib.run_neq_ptr_same (P := Tryz.prog) w ⟨b, 0, none⟩ Tryz.underlying120 hj
    have HU := Lib.hid (show Lib.BuilderAt 122 5 B b (.pointer (some ⟨b, 0, none⟩)) bs w from ⟨hB, v, hb, hown, hne⟩)
    clear hb hown hne hsh hj hjs
    go_enter Tryz.func98, Tryz.ntmps98
    go_wp2
    go_end0
    exact ⟨rfl, HU.out, Below.refl _ _, Lib.OthersKept.refl _ _ _⟩
theorem row_form {w : World} {B : Nat} {v : Value} {n : Nat} {xs : List Value} (h : w.ownsRow B 5 1 v n xs) : ∀ g, v.ownBlock = some g → ∃ c fz, w.heap[g]? = some (.cells c 5 fz) := by
  intro g hg
  rcases h.2 with ⟨rfl, _⟩ | ⟨g', cap, cur, rfl, _, hgg, _⟩
  · cases hg
  · cases hg
    exact ⟨_, _, hgg⟩
theorem slice_formB {w : World} {B : Nat} {e : TypeId} {size : Nat} {v : Value} {n : Nat} {xs : List Value} (h : w.ownsRow B e size v n xs) : ∃ a c, v = .slice a n c := by
  rcases h.2 with ⟨rfl, rfl⟩ | ⟨g, cap, cur, rfl, _⟩
  · exact ⟨none, 0, rfl⟩
  · exact ⟨_, cap, rfl⟩

set_option maxHeartbeats 1000000 in
theorem writeString_any {w : World} {B b : Nat} {bs : List Value} (h : IsB B b bs w) (hB : B ≤ w.heap.size) (s : ByteArray) (hlen : bs.length + s.size ≤ 140737488355328) :
    Calls Tryz.prog 72 #[.pointer (some ⟨b, 0, none⟩), .string s] w fun e w' => e = .returned (.tuple #[.int .i64 s.size, .nilIface]) ∧
      IsB B b (bs ++ Lib.strCells s) w' ∧ Below B w w' ∧ Lib.OthersKept 5 (some b) w w' := by
  have HC := Lib.hid (copyCheck_any h)
  obtain ⟨i0, hi, hz0, hz1, hz2⟩ := info_parts infoU8
  have HI := Lib.hid hi
  have Hz0 := Lib.hid hz0
  have Hz1 := Lib.hid hz1
  have Hz2 := Lib.hid hz2
  clear h hi hz0 hz1 hz2
  go_enter Tryz.func72, Tryz.ntmps72
  go_wp2_with (fail)
  refine (HC.out).mono ?_
  rintro e w1 ⟨rfl, ⟨hBb, v, hbk, hown, hne⟩, hb1, ho1⟩
  obtain ⟨⟨c0, c1⟩, f0, f1, _⟩ := bldCells hbk
  have hlt : b < w1.heap.size := (Array.getElem?_eq_some_iff.1 hbk).1
  have HO := Lib.hid hown
  have HBK := Lib.hid hbk
  have HB1 := Lib.hid hb1
  have HO1 := Lib.hid ho1
  have HNE := Lib.hid hne
  have HLT := Lib.hid hlt
  clear hown hbk hb1 ho1 hne hlt
  go_wp2_with (at_builtin
               refine Lib.wpList_append_own_string _ (by rfl) _ _ 113 9 (by rfl) B 5 i0 Tryz.underlying113 Tryz.underlying9 HI.out Hz0.out Hz1.out Hz2.out v _ _ (by rfl) HO.out s (by rfl) (by unfold maxLen; omega) hlen ?_ ?_
               · have := HB1.out.size; omega
               intro v' w2 hown2 hg2 hnil
               obtain ⟨a2, c2, hv2⟩ := slice_formB hown2
               have hb2 : w2.heap[b]? = some (.cells #[.pointer (some ⟨b, 0, none⟩), v] 122 (0, 0)) := by
                 rw [hg2.block b HLT.out (fun e => HNE.out e.symm)]
                 exact HBK.out
               obtain ⟨⟨d0, d1⟩, g0, g1, _⟩ := bldCells hb2
               subst hv2
               have HO2 := Lib.hid hown2
               have HB2 := Lib.hid hb2
               have HG2 := Lib.hid hg2
               clear hown2 hb2 hg2 hnil)
  go_wp2
  go_ret2
  refine ⟨rfl, .inr (Lib.BuilderAt.put hBb HB2.out (by rw [List.length_append, Lib.strCells_length]; exact HO2.out) (by decide)), ?_, ?_⟩
  · exact (HB1.out.grown HG2.out (by have := HB1.out.size; omega) (fun k hk => (HO.out.lt k hk).1)).setCell (p := ⟨b, 1, none⟩) hBb _
  · exact (HO1.out.grown HG2.out (row_form HO.out)).setCell ⟨b, 1, none⟩ rfl _
end Go.Proofs.YtalgheocjnajlaaGreatDoor

