/-
  THE LOG, walked: what a log does to its disk, as a list of steps.
-/
import Derived.Test.YtalgheocjnajlaaGreatDoorGat
import Derived.Test.YtalgheocjnajlaaGreatDoorSortK
namespace Go.Proofs.YtalgheocjnajlaaGreatDoor
open Go.RowKit Go.MapKept
set_option maxRecDepth 100000

theorem Dk.op_full (d : Dk) (i : Int) (s : ByteArray) (hs : s.size ≤ 512) : d.op (.write i s) = d.op (.write i (fullS s)) := by
  rw [Dk.op_w, Dk.op_w, fullS_same _ (fullS_size s hs)]
theorem Dk.op_writes_le (d : Dk) (o : DOp) : (d.op o).writes.length ≤ d.writes.length + 1 := by
  have hs := d.step_same.2.2.1
  cases o with
  | write i s =>
    rw [Dk.op_w]
    split
    · omega
    · split
      · simp
      · rw [hs]; omega
  | flush =>
    rw [Dk.op_f]
    split
    · omega
    · split
      · simp
      · rw [hs]; omega
theorem Dk.run_writes_le (d : Dk) (l : List DOp) : (d.run l).writes.length ≤ d.writes.length + l.length := by
  induction l generalizing d with
  | nil => simp [Dk.run]
  | cons o l ih =>
    have h1 := ih (d.op o)
    have h2 := d.op_writes_le o
    have e : d.run (o :: l) = (d.op o).run l := rfl
    rw [e, List.length_cons]
    omega
/-- the log's disk did these steps -/
def Ran (bl : Nat) (w : World) (L : LogS) (d : Dk) (ops : List DOp) (w' : World) : Prop := ∃ D', LogStep bl w L w' { L with D := D' } ∧ DkOf D' (d.run ops)
section
variable {bl : Nat} {w w' w'' : World} {L : LogS} {d : Dk} {ops : List DOp}
theorem Ran.start (h : LogAt w bl L) (hd : DkOf L.D d) : Ran bl w L d [] w := ⟨L.D, LogStep.refl h, hd⟩
theorem Ran.still (h : Ran bl w L d ops w') (hb : Below w'.heap.size w' w'') : Ran bl w L d ops w'' := by
  obtain ⟨D', hs, hd⟩ := h
  exact ⟨D', hs.trans (LogStep.still hs.at_ hb), hd⟩
theorem Ran.drew (h : Ran bl w L d ops w') : Ran bl w L d ops w'.drew := h.still ⟨rfl, rfl, rfl, Nat.le_refl _, fun _ _ => rfl⟩
theorem Ran.at_ (h : Ran bl w L d ops w') : ∃ D', LogAt w' bl { L with D := D' } ∧ DkOf D' (d.run ops) := by
  obtain ⟨D', hs, hd⟩ := h
  exact ⟨D', hs.at_, hd⟩
theorem Ran.keep (h : Ran bl w L d ops w') : Keep (L.foot bl) w w' := by
  obtain ⟨D', hs, hd⟩ := h
  exact hs.keep
theorem Ran.size (h : Ran bl w L d ops w') : w.heap.size ≤ w'.heap.size := h.keep.size
/-- one sector more -/
theorem Ran.write (h : Ran bl w L d ops w') (hup : (d.run ops).down = false) (hlen : d.writes.length + ops.length < 1000000000) {i : Int} (hi : 0 ≤ i ∧ i < (L.D.size : Nat)) (s : ByteArray) (hs : s.size ≤ 512) :
    Calls Tryz.prog 112 #[.pointer (some ⟨L.bd, 0, none⟩), .int .i64 i, .string s] w' fun e w'' => e = .returned (.int .i64 (if (d.run (ops ++ [.write i (fullS s)])).down then 3 else 0)) ∧ Ran bl w L d (ops ++ [.write i (fullS s)]) w'' := by
  obtain ⟨D', hst, hd⟩ := h
  have hsz : D'.size = L.D.size := hst.size
  have hl := d.run_writes_le ops
  refine (diskWrite_any hst.at_.disk hd hup (by omega) ⟨hi.1, by rw [← hd.size, hsz]; exact hi.2⟩ s hs).mono fun e u ⟨he, D2, hs2, hd2⟩ => ?_
  rw [Dk.op_full _ _ _ hs, ← Dk.run_snoc] at he hd2
  exact ⟨he, D2, hst.trans (hst.at_.disk_step hs2), hd2⟩
theorem Ran.flush (h : Ran bl w L d ops w') (hup : (d.run ops).down = false) :
    Calls Tryz.prog 113 #[.pointer (some ⟨L.bd, 0, none⟩)] w' fun e w'' => e = .returned (.int .i64 (if (d.run (ops ++ [.flush])).down then 3 else 0)) ∧ Ran bl w L d (ops ++ [.flush]) w'' := by
  obtain ⟨D', hst, hd⟩ := h
  refine (diskFlush_any hst.at_.disk hd hup).mono fun e u ⟨he, D2, hs2, hd2⟩ => ?_
  rw [← Dk.run_snoc] at he hd2
  exact ⟨he, D2, hst.trans (hst.at_.disk_step hs2), hd2⟩
end
end Go.Proofs.YtalgheocjnajlaaGreatDoor
