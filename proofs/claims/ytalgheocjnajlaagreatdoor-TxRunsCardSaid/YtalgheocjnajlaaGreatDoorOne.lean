/-
  A LOG's group of one list; groups that fit.
-/
import Derived.Test.YtalgheocjnajlaaGreatDoorLogIn
namespace Go.Proofs.YtalgheocjnajlaaGreatDoor
open Go.RowKit Go.MapKept
set_option maxRecDepth 100000

theorem PutsAt.monoB {w : World} {B B' : Nat} {v : Value} {p : Puts} (h : PutsAt w B v p) (hB : B ≤ B') : PutsAt w B' v p :=
  h.imp id (fun ⟨ad, b, off, cap, h1, h2, h3⟩ => ⟨ad, b, off, cap, h1, fun h0 => ⟨(h2 h0).1, Nat.lt_of_lt_of_le (h2 h0).2 hB⟩, h3⟩)
/-- one list, as a call lays it -/
theorem listsAt_one {w : World} {v : Value} {p : Puts} (h : PutsAt w w.heap.size v p) :
    ListsAt (w.alloc (Obj.cells #[v] 36)) (w.alloc (Obj.cells #[v] 36)).heap.size (.slice (some ⟨w.heap.size, 0, none⟩) 1 1) [p] ∧ Below w.heap.size w (w.alloc (Obj.cells #[v] 36)) := by
  have hb : Below w.heap.size w (w.alloc (Obj.cells #[v] 36)) := (Below.refl _ _).alloc (Nat.le_refl _) _
  refine ⟨.inr ⟨⟨w.heap.size, 0, none⟩, w.heap.size, 0, 1, fun _ => v, rfl, fun _ => ⟨rfl, by simp⟩, fun k q hq => ?_⟩, hb⟩
  have hk : k = 0 := by have := (List.getElem?_eq_some_iff.1 hq).1; simp at this; omega
  subst hk
  have hq2 : q = p := by simpa using hq.symm
  subst hq2
  exact ⟨Lib.cell_of_heap (heap_alloc_new w _) 0, (h.still hb).monoB (by simp)⟩
theorem gErr_zero {homes : Nat} {p : Puts} (h : ∀ x ∈ p, 0 ≤ x.1 ∧ x.1 < homes ∧ x.2.size ≤ 512) : gErr homes p = 0 := by
  induction p with
  | nil => rfl
  | cons y p ih =>
    have hy := h y (by simp)
    show (if y.1 < 0 ∨ (homes : Int) ≤ y.1 then (2 : Int) else if 512 < y.2.size then 5 else gErr homes p) = 0
    rw [if_neg (by omega), if_neg (by omega)]
    exact ih (fun x hx => h x (List.mem_cons_of_mem _ hx))
theorem cErr_zero {homes ring : Nat} {p : Puts} (h : ∀ x ∈ p, 0 ≤ x.1 ∧ x.1 < homes ∧ x.2.size ≤ 512) (hr : secs (metL p).length + 1 ≤ ring) : cErr homes ring p = 0 := by
  unfold cErr
  rw [if_neg (by rw [gErr_zero h]; decide), if_neg (by omega)]
/-- a home read -/
theorem LogUp.readAt {w : World} {bl : Nat} {L : LogS} {d : Dk} {N homes : Nat} {W : Int → ByteArray} (h : LogUp w bl L d N W) (hh : L.homes = homes) (k : Nat) (hk : k < homes) :
    Calls Tryz.prog 25 #[.pointer (some ⟨bl, 0, none⟩), .int .i64 k] w fun e w' => e = .returned (.tuple #[.string (W k), .int .i64 0]) ∧ Below w.heap.size w w' := by
  have hsz := h.at_.disk.size
  have hk6 : k < 65536 := by unfold LogS.homes at hh; omega
  have hr := logRead_any h.at_ h.lup h.dup (i := (k : Int)) (keyOk (by omega) (by omega))
  have hs : L.says k = .tuple #[.string (W k), .int .i64 0] := by
    unfold LogS.says
    rw [if_pos (by omega), h.read k (by omega)]
  rwa [hs] at hr
end Go.Proofs.YtalgheocjnajlaaGreatDoor
