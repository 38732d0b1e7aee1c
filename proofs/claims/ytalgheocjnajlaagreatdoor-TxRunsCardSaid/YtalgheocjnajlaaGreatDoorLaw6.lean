/-
  THE LAWS of layer 6: a log of twenty homes, and a change of it.
-/
import Derived.Test.YtalgheocjnajlaaGreatDoorAwk6
import Derived.Test.YtalgheocjnajlaaGreatDoorOpenK
namespace Go.Proofs.YtalgheocjnajlaaGreatDoor
open Go.RowKit Go.MapKept
attribute [local go_sem] gives givesH
set_option maxRecDepth 100000

/-- a change's puts of one home -/
theorem metL_same {p : Puts} {a : Int} (h : ∀ x ∈ p, x.1 = a) (h0 : p ≠ []) : metL p = [a] := by
  have h1 : ∀ i, i ∈ metL p ↔ i = a := fun i => by
    rw [metL_mem]
    constructor
    · rintro ⟨x, hx, rfl⟩; exact h x hx
    · rintro rfl
      obtain ⟨x, hx⟩ := List.exists_mem_of_ne_nil _ h0
      exact ⟨x, hx, h x hx⟩
  have h2 := metL_nodup p
  match hm : metL p with
  | [] => rw [hm] at h1; have := (h1 a).2 rfl; simp at this
  | [b] => rw [hm] at h1; rw [(h1 b).1 (by simp)]
  | b :: c :: r =>
    rw [hm] at h1 h2
    have e1 := (h1 b).1 (by simp)
    have e2 := (h1 c).1 (by simp)
    rw [e1, e2] at h2
    simp at h2
theorem writeErr_zero {n : Nat} {i : Int} {s : ByteArray} (h : 0 ≤ i ∧ i < n) (hs : s.size ≤ 512) : writeErr n i s = 0 := by
  unfold writeErr
  rw [if_pos h, if_neg (by omega)]
theorem homeSays_in {n : Nat} {i : Int} (h : 0 ≤ i ∧ i < n) (f : Int → ByteArray) : homeSays n f i = .tuple #[.string (f i), .int .i64 0] := by
  unfold homeSays
  rw [homeStr_in h, homeErr_in h]
end Go.Proofs.YtalgheocjnajlaaGreatDoor
