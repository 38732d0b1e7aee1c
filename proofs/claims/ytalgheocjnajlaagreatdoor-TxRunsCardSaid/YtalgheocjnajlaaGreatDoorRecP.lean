/-
  THE LOG, plain: groups in the order of their homes; a record's steps.
-/
import Derived.Test.YtalgheocjnajlaaGreatDoorLgP
import Derived.Test.YtalgheocjnajlaaGreatDoorDk1
namespace Go.Proofs.YtalgheocjnajlaaGreatDoor

/-- a group in the order of its homes -/
structure GrpOf (g : Int → Option ByteArray) (l : Grp) : Prop where
  sorted : l.Pairwise (fun a b => a.1 < b.1)
  mem : ∀ (i : Nat) t, (i, t) ∈ l ↔ g i = some t
  pos : ∀ i, g i ≠ none → 0 ≤ i
/-- a record's pieces, the first j -/
def recP (ring next : Nat) (l : Grp) (j : Nat) : Puts := (List.range j).map (fun i => (((1 + (next + 1 + i) % ring : Nat) : Int), pieceS (recL l) i))
theorem recP_succ (ring next : Nat) (l : Grp) (j : Nat) : recP ring next l (j + 1) = recP ring next l j ++ [(((1 + (next + 1 + j) % ring : Nat) : Int), pieceS (recL l) j)] := by
  unfold recP
  rw [List.range_succ, List.map_append]
  rfl
theorem wops_snoc (p : Puts) (x : Int × ByteArray) : wops (p ++ [x]) = wops p ++ [.write x.1 x.2] := by simp [wops]
def recOps (ring next seq : Nat) (l : Grp) : List DOp := wops (recP ring next l (secs l.length)) ++ [.flush, .write ((1 + next : Nat) : Int) (hdrS seq l.length), .flush]
theorem recL_snoc (l : Grp) (x : Nat × ByteArray) : recL (l ++ [x]) = recL l ++ (numL x.1 4 ++ x.2.data.toList) := by simp [recL]
theorem recP_prefix (ring next : Nat) (l : Grp) (j S : Nat) (h : j ≤ S) : ∃ q, recP ring next l S = recP ring next l j ++ q := by
  induction S with
  | zero =>
    obtain rfl : j = 0 := by omega
    exact ⟨[], by simp⟩
  | succ S ih =>
    by_cases hj : j = S + 1
    · subst hj; exact ⟨[], by simp⟩
    · obtain ⟨q, hq⟩ := ih (by omega)
      exact ⟨q ++ [(((1 + (next + 1 + S) % ring : Nat) : Int), pieceS (recL l) S)], by rw [recP_succ, hq, List.append_assoc]⟩
theorem wops_append (p q : Puts) : wops (p ++ q) = wops p ++ wops q := by simp [wops]
theorem recOps_prefix (ring next seq : Nat) (l : Grp) (j : Nat) (h : j ≤ secs l.length) : ∃ q, recOps ring next seq l = wops (recP ring next l j) ++ q := by
  obtain ⟨q, hq⟩ := recP_prefix ring next l j _ h
  exact ⟨wops q ++ [.flush, .write ((1 + next : Nat) : Int) (hdrS seq l.length), .flush], by unfold recOps; rw [hq, wops_append, List.append_assoc]⟩
theorem piece_raw (T : List UInt8) (j : Nat) : (⟨#[80]⟩ : ByteArray) ++ (⟨(T.drop (511 * j)).toArray⟩ : ByteArray).extract 0 (min (T.length - 511 * j) 511) = ⟨(80 :: (T.drop (511 * j)).take 511).toArray⟩ := by
  apply ByteArray.ext
  apply Array.ext'
  rw [ByteArray.data_append, Array.toList_append, extract_list]
  simp only [List.drop_zero, Nat.sub_zero]
  show [80] ++ _ = _
  rw [show min (T.length - 511 * j) 511 = min 511 (T.drop (511 * j)).length by rw [List.length_drop]; omega, ← List.take_take, List.take_of_length_le (Nat.le_refl _)]
  simp
end Go.Proofs.YtalgheocjnajlaaGreatDoor
