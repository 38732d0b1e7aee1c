/-
  strings.Builder: what it leaves; rows of bytes.
-/
import Derived.Test.YtalgheocjnajlaaGreatDoorBuild
namespace Go.Proofs.YtalgheocjnajlaaGreatDoor
open Go.RowKit Go.MapKept
attribute [local go_sem] gives givesH
set_option maxRecDepth 100000

theorem byteCells_snoc (l : List UInt8) (c : UInt8) : Lib.byteCells (l ++ [c]) = Lib.byteCells l ++ [.int .u8 (c.toNat : Int)] := by simp [Lib.byteCells]
theorem strCells_eq (s : ByteArray) : Lib.strCells s = Lib.byteCells s.data.toList := by simp [Lib.strCells, Lib.byteCells]
theorem byteCells_append (a b : List UInt8) : Lib.byteCells (a ++ b) = Lib.byteCells a ++ Lib.byteCells b := by simp [Lib.byteCells]
theorem isB_lt {B b : Nat} {bs : List Value} {w : World} (h : IsB B b bs w) : ∃ p v, w.heap[b]? = some (.cells #[p, v] 122 (0, 0)) := by
  rcases h with ⟨_, v, hb, _⟩ | ⟨_, v, hb, _⟩ <;> exact ⟨_, v, hb⟩
/-- rows of numbers turn: the builder is as it was -/
theorem isB_keep {B b : Nat} {bs : List Value} {w w' : World} {S : Nat → Prop} (h : IsB B b bs w) (hk : Keep S w w') (hS : ∀ k, S k → ∃ c fz, w.heap[k]? = some (.cells c 3 fz)) : IsB B b bs w' := by
  have key : ∀ p, Lib.BuilderAt 122 5 B b p bs w → Lib.BuilderAt 122 5 B b p bs w' := fun p ⟨hB, v, hb, ho, hn⟩ => by
    refine ⟨hB, v, hk.at hb (fun hs => ?_), hk.ownsRow ho (fun k hkv hs => ?_), hn⟩
    · obtain ⟨c, fz, hc⟩ := hS _ hs
      rw [hb] at hc
      cases hc
    · obtain ⟨c, fz, hc⟩ := hS _ hs
      obtain ⟨c2, fz2, hc2⟩ := row_form ho k hkv
      rw [hc] at hc2
      cases hc2
  exact h.imp (key _) (key _)
theorem isB_still {B b : Nat} {bs : List Value} {w w' : World} (h : IsB B b bs w) (hk : Below w.heap.size w w') : IsB B b bs w' :=
  isB_keep h (Keep.ofBelow (S := fun _ => False) hk) (fun _ e => e.elim)
theorem row_formE {w : World} {B : Nat} {e : TypeId} {v : Value} {n : Nat} {xs : List Value} (h : w.ownsRow B e 1 v n xs) : ∀ g, v.ownBlock = some g → ∃ c fz, w.heap[g]? = some (.cells c e fz) := by
  intro g hg
  rcases h.2 with ⟨rfl, _⟩ | ⟨g', cap, cur, rfl, _, hgg, _⟩
  · cases hg
  · cases hg
    exact ⟨_, _, hgg⟩
/-- bytes turn: a row of numbers is as it was -/
theorem row_others {w w' : World} {B b n : Nat} {v : Value} {xs : List Value} (h : w.ownsRow B 3 1 v n xs) (hB : ∃ p u, w.heap[b]? = some (.cells #[p, u] 122 (0, 0))) (ho : Lib.OthersKept 5 (some b) w w') : w'.ownsRow B 3 1 v n xs := by
  refine ⟨h.1, ?_⟩
  rcases h.2 with hv | ⟨g, cap, cur, rfl, hb, hg, rest⟩
  · exact .inl hv
  · refine .inr ⟨g, cap, cur, rfl, hb, ho g _ hg (fun e => ?_) (fun c fz e => by cases e), rest⟩
    obtain ⟨p, u, hbb⟩ := hB
    cases e
    rw [hg] at hbb
    cases hbb
end Go.Proofs.YtalgheocjnajlaaGreatDoor
