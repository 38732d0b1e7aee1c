/-
  CHANGES (tx): what one is in memory; Begin, dead, Homes, Mark, Read, Write, Back.
-/
import Derived.Test.YtoajdccdhjlikaaDoorWide
namespace Go.Proofs.YtoajdccdhjlikaaDoor
open Go.RowKit Go.MapKept
attribute [local go_sem] gives

abbrev Puts := List (Int × ByteArray)
/-- the places of a home's puts -/
def posns (p : Puts) (i : Int) : List Nat := (List.range p.length).filter (fun k => decide ((p[k]?.map (·.1)) = some i))
/-- what a home holds, as the change sees it -/
def seen (p : Puts) (f : Int → ByteArray) (i : Int) : ByteArray := ((p.filter (fun x => decide (x.1 = i))).getLast?.map (·.2)).getD (f i)

theorem posns_snoc (p : Puts) (x : Int × ByteArray) (i : Int) : posns (p ++ [x]) i = posns p i ++ (if x.1 = i then [p.length] else []) := by
  unfold posns
  rw [List.length_append, List.length_singleton, List.range_succ, List.filter_append]
  congr 1
  · apply List.filter_congr
    intro k hk
    rw [List.getElem?_append_left (by simpa using hk)]
  · by_cases h : x.1 = i <;> simp [h]
theorem seen_snoc (p : Puts) (f : Int → ByteArray) (x : Int × ByteArray) (i : Int) : seen (p ++ [x]) f i = if x.1 = i then x.2 else seen p f i := by
  unfold seen
  rw [List.filter_append]
  by_cases h : x.1 = i <;> simp [h]
theorem snoc_ind {α : Type} {p : List α → Prop} (l : List α) (h0 : p []) (h1 : ∀ l x, p l → p (l ++ [x])) : p l := by
  rw [← List.reverse_reverse l]
  induction l.reverse with
  | nil => exact h0
  | cons x l ih => rw [List.reverse_cons]; exact h1 _ _ ih
/-- the last of the places is where the answer is -/
theorem seen_none (p : Puts) (f : Int → ByteArray) (i : Int) (h : posns p i = []) : seen p f i = f i := by
  revert h
  refine snoc_ind (p := fun p => posns p i = [] → seen p f i = f i) p (fun _ => rfl) ?_
  · intro p x ih h
    rw [posns_snoc] at h
    obtain ⟨h1, h2⟩ := List.append_eq_nil_iff.1 h
    rw [seen_snoc, if_neg (by intro e; rw [if_pos e] at h2; cases h2), ih h1]
theorem seen_last (p : Puts) (f : Int → ByteArray) (i : Int) (l : List Nat) (k : Nat) (h : posns p i = l ++ [k]) : k < p.length ∧ p[k]? = some (i, seen p f i) := by
  revert l k
  refine snoc_ind (p := fun p => ∀ l k, posns p i = l ++ [k] → k < p.length ∧ p[k]? = some (i, seen p f i)) p ?_ ?_
  · intro l k h; simp [posns] at h
  · intro p x ih l k h
    rw [posns_snoc] at h
    by_cases hx : x.1 = i
    · rw [if_pos hx] at h
      obtain ⟨rfl, hk⟩ := List.append_inj' h rfl
      have : k = p.length := by simpa using hk.symm
      subst this
      refine ⟨by simp, ?_⟩
      rw [seen_snoc, if_pos hx, List.getElem?_append_right (Nat.le_refl _)]
      simp [← hx]
    · rw [if_neg hx, List.append_nil] at h
      obtain ⟨h1, h2⟩ := ih l k h
      refine ⟨by simp; omega, ?_⟩
      rw [seen_snoc, if_neg hx, List.getElem?_append_left h1, h2]

structure TxS where
  bl : Nat
  n : Nat
  f : Int → ByteArray
  rowv : Value
  puts : Puts
  bw : Nat
  g : Int → Option Value
  ng : Nat
  Fl : Nat → Prop

structure TxAt (w : World) (bt : Nat) (T : TxS) : Prop where
  cells : w.heap[bt]? = some (.cells #[.pointer (some ⟨T.bl, 0, none⟩), T.rowv, .map (some T.bw)] 102 (0, 0))
  log : LogView w T.bl T.n T.f T.Fl
  row : w.ownsRow 0 88 2 T.rowv T.puts.length (writeCells T.puts)
  where_ : IMap w T.bw T.g T.ng
  none_ : ∀ i, posns T.puts i = [] → T.g i = none
  some_ : ∀ i, posns T.puts i ≠ [] → ∃ v, T.g i = some v ∧ w.ownsRow 0 3 1 v (posns T.puts i).length ((posns T.puts i).map (fun k => Value.int .i64 (k : Nat)))
  apart : bt ≠ T.bw ∧ ¬ T.Fl bt ∧ ¬ T.Fl T.bw ∧ ∀ k, T.rowv.ownBlock = some k → k ≠ bt ∧ k ≠ T.bw ∧ ¬ T.Fl k
  lists : ∀ i v k, T.g i = some v → v.ownBlock = some k → k ≠ bt ∧ k ≠ T.bw ∧ ¬ T.Fl k ∧ T.rowv.ownBlock ≠ some k
  each : ∀ i j v v' k, T.g i = some v → T.g j = some v' → i ≠ j → v.ownBlock = some k → v'.ownBlock ≠ some k
  good : ∀ x ∈ T.puts, 0 ≤ x.1 ∧ x.1 < T.n ∧ x.2.size = 512

def TxS.foot (T : TxS) (bt k : Nat) : Prop := k = bt ∨ k = T.bw ∨ T.Fl k ∨ T.rowv.ownBlock = some k ∨ ∃ i v, T.g i = some v ∧ v.ownBlock = some k

theorem TxAt.keep {w w' : World} {bt : Nat} {T : TxS} (h : TxAt w bt T) {S : Nat → Prop} (hk : Keep S w w') (hn : ∀ k, T.foot bt k → ¬ S k) : TxAt w' bt T :=
  ⟨hk.at h.cells (hn _ (.inl rfl)), h.log.keep hk (fun k hf => hn k (.inr (.inr (.inl hf)))), hk.ownsRow h.row (fun k e => hn k (.inr (.inr (.inr (.inl e))))), h.where_.keep hk (hn _ (.inr (.inl rfl))), h.none_,
   fun i hi => by
     obtain ⟨v, hv, ho⟩ := h.some_ i hi
     exact ⟨v, hv, hk.ownsRow ho (fun k e => hn k (.inr (.inr (.inr (.inr ⟨i, v, hv, e⟩)))))⟩, h.apart, h.lists, h.each, h.good⟩

end Go.Proofs.YtoajdccdhjlikaaDoor
