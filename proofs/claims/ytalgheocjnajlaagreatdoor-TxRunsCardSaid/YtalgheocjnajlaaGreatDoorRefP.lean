/-
  THE DOCUMENT's ANSWER of layer 5, plain: the homes a group puts; homes as a list of texts.
-/
import Derived.Test.YtalgheocjnajlaaGreatDoorCra
import Derived.Test.YtalgheocjnajlaaGreatDoorGat
import Derived.Test.YtalgheocjnajlaaGreatDoorSortK
namespace Go.Proofs.YtalgheocjnajlaaGreatDoor

/-- the homes a group is of, the first one first -/
def metL (p : Puts) : List Int := p.foldl (fun m x => if x.1 ∈ m then m else m ++ [x.1]) []
theorem metL_snoc (p : Puts) (x : Int × ByteArray) : metL (p ++ [x]) = if x.1 ∈ metL p then metL p else metL p ++ [x.1] := by
  unfold metL
  rw [List.foldl_append]
  rfl
theorem metL_mem (p : Puts) (i : Int) : i ∈ metL p ↔ ∃ x ∈ p, x.1 = i := by
  refine snoc_ind (p := fun p => i ∈ metL p ↔ ∃ x ∈ p, x.1 = i) p (by simp [metL]) (fun p x ih => ?_)
  rw [metL_snoc]
  have e : (∃ y ∈ p ++ [x], y.1 = i) ↔ (∃ y ∈ p, y.1 = i) ∨ x.1 = i := by
    constructor
    · rintro ⟨y, hy, h⟩
      rcases List.mem_append.1 hy with hy | hy
      · exact .inl ⟨y, hy, h⟩
      · obtain rfl : y = x := by simpa using hy
        exact .inr h
    · rintro (⟨y, hy, h⟩ | h)
      · exact ⟨y, List.mem_append_left _ hy, h⟩
      · exact ⟨x, by simp, h⟩
  rw [e, ← ih]
  by_cases hx : x.1 ∈ metL p
  · rw [if_pos hx]
    exact ⟨.inl, fun h => h.elim id (fun h => h ▸ hx)⟩
  · rw [if_neg hx, List.mem_append, List.mem_singleton]
    exact or_congr Iff.rfl eq_comm
theorem metL_nodup (p : Puts) : (metL p).Nodup := by
  refine snoc_ind (p := fun p => (metL p).Nodup) p List.nodup_nil (fun p x ih => ?_)
  rw [metL_snoc]
  by_cases hx : x.1 ∈ metL p
  · rw [if_pos hx]; exact ih
  · rw [if_neg hx, List.nodup_append]
    exact ⟨ih, by simp, fun a ha b hb => by
      have e : b = x.1 := by simpa using hb
      intro e2
      exact hx (by rw [← e, ← e2]; exact ha)⟩
theorem metL_le (p : Puts) : (metL p).length ≤ p.length := by
  refine snoc_ind (p := fun p => (metL p).length ≤ p.length) p (Nat.le_refl _) (fun p x ih => ?_)
  rw [metL_snoc]
  split
  · simp; omega
  · simp; omega
theorem lastOf_isSome (p : Puts) (i : Int) : lastOf p i ≠ none ↔ ∃ x ∈ p, x.1 = i := by
  constructor
  · intro h
    obtain ⟨t, ht⟩ := Option.ne_none_iff_exists'.1 h
    exact ⟨_, lastOf_mem ht, rfl⟩
  · intro ⟨x, hx, hi⟩ e
    unfold lastOf at e
    rw [Option.map_eq_none_iff, List.getLast?_eq_none_iff] at e
    have := (List.mem_filter (p := fun (x : Int × ByteArray) => decide (x.1 = i))).2 ⟨hx, decide_eq_true hi⟩
    rw [e] at this
    cases this
theorem fullG_count {w : World} {b n : Nat} {p : Puts} (h : IMap w b (strs (fullG p)) n) : n = (metL p).length := by
  obtain ⟨L, h1, h2, h3⟩ := h.keyList
  rw [← h2]
  refine List.Perm.length_eq ((List.perm_ext_iff_of_nodup h1 (metL_nodup p)).2 (fun i => ?_))
  rw [h3, metL_mem, ← lastOf_isSome]
  unfold strs fullG
  cases lastOf p i <;> simp
/-- the answer to a group, of a log with so many homes and so long a ring -/
def cErr (homes ring : Nat) (p : Puts) : Int := if gErr homes p ≠ 0 then gErr homes p else if ring < secs (metL p).length + 1 then 5 else 0
theorem gErr_snoc (homes : Nat) (p : Puts) (x : Int × ByteArray) : gErr homes (p ++ [x]) = if gErr homes p ≠ 0 then gErr homes p else gErr homes [x] := by
  induction p with
  | nil => rfl
  | cons y p ih =>
    show (if y.1 < 0 ∨ (homes : Int) ≤ y.1 then (2 : Int) else if 512 < y.2.size then 5 else gErr homes (p ++ [x])) = _
    rw [ih]
    show _ = if (if y.1 < 0 ∨ (homes : Int) ≤ y.1 then (2 : Int) else if 512 < y.2.size then 5 else gErr homes p) ≠ 0 then (if y.1 < 0 ∨ (homes : Int) ≤ y.1 then (2 : Int) else if 512 < y.2.size then 5 else gErr homes p) else gErr homes [x]
    by_cases h1 : y.1 < 0 ∨ (homes : Int) ≤ y.1
    · simp only [if_pos h1]; rw [if_pos (by decide)]
    · simp only [if_neg h1]
      by_cases h2 : 512 < y.2.size
      · simp only [if_pos h2]; rw [if_pos (by decide)]
      · simp only [if_neg h2]
theorem gErr_ok {homes : Nat} {p : Puts} (h : gErr homes p = 0) : ∀ x ∈ p, 0 ≤ x.1 ∧ x.1 < homes ∧ x.2.size ≤ 512 := by
  induction p with
  | nil => intro x hx; cases hx
  | cons y p ih =>
    have h0 : (if y.1 < 0 ∨ (homes : Int) ≤ y.1 then (2 : Int) else if 512 < y.2.size then 5 else gErr homes p) = 0 := h
    by_cases h1 : y.1 < 0 ∨ (homes : Int) ≤ y.1
    · rw [if_pos h1] at h0; cases h0
    · rw [if_neg h1] at h0
      by_cases h2 : 512 < y.2.size
      · rw [if_pos h2] at h0; cases h0
      · rw [if_neg h2] at h0
        intro x hx
        rcases List.mem_cons.1 hx with rfl | hx
        · omega
        · exact ih h0 x hx
theorem gErr_ne {homes : Nat} {p : Puts} : gErr homes p ≠ 3 := by
  induction p with
  | nil => exact (by decide : (0 : Int) ≠ 3)
  | cons y p ih =>
    show (if y.1 < 0 ∨ (homes : Int) ≤ y.1 then (2 : Int) else if 512 < y.2.size then 5 else gErr homes p) ≠ 3
    by_cases h1 : y.1 < 0 ∨ (homes : Int) ≤ y.1
    · rw [if_pos h1]; decide
    · rw [if_neg h1]
      by_cases h2 : 512 < y.2.size
      · rw [if_pos h2]; decide
      · rw [if_neg h2]; exact ih
theorem cErr_ne {homes ring : Nat} {p : Puts} : cErr homes ring p ≠ 3 := by
  unfold cErr
  split
  · exact gErr_ne
  · split <;> decide
/-! ## homes as a list -/
def setL (ws : List ByteArray) (p : Puts) : List ByteArray := p.foldl (fun o x => o.set x.1.toNat (fullS x.2)) ws
theorem setL_snoc (ws : List ByteArray) (p : Puts) (x : Int × ByteArray) : setL ws (p ++ [x]) = (setL ws p).set x.1.toNat (fullS x.2) := by
  unfold setL
  rw [List.foldl_append]
  rfl
theorem setL_length (ws : List ByteArray) (p : Puts) : (setL ws p).length = ws.length := by
  refine snoc_ind (p := fun p => (setL ws p).length = ws.length) p rfl (fun p x ih => ?_)
  rw [setL_snoc, List.length_set, ih]
/-- what a list of homes holds -/
def atL (ws : List ByteArray) : Int → ByteArray := fun i => ws.getD i.toNat ByteArray.empty
theorem setL_at {ws : List ByteArray} {p : Puts} (h : ∀ x ∈ p, 0 ≤ x.1 ∧ x.1 < ws.length) (k : Nat) (hk : k < ws.length) : atL (setL ws p) k = overG (fullG p) (atL ws) k := by
  revert h
  refine snoc_ind (p := fun p => (∀ x ∈ p, 0 ≤ x.1 ∧ x.1 < (ws.length : Int)) → atL (setL ws p) k = overG (fullG p) (atL ws) k) p (fun _ => rfl) (fun p x ih h => ?_)
  have hx := h x (by simp)
  have ih2 := ih (fun y hy => h y (List.mem_append_left _ hy))
  have e : overG (fullG (p ++ [x])) (atL ws) k = if x.1 = (k : Int) then fullS x.2 else overG (fullG p) (atL ws) k := by
    unfold overG fullG
    rw [lastOf_snoc]
    by_cases hi : x.1 = (k : Int)
    · rw [if_pos hi, if_pos hi]; rfl
    · rw [if_neg hi, if_neg hi]
  rw [e, ← ih2, setL_snoc]
  unfold atL
  by_cases hi : x.1 = (k : Int)
  · rw [if_pos hi, hi]
    rw [List.getD_eq_getElem?_getD, Int.toNat_natCast, List.getElem?_set_self (by rw [setL_length]; exact hk)]
    rfl
  · rw [if_neg hi, List.getD_eq_getElem?_getD, List.getD_eq_getElem?_getD, List.getElem?_set_ne (by rw [Int.toNat_natCast]; omega)]
/-- the document's answer to a group -/
def refL (ws : List ByteArray) (ring : Nat) (p : Puts) : List ByteArray := if cErr ws.length ring p = 0 then setL ws p else ws
theorem refL_length (ws : List ByteArray) (ring : Nat) (p : Puts) : (refL ws ring p).length = ws.length := by
  unfold refL
  split
  · exact setL_length _ _
  · rfl
theorem refL_at {ws : List ByteArray} {ring : Nat} {p : Puts} (h : cErr ws.length ring p = 0) (k : Nat) (hk : k < ws.length) : atL (refL ws ring p) k = overG (fullG p) (atL ws) k := by
  unfold refL
  rw [if_pos h]
  refine setL_at (fun x hx => ?_) k hk
  have hg : gErr ws.length p = 0 := by
    unfold cErr at h
    by_cases hg : gErr ws.length p = 0
    · exact hg
    · rw [if_pos hg] at h; exact h
  have := gErr_ok hg x hx
  omega
end Go.Proofs.YtalgheocjnajlaaGreatDoor
