/-
  SHARED PARTS of the storage layers: puts and what is seen by them, rows of cells, counting, texts filled up.
-/
import Derived.Test.YtalgheocjnajlaaGreatDoorOpen
import Derived.Test.YtalgheocjnajlaaGreatDoorHeld
import Derived.Deep.AppendLies
namespace Go.Proofs.YtalgheocjnajlaaGreatDoor
open Go.RowKit Go.MapKept
attribute [local go_sem] gives

abbrev Puts := List (Int × ByteArray)
/-- the places of a home's puts -/
def posns (p : Puts) (i : Int) : List Nat := (List.range p.length).filter (fun k => decide ((p[k]?.map (·.1)) = some i))
/-- what a home holds, as the change sees it -/
def seen (p : Puts) (f : Int → ByteArray) (i : Int) : ByteArray := ((p.filter (fun x => decide (x.1 = i))).getLast?.map (·.2)).getD (f i)
theorem posns_snoc (p : Puts) (x : Int × ByteArray) (i : Int) : posns (p ++ [x]) i = posns p i ++ (if x.1 = i then [p.length] else []) := by
  unfold posns
  rw [List.length_append, List.length_singleton, List.range_succ, List.filter_append]
  congr 1
  · apply List.filter_congr
    intro k hk
    rw [List.getElem?_append_left (by simpa using hk)]
  · by_cases h : x.1 = i <;> simp [h]
theorem seen_snoc (p : Puts) (f : Int → ByteArray) (x : Int × ByteArray) (i : Int) : seen (p ++ [x]) f i = if x.1 = i then x.2 else seen p f i := by
  unfold seen
  rw [List.filter_append]
  by_cases h : x.1 = i <;> simp [h]
theorem snoc_ind {α : Type} {p : List α → Prop} (l : List α) (h0 : p []) (h1 : ∀ l x, p l → p (l ++ [x])) : p l := by
  rw [← List.reverse_reverse l]
  induction l.reverse with
  | nil => exact h0
  | cons x l ih => rw [List.reverse_cons]; exact h1 _ _ ih
/-- the last of the places is where the answer is -/
theorem seen_none (p : Puts) (f : Int → ByteArray) (i : Int) (h : posns p i = []) : seen p f i = f i := by
  revert h
  refine snoc_ind (p := fun p => posns p i = [] → seen p f i = f i) p (fun _ => rfl) ?_
  · intro p x ih h
    rw [posns_snoc] at h
    obtain ⟨h1, h2⟩ := List.append_eq_nil_iff.1 h
    rw [seen_snoc, if_neg (by intro e; rw [if_pos e] at h2; cases h2), ih h1]
theorem seen_last (p : Puts) (f : Int → ByteArray) (i : Int) (l : List Nat) (k : Nat) (h : posns p i = l ++ [k]) : k < p.length ∧ p[k]? = some (i, seen p f i) := by
  revert l k
  refine snoc_ind (p := fun p => ∀ l k, posns p i = l ++ [k] → k < p.length ∧ p[k]? = some (i, seen p f i)) p ?_ ?_
  · intro l k h; simp [posns] at h
  · intro p x ih l k h
    rw [posns_snoc] at h
    by_cases hx : x.1 = i
    · rw [if_pos hx] at h
      obtain ⟨rfl, hk⟩ := List.append_inj' h rfl
      have : k = p.length := by simpa using hk.symm
      subst this
      refine ⟨by simp, ?_⟩
      rw [seen_snoc, if_pos hx, List.getElem?_append_right (Nat.le_refl _)]
      simp [← hx]
    · rw [if_neg hx, List.append_nil] at h
      obtain ⟨h1, h2⟩ := ih l k h
      refine ⟨by simp; omega, ?_⟩
      rw [seen_snoc, if_neg hx, List.getElem?_append_left h1, h2]
theorem slice_form {w : World} {e : TypeId} {size : Nat} {v : Value} {n : Nat} {xs : List Value} (h : w.ownsRow 0 e size v n xs) : ∃ a c, v = .slice a n c ∧ n ≤ c ∧ c ≤ maxLen := by
  rcases h.2 with ⟨rfl, rfl⟩ | ⟨g, cap, cur, rfl, _, _, h1, h2, _⟩
  · exact ⟨none, 0, rfl, Nat.le_refl _, Nat.zero_le _⟩
  · exact ⟨_, cap, rfl, h1, h2⟩
theorem row_pos {w : World} {e : TypeId} {size : Nat} {v : Value} {n : Nat} {xs : List Value} (h : w.ownsRow 0 e size v n xs) (hn : 0 < n) :
    ∃ g c, v = .slice (some ⟨g, 0, none⟩) n c ∧ n ≤ c ∧ c ≤ maxLen ∧ ∀ (j : Nat) u, xs[j]? = some u → w.cell? ⟨g, j, none⟩ = some u := by
  rcases h.2 with ⟨rfl, rfl⟩ | ⟨g, cap, cur, rfl, _, hg, h1, h2, _⟩
  · omega
  · refine ⟨g, cap, rfl, h1, h2, fun j u hu => ?_⟩
    have := h.cells (g := g) rfl j u hu
    have e : (⟨g, 0, none⟩ : Addr).add j = ⟨g, j, none⟩ := by unfold Addr.add; split <;> simp_all
    rwa [e] at this
theorem writeCells_at (p : Puts) (k : Nat) (i : Int) (s : ByteArray) (h : p[k]? = some (i, s)) : (writeCells p)[k * 2]? = some (.int .i64 i) ∧ (writeCells p)[k * 2 + 1]? = some (.string s) := by
  induction p generalizing k with
  | nil => simp at h
  | cons x p ih =>
    have e : writeCells (x :: p) = .int .i64 x.1 :: .string x.2 :: writeCells p := rfl
    rw [e]
    cases k with
    | zero =>
      simp at h
      subst h
      exact ⟨rfl, rfl⟩
    | succ k =>
      have := ih k (by simpa using h)
      rw [show (k + 1) * 2 = k * 2 + 1 + 1 by omega]
      simpa using this
theorem writeCells_length (p : Puts) : (writeCells p).length = p.length * 2 := by
  induction p with
  | nil => rfl
  | cons x p ih =>
    have e : writeCells (x :: p) = .int .i64 x.1 :: .string x.2 :: writeCells p := rfl
    rw [e]; simp [ih]; omega
theorem zeroInts (w : World) : (zeroValue 40).run Tryz.prog w = .ok (.slice none 0 0) w := by kernel_rfl
theorem infoInt : (Tryz.prog.info? 3).map (fun i => (i.zero, i.size, i.bytes)) = some (some (.int .i64 0), 1, 8) := by kernel_rfl
theorem infoPut : (Tryz.prog.info? 60).map (fun i => (i.zero, i.size, i.bytes)) = some (some (.agg #[.int .i64 0, .string ⟨#[]⟩]), 2, 24) := by kernel_rfl
def padS (s : ByteArray) : ByteArray := ⟨(List.replicate (512 - s.size) (0 : UInt8)).toArray⟩
theorem repeat_zero (s : ByteArray) (hs : s.size ≤ 512) (w : World) : Calls Tryz.prog 53 #[.string ⟨#[0]⟩, .int .i64 ((512 : Int) - s.size)] w fun e w' => e = .returned (.string (padS s)) ∧ Below w.heap.size w w' := by
  have hx := Tryz.strings_Repeat ⟨#[0]⟩ (512 - s.size) w (by omega) (by have : (⟨#[0]⟩ : ByteArray).size = 1 := rfl; rw [this]; omega)
  rw [repeatL_zero] at hx
  have e1 : ((512 - s.size : Nat) : Int) = (512 : Int) - (s.size : Nat) := by omega
  rw [e1] at hx
  exact hx
theorem fullS_cat (s : ByteArray) (hs : s.size ≤ 512) (w : World) : (Op.stringOp .add s (padS s)).run Tryz.prog w = .ok (.string (fullS s)) w := by
  have := run_string_add_sum (P := Tryz.prog) w s (padS s) (by
    have : (padS s).size = 512 - s.size := by show (List.replicate _ _).toArray.size = _; simp
    omega)
  rw [this]
  have e : fullS s = s ++ padS s := by apply ByteArray.ext; simp [fullS, padS]
  rw [e]
theorem row_posB {w : World} {B : Nat} {e : TypeId} {size : Nat} {v : Value} {n : Nat} {xs : List Value} (h : w.ownsRow B e size v n xs) (hn : 0 < n) :
    ∃ g c, v = .slice (some ⟨g, 0, none⟩) n c ∧ n ≤ c ∧ c ≤ maxLen ∧ B ≤ g := by
  rcases h.2 with ⟨rfl, rfl⟩ | ⟨g, cap, cur, rfl, hb, hg, h1, h2, _⟩
  · omega
  · exact ⟨g, cap, rfl, h1, h2, hb⟩
theorem row_cells {w : World} {B : Nat} {e : TypeId} {size g n c : Nat} {xs : List Value} (h : w.ownsRow B e size (.slice (some ⟨g, 0, none⟩) n c) n xs) (j : Nat) (u : Value) (hu : xs[j]? = some u) : w.cell? ⟨g, j, none⟩ = some u := by
  have := h.cells (g := g) rfl j u hu
  rwa [show (⟨g, 0, none⟩ : Addr).add j = ⟨g, j, none⟩ by unfold Addr.add; split <;> simp_all] at this
/-- how many of the first n bits are on -/
def cnt (f : Nat → Bool) (n : Nat) : Nat := ((List.range n).filter f).length
theorem cnt_le (f : Nat → Bool) (n : Nat) : cnt f n ≤ n := by
  unfold cnt
  have := List.length_filter_le f (List.range n)
  simpa using this

theorem cnt_succ (f : Nat → Bool) (n : Nat) : cnt f (n + 1) = cnt f n + (if f n then 1 else 0) := by
  unfold cnt
  rw [List.range_succ, List.filter_append, List.length_append]
  congr 1
  by_cases h : f n <;> simp [h]
theorem cnt_congr {f g : Nat → Bool} {n : Nat} (h : ∀ q, q < n → f q = g q) : cnt f n = cnt g n := by
  unfold cnt
  congr 1
  exact List.filter_congr (fun q hq => h q (by simpa using hq))
theorem cnt_none (n : Nat) : cnt (fun _ => false) n = 0 := by unfold cnt; simp
theorem cnt_add1 (f : Nat → Bool) (p n : Nat) (hp : p < n) (h0 : f p = false) : cnt (fun q => decide (q = p) || f q) n = cnt f n + 1 := by
  induction n with
  | zero => omega
  | succ n ih =>
    rw [cnt_succ, cnt_succ]
    by_cases hpn : p < n
    · rw [ih hpn]
      have : ¬ n = p := by omega
      simp [this]; omega
    · obtain rfl : p = n := by omega
      have e : cnt (fun q => decide (q = p) || f q) p = cnt f p := cnt_congr (fun q hq => by simp; omega)
      rw [e, h0]
      simp
theorem cnt_mem (ps : List Nat) (f : Nat → Bool) (n : Nat) (hd : ps.Nodup) (hlt : ∀ p ∈ ps, p < n) (h0 : ∀ p ∈ ps, f p = false) : cnt (fun q => decide (q ∈ ps) || f q) n = cnt f n + ps.length := by
  induction ps with
  | nil => exact cnt_congr (fun q _ => by simp)
  | cons p ps ih =>
    have hd2 := List.nodup_cons.1 hd
    have e := ih hd2.2 (fun q hq => hlt q (List.mem_cons_of_mem _ hq)) (fun q hq => h0 q (List.mem_cons_of_mem _ hq))
    have e2 := cnt_add1 (fun q => decide (q ∈ ps) || f q) p n (hlt p (by simp)) (by simp [hd2.1, h0 p (by simp)])
    rw [List.length_cons, ← Nat.add_assoc, ← e, ← e2]
    refine cnt_congr (fun q _ => ?_)
    simp [List.mem_cons, Bool.or_assoc]
theorem extract_all (s : ByteArray) : s.extract 0 s.size = s := by apply ByteArray.ext; simp
theorem fullS_same (s : ByteArray) (h : s.size = 512) : fullS s = s := by
  unfold fullS
  rw [h]
  apply ByteArray.ext
  simp
end Go.Proofs.YtalgheocjnajlaaGreatDoor
