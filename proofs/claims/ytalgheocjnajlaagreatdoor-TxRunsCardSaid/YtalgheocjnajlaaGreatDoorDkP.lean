/-
  THE DISK, plain: what is firm, what is loose; steps; lists of steps; a fall.
-/
import Derived.Test.YtalgheocjnajlaaGreatDoorBase
namespace Go.Proofs.YtalgheocjnajlaaGreatDoor

structure Dk where
  size : Nat
  firm : Int → ByteArray
  writes : Puts
  fuel : Nat
  bound : Bool
  down : Bool
/-- what the disk says of a sector -/
def Dk.read (d : Dk) (i : Int) : ByteArray := seen d.writes d.firm i
/-- is a step done? -/
def Dk.can (d : Dk) : Bool := !d.bound || decide (d.fuel ≠ 0)
def Dk.step (d : Dk) : Dk := if d.bound then (if d.fuel = 0 then { d with down := true } else { d with fuel := d.fuel - 1 }) else d
inductive DOp where
  | write (i : Int) (s : ByteArray)
  | flush
def Dk.op (d : Dk) : DOp → Dk
  | .write i s => if d.down then d else if d.can then { d.step with writes := d.writes ++ [(i, fullS s)] } else d.step
  | .flush => if d.down then d else if d.can then { d.step with firm := d.read, writes := [] } else d.step
theorem Dk.op_w (d : Dk) (i : Int) (s : ByteArray) : d.op (.write i s) = if d.down then d else if d.can then { d.step with writes := d.writes ++ [(i, fullS s)] } else d.step := rfl
theorem Dk.op_f (d : Dk) : d.op .flush = if d.down then d else if d.can then { d.step with firm := d.read, writes := [] } else d.step := rfl
def Dk.run (d : Dk) (l : List DOp) : Dk := l.foldl Dk.op d
/-- of loose writes those that are kept -/
def kept (p : Puts) (keep : List Bool) : Puts := ((p.zip keep).filter (·.2)).map (·.1)
def Dk.fall (d : Dk) (keep : List Bool) : Dk := { d with firm := seen (kept d.writes keep) d.firm, writes := [], down := false, bound := false }
def Dk.setFuel (d : Dk) (n : Int) : Dk := { d with fuel := n.toNat, bound := decide (0 ≤ n) }

theorem seen_nil (f : Int → ByteArray) : seen [] f = f := rfl
theorem seen_mem (p : Puts) (f : Int → ByteArray) (i : Int) (h : ∃ x ∈ p, x.1 = i) : (i, seen p f i) ∈ p := by
  revert h
  refine snoc_ind (p := fun p => (∃ x ∈ p, x.1 = i) → (i, seen p f i) ∈ p) p (fun ⟨x, hx, _⟩ => by cases hx) (fun p y ih hex => ?_)
  rw [seen_snoc]
  by_cases h : y.1 = i
  · rw [if_pos h]; exact List.mem_append_right _ (by rw [← h]; simp)
  · rw [if_neg h]
    obtain ⟨x, hx, hi⟩ := hex
    rcases List.mem_append.1 hx with hx | hx
    · exact List.mem_append_left _ (ih ⟨x, hx, hi⟩)
    · obtain rfl : x = y := by simpa using hx
      exact absurd hi h
theorem seen_out (p : Puts) (f : Int → ByteArray) (i : Int) (h : ∀ x ∈ p, x.1 ≠ i) : seen p f i = f i := by
  unfold seen
  rw [List.filter_eq_nil_iff.2 (fun x hx => by simpa using h x hx)]
  rfl
theorem seen_cases (p : Puts) (f : Int → ByteArray) (i : Int) : seen p f i = f i ∨ (i, seen p f i) ∈ p := by
  by_cases h : ∃ x ∈ p, x.1 = i
  · exact .inr (seen_mem p f i h)
  · exact .inl (seen_out p f i (fun x hx e => h ⟨x, hx, e⟩))
/-- every put of i is of one text, and there is one -/
theorem seen_one (p : Puts) (f : Int → ByteArray) (i : Int) (t : ByteArray) (h : ∀ x ∈ p, x.1 = i → x.2 = t) (h1 : ∃ x ∈ p, x.1 = i) : seen p f i = t :=
  h _ (seen_mem p f i h1) rfl
/-- every put of i is of one text -/
theorem seen_one' (p : Puts) (f : Int → ByteArray) (i : Int) (t : ByteArray) (h : ∀ x ∈ p, x.1 = i → x.2 = t) : seen p f i = f i ∨ seen p f i = t :=
  (seen_cases p f i).imp id (fun e => h _ e rfl)
theorem seen_append (p q : Puts) (f : Int → ByteArray) : seen (p ++ q) f = seen q (seen p f) := by
  refine snoc_ind (p := fun q => seen (p ++ q) f = seen q (seen p f)) q (by rw [List.append_nil, seen_nil]) (fun q x ih => ?_)
  funext i
  rw [← List.append_assoc, seen_snoc, seen_snoc, ih]
theorem kept_sub (p : Puts) (keep : List Bool) : ∀ x ∈ kept p keep, x ∈ p := by
  intro x hx
  unfold kept at hx
  obtain ⟨y, hy, rfl⟩ := List.mem_map.1 hx
  exact (List.of_mem_zip (List.mem_filter.1 hy).1).1

theorem Dk.step_down (d : Dk) : d.step.down = (d.down || !d.can) := by
  unfold Dk.step Dk.can
  cases d.bound
  · simp
  · by_cases h : d.fuel = 0 <;> simp [h]
theorem Dk.step_same (d : Dk) : d.step.size = d.size ∧ d.step.firm = d.firm ∧ d.step.writes = d.writes ∧ d.step.bound = d.bound := by
  unfold Dk.step
  cases hb : d.bound
  · simp [hb]
  · by_cases h : d.fuel = 0
    · simp [h]
    · simp [h]
theorem Dk.op_size (d : Dk) (o : DOp) : (d.op o).size = d.size := by
  have := d.step_same
  cases o with
  | write i s =>
    rw [Dk.op_w]
    split
    · rfl
    · split <;> exact this.1
  | flush =>
    rw [Dk.op_f]
    split
    · rfl
    · split <;> exact this.1
theorem Dk.run_size (d : Dk) (l : List DOp) : (d.run l).size = d.size := by
  unfold Dk.run
  induction l generalizing d with
  | nil => rfl
  | cons o l ih => rw [List.foldl_cons, ih, Dk.op_size]
theorem Dk.op_down (d : Dk) (o : DOp) (h : d.down = true) : d.op o = d := by cases o <;> first | (rw [Dk.op_w, if_pos h]) | (rw [Dk.op_f, if_pos h])
theorem Dk.run_down (d : Dk) (l : List DOp) (h : d.down = true) : d.run l = d := by
  unfold Dk.run
  induction l with
  | nil => rfl
  | cons o l ih => rw [List.foldl_cons, Dk.op_down d o h, ih]
theorem Dk.run_append (d : Dk) (l l' : List DOp) : d.run (l ++ l') = (d.run l).run l' := by unfold Dk.run; rw [List.foldl_append]
theorem Dk.run_snoc (d : Dk) (l : List DOp) (o : DOp) : d.run (l ++ [o]) = (d.run l).op o := by rw [Dk.run_append]; rfl
theorem Dk.run_up (d : Dk) (l l' : List DOp) (h : (d.run (l ++ l')).down = false) : (d.run l).down = false := by
  cases hd : (d.run l).down with
  | false => rfl
  | true => rw [Dk.run_append, Dk.run_down _ _ hd, hd] at h; cases h
/-- an operation that goes down leaves all as it was -/
theorem Dk.op_fails (d : Dk) (o : DOp) (h0 : d.down = false) (h1 : (d.op o).down = true) : (d.op o).firm = d.firm ∧ (d.op o).writes = d.writes := by
  have hs := d.step_same
  have hd := d.step_down
  rw [h0] at hd
  have h2 : ¬ d.down = true := by rw [h0]; decide
  cases hc : d.can with
  | true =>
    rw [hc] at hd
    have h3 : d.step.down = false := by simpa using hd
    exfalso
    cases o <;> first | (rw [Dk.op_w, if_neg h2, if_pos hc] at h1; exact absurd (h3.symm.trans h1) (by decide)) | (rw [Dk.op_f, if_neg h2, if_pos hc] at h1; exact absurd (h3.symm.trans h1) (by decide))
  | false =>
    have h4 : ¬ d.can = true := by rw [hc]; decide
    cases o <;> first | (rw [Dk.op_w, if_neg h2, if_neg h4]; exact ⟨hs.2.1, hs.2.2.1⟩) | (rw [Dk.op_f, if_neg h2, if_neg h4]; exact ⟨hs.2.1, hs.2.2.1⟩)
theorem Dk.op_can (d : Dk) (o : DOp) (h1 : (d.op o).down = false) : d.down = false ∧ d.can = true := by
  have hd := d.step_down
  cases h0 : d.down with
  | true => rw [Dk.op_down d o h0, h0] at h1; cases h1
  | false =>
    refine ⟨rfl, ?_⟩
    have h2 : ¬ d.down = true := by rw [h0]; decide
    cases hc : d.can with
    | true => rfl
    | false =>
      have h4 : ¬ d.can = true := by rw [hc]; decide
      exfalso
      rw [hc] at hd
      have h3 : d.step.down = true := by simpa using hd
      cases o <;> first | (rw [Dk.op_w, if_neg h2, if_neg h4, h3] at h1; cases h1) | (rw [Dk.op_f, if_neg h2, if_neg h4, h3] at h1; cases h1)
theorem Dk.write_does (d : Dk) (i : Int) (s : ByteArray) (h1 : (d.op (.write i s)).down = false) : (d.op (.write i s)).firm = d.firm ∧ (d.op (.write i s)).writes = d.writes ++ [(i, fullS s)] := by
  obtain ⟨h0, hc⟩ := Dk.op_can d _ h1
  have h2 : ¬ d.down = true := by rw [h0]; decide
  rw [Dk.op_w, if_neg h2, if_pos hc]
  exact ⟨d.step_same.2.1, rfl⟩
theorem Dk.flush_does (d : Dk) (h1 : (d.op .flush).down = false) : (d.op .flush).firm = d.read ∧ (d.op .flush).writes = [] := by
  obtain ⟨h0, hc⟩ := Dk.op_can d _ h1
  have h2 : ¬ d.down = true := by rw [h0]; decide
  rw [Dk.op_f, if_neg h2, if_pos hc]
  exact ⟨rfl, rfl⟩
/-- writes of a list -/
def wops (p : Puts) : List DOp := p.map (fun x => .write x.1 x.2)
theorem wops_run (d : Dk) (p : Puts) (hp : ∀ x ∈ p, fullS x.2 = x.2) (h : d.down = false) :
    ((d.run (wops p)).down = false ∧ (d.run (wops p)).firm = d.firm ∧ (d.run (wops p)).writes = d.writes ++ p) ∨
    ((d.run (wops p)).down = true ∧ (d.run (wops p)).firm = d.firm ∧ ∃ j, (d.run (wops p)).writes = d.writes ++ p.take j) := by
  revert hp
  refine snoc_ind (p := fun p => (∀ x ∈ p, fullS x.2 = x.2) → ((d.run (wops p)).down = false ∧ (d.run (wops p)).firm = d.firm ∧ (d.run (wops p)).writes = d.writes ++ p) ∨
    ((d.run (wops p)).down = true ∧ (d.run (wops p)).firm = d.firm ∧ ∃ j, (d.run (wops p)).writes = d.writes ++ p.take j)) p (fun _ => .inl ⟨h, rfl, by simp [wops, Dk.run]⟩) (fun p x ih hp => ?_)
  have e : wops (p ++ [x]) = wops p ++ [.write x.1 x.2] := by simp [wops]
  have hx := hp x (by simp)
  rw [e, Dk.run_snoc]
  rcases ih (fun y hy => hp y (List.mem_append_left _ hy)) with ⟨h1, h2, h3⟩ | ⟨h1, h2, j, h3⟩
  · cases hd : ((d.run (wops p)).op (.write x.1 x.2)).down with
    | false =>
      obtain ⟨h5, h6⟩ := Dk.write_does _ _ _ hd
      refine .inl ⟨rfl, h5.trans h2, ?_⟩
      rw [h6, h3, hx, List.append_assoc]
    | true =>
      obtain ⟨h5, h6⟩ := Dk.op_fails _ _ h1 hd
      refine .inr ⟨rfl, h5.trans h2, p.length, ?_⟩
      rw [h6, h3, List.take_left]
  · rw [Dk.op_down _ _ h1]
    refine .inr ⟨h1, h2, min j p.length, ?_⟩
    rw [h3, List.take_append_of_le_length (Nat.min_le_right _ _)]
    congr 1
    rw [List.take_eq_take_iff]
    omega
/-- writes, and a flush -/
theorem wflush_run (d : Dk) (p : Puts) (hp : ∀ x ∈ p, fullS x.2 = x.2) (h : d.down = false) (hw : d.writes = []) :
    ((d.run (wops p ++ [.flush])).down = false ∧ (d.run (wops p ++ [.flush])).firm = seen p d.firm ∧ (d.run (wops p ++ [.flush])).writes = []) ∨
    ((d.run (wops p ++ [.flush])).down = true ∧ (d.run (wops p ++ [.flush])).firm = d.firm ∧ ∃ j, (d.run (wops p ++ [.flush])).writes = p.take j) := by
  rw [Dk.run_snoc]
  rcases wops_run d p hp h with ⟨h1, h2, h3⟩ | ⟨h1, h2, j, h3⟩
  · rw [hw, List.nil_append] at h3
    cases hd : ((d.run (wops p)).op .flush).down with
    | false =>
      obtain ⟨h5, h6⟩ := Dk.flush_does _ hd
      refine .inl ⟨rfl, ?_, h6⟩
      rw [h5]; unfold Dk.read; rw [h2, h3]
    | true =>
      obtain ⟨h5, h6⟩ := Dk.op_fails _ _ h1 hd
      exact .inr ⟨rfl, h5.trans h2, p.length, by rw [h6, h3, List.take_length]⟩
  · rw [Dk.op_down _ _ h1]
    exact .inr ⟨h1, h2, j, by rw [h3, hw, List.nil_append]⟩
theorem Dk.run_free (d : Dk) (l : List DOp) (hb : d.bound = false) (h : d.down = false) : (d.run l).down = false ∧ (d.run l).bound = false := by
  unfold Dk.run
  induction l generalizing d with
  | nil => exact ⟨h, hb⟩
  | cons o l ih =>
    rw [List.foldl_cons]
    have hs := d.step_same
    have hd := d.step_down
    have hc : d.can = true := by unfold Dk.can; rw [hb]; rfl
    rw [h, hc] at hd
    have h2 : ¬ d.down = true := by rw [h]; decide
    have e : (d.op o).down = false ∧ (d.op o).bound = false := by
      have h3 : d.step.down = false := by simpa using hd
      have h4 : d.step.bound = false := hs.2.2.2.trans hb
      cases o <;> first | (rw [Dk.op_w, if_neg h2, if_pos hc]; exact ⟨h3, h4⟩) | (rw [Dk.op_f, if_neg h2, if_pos hc]; exact ⟨h3, h4⟩)
    exact ih _ e.2 e.1
end Go.Proofs.YtalgheocjnajlaaGreatDoor
