/-
  A LAW OF THE WALK: a region that draws its order and holds reads beside a chain of operations that make or write memory (an allocation, an append, a store behind them): the reads are walked in an order of one's own choice, in every world that meets S; the others as they stand, S shown behind each but the last.
-/
import Derived.OrdersHeld
import Derived.StillTail
import Derived.Tactics2
import Derived.WalkKit
namespace Go.Proofs.YtalgheocjnajlaaGreatDoor
section
variable {P : Program} {ops : Array Oper} {md : Region.Mode} {S : World → Prop}

def NoWay : Exit → Act → World → Prop := fun _ _ _ => False
def Same (u w : World) : Prop := w = u
/-- what is asked of what a read has come to -/
def givesH (v : Value) (u : World) : Result Next → Prop
  | .ok (.value x) w' => Same u w' ∧ x = v
  | _ => False
def HeldV (P : Program) (o : Oper) (a : Act) (S : World → Prop) (v : Value) : Prop := ∀ u, S u → givesH v u ((execOp a.eval o).run P u)
theorem HeldV.run {o : Oper} {a : Act} {v : Value} (h : HeldV P o a S v) : ∀ u, S u → (execOp a.eval o).run P u = .ok (.value v) u := by
  intro u hu
  have := h u hu
  generalize (execOp a.eval o).run P u = r at *
  cases r with
  | ok n w' =>
    cases n <;> simp only [givesH] at this
    obtain ⟨h1, rfl⟩ := this
    rw [show w' = u from h1]
  | halt x w' => exact this.elim

theorem no_out (h : LetsOut NoWay) : False := by
  obtain ⟨_, _, h⟩ := h
  exact h
theorem Oper.wp_exit {Q : Exit → Act → World → Prop} {o : Oper} {a : Act} {w : World} {K : Act → World → Prop} (hh : o.wp P a w K NoWay) : o.wp P a w K Q := by
  unfold Oper.wp at *
  generalize (execOp a.eval o).run P w = r at *
  cases r with
  | ok n w' =>
    cases n <;> simp only [Oper.upon] at hh ⊢ <;>
      first
        | exact hh
        | exact Calls.mono hh (fun e w'' he => by
            cases e with
            | returned v => exact he
            | panicked c => exact (he : False).elim
            | outgrown => exact (no_out he).elim)
        | exact Rows.mono hh (fun _ _ he => he)
  | halt x w' => cases x <;> simp only [Oper.upon] at hh ⊢ <;> first | exact hh | exact (hh : False).elim | exact (no_out hh).elim

/-- operation i comes up -/
def opW (P : Program) (ops : Array Oper) (i : Nat) (K : Act → World → Prop) (a : Act) (w : World) : Prop :=
  match ops[i]? with
  | none => K a w
  | some o => if Region.wanted o (yielded ops a.tmps) then o.wp P a w K NoWay else K (a.put o.dst undef) w
theorem opW_mono {i : Nat} {a : Act} {w : World} {K K' : Act → World → Prop} (h : ∀ a w, K a w → K' a w) (hh : opW P ops i K a w) : opW P ops i K' a w := by
  unfold opW at *
  split
  · exact h _ _ (by simpa [*] using hh)
  · rename_i o ho
    simp only [ho] at hh
    split
    · rename_i hw; simp only [hw, if_true] at hh; exact Oper.wp_mono h hh
    · rename_i hw; simp only [hw] at hh; exact h _ _ hh
theorem opW_wpOp {Q : Exit → Act → World → Prop} {i : Nat} {a : Act} {w : World} {K : Act → World → Prop} (hh : opW P ops i K a w) : wpOp P ops Q i K a w := by
  unfold opW at hh
  unfold wpOp
  split
  · simpa [*] using hh
  · rename_i o ho
    simp only [ho] at hh
    split
    · rename_i hw; simp only [hw, if_true] at hh; exact .inl (Oper.wp_exit hh)
    · rename_i hw; simp only [hw] at hh; exact hh
theorem opW_yields {i : Nat} {o : Oper} {v : Value} {a : Act} (hi : ops[i]? = some o) (hy : YieldsIf P ops S o v a) {K : Act → World → Prop} {w : World} (hS : S w) (h : K (a.put o.dst v) w) : opW P ops i K a w := by
  unfold opW
  simp only [hi]
  rcases hy with ⟨hw, hv⟩ | ⟨hw, rfl⟩
  · simp only [hw, if_true, Oper.wp, hv w hS, Oper.upon]; exact h
  · simp only [hw, Bool.false_eq_true, if_false]; exact h
theorem opW_put {j : Nat} {oi oj : Oper} {v : Value} (hj : ops[j]? = some oj) (hap : oi.apart ops oj = true)
    (hsi : ∀ cs b, oi.op ≠ .select cs b) (hsj : ∀ cs b, oj.op ≠ .select cs b) {K : Act → World → Prop} {a : Act} {w : World}
    (hy : YieldsIf P ops S oi v a) (h : opW P ops j K (a.put oi.dst v) w) :
    opW P ops j (fun a' w' => YieldsIf P ops S oi v a' ∧ K (a'.put oi.dst v) w') a w := by
  have hQ : ∀ c a w, NoWay (.panic c) (a.put oi.dst v) w → NoWay (.panic c) a w := fun _ _ _ h => h
  obtain ⟨h1, h2, h3⟩ := Oper.apart_spec hap
  have keep : ∀ (a : Act), YieldsIf P ops S oi v a → ∀ u, YieldsIf P ops S oi v (a.put oj.dst u) := fun a hy u =>
    hy.of_same (execOp_put oi hsi a oj.dst u h3) (wanted_put oi a oj.dst u h3)
  have keepD : ∀ d, YieldsIf P ops S oi v { a with defers := d :: a.defers } := fun d => hy.of_same rfl rfl
  unfold opW at *
  simp only [hj] at *
  rw [wanted_put oj a oi.dst v h1] at h
  split
  · rename_i hw
    simp only [hw, if_true] at h
    unfold Oper.wp at *
    rw [execOp_put oj hsj a oi.dst v h1] at h
    generalize (execOp a.eval oj).run P w = r at *
    cases r with
    | ok n w' =>
      cases n <;> simp only [Oper.upon] at h ⊢
      case value u => exact ⟨keep a hy u, by rw [← Act.put_comm a v u h2]; exact h⟩
      case skip => exact ⟨keep a hy _, by rw [← Act.put_comm a v undef h2]; exact h⟩
      case defer d =>
        refine ⟨keep _ (keepD d) _, ?_⟩
        rw [← Act.put_comm _ v undef h2, ← Act.put_defers]
        exact h
      case enter f args =>
        refine Calls.mono h fun e w'' he => ?_
        cases e with
        | returned u => exact ⟨keep a hy u, by rw [← Act.put_comm a v u h2]; exact he⟩
        | panicked c => exact hQ _ _ _ he
        | outgrown => exact he
      case row row args => exact Rows.mono h fun u w'' he => ⟨keep a hy u, by rw [← Act.put_comm a v u h2]; exact he⟩
    | halt x w' =>
      cases x <;> simp only [Oper.upon] at h ⊢
      case panic u => exact hQ _ _ _ h
  · rename_i hw
    simp only [hw] at h
    exact ⟨keep a hy _, by rw [← Act.put_comm a v undef h2]; exact h⟩

/-- whatever order the first n are taken in, S holding behind each -/
def wpZ (P : Program) (md : Region.Mode) (ops : Array Oper) (S : World → Prop) (n : Nat) (L : Array Bool → Act → World → Prop) : Nat → Array Bool → Act → World → Prop
  | 0, listed, a, w => L listed a w
  | f + 1, listed, a, w => Region.ready md ops listed ≠ [] ∧ ∀ i ∈ Region.ready md ops listed, i < n ∧ opW P ops i (fun a' w' => S w' ∧ wpZ P md ops S n L f (listed.setIfInBounds i true) a' w') a w
theorem wpAny_of_wpZ {n g : Nat} {L : Array Bool → Act → World → Prop} {Q : Exit → Act → World → Prop} (hL : ∀ listed a w, L listed a w → wpAny P md ops Q g listed a w) :
    ∀ (f : Nat) (listed : Array Bool) (a : Act) (w : World), wpZ P md ops S n L f listed a w → wpAny P md ops Q (f + g) listed a w
  | 0, listed, a, w, h => by rw [Nat.zero_add]; exact hL _ _ _ h
  | f + 1, listed, a, w, h => by
    rw [show f + 1 + g = (f + g) + 1 by omega]
    exact ⟨fun h0 => absurd h0 h.1, fun i hi => opW_wpOp (opW_mono (fun a' w' h' => wpAny_of_wpZ hL f _ a' w' h'.2) (h.2 i hi).2)⟩

theorem wpZ_first {n i : Nat} {oi : Oper} {v : Value} {L : Array Bool → Act → World → Prop} (hi : ops[i]? = some oi) (hsel : ∀ (j : Nat) (o : Oper) cs b, ops[j]? = some o → o.op ≠ .select cs b)
    (hs : Region.sinkB md ops n = true) (hc : Region.chainB md ops n = true) (hn : n < ops.size) (hin : i < n)
    (hdone : ∀ listed a w, L listed a w → ∀ j ∈ Region.ready md ops listed, n ≤ j) :
    ∀ (f : Nat) (listed : Array Bool) (a : Act) (w : World), HeadInv md ops n listed →
      (∀ j oj, ops[j]? = some oj → j ≠ i → listed.getD j true = false → (∀ e ∈ oj.after, Region.binds md e = true → e.on ≠ i) → oi.apart ops oj = true) →
      i ∈ Region.ready md ops listed → YieldsIf P ops S oi v a → S w →
      wpZ P md ops S n L f (listed.setIfInBounds i true) (a.put oi.dst v) w → wpZ P md ops S n L (f + 1) listed a w := by
  intro f
  induction f with
  | zero =>
    intro listed a w inv _ hr hy hS H
    refine ⟨fun h => (by rw [h] at hr; cases hr), fun j hj => ?_⟩
    have hjn : j < n := by
      rcases Nat.lt_or_ge j n with h | h
      · exact h
      · exact absurd hj (tail_waits hs hc hn inv _ i rfl hin (mem_ready.1 hr).1 j h)
    refine ⟨hjn, ?_⟩
    by_cases hji : j = i
    · subst hji; exact opW_yields hi hy hS ⟨hS, H⟩
    · have := hdone _ _ _ H j (ready_mono hj hji)
      omega
  | succ f ih =>
    intro listed a w inv hfree hr hy hS H
    refine ⟨fun h => (by rw [h] at hr; cases hr), fun j hj => ?_⟩
    have hjn : j < n := by
      rcases Nat.lt_or_ge j n with h | h
      · exact h
      · exact absurd hj (tail_waits hs hc hn inv _ i rfl hin (mem_ready.1 hr).1 j h)
    refine ⟨hjn, ?_⟩
    by_cases hji : j = i
    · subst hji; exact opW_yields hi hy hS ⟨hS, H⟩
    · have h1 := (H.2 j (ready_mono hj hji)).2
      obtain ⟨hjun, oj, hoj, hall⟩ := mem_ready.1 hj
      have hnot : ∀ e ∈ oj.after, Region.binds md e = true → e.on ≠ i := fun e he hb heq => by
        have h1 := hall e he hb
        rw [heq, getD_both (mem_ready.1 hr).1] at h1
        cases h1
      have h2 := opW_put hoj (hfree j oj hoj hji hjun hnot) (fun cs b => hsel i oi cs b hi) (fun cs b => hsel j oj cs b hoj) hy h1
      have hfree' : ∀ k ok, ops[k]? = some ok → k ≠ i → (listed.setIfInBounds j true).getD k true = false →
          (∀ e ∈ ok.after, Region.binds md e = true → e.on ≠ i) → oi.apart ops ok = true := fun k ok hk hki hun hno => by
        refine hfree k ok hk hki ?_ hno
        by_cases hjk : j = k
        · subst hjk; exact hjun
        · rw [getD_set_ne true hjk] at hun; exact hun
      refine opW_mono (fun a' w' h3 => ⟨h3.2.1, ih (listed.setIfInBounds j true) a' w' (inv.set hj hjn) hfree' (ready_mono hr (Ne.symm hji)) h3.1 h3.2.1 ?_⟩) h2
      rw [Array.setIfInBounds_comm _ _ hji]
      exact h3.2.2

/-- the order of one's choice: (k, true): number k is a read, taken first; (k, false): number k is the only one that may come up -/
def heldB (md : Region.Mode) (ops : Array Oper) (n g : Nat) : List (Nat × Bool) → Array Bool → Bool
  | [], listed => Region.seqB md ops g n listed
  | (k, p) :: r, listed => decide (k < n) && (if p then (Region.ready md ops listed).contains k && Region.free md ops listed k else decide (Region.ready md ops listed = [k])) && heldB md ops n g r (listed.setIfInBounds k true)
def wpH (P : Program) (ops : Array Oper) (S : World → Prop) (l : List Oper) (Lq : Act → World → Prop) : List (Nat × Bool) → Act → World → Prop
  | [], a, w => Lq a w
  | (k, p) :: r, a, w =>
    match l[k]? with
    | none => False
    | some o =>
      if Region.wanted o (yielded ops a.tmps) then
        (if p then ∃ v, HeldV P o a S v ∧ wpH P ops S l Lq r (a.put o.dst v) w else o.wp P a w (fun a' w' => S w' ∧ wpH P ops S l Lq r a' w') NoWay)
      else wpH P ops S l Lq r (a.put o.dst undef) w

theorem wpH_read {l : List Oper} {Lq : Act → World → Prop} {k : Nat} {r : List (Nat × Bool)} {a : Act} {w : World} {o : Oper} (hk : l[k]? = some o) (hg : o.guard = none)
    (h : ∀ K : Act → Prop, (∀ a, wpH P ops S l Lq r a w → K a) → ∃ v, HeldV P o a S v ∧ K (a.put o.dst v)) : wpH P ops S l Lq ((k, true) :: r) a w := by
  unfold wpH
  simp only [hk, Region.wanted, hg, if_true]
  exact h _ (fun _ h => h)
theorem wpH_readw {l : List Oper} {Lq : Act → World → Prop} {k : Nat} {r : List (Nat × Bool)} {a : Act} {w : World} {o : Oper} (hk : l[k]? = some o) (hw : Region.wanted o (yielded ops a.tmps) = true)
    (h : ∀ K : Act → Prop, (∀ a, wpH P ops S l Lq r a w → K a) → ∃ v, HeldV P o a S v ∧ K (a.put o.dst v)) : wpH P ops S l Lq ((k, true) :: r) a w := by
  unfold wpH
  simp only [hk, hw, if_true]
  exact h _ (fun _ h => h)
theorem wpH_passed {l : List Oper} {Lq : Act → World → Prop} {k : Nat} {p : Bool} {r : List (Nat × Bool)} {a : Act} {w : World} {o : Oper} (hk : l[k]? = some o) (hw : Region.wanted o (yielded ops a.tmps) = false)
    (h : ∀ K : Act → Prop, (∀ a, wpH P ops S l Lq r a w → K a) → K (a.put o.dst undef)) : wpH P ops S l Lq ((k, p) :: r) a w := by
  unfold wpH
  simp only [hk, hw, Bool.false_eq_true, if_false]
  exact h _ (fun _ h => h)
theorem wpH_do {l : List Oper} {Lq : Act → World → Prop} {k : Nat} {r : List (Nat × Bool)} {a : Act} {w : World} {o : Oper} (hk : l[k]? = some o) (hg : o.guard = none)
    (h : ∀ K : Act → World → Prop, (∀ a w, S w → wpH P ops S l Lq r a w → K a w) → o.wp P a w K NoWay) : wpH P ops S l Lq ((k, false) :: r) a w := by
  unfold wpH
  simp only [hk, Region.wanted, hg, if_true]
  exact h _ (fun _ _ h1 h2 => ⟨h1, h2⟩)
theorem wpH_dow {l : List Oper} {Lq : Act → World → Prop} {k : Nat} {r : List (Nat × Bool)} {a : Act} {w : World} {o : Oper} (hk : l[k]? = some o) (hw : Region.wanted o (yielded ops a.tmps) = true)
    (h : ∀ K : Act → World → Prop, (∀ a w, S w → wpH P ops S l Lq r a w → K a w) → o.wp P a w K NoWay) : wpH P ops S l Lq ((k, false) :: r) a w := by
  unfold wpH
  simp only [hk, hw, if_true]
  exact h _ (fun _ _ h1 h2 => ⟨h1, h2⟩)
theorem wpH_nil {l : List Oper} {Lq : Act → World → Prop} {a : Act} {w : World} (h : Lq a w) : wpH P ops S l Lq [] a w := h

theorem wpZ_of_wpH {n g : Nat} {l : List Oper} {Lq : Act → World → Prop} (hl : ops = l.toArray) (hsel : Region.noSelect ops = true) (hs : Region.sinkB md ops n = true) (hc : Region.chainB md ops n = true) (hn : n < ops.size) :
    ∀ (r : List (Nat × Bool)) (listed : Array Bool) (a : Act) (w : World), HeadInv md ops n listed → heldB md ops n g r listed = true → S w → wpH P ops S l Lq r a w →
    wpZ P md ops S n (fun listed' a' w' => Region.seqB md ops g n listed' = true ∧ Lq a' w') r.length listed a w
  | [], listed, a, w, _, hB, _, h => ⟨by simpa [heldB] using hB, h⟩
  | (k, p) :: r, listed, a, w, inv, hB, hS, h => by
    simp only [heldB, Bool.and_eq_true, decide_eq_true_eq] at hB
    obtain ⟨⟨hkn, hp⟩, hB'⟩ := hB
    have hlk : l[k]? = ops[k]? := by rw [hl]; simp
    have hlt : k < ops.size := by omega
    unfold wpH at h
    rw [hlk] at h
    cases ho : ops[k]? with
    | none => rw [ho] at h; exact h.elim
    | some o =>
      rw [ho] at h
      simp only at h
      cases p with
      | true =>
        simp only [if_true, Bool.and_eq_true] at hp
        have hr : k ∈ Region.ready md ops listed := by simpa using hp.1
        have hfree := Region.free_spec ho hp.2
        have fin : ∀ v, YieldsIf P ops S o v a → wpH P ops S l Lq r (a.put o.dst v) w → wpZ P md ops S n (fun listed' a' w' => Region.seqB md ops g n listed' = true ∧ Lq a' w') (r.length + 1) listed a w := fun v hy hK =>
          wpZ_first ho (Region.noSelect_spec hsel) hs hc hn hkn (fun listed' a' w' hL => seqB_ready hL.1) r.length listed a w inv hfree hr hy hS
            (wpZ_of_wpH hl hsel hs hc hn r _ _ w (inv.set hr hkn) hB' hS hK)
        by_cases hw : Region.wanted o (yielded ops a.tmps) = true
        · simp only [hw, if_true] at h
          obtain ⟨v, hv, hK⟩ := h
          exact fin v (.inl ⟨hw, hv.run⟩) hK
        · simp only [hw] at h
          exact fin undef (.inr ⟨by simpa using hw, rfl⟩) h
      | false =>
        simp only [Bool.false_eq_true, if_false, decide_eq_true_eq] at hp
        have hr : k ∈ Region.ready md ops listed := by rw [hp]; simp
        refine ⟨fun h0 => (by rw [hp] at h0; cases h0), fun j hj => ?_⟩
        rw [hp] at hj
        obtain rfl : j = k := by simpa using hj
        refine ⟨hkn, ?_⟩
        unfold opW
        simp only [ho]
        by_cases hw : Region.wanted o (yielded ops a.tmps) = true
        · simp only [hw, if_true, Bool.false_eq_true, if_false] at h ⊢
          exact Oper.wp_mono (fun a' w' h' => ⟨h'.1, wpZ_of_wpH hl hsel hs hc hn r _ a' w' (inv.set hr hkn) hB' h'.1 h'.2⟩) h
        · simp only [hw] at h ⊢
          exact ⟨hS, wpZ_of_wpH hl hsel hs hc hn r _ _ w (inv.set hr hkn) hB' hS h⟩

def heldAllB (md : Region.Mode) (ops : Array Oper) (n : Nat) (r : List (Nat × Bool)) : Bool :=
  Region.noSelect ops && decide (n < ops.size) && decide (r.length = n) && Region.sinkB md ops n && Region.chainB md ops n && heldB md ops n (ops.size - n) r (Array.replicate ops.size false)

/-- THE LAW -/
theorem wp_region_ord {id : Nat} {Q : Exit → Act → World → Prop} {a : Act} {w : World} {l : List Oper} (n : Nat) (r : List (Nat × Bool)) (S : World → Prop) (hm : P.follows .mixedOrders = true) (hB : heldAllB .any l.toArray n r = true)
    (hS : S w.drew)
    (h : wpH P l.toArray S l (fun a' w' => wpList P l.toArray Q (l.drop n) a' w') r a w.drew) : (Code.region id l.toArray true).wp P Q a w := by
  simp only [heldAllB, Bool.and_eq_true, decide_eq_true_eq] at hB
  obtain ⟨⟨⟨⟨⟨hsel, hn⟩, hlen⟩, hs⟩, hc⟩, hheld⟩ := hB
  have hn' : n < l.length := by simpa using hn
  have hdl : (l.drop n).length = l.toArray.size - n := by simp
  have inv0 : HeadInv .any l.toArray n (Array.replicate l.toArray.size false) :=
    ⟨by simp, fun j oj _ hl => (by rw [getD_replicate_false] at hl; cases hl), fun t _ ht => getD_in (by simpa using ht) (getD_replicate_false _ _)⟩
  have H := wpZ_of_wpH (md := .any) (g := l.toArray.size - n) rfl hsel hs hc hn r _ a w.drew inv0 hheld hS h
  refine wp_region_any hm ?_
  have := wpAny_of_wpZ (Q := Q) (g := l.toArray.size - n) (fun listed a' w' hL => by
    have := wpAny_of_seq (md := .any) (Q' := Q) (l.drop n) n listed a' w' (fun j => by simp [List.getElem?_drop]) (by rw [hdl]; exact hL.1) hL.2
    rwa [hdl] at this) _ _ _ _ H
  rw [hlen, show n + (l.toArray.size - n) = l.toArray.size by omega] at this
  exact this
end
end Go.Proofs.YtalgheocjnajlaaGreatDoor
