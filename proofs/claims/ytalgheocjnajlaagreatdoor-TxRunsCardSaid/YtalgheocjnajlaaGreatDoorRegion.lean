/-
  A LAW OF THE WALK: a region that draws its order, all of whose first n operations each yield one value from every world of a class and leave a world of that class (calls and operations that make memory among them), walked once, in the order of the text; the rest of the region is a chain, walked as it stands.
-/
import Derived.StillTail
import Derived.Tactics2
import Derived.WalkKit
namespace Go.Proofs.YtalgheocjnajlaaGreatDoor
section
variable {P : Program} {ops : Array Oper} {md : Region.Mode} {C : World → Prop}

/-- what is asked of what an operation has come to: the value v, and a world of the class -/
def gives (P : Program) (C : World → Prop) (v : Value) : Result Next → Prop
  | .ok (.value u) w' => C w' ∧ u = v
  | .ok .skip w' => C w' ∧ v = undef
  | .ok (.enter f args) w' => Calls P f args w' (fun e w'' => e = .returned v ∧ C w'')
  | _ => False
def Given (P : Program) (o : Oper) (a : Act) (C : World → Prop) (v : Value) : Prop := ∀ w, C w → gives P C v ((execOp a.eval o).run P w)
/-- the walk in the order of the text -/
def wpInv (P : Program) (ops : Array Oper) (C : World → Prop) (Q : Act → Prop) : List Oper → Act → Prop
  | [], a => Q a
  | o :: rest, a => if Region.wanted o (yielded ops a.tmps) then ∃ v, Given P o a C v ∧ wpInv P ops C Q rest (a.put o.dst v) else wpInv P ops C Q rest (a.put o.dst undef)
theorem wpInv_nil {Q : Act → Prop} {a : Act} (h : Q a) : wpInv P ops C Q [] a := h
theorem wpInv_plain {Q : Act → Prop} {a : Act} {o : Oper} {rest : List Oper} (hg : o.guard = none)
    (h : ∀ K : Act → Prop, (∀ a, wpInv P ops C Q rest a → K a) → ∃ v, Given P o a C v ∧ K (a.put o.dst v)) : wpInv P ops C Q (o :: rest) a := by
  unfold wpInv
  rw [if_pos (by simp [Region.wanted, hg])]
  exact h _ (fun _ h => h)
theorem wpInv_wanted {Q : Act → Prop} {a : Act} {o : Oper} {rest : List Oper} (hw : Region.wanted o (yielded ops a.tmps) = true)
    (h : ∀ K : Act → Prop, (∀ a, wpInv P ops C Q rest a → K a) → ∃ v, Given P o a C v ∧ K (a.put o.dst v)) : wpInv P ops C Q (o :: rest) a := by
  unfold wpInv
  rw [if_pos hw]
  exact h _ (fun _ h => h)
theorem wpInv_passed {Q : Act → Prop} {a : Act} {o : Oper} {rest : List Oper} (hw : Region.wanted o (yielded ops a.tmps) = false)
    (h : ∀ K : Act → Prop, (∀ a, wpInv P ops C Q rest a → K a) → K (a.put o.dst undef)) : wpInv P ops C Q (o :: rest) a := by
  unfold wpInv
  rw [if_neg (by rw [hw]; exact Bool.false_ne_true)]
  exact h _ (fun _ h => h)

/-- operation i comes up -/
def opInv (P : Program) (ops : Array Oper) (C : World → Prop) (i : Nat) (K : Act → Prop) (a : Act) : Prop :=
  match ops[i]? with
  | none => K a
  | some o => if Region.wanted o (yielded ops a.tmps) then ∃ v, Given P o a C v ∧ K (a.put o.dst v) else K (a.put o.dst undef)
theorem opInv_mono {i : Nat} {a : Act} {K K' : Act → Prop} (h : ∀ a, K a → K' a) (hh : opInv P ops C i K a) : opInv P ops C i K' a := by
  unfold opInv at *
  split
  · rename_i ho; simp only [ho] at hh; exact h _ hh
  · rename_i o ho
    simp only [ho] at hh
    split
    · rename_i hw
      rw [if_pos hw] at hh
      obtain ⟨v, h1, h2⟩ := hh
      exact ⟨v, h1, h _ h2⟩
    · rename_i hw
      rw [if_neg hw] at hh
      exact h _ hh
/-- operation o yields v here -/
def Yields (P : Program) (ops : Array Oper) (C : World → Prop) (o : Oper) (v : Value) (a : Act) : Prop :=
  (Region.wanted o (yielded ops a.tmps) = true ∧ Given P o a C v) ∨ (Region.wanted o (yielded ops a.tmps) = false ∧ v = undef)
theorem Yields.opInv {i : Nat} {o : Oper} {v : Value} {a : Act} (hi : ops[i]? = some o) (hy : Yields P ops C o v a) {K : Act → Prop} (h : K (a.put o.dst v)) : opInv P ops C i K a := by
  unfold Proofs.YtalgheocjnajlaaGreatDoor.opInv
  simp only [hi]
  rcases hy with ⟨hw, hv⟩ | ⟨hw, rfl⟩
  · rw [if_pos hw]; exact ⟨v, hv, h⟩
  · rw [if_neg (by rw [hw]; exact Bool.false_ne_true)]; exact h
theorem Yields.of_same {o : Oper} {v : Value} {a a' : Act} (hy : Yields P ops C o v a) (he : execOp a'.eval o = execOp a.eval o)
    (hw : Region.wanted o (yielded ops a'.tmps) = Region.wanted o (yielded ops a.tmps)) : Yields P ops C o v a' := by
  unfold Yields Given at *
  rw [he, hw]
  exact hy
theorem yields_of_opInv {i : Nat} {o : Oper} {a : Act} {K : Act → Prop} (hi : ops[i]? = some o) (h : opInv P ops C i K a) : ∃ v, Yields P ops C o v a ∧ K (a.put o.dst v) := by
  unfold opInv at h
  simp only [hi] at h
  by_cases hw : Region.wanted o (yielded ops a.tmps) = true
  · rw [if_pos hw] at h
    obtain ⟨v, h1, h2⟩ := h
    exact ⟨v, .inl ⟨hw, h1⟩, h2⟩
  · rw [if_neg hw] at h
    exact ⟨undef, .inr ⟨by simpa using hw, rfl⟩, h⟩
/-- of two operations that stand apart it makes no difference which one comes first -/
theorem opInv_put {j : Nat} {oi oj : Oper} {v : Value} (hj : ops[j]? = some oj) (hap : oi.apart ops oj = true)
    (hsi : ∀ cs b, oi.op ≠ .select cs b) (hsj : ∀ cs b, oj.op ≠ .select cs b) {K : Act → Prop} {a : Act}
    (hy : Yields P ops C oi v a) (h : opInv P ops C j K (a.put oi.dst v)) :
    opInv P ops C j (fun a' => Yields P ops C oi v a' ∧ K (a'.put oi.dst v)) a := by
  obtain ⟨h1, h2, h3⟩ := Oper.apart_spec hap
  have keep : ∀ u, Yields P ops C oi v (a.put oj.dst u) := fun u => hy.of_same (execOp_put oi hsi a oj.dst u h3) (wanted_put oi a oj.dst u h3)
  unfold opInv at *
  simp only [hj] at *
  rw [wanted_put oj a oi.dst v h1] at h
  split
  · rename_i hw
    rw [if_pos hw] at h
    obtain ⟨u, hu, hn⟩ := h
    refine ⟨u, fun w hw' => ?_, keep u, by rw [← Act.put_comm a v u h2]; exact hn⟩
    have := hu w hw'
    rwa [execOp_put oj hsj a oi.dst v h1] at this
  · rename_i hw
    rw [if_neg hw] at h
    exact ⟨keep _, by rw [← Act.put_comm a v undef h2]; exact h⟩

theorem wpOp_of_opInv {i : Nat} {a : Act} {K : Act → Prop} {K' : Act → World → Prop} {Q' : Exit → Act → World → Prop} {w : World} (hC : C w) (h : ∀ a w', C w' → K a → K' a w')
    (hh : opInv P ops C i K a) : wpOp P ops Q' i K' a w := by
  unfold opInv at hh
  unfold wpOp
  split
  · rename_i ho; simp only [ho] at hh; exact h _ _ hC hh
  · rename_i o ho
    simp only [ho] at hh
    split
    · rename_i hw
      rw [if_pos hw] at hh
      obtain ⟨v, h1, h2⟩ := hh
      have h3 := h1 w hC
      left
      unfold Oper.wp
      generalize (execOp a.eval o).run P w = r at *
      cases r with
      | ok n w' =>
        cases n <;> simp only [gives] at h3 <;> simp only [Oper.upon]
        case value u =>
          obtain ⟨e1, e2⟩ := h3
          rw [e2]
          exact h _ _ e1 h2
        case skip =>
          obtain ⟨e1, e2⟩ := h3
          rw [← e2]
          exact h _ _ e1 h2
        case enter f args => exact h3.mono fun e w'' ⟨he, hw''⟩ => by subst he; exact h _ _ hw'' h2
      | halt x w' => simp only [gives] at h3
    · rename_i hw
      rw [if_neg hw] at hh
      exact h _ _ hC hh

/-- whatever order the head is taken in; behind it 'L' -/
def headInv (P : Program) (md : Region.Mode) (ops : Array Oper) (C : World → Prop) (n : Nat) (L : Array Bool → Act → Prop) : Nat → Array Bool → Act → Prop
  | 0, listed, a => L listed a
  | f + 1, listed, a =>
    Region.ready md ops listed ≠ [] ∧ ∀ i ∈ Region.ready md ops listed, i < n ∧ opInv P ops C i (headInv P md ops C n L f (listed.setIfInBounds i true)) a
theorem wpAny_of_headInv {n g : Nat} {L : Array Bool → Act → Prop} {Q' : Exit → Act → World → Prop} (hL : ∀ listed a w, C w → L listed a → wpAny P md ops Q' g listed a w) :
    ∀ (f : Nat) (listed : Array Bool) (a : Act) (w : World), C w → headInv P md ops C n L f listed a → wpAny P md ops Q' (f + g) listed a w
  | 0, listed, a, w, hw, h => by rw [Nat.zero_add]; exact hL _ _ _ hw h
  | f + 1, listed, a, w, hw, h => by
    rw [show f + 1 + g = (f + g) + 1 by omega]
    exact ⟨fun h0 => absurd h0 h.1, fun i hi => wpOp_of_opInv hw (fun a' w' hw' h' => wpAny_of_headInv hL f _ a' w' hw' h') (h.2 i hi).2⟩

theorem headInv_first {n i : Nat} {oi : Oper} {v : Value} {L : Array Bool → Act → Prop} (hi : ops[i]? = some oi) (hsel : ∀ (j : Nat) (o : Oper) cs b, ops[j]? = some o → o.op ≠ .select cs b)
    (hs : Region.sinkB md ops n = true) (hc : Region.chainB md ops n = true) (hn : n < ops.size) (hin : i < n)
    (hdone : ∀ listed a, L listed a → ∀ j ∈ Region.ready md ops listed, n ≤ j) :
    ∀ (f : Nat) (listed : Array Bool) (a : Act), HeadInv md ops n listed →
      (∀ j oj, ops[j]? = some oj → j ≠ i → listed.getD j true = false → (∀ e ∈ oj.after, Region.binds md e = true → e.on ≠ i) → oi.apart ops oj = true) →
      i ∈ Region.ready md ops listed → Yields P ops C oi v a →
      headInv P md ops C n L f (listed.setIfInBounds i true) (a.put oi.dst v) → headInv P md ops C n L (f + 1) listed a := by
  intro f
  induction f with
  | zero =>
    intro listed a inv _ hr hy H
    refine ⟨fun h => (by rw [h] at hr; cases hr), fun j hj => ?_⟩
    have hjn : j < n := by
      rcases Nat.lt_or_ge j n with h | h
      · exact h
      · exact absurd hj (tail_waits hs hc hn inv _ i rfl hin (mem_ready.1 hr).1 j h)
    refine ⟨hjn, ?_⟩
    by_cases hji : j = i
    · subst hji; exact hy.opInv hi H
    · have := hdone _ _ H j (ready_mono hj hji)
      omega
  | succ f ih =>
    intro listed a inv hfree hr hy H
    refine ⟨fun h => (by rw [h] at hr; cases hr), fun j hj => ?_⟩
    have hjn : j < n := by
      rcases Nat.lt_or_ge j n with h | h
      · exact h
      · exact absurd hj (tail_waits hs hc hn inv _ i rfl hin (mem_ready.1 hr).1 j h)
    refine ⟨hjn, ?_⟩
    by_cases hji : j = i
    · subst hji; exact hy.opInv hi H
    · have h1 := (H.2 j (ready_mono hj hji)).2
      obtain ⟨hjun, oj, hoj, hall⟩ := mem_ready.1 hj
      have hnot : ∀ e ∈ oj.after, Region.binds md e = true → e.on ≠ i := fun e he hb heq => by
        have h1 := hall e he hb
        rw [heq, getD_both (mem_ready.1 hr).1] at h1
        cases h1
      have h2 := opInv_put hoj (hfree j oj hoj hji hjun hnot) (fun cs b => hsel i oi cs b hi) (fun cs b => hsel j oj cs b hoj) hy h1
      have hfree' : ∀ k ok, ops[k]? = some ok → k ≠ i → (listed.setIfInBounds j true).getD k true = false →
          (∀ e ∈ ok.after, Region.binds md e = true → e.on ≠ i) → oi.apart ops ok = true := fun k ok hk hki hun hno => by
        refine hfree k ok hk hki ?_ hno
        by_cases hjk : j = k
        · subst hjk; exact hjun
        · rw [getD_set_ne true hjk] at hun; exact hun
      refine opInv_mono (fun a' h3 => ih (listed.setIfInBounds j true) a' (inv.set hj hjn) hfree' (ready_mono hr (Ne.symm hji)) h3.1 ?_) h2
      rw [Array.setIfInBounds_comm _ _ hji]
      exact h3.2

theorem headInv_lex {n g : Nat} {Lq : Act → Prop} (hsel : Region.noSelect ops = true) (hs : Region.sinkB md ops n = true) (hc : Region.chainB md ops n = true) (hn : n < ops.size) :
    ∀ (l : List Oper) (k : Nat) (listed : Array Bool) (a : Act), (∀ j, j < l.length → l[j]? = ops[k + j]?) → k + l.length = n → HeadInv md ops n listed →
    Region.lexHead md ops g l.length k listed = true → wpInv P ops C Lq l a →
    headInv P md ops C n (fun listed' a' => Region.seqB md ops g n listed' = true ∧ Lq a') l.length listed a
  | [], k, listed, a, _, hk, _, hB, h => by
    have : k = n := by simpa using hk
    subst this
    exact ⟨by simpa [Region.lexHead] using hB, h⟩
  | o :: l, k, listed, a, hl, hk, inv, hB, h => by
    have h0 : ops[k]? = some o := by simpa using (hl 0 (by simp)).symm
    simp only [List.length_cons, Region.lexHead, Bool.and_eq_true] at hB
    obtain ⟨⟨hr, hf⟩, hB'⟩ := hB
    have hkn : k < n := by simp only [List.length_cons] at hk; omega
    have hr' : k ∈ Region.ready md ops listed := by simpa using hr
    have hst : opInv P ops C k (wpInv P ops C Lq l) a := by unfold opInv; simp only [h0]; exact h
    obtain ⟨v, hy, hK⟩ := yields_of_opInv h0 hst
    exact headInv_first h0 (Region.noSelect_spec hsel) hs hc hn hkn (fun listed' a' hL => seqB_ready hL.1) l.length listed a inv (Region.free_spec h0 hf) hr' hy
      (headInv_lex hsel hs hc hn l (k + 1) _ _ (fun j hj => by have := hl (j + 1) (by simp; omega); simpa [Nat.add_assoc, Nat.add_comm 1 j] using this) (by simp only [List.length_cons] at hk; omega) (inv.set hr' hkn) hB' hK)

/-- THE LAW: n operations in whatever order, the rest a chain. -/
theorem wp_region_inv {id : Nat} {Q : Exit → Act → World → Prop} {a : Act} {w : World} {l : List Oper} (n : Nat) (C : World → Prop) (hm : P.follows .mixedOrders = true) (hB : Region.lexTailB .any l.toArray n = true)
    (hC : C { w with drawn := w.drawn + 1 })
    (h : wpInv P l.toArray C (fun a' => ∀ w', C w' → wpList P l.toArray Q (l.drop n) a' w') (l.take n) a) : (Code.region id l.toArray true).wp P Q a w := by
  simp only [Region.lexTailB, Bool.and_eq_true, decide_eq_true_eq] at hB
  obtain ⟨⟨⟨⟨hsel, hn⟩, hs⟩, hc⟩, hlex⟩ := hB
  have hn' : n < l.length := by simpa using hn
  have htl : (l.take n).length = n := by simp; omega
  have hdl : (l.drop n).length = l.toArray.size - n := by simp
  have inv0 : HeadInv .any l.toArray n (Array.replicate l.toArray.size false) :=
    ⟨by simp, fun j oj _ hl => (by rw [getD_replicate_false] at hl; cases hl), fun t _ ht => getD_in (by simpa using ht) (getD_replicate_false _ _)⟩
  have H := headInv_lex (C := C) (md := .any) (g := l.toArray.size - n) hsel hs hc hn (l.take n) 0 _ a (fun j hj => by
    have hj' : j < n := by rw [htl] at hj; exact hj
    simp [hj']) (by simpa using htl) inv0 (by rw [htl]; exact hlex) h
  refine wp_region_any hm ?_
  have := wpAny_of_headInv (Q' := Q) (g := l.toArray.size - n) (fun listed a' w' hw' hL => by
    have := wpAny_of_seq (md := .any) (Q' := Q) (l.drop n) n listed a' w' (fun j => by simp [List.getElem?_drop]) (by rw [hdl]; exact hL.1) (hL.2 w' hw')
    rwa [hdl] at this) _ _ _ _ hC H
  rw [htl, show n + (l.toArray.size - n) = l.toArray.size by omega] at this
  exact this
end
end Go.Proofs.YtalgheocjnajlaaGreatDoor
