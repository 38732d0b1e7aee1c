/-
  THE LAWS of layer 6: TxRuns: what holds ahead of each act, and what an act leaves.
-/
import Derived.Test.YtalgheocjnajlaaGreatDoorHeld
import Derived.Test.YtalgheocjnajlaaGreatDoorRefs6
import Derived.Test.YtalgheocjnajlaaGreatDoorOpenK

namespace Go.Proofs.YtalgheocjnajlaaGreatDoor
section
variable {P : Program} {ops : Array Oper} {md : Region.Mode} {S : World → Prop}

/-- an order of one's choice, with forks -/
inductive Way where
  | fin
  | read (k : Nat) (r : Way)
  | one (k : Nat) (r : Way)
  | two (k1 : Nat) (r1 : Way) (k2 : Nat) (r2 : Way)
def Way.len : Way → Nat
  | .fin => 0
  | .read _ r => r.len + 1
  | .one _ r => r.len + 1
  | .two _ r1 _ _ => r1.len + 1
def wayB (md : Region.Mode) (ops : Array Oper) (n g : Nat) : Way → Array Bool → Bool
  | .fin, listed => Region.seqB md ops g n listed
  | .read k r, listed => decide (k < n) && ((Region.ready md ops listed).contains k && Region.free md ops listed k) && wayB md ops n g r (listed.setIfInBounds k true)
  | .one k r, listed => decide (k < n) && decide (Region.ready md ops listed = [k]) && wayB md ops n g r (listed.setIfInBounds k true)
  | .two k1 r1 k2 r2, listed => (decide (k1 < n) && decide (k2 < n) && decide (r1.len = r2.len) && decide (Region.ready md ops listed = [k1, k2])) && (wayB md ops n g r1 (listed.setIfInBounds k1 true) && wayB md ops n g r2 (listed.setIfInBounds k2 true))
/-- operation k as it stands -/
def wpDo (P : Program) (ops : Array Oper) (S : World → Prop) (l : List Oper) (k : Nat) (K : Act → World → Prop) (a : Act) (w : World) : Prop :=
  match l[k]? with
  | none => False
  | some o => if Region.wanted o (yielded ops a.tmps) then o.wp P a w (fun a' w' => S w' ∧ K a' w') NoWay else K (a.put o.dst undef) w
def wpW (P : Program) (ops : Array Oper) (S : World → Prop) (l : List Oper) (Lq : Act → World → Prop) : Way → Act → World → Prop
  | .fin, a, w => Lq a w
  | .read k r, a, w =>
    match l[k]? with
    | none => False
    | some o => if Region.wanted o (yielded ops a.tmps) then ∃ v, HeldV P o a S v ∧ wpW P ops S l Lq r (a.put o.dst v) w else wpW P ops S l Lq r (a.put o.dst undef) w
  | .one k r, a, w => wpDo P ops S l k (wpW P ops S l Lq r) a w
  | .two k1 r1 k2 r2, a, w => wpDo P ops S l k1 (wpW P ops S l Lq r1) a w ∧ wpDo P ops S l k2 (wpW P ops S l Lq r2) a w

theorem wpW_read {l : List Oper} {Lq : Act → World → Prop} {k : Nat} {r : Way} {a : Act} {w : World} {o : Oper} (hk : l[k]? = some o) (hw : Region.wanted o (yielded ops a.tmps) = true)
    (h : ∀ K : Act → Prop, (∀ a, wpW P ops S l Lq r a w → K a) → ∃ v, HeldV P o a S v ∧ K (a.put o.dst v)) : wpW P ops S l Lq (.read k r) a w := by
  unfold wpW
  simp only [hk, hw, if_true]
  exact h _ (fun _ h => h)
theorem wpW_passed {l : List Oper} {Lq : Act → World → Prop} {k : Nat} {r : Way} {a : Act} {w : World} {o : Oper} (hk : l[k]? = some o) (hw : Region.wanted o (yielded ops a.tmps) = false)
    (h : ∀ K : Act → Prop, (∀ a, wpW P ops S l Lq r a w → K a) → K (a.put o.dst undef)) : wpW P ops S l Lq (.read k r) a w := by
  unfold wpW
  simp only [hk, hw, Bool.false_eq_true, if_false]
  exact h _ (fun _ h => h)
theorem wpDo_do {l : List Oper} {k : Nat} {K0 : Act → World → Prop} {a : Act} {w : World} {o : Oper} (hk : l[k]? = some o) (hw : Region.wanted o (yielded ops a.tmps) = true)
    (h : ∀ K : Act → World → Prop, (∀ a w, S w → K0 a w → K a w) → o.wp P a w K NoWay) : wpDo P ops S l k K0 a w := by
  unfold wpDo
  simp only [hk, hw, if_true]
  exact h _ (fun _ _ h1 h2 => ⟨h1, h2⟩)
theorem wpDo_passed {l : List Oper} {k : Nat} {K0 : Act → World → Prop} {a : Act} {w : World} {o : Oper} (hk : l[k]? = some o) (hw : Region.wanted o (yielded ops a.tmps) = false)
    (h : ∀ K : Act → Prop, (∀ a, K0 a w → K a) → K (a.put o.dst undef)) : wpDo P ops S l k K0 a w := by
  unfold wpDo
  simp only [hk, hw, Bool.false_eq_true, if_false]
  exact h _ (fun _ h => h)
theorem wpW_one {l : List Oper} {Lq : Act → World → Prop} {k : Nat} {r : Way} {a : Act} {w : World} (h : wpDo P ops S l k (wpW P ops S l Lq r) a w) : wpW P ops S l Lq (.one k r) a w := h
theorem wpW_two {l : List Oper} {Lq : Act → World → Prop} {k1 k2 : Nat} {r1 r2 : Way} {a : Act} {w : World} (h1 : wpDo P ops S l k1 (wpW P ops S l Lq r1) a w) (h2 : wpDo P ops S l k2 (wpW P ops S l Lq r2) a w) : wpW P ops S l Lq (.two k1 r1 k2 r2) a w := ⟨h1, h2⟩
theorem wpW_fin {l : List Oper} {Lq : Act → World → Prop} {a : Act} {w : World} (h : Lq a w) : wpW P ops S l Lq .fin a w := h

theorem opW_of_wpDo {l : List Oper} (hl : ops = l.toArray) {k : Nat} {K0 K1 : Act → World → Prop} {a : Act} {w : World} (hS : S w) (h : wpDo P ops S l k K0 a w) (hK : ∀ a w, S w → K0 a w → K1 a w) : opW P ops k (fun a' w' => S w' ∧ K1 a' w') a w := by
  have hlk : l[k]? = ops[k]? := by rw [hl]; simp
  unfold wpDo at h
  rw [hlk] at h
  unfold opW
  cases ho : ops[k]? with
  | none => rw [ho] at h; exact h.elim
  | some o =>
    rw [ho] at h
    simp only at h ⊢
    by_cases hw : Region.wanted o (yielded ops a.tmps) = true
    · simp only [hw, if_true] at h ⊢
      exact Oper.wp_mono (fun a' w' h' => ⟨h'.1, hK a' w' h'.1 h'.2⟩) h
    · simp only [hw] at h ⊢
      exact ⟨hS, hK _ _ hS h⟩
theorem wpZ_of_wpW {n g : Nat} {l : List Oper} {Lq : Act → World → Prop} (hl : ops = l.toArray) (hsel : Region.noSelect ops = true) (hs : Region.sinkB md ops n = true) (hc : Region.chainB md ops n = true) (hn : n < ops.size) :
    ∀ (r : Way) (listed : Array Bool) (a : Act) (w : World), HeadInv md ops n listed → wayB md ops n g r listed = true → S w → wpW P ops S l Lq r a w →
    wpZ P md ops S n (fun listed' a' w' => Region.seqB md ops g n listed' = true ∧ Lq a' w') r.len listed a w
  | .fin, listed, a, w, _, hB, _, h => ⟨by simpa [wayB] using hB, h⟩
  | .read k r, listed, a, w, inv, hB, hS, h => by
    simp only [wayB, Bool.and_eq_true, decide_eq_true_eq] at hB
    obtain ⟨⟨hkn, hp1, hp2⟩, hB'⟩ := hB
    have hlk : l[k]? = ops[k]? := by rw [hl]; simp
    unfold wpW at h
    rw [hlk] at h
    cases ho : ops[k]? with
    | none => rw [ho] at h; exact h.elim
    | some o =>
      rw [ho] at h
      simp only at h
      have hr : k ∈ Region.ready md ops listed := by simpa using hp1
      have hfree := Region.free_spec ho hp2
      have fin : ∀ v, YieldsIf P ops S o v a → wpW P ops S l Lq r (a.put o.dst v) w → wpZ P md ops S n (fun listed' a' w' => Region.seqB md ops g n listed' = true ∧ Lq a' w') (r.len + 1) listed a w := fun v hy hK =>
        wpZ_first ho (Region.noSelect_spec hsel) hs hc hn hkn (fun listed' a' w' hL => seqB_ready hL.1) r.len listed a w inv hfree hr hy hS
          (wpZ_of_wpW hl hsel hs hc hn r _ _ w (inv.set hr hkn) hB' hS hK)
      by_cases hw : Region.wanted o (yielded ops a.tmps) = true
      · simp only [hw, if_true] at h
        obtain ⟨v, hv, hK⟩ := h
        exact fin v (.inl ⟨hw, hv.run⟩) hK
      · simp only [hw] at h
        exact fin undef (.inr ⟨by simpa using hw, rfl⟩) h
  | .one k r, listed, a, w, inv, hB, hS, h => by
    simp only [wayB, Bool.and_eq_true, decide_eq_true_eq] at hB
    obtain ⟨⟨hkn, hp⟩, hB'⟩ := hB
    have hr : k ∈ Region.ready md ops listed := by rw [hp]; simp
    refine ⟨fun h0 => (by rw [hp] at h0; cases h0), fun j hj => ?_⟩
    rw [hp] at hj
    obtain rfl : j = k := by simpa using hj
    exact ⟨hkn, opW_of_wpDo hl hS h (fun a' w' hS' h' => wpZ_of_wpW hl hsel hs hc hn r _ a' w' (inv.set hr hkn) hB' hS' h')⟩
  | .two k1 r1 k2 r2, listed, a, w, inv, hB, hS, h => by
    simp only [wayB, Bool.and_eq_true, decide_eq_true_eq] at hB
    obtain ⟨⟨⟨⟨hk1, hk2⟩, hlen⟩, hp⟩, hB1, hB2⟩ := hB
    have hr1 : k1 ∈ Region.ready md ops listed := by rw [hp]; simp
    have hr2 : k2 ∈ Region.ready md ops listed := by rw [hp]; simp
    refine ⟨fun h0 => (by rw [hp] at h0; cases h0), fun j hj => ?_⟩
    rw [hp] at hj
    have hj2 : j = k1 ∨ j = k2 := by simpa using hj
    rcases hj2 with rfl | rfl
    · exact ⟨hk1, opW_of_wpDo hl hS h.1 (fun a' w' hS' h' => wpZ_of_wpW hl hsel hs hc hn r1 _ a' w' (inv.set hr1 hk1) hB1 hS' h')⟩
    · refine ⟨hk2, opW_of_wpDo hl hS h.2 (fun a' w' hS' h' => ?_)⟩
      have := wpZ_of_wpW hl hsel hs hc hn r2 _ a' w' (inv.set hr2 hk2) hB2 hS' h'
      rw [← hlen] at this
      exact this

def wayAllB (md : Region.Mode) (ops : Array Oper) (n : Nat) (r : Way) : Bool :=
  Region.noSelect ops && decide (n < ops.size) && decide (r.len = n) && Region.sinkB md ops n && Region.chainB md ops n && wayB md ops n (ops.size - n) r (Array.replicate ops.size false)
/-- THE LAW -/
theorem wp_region_way {id : Nat} {Q : Exit → Act → World → Prop} {a : Act} {w : World} {l : List Oper} (n : Nat) (r : Way) (S : World → Prop) (hm : P.follows .mixedOrders = true) (hB : wayAllB .any l.toArray n r = true)
    (hS : S w.drew)
    (h : wpW P l.toArray S l (fun a' w' => wpList P l.toArray Q (l.drop n) a' w') r a w.drew) : (Code.region id l.toArray true).wp P Q a w := by
  simp only [wayAllB, Bool.and_eq_true, decide_eq_true_eq] at hB
  obtain ⟨⟨⟨⟨⟨hsel, hn⟩, hlen⟩, hs⟩, hc⟩, hheld⟩ := hB
  have hn' : n < l.length := by simpa using hn
  have hdl : (l.drop n).length = l.toArray.size - n := by simp
  have inv0 : HeadInv .any l.toArray n (Array.replicate l.toArray.size false) :=
    ⟨by simp, fun j oj _ hl => (by rw [getD_replicate_false] at hl; cases hl), fun t _ ht => getD_in (by simpa using ht) (getD_replicate_false _ _)⟩
  have H := wpZ_of_wpW (md := .any) (g := l.toArray.size - n) rfl hsel hs hc hn r _ a w.drew inv0 hheld hS h
  refine wp_region_any hm ?_
  have := wpAny_of_wpZ (Q := Q) (g := l.toArray.size - n) (fun listed a' w' hL => by
    have := wpAny_of_seq (md := .any) (Q' := Q) (l.drop n) n listed a' w' (fun j => by simp [List.getElem?_drop]) (by rw [hdl]; exact hL.1) hL.2
    rwa [hdl] at this) _ _ _ _ H
  rw [hlen, show n + (l.toArray.size - n) = l.toArray.size by omega] at this
  exact this
end
end Go.Proofs.YtalgheocjnajlaaGreatDoor

namespace Go.Proofs.YtalgheocjnajlaaGreatDoor
open Go.RowKit Go.MapKept
attribute [local go_sem] gives givesH
set_option maxRecDepth 100000

def upd {α : Type} (f : Bool → α) (b : Bool) (x : α) : Bool → α := fun c => if c = b then x else f c
theorem upd_same {α : Type} (f : Bool → α) (b : Bool) (x : α) : upd f b x b = x := if_pos rfl
theorem upd_ne {α : Type} (f : Bool → α) {b c : Bool} (x : α) (h : c ≠ b) : upd f b x c = f c := if_neg h
structure Two where
  bt : Bool → Nat
  T : Bool → TxS
  P : Bool → Puts
  hs : Bool → Value
  pv : Bool → Value
  mv : Bool → Value
  M : Bool → List Int
def Two.own (Z : Two) (b : Bool) (k : Nat) : Prop := (Z.T b).own (Z.bt b) k
/-- a value of the document's, beside all that turns -/
def Two.Aside (Z : Two) (bl : Nat) (L : LogS) (bb wb mb : Nat) (v : Value) : Prop := ∀ k, v.ownBlock = some k → k ≠ bb ∧ k ≠ wb ∧ k ≠ mb ∧ ¬ L.foot bl k ∧ (∀ c, ¬ Z.own c k) ∧ ∀ c, (Z.mv c).ownBlock ≠ some k
abbrev RowM (w : World) (v : Value) (l : List Int) : Prop := w.ownsRow 0 3 1 v l.length (l.map (Value.int .i64 ·))
structure TwoAt (B : Nat) (w : World) (bl : Nat) (L : LogS) (d : Dk) (N : Nat) (W : Int → ByteArray) (bb wb mb : Nat) (Z : Two) : Prop where
  log : LogIn B w bl L d N 20 16 W
  tx : ∀ b, OnLog w (Z.bt b) (Z.T b) bl L 20 W
  both : w.heap[bb]? = some (.cells #[.pointer (some ⟨Z.bt false, 0, none⟩), .pointer (some ⟨Z.bt true, 0, none⟩)] 33 (0, 0))
  want : w.heap[wb]? = some (.cells #[Z.hs false, .int .i64 16, Z.pv false, Z.hs true, .int .i64 16, Z.pv true] 39 (0, 0))
  marks : w.heap[mb]? = some (.cells #[Z.mv false, Z.mv true] 41 (0, 0))
  rowP : ∀ b, RowP w (Z.pv b) (Z.P b)
  rowM : ∀ b, RowM w (Z.mv b) (Z.M b)
  hsl : ∀ b, ∃ a l c, Z.hs b = .slice a l c
  ge : B ≤ bb ∧ B ≤ wb ∧ B ≤ mb
  ownG : ∀ b k, Z.own b k → B ≤ k
  mvG : ∀ b k, (Z.mv b).ownBlock = some k → B ≤ k
  ne : bb ≠ wb ∧ bb ≠ mb ∧ wb ≠ mb
  logN : ∀ k, L.foot bl k → k ≠ bb ∧ k ≠ wb ∧ k ≠ mb
  ownN : ∀ b k, Z.own b k → k ≠ bb ∧ k ≠ wb ∧ k ≠ mb ∧ ∀ c, c ≠ b → ¬ Z.own c k
  mvN : ∀ b k, (Z.mv b).ownBlock = some k → k ≠ bb ∧ k ≠ wb ∧ k ≠ mb ∧ ¬ L.foot bl k ∧ (∀ c, ¬ Z.own c k) ∧ ∀ c, c ≠ b → (Z.mv c).ownBlock ≠ some k
  pvN : ∀ b, Z.Aside bl L bb wb mb (Z.pv b)
section
variable {B : Nat} {w w' : World} {bl : Nat} {L : LogS} {d : Dk} {N : Nat} {W : Int → ByteArray} {bb wb mb : Nat} {Z : Two}
theorem TwoAt.lt (h : TwoAt B w bl L d N W bb wb mb Z) : bb < w.heap.size ∧ wb < w.heap.size ∧ mb < w.heap.size :=
  ⟨(Array.getElem?_eq_some_iff.1 h.both).1, (Array.getElem?_eq_some_iff.1 h.want).1, (Array.getElem?_eq_some_iff.1 h.marks).1⟩
theorem TwoAt.own_lt (h : TwoAt B w bl L d N W bb wb mb Z) {b : Bool} {k : Nat} (hk : Z.own b k) : k < w.heap.size := (h.tx b).at_.own_lt hk
theorem TwoAt.own_log (h : TwoAt B w bl L d N W bb wb mb Z) {b : Bool} {k : Nat} (hk : Z.own b k) : ¬ L.foot bl k := fun hf => (h.tx b).at_.own_apart hk (by rw [(h.tx b).flE]; exact hf)
theorem TwoAt.still (h : TwoAt B w bl L d N W bb wb mb Z) (hb : Below w.heap.size w w') : TwoAt B w' bl L d N W bb wb mb Z :=
  have hk : Keep (fun _ => False) w w' := Keep.still hb
  ⟨h.log.still hb, fun b => (h.tx b).still hb, hk.at h.both (fun e => e), hk.at h.want (fun e => e), hk.at h.marks (fun e => e), fun b => RowP.still (h.rowP b) hb, fun b => hk.ownsRow (h.rowM b) (fun _ _ e => e), h.hsl, h.ge, h.ownG, h.mvG, h.ne, h.logN, h.ownN, h.mvN, h.pvN⟩
/-- a change turned -/
theorem TwoAt.txStep (h : TwoAt B w bl L d N W bb wb mb Z) (hB : B ≤ w.heap.size) (b : Bool) {T' : TxS} (hs : TxStep (Z.bt b) w (Z.T b) w' T') : TwoAt B w' bl L d N W bb wb mb { Z with T := upd Z.T b T' } := by
  have hown : ∀ c k, ({ Z with T := upd Z.T b T' } : Two).own c k → Z.own c k ∨ (c = b ∧ w.heap.size ≤ k) := fun c k hk => by
    have hk2 : (upd Z.T b T' c).own (Z.bt c) k := hk
    by_cases hc : c = b
    · subst hc
      rw [upd_same] at hk2
      exact (hs.own k hk2).imp id (fun e => ⟨rfl, e⟩)
    · rw [upd_ne _ _ hc] at hk2
      exact .inl hk2
  obtain ⟨l1, l2, l3⟩ := h.lt
  have nk : ∀ c k, k < w.heap.size → ({ Z with T := upd Z.T b T' } : Two).own c k → Z.own c k := fun c k hk ho => (hown c k ho).resolve_right (fun e => by omega)
  refine ⟨h.log.txStep (h.tx b) hs, fun c => ?_, hs.keep.at h.both (fun ho => (h.ownN b _ ho).1 rfl), hs.keep.at h.want (fun ho => (h.ownN b _ ho).2.1 rfl), hs.keep.at h.marks (fun ho => (h.ownN b _ ho).2.2.1 rfl), fun c => hs.keep.ownsRow (h.rowP c) (fun k hk ho => (h.pvN c k hk).2.2.2.2.1 b ho), fun c => hs.keep.ownsRow (h.rowM c) (fun k hk ho => (h.mvN c k hk).2.2.2.2.1 b ho), h.hsl, h.ge, fun c k hk => ?_, h.mvG, h.ne, h.logN, fun c k hk => ?_, fun c k hk => ?_, fun c k hk => ?_⟩
  · show OnLog w' (Z.bt c) (upd Z.T b T' c) bl L 20 W
    by_cases hc : c = b
    · subst hc; rw [upd_same]; exact (h.tx c).step hs
    · rw [upd_ne _ _ hc]
      exact (h.tx c).keep hs.keep (fun k hk ho => (h.ownN c k hk).2.2.2 b (fun e => hc e.symm) ho) (fun k hf ho => h.own_log ho hf)
  · rcases hown c k hk with e | ⟨_, e⟩
    · exact h.ownG c k e
    · omega
  · rcases hown c k hk with e | ⟨e1, e⟩
    · obtain ⟨a1, a2, a3, a4⟩ := h.ownN c k e
      exact ⟨a1, a2, a3, fun c' hc' ho => a4 c' hc' (nk c' k (h.own_lt e) ho)⟩
    · refine ⟨by omega, by omega, by omega, fun c' hc' ho => ?_⟩
      rcases hown c' k ho with e2 | ⟨e2, _⟩
      · have := h.own_lt e2; omega
      · exact hc' (e2.trans e1.symm)
  · obtain ⟨a1, a2, a3, a4, a5, a6⟩ := h.mvN c k hk
    exact ⟨a1, a2, a3, a4, fun c' ho => a5 c' (nk c' k ((h.rowM c).lt k hk).2 ho), a6⟩
  · obtain ⟨a1, a2, a3, a4, a5, a6⟩ := h.pvN c k hk
    exact ⟨a1, a2, a3, a4, fun c' ho => a5 c' (nk c' k ((h.rowP c).lt k hk).2 ho), a6⟩
/-- a value beside, behind a change that turned -/
theorem Two.Aside.txStep {v : Value} (hv : Z.Aside bl L bb wb mb v) {b : Bool} {T' : TxS} (hs : TxStep (Z.bt b) w (Z.T b) w' T') (hl : ∀ k, v.ownBlock = some k → k < w.heap.size) : ({ Z with T := upd Z.T b T' } : Two).Aside bl L bb wb mb v := fun k hk => by
  obtain ⟨a1, a2, a3, a4, a5, a6⟩ := hv k hk
  refine ⟨a1, a2, a3, a4, fun c ho => ?_, a6⟩
  have ho2 : (upd Z.T b T' c).own (Z.bt c) k := ho
  by_cases hc : c = b
  · subst hc
    rw [upd_same] at ho2
    rcases hs.own k ho2 with e | e
    · exact a5 c e
    · have := hl k hk; omega
  · rw [upd_ne _ _ hc] at ho2
    exact a5 c ho2
/-- the document's answers written down -/
theorem TwoAt.setWant (h : TwoAt B w bl L d N W bb wb mb Z) {P' : Bool → Puts} {hs' pv' : Bool → Value} (hk : Keep (fun k => k = wb) w w') (hw : w'.heap[wb]? = some (.cells #[hs' false, .int .i64 16, pv' false, hs' true, .int .i64 16, pv' true] 39 (0, 0)))
    (hr : ∀ b, RowP w (pv' b) (P' b)) (hh : ∀ b, ∃ a l c, hs' b = .slice a l c) (hn : ∀ b, Z.Aside bl L bb wb mb (pv' b)) : TwoAt B w' bl L d N W bb wb mb { Z with P := P', hs := hs', pv := pv' } :=
  ⟨h.log.keep hk (fun k hf e => (h.logN k hf).2.1 e), fun c => (h.tx c).keep hk (fun k ho e => (h.ownN c k ho).2.1 e) (fun k hf e => (h.logN k hf).2.1 e), hk.at h.both h.ne.1, hw, hk.at h.marks (fun e => h.ne.2.2 e.symm), fun b => hk.ownsRow (hr b) (fun k hk2 e => (hn b k hk2).2.1 e), fun b => hk.ownsRow (h.rowM b) (fun k hk2 e => (h.mvN b k hk2).2.1 e), hh, h.ge, h.ownG, h.mvG, h.ne, h.logN, h.ownN, h.mvN, hn⟩
/-- a mark kept -/
theorem TwoAt.setMarks (h : TwoAt B w bl L d N W bb wb mb Z) (hB : B ≤ w.heap.size) (b : Bool) {v' : Value} {l' : List Int} (hk : Keep (fun k => k = mb ∨ (Z.mv b).ownBlock = some k) w w') (hm : w'.heap[mb]? = some (.cells #[upd Z.mv b v' false, upd Z.mv b v' true] 41 (0, 0)))
    (hr : RowM w' v' l') (hv : ∀ k, v'.ownBlock = some k → (Z.mv b).ownBlock = some k ∨ w.heap.size ≤ k) : TwoAt B w' bl L d N W bb wb mb { Z with mv := upd Z.mv b v', M := upd Z.M b l' } := by
  obtain ⟨l1, l2, l3⟩ := h.lt
  have hmv : ∀ c k, (upd Z.mv b v' c).ownBlock = some k → (Z.mv c).ownBlock = some k ∨ (c = b ∧ w.heap.size ≤ k) := fun c k hk2 => by
    by_cases hc : c = b
    · subst hc
      rw [upd_same] at hk2
      exact (hv k hk2).imp id (fun e => ⟨rfl, e⟩)
    · rw [upd_ne _ _ hc] at hk2
      exact .inl hk2
  refine ⟨h.log.keep hk (fun k hf e => ?_), fun c => (h.tx c).keep hk (fun k ho e => ?_) (fun k hf e => ?_), hk.at h.both (fun e => ?_), hk.at h.want (fun e => ?_), hm, fun c => hk.ownsRow (h.rowP c) (fun k hk2 e => ?_), fun c => ?_, h.hsl, h.ge, h.ownG, fun c k hk2 => ?_, h.ne, h.logN, h.ownN, fun c k hk2 => ?_, fun c k hk2 => ?_⟩
  · rcases e with e | e
    · exact (h.logN k hf).2.2 e
    · exact (h.mvN b k e).2.2.2.1 hf
  · rcases e with e | e
    · exact (h.ownN c k ho).2.2.1 e
    · exact (h.mvN b k e).2.2.2.2.1 c ho
  · rcases e with e | e
    · exact (h.logN k hf).2.2 e
    · exact (h.mvN b k e).2.2.2.1 hf
  · rcases e with e | e
    · exact h.ne.2.1 e
    · exact (h.mvN b _ e).1 rfl
  · rcases e with e | e
    · exact h.ne.2.2 e
    · exact (h.mvN b _ e).2.1 rfl
  · rcases e with e | e
    · exact (h.pvN c k hk2).2.2.1 e
    · exact (h.pvN c k hk2).2.2.2.2.2 b e
  · show RowM w' (upd Z.mv b v' c) (upd Z.M b l' c)
    by_cases hc : c = b
    · subst hc; rw [upd_same, upd_same]; exact hr
    · rw [upd_ne _ _ hc, upd_ne _ _ hc]
      exact hk.ownsRow (h.rowM c) (fun k hk2 e => by
        rcases e with e | e
        · exact (h.mvN c k hk2).2.2.1 e
        · exact (h.mvN c k hk2).2.2.2.2.2 b (fun e2 => hc e2.symm) e)
  · rcases hmv c k hk2 with e | ⟨_, e⟩
    · exact h.mvG c k e
    · omega
  · rcases hmv c k hk2 with e | ⟨e1, e⟩
    · obtain ⟨a1, a2, a3, a4, a5, a6⟩ := h.mvN c k e
      refine ⟨a1, a2, a3, a4, a5, fun c' hc' he => ?_⟩
      rcases hmv c' k he with e2 | ⟨_, e2⟩
      · exact a6 c' hc' e2
      · have := ((h.rowM c).lt k e).2; omega
    · refine ⟨by omega, by omega, by omega, fun hf => by have := h.log.up.at_.foot_lt hf; omega, fun c' ho => by have := h.own_lt ho; omega, fun c' hc' he => ?_⟩
      rcases hmv c' k he with e2 | ⟨e2, _⟩
      · have := ((h.rowM c').lt k e2).2; omega
      · exact hc' (e2.trans e1.symm)
  · obtain ⟨a1, a2, a3, a4, a5, a6⟩ := h.pvN c k hk2
    refine ⟨a1, a2, a3, a4, a5, fun c' he => ?_⟩
    rcases hmv c' k he with e2 | ⟨_, e2⟩
    · exact a6 c' e2
    · have := ((h.rowP c).lt k hk2).2; omega
/-- a commit -/
theorem TwoAt.commit (h : TwoAt B w bl L d N W bb wb mb Z) (hB : B ≤ w.heap.size) (b : Bool) {L' : LogS} {d' : Dk} {T' : TxS} {W' : Int → ByteArray} (hl : LogIn B w' bl L' d' (N + 1) 20 16 W') (ht : OnLog w' (Z.bt b) T' bl L' 20 W') (hk : Keep (fun k => L.foot bl k ∨ Z.own b k) w w')
    (hf : ∀ k, L'.foot bl k → L.foot bl k ∨ w.heap.size ≤ k) (ho : ∀ k, T'.own (Z.bt b) k → Z.own b k ∨ w.heap.size ≤ k) (hfo : ∀ k, T'.own (Z.bt b) k → ¬ L'.foot bl k) : TwoAt B w' bl L' d' (N + 1) W' bb wb mb { Z with T := fun c => if c = b then T' else { Z.T c with f := W', Fl := L'.foot bl } } := by
  obtain ⟨l1, l2, l3⟩ := h.lt
  have hown : ∀ c k, ({ Z with T := fun c => if c = b then T' else { Z.T c with f := W', Fl := L'.foot bl } } : Two).own c k → Z.own c k ∨ (c = b ∧ w.heap.size ≤ k) := fun c k hk2 => by
    have hk3 : (if c = b then T' else { Z.T c with f := W', Fl := L'.foot bl } : TxS).own (Z.bt c) k := hk2
    by_cases hc : c = b
    · subst hc
      rw [if_pos rfl] at hk3
      exact (ho k hk3).imp id (fun e => ⟨rfl, e⟩)
    · rw [if_neg hc] at hk3
      exact .inl hk3
  have nk : ∀ c k, k < w.heap.size → ({ Z with T := fun c => if c = b then T' else { Z.T c with f := W', Fl := L'.foot bl } } : Two).own c k → Z.own c k := fun c k hk ho => (hown c k ho).resolve_right (fun e => by omega)
  have nl : ∀ k, k < w.heap.size → L'.foot bl k → L.foot bl k := fun k hk hf2 => (hf k hf2).resolve_right (by omega)
  refine ⟨hl, fun c => ?_, hk.at h.both (fun e => e.elim (fun e => (h.logN _ e).1 rfl) (fun e => (h.ownN b _ e).1 rfl)), hk.at h.want (fun e => e.elim (fun e => (h.logN _ e).2.1 rfl) (fun e => (h.ownN b _ e).2.1 rfl)), hk.at h.marks (fun e => e.elim (fun e => (h.logN _ e).2.2 rfl) (fun e => (h.ownN b _ e).2.2.1 rfl)),
    fun c => hk.ownsRow (h.rowP c) (fun k hk2 e => e.elim (h.pvN c k hk2).2.2.2.1 ((h.pvN c k hk2).2.2.2.2.1 b)), fun c => hk.ownsRow (h.rowM c) (fun k hk2 e => e.elim (h.mvN c k hk2).2.2.2.1 ((h.mvN c k hk2).2.2.2.2.1 b)), h.hsl, h.ge, fun c k hk2 => ?_, h.mvG, h.ne, fun k hk2 => ?_, fun c k hk2 => ?_, fun c k hk2 => ?_, fun c k hk2 => ?_⟩
  · show OnLog w' (Z.bt c) (if c = b then T' else { Z.T c with f := W', Fl := L'.foot bl } : TxS) bl L' 20 W'
    by_cases hc : c = b
    · subst hc; rw [if_pos rfl]; exact ht
    · rw [if_neg hc]
      exact (h.tx c).relog hk (fun k ho2 e => e.elim (fun e => h.own_log ho2 e) (fun e => (h.ownN c k ho2).2.2.2 b (fun e2 => hc e2.symm) e)) hf hl
  · rcases hown c k hk2 with e | ⟨_, e⟩
    · exact h.ownG c k e
    · omega
  · rcases hf k hk2 with e | e
    · exact h.logN k e
    · exact ⟨by omega, by omega, by omega⟩
  · rcases hown c k hk2 with e | ⟨e1, e⟩
    · obtain ⟨a1, a2, a3, a4⟩ := h.ownN c k e
      exact ⟨a1, a2, a3, fun c' hc' ho2 => a4 c' hc' (nk c' k (h.own_lt e) ho2)⟩
    · refine ⟨by omega, by omega, by omega, fun c' hc' ho2 => ?_⟩
      rcases hown c' k ho2 with e2 | ⟨e2, _⟩
      · have := h.own_lt e2; omega
      · exact hc' (e2.trans e1.symm)
  · obtain ⟨a1, a2, a3, a4, a5, a6⟩ := h.mvN c k hk2
    have hlt := ((h.rowM c).lt k hk2).2
    exact ⟨a1, a2, a3, fun e => a4 (nl k hlt e), fun c' ho2 => a5 c' (nk c' k hlt ho2), a6⟩
  · obtain ⟨a1, a2, a3, a4, a5, a6⟩ := h.pvN c k hk2
    have hlt := ((h.rowP c).lt k hk2).2
    exact ⟨a1, a2, a3, fun e => a4 (nl k hlt e), fun c' ho2 => a5 c' (nk c' k hlt ho2), a6⟩
end
end Go.Proofs.YtalgheocjnajlaaGreatDoor

namespace Go.Proofs.YtalgheocjnajlaaGreatDoor
open Go.ChangeShapes Go.WideShapes Go.ChangeAt Go.RowKit Go.Joins
set_option maxRecDepth 100000

structure ActT where
  what : Int
  at_ : Int
  n : Int
  text : ByteArray
  two : Bool
  raw : Bool
section
variable {H : Type} {enc : TypeId × Value → H} {W : World}
def ActT.wf (x : ActT) : Prop := (Lit.int .i64 x.what).wf = true ∧ (Lit.int .i64 x.at_).wf = true ∧ (Lit.int .i64 x.n).wf = true ∧ x.text.size ≤ 9223372036854775807
/-- a list of acts -/
def Acts6At (w : World) (B : Nat) (v : Value) (A : List ActT) : Prop :=
  ∃ a b off cap, v = .slice a A.length cap ∧ A.length ≤ maxLen ∧ (0 < A.length → a = some ⟨b, off, none⟩ ∧ b < B) ∧
    ∀ (k : Nat) x, A[k]? = some x → w.cell? ⟨b, off + k * 6, none⟩ = some (.int .i64 x.what) ∧ w.cell? ⟨b, off + k * 6 + 1, none⟩ = some (.int .i64 x.at_) ∧ w.cell? ⟨b, off + k * 6 + 2, none⟩ = some (.int .i64 x.n) ∧ w.cell? ⟨b, off + k * 6 + 3, none⟩ = some (.string x.text) ∧ w.cell? ⟨b, off + k * 6 + 4, none⟩ = some (.bool x.two) ∧ w.cell? ⟨b, off + k * 6 + 5, none⟩ = some (.bool x.raw) ∧ x.wf
theorem open_acts6 {v : Value} {d : DataW H} {p : List MemPlace} (hv : ∃ u, v.cells = #[u] ∧ u = v) (h : DataW.Trod enc Tryz.prog W 0 (fun _ => true) true 22 v d p) (hw : Fits 22 d) : ∃ A, Acts6At W W.heap.size v A := by
  obtain ⟨fuel, hf⟩ := h
  obtain ⟨u, hu, rfl⟩ := hv
  rw [hu] at hf
  rcases open_cell 6 (by decide) Tryz.underlying22 (by kernel_rfl) hf hw with rfl | ⟨ad, len, cap, b, off, cs, rfl, hl, ha, hc⟩
  · exact ⟨[], none, 0, 0, 0, rfl, Nat.zero_le _, fun h => absurd h (by simp), fun k x hx => by simp at hx⟩
  · refine ⟨(List.range len).map (fun k => ⟨cInt (cs k) 0, cInt (cs k) 1, cInt (cs k) 2, cStr (cs k) 3, cBool (cs k) 4, cBool (cs k) 5⟩), some ad, b, off, cap, by simp, by simpa using hl.1, fun h0 => ?_, fun k x hx => ?_⟩
    · have := ha (by simpa using h0)
      exact ⟨by rw [this.1], this.2⟩
    · obtain ⟨hk, rfl⟩ := map_range_get _ _ _ _ hx
      obtain ⟨h1, h2, m, y, h3, _⟩ := hc k hk
      have f0 := field_int Tryz.underlying43 (by kernel_rfl) h3 h1 0 _ rfl Tryz.underlying3
      have f1 := field_int Tryz.underlying43 (by kernel_rfl) h3 h1 1 _ rfl Tryz.underlying3
      have f2 := field_int Tryz.underlying43 (by kernel_rfl) h3 h1 2 _ rfl Tryz.underlying3
      have f3 := field_str Tryz.underlying43 (by kernel_rfl) h3 h1 3 _ rfl Tryz.underlying9
      have f4 := field_bool Tryz.underlying43 (by kernel_rfl) h3 h1 4 _ rfl Tryz.underlying4
      have f5 := field_bool Tryz.underlying43 (by kernel_rfl) h3 h1 5 _ rfl Tryz.underlying4
      exact ⟨(h2 0 (by decide)).trans f0.1, (h2 1 (by decide)).trans f1.1, (h2 2 (by decide)).trans f2.1, (h2 3 (by decide)).trans f3.1, (h2 4 (by decide)).trans f4, (h2 5 (by decide)).trans f5, f0.2, f1.2, f2.2, f3.2⟩
end
end Go.Proofs.YtalgheocjnajlaaGreatDoor

namespace Go.Proofs.YtalgheocjnajlaaGreatDoor
open Go.RowKit Go.MapKept
attribute [local go_sem] gives givesH
set_option maxRecDepth 100000

structure TRel (B : Nat) (w : World) (bl : Nat) (L : LogS) (d : Dk) (N : Nat) (W : Int → ByteArray) (bb wb mb : Nat) (Z : Two) (hv : Value) (ws : List ByteArray) (n : Nat) : Prop where
  at_ : TwoAt B w bl L d N W bb wb mb Z
  puts : ∀ b, (Z.T b).puts = fullP (Z.P b)
  good : ∀ b x, x ∈ Z.P b → 0 ≤ x.1 ∧ x.1 < 20 ∧ x.2.size ≤ 512
  lenP : ∀ b, (Z.P b).length ≤ n
  lenM : ∀ b, (Z.M b).length ≤ n
  hrow : TextsAt w 0 hv ws
  hap : Z.Aside bl L bb wb mb hv
  wlen : ws.length = 20
  wat : ∀ q : Nat, q < 20 → W q = atL ws q
  hN : N ≤ n
section
variable {B : Nat} {w w' : World} {bl : Nat} {L : LogS} {d : Dk} {N : Nat} {W : Int → ByteArray} {bb wb mb : Nat} {Z : Two} {hv : Value} {ws : List ByteArray} {n : Nat}
theorem TRel.still (h : TRel B w bl L d N W bb wb mb Z hv ws n) (hb : Below w.heap.size w w') : TRel B w' bl L d N W bb wb mb Z hv ws n :=
  ⟨h.at_.still hb, h.puts, h.good, h.lenP, h.lenM, (Keep.still hb).ownsRow h.hrow (fun _ _ e => e), h.hap, h.wlen, h.wat, h.hN⟩
theorem TRel.mono {n' : Nat} (h : TRel B w bl L d N W bb wb mb Z hv ws n) (hn : n ≤ n') : TRel B w bl L d N W bb wb mb Z hv ws n' :=
  ⟨h.at_, h.puts, h.good, fun b => Nat.le_trans (h.lenP b) hn, fun b => Nat.le_trans (h.lenM b) hn, h.hrow, h.hap, h.wlen, h.wat, Nat.le_trans h.hN hn⟩
theorem TRel.hvs (h : TRel B w bl L d N W bb wb mb Z hv ws n) : ∃ a c, hv = .slice a 20 c := by
  obtain ⟨a, c, e⟩ := slice_formB h.hrow
  rw [h.wlen] at e
  exact ⟨a, c, e⟩
/-- the homes of a change's answer are written down -/
theorem TRel.setHome (h : TRel B w bl L d N W bb wb mb Z hv ws n) (b : Bool) : TRel B (w.setCell ⟨wb, if b then 3 else 0, none⟩ hv) bl L d N W bb wb mb { Z with hs := upd Z.hs b hv } hv ws n := by
  have hk : Keep (fun k => k = wb) w (w.setCell ⟨wb, if b then 3 else 0, none⟩ hv) := (Keep.refl (fun k => k = wb) w).setCell (p := ⟨wb, if b then 3 else 0, none⟩) (fun _ => rfl) _
  obtain ⟨a, c, e⟩ := h.hvs
  have h2 := h.at_.setWant (P' := Z.P) (hs' := upd Z.hs b hv) (pv' := Z.pv) hk (by
    have hw := h.at_.want
    cases b <;> simp [World.setCell, Array.getElem?_modify, hw, upd]) h.at_.rowP (fun c' => by
      by_cases hc : c' = b
      · subst hc; rw [upd_same]; exact ⟨a, 20, c, e⟩
      · rw [upd_ne _ _ hc]; exact h.at_.hsl c') h.at_.pvN
  exact ⟨h2, h.puts, h.good, h.lenP, h.lenM, hk.ownsRow h.hrow (fun k hk2 e => (h.hap k hk2).2.1 e), h.hap, h.wlen, h.wat, h.hN⟩
theorem TRel.bothCell (h : TRel B w bl L d N W bb wb mb Z hv ws n) : w.cell? ⟨bb, 0, none⟩ = some (.pointer (some ⟨Z.bt false, 0, none⟩)) ∧ w.cell? ⟨bb, 1, none⟩ = some (.pointer (some ⟨Z.bt true, 0, none⟩)) := ⟨Lib.cell_of_heap h.at_.both 0, Lib.cell_of_heap h.at_.both 1⟩
theorem TRel.wantCell (h : TRel B w bl L d N W bb wb mb Z hv ws n) : w.cell? ⟨wb, 0, none⟩ = some (Z.hs false) ∧ w.cell? ⟨wb, 1, none⟩ = some (.int .i64 16) ∧ w.cell? ⟨wb, 2, none⟩ = some (Z.pv false) ∧ w.cell? ⟨wb, 3, none⟩ = some (Z.hs true) ∧ w.cell? ⟨wb, 4, none⟩ = some (.int .i64 16) ∧ w.cell? ⟨wb, 5, none⟩ = some (Z.pv true) :=
  ⟨Lib.cell_of_heap h.at_.want 0, Lib.cell_of_heap h.at_.want 1, Lib.cell_of_heap h.at_.want 2, Lib.cell_of_heap h.at_.want 3, Lib.cell_of_heap h.at_.want 4, Lib.cell_of_heap h.at_.want 5⟩
theorem TRel.wantFz (h : TRel B w bl L d N W bb wb mb Z hv ws n) (k : Nat) : w.frozen? ⟨wb, k, none⟩ = false := by simp [World.frozen?, h.at_.want]
theorem TRel.txIn (h : TRel B w bl L d N W bb wb mb Z hv ws n) (b : Bool) : TxIn B w bl L d N 20 16 W (Z.bt b) (Z.T b) := ⟨h.at_.log, h.at_.tx b, h.at_.ownG b⟩
end
/-- the start -/
theorem TRel.start {B : Nat} {w w5 w6 w7 : World} {bl bt0 bt1 : Nat} {L : LogS} {d : Dk} {T0 T1 : TxS} {hv : Value} {W : Int → ByteArray} {ws : List ByteArray} (hB : B ≤ w.heap.size) (h0 : TxIn B w5 bl L d 0 20 16 W bt0 T0) (h5 : Below B w w5) (h1 : TxIn B w6 bl L d 0 20 16 W bt1 T1) (h56 : Below w5.heap.size w5 w6) (hp0 : T0.puts = []) (hp1 : T1.puts = []) (ho1 : ∀ k, T1.own bt1 k → w5.heap.size ≤ k)
    (hb7 : Below (w6.alloc (Obj.cells #[.pointer (some ⟨bt0, 0, none⟩), .pointer (some ⟨bt1, 0, none⟩)] 33)).heap.size (w6.alloc (Obj.cells #[.pointer (some ⟨bt0, 0, none⟩), .pointer (some ⟨bt1, 0, none⟩)] 33)) w7) (htx : TextsAt w7 (w6.alloc (Obj.cells #[.pointer (some ⟨bt0, 0, none⟩), .pointer (some ⟨bt1, 0, none⟩)] 33)).heap.size hv ws)
    (hwl : ws.length = 20) (hat : ∀ q : Nat, q < 20 → W q = atL ws q) :
    TRel B ((w7.alloc (Obj.cells #[hv, .int .i64 16, .slice none 0 0, hv, .int .i64 16, .slice none 0 0] 39)).alloc (Obj.cells #[.slice none 0 0, .slice none 0 0] 41)) bl L d 0 W w6.heap.size w7.heap.size (w7.heap.size + 1)
      ⟨fun b => if b then bt1 else bt0, fun b => if b then T1 else T0, fun _ => [], fun _ => hv, fun _ => .slice none 0 0, fun _ => .slice none 0 0, fun _ => []⟩ hv ws 0 := by
  have hB5 : B ≤ w5.heap.size := Nat.le_trans hB h5.size
  have s6 := h56.size
  have hsa : (w6.alloc (Obj.cells #[.pointer (some ⟨bt0, 0, none⟩), .pointer (some ⟨bt1, 0, none⟩)] 33)).heap.size = w6.heap.size + 1 := by simp
  have hba : Below w6.heap.size w6 (w6.alloc (Obj.cells #[.pointer (some ⟨bt0, 0, none⟩), .pointer (some ⟨bt1, 0, none⟩)] 33)) := (Below.refl _ _).alloc (Nat.le_refl _) _
  have hna := heap_alloc_new w6 (Obj.cells #[.pointer (some ⟨bt0, 0, none⟩), .pointer (some ⟨bt1, 0, none⟩)] 33)
  have s7 := hb7.size
  rw [hsa] at s7
  obtain ⟨n1, n2, nb⟩ := new2 w7 (Obj.cells #[hv, .int .i64 16, .slice none 0 0, hv, .int .i64 16, .slice none 0 0] 39) (Obj.cells #[.slice none 0 0, .slice none 0 0] 41)
  have hb67 : Below w6.heap.size w6 w7 := hba.trans (hb7.mono hba.size)
  have hb6z := hb67.trans (nb.mono hb67.size)
  have hb5z := h56.trans (hb6z.mono h56.size)
  obtain ⟨wz, hwz⟩ : ∃ wz, (w7.alloc (Obj.cells #[hv, .int .i64 16, .slice none 0 0, hv, .int .i64 16, .slice none 0 0] 39)).alloc (Obj.cells #[.slice none 0 0, .slice none 0 0] 41) = wz := ⟨_, rfl⟩
  rw [hwz] at n1 n2 nb hb6z hb5z ⊢
  have hnz : wz.heap[w6.heap.size]? = some (Obj.cells #[.pointer (some ⟨bt0, 0, none⟩), .pointer (some ⟨bt1, 0, none⟩)] 33 (0, 0)) := (Keep.ofBelow (S := fun _ => False) nb).at ((Keep.ofBelow (S := fun _ => False) hb7).at hna (fun e => e)) (fun e => e)
  have hown : ∀ (b : Bool) k, (if b then T1 else T0 : TxS).own (if b then bt1 else bt0) k → k < w6.heap.size ∧ B ≤ k ∧ ¬ L.foot bl k := fun b k hk => by
    cases b with
    | false =>
      have h2 : T0.own bt0 k := hk
      exact ⟨by have := h0.tx.at_.own_lt h2; omega, h0.newer k h2, fun hf => h0.tx.at_.own_apart h2 (by rw [h0.tx.flE]; exact hf)⟩
    | true =>
      have h2 : T1.own bt1 k := hk
      exact ⟨h1.tx.at_.own_lt h2, h1.newer k h2, fun hf => h1.tx.at_.own_apart h2 (by rw [h1.tx.flE]; exact hf)⟩
  have hfl : ∀ k, L.foot bl k → k < w5.heap.size := fun k hk => h0.log.up.at_.foot_lt hk
  refine ⟨⟨(h1.log.still hb6z), fun b => ?_, hnz, n1, n2, fun _ => World.ownsRow_nil _ _ _ _, fun _ => World.ownsRow_nil _ _ _ _, fun _ => ?_, ⟨by omega, by omega, by omega⟩, fun b k hk => (hown b k hk).2.1, fun b k hk => (by cases hk), ⟨by omega, by omega, by omega⟩, fun k hk => (by have := hfl k hk; exact ⟨by omega, by omega, by omega⟩), fun b k hk => ?_, fun b k hk => (by cases hk), fun b k hk => (by cases hk)⟩, fun b => ?_, fun b x hx => (by cases hx), fun b => Nat.le_refl _, fun b => Nat.le_refl _, ?_, fun k hk => ?_, hwl, hat, Nat.le_refl _⟩
  · cases b with
    | false => exact h0.tx.still hb5z
    | true => exact h1.tx.still hb6z
  · obtain ⟨a, c, e⟩ := slice_formB htx
    exact ⟨a, _, c, e⟩
  · have h2 := hown b k hk
    refine ⟨by omega, by omega, by omega, fun c hc ho => ?_⟩
    cases b with
    | false =>
      cases c with
      | false => exact hc rfl
      | true =>
        have h3 : T1.own bt1 k := ho
        have h4 : T0.own bt0 k := hk
        have := ho1 k h3
        have := h0.tx.at_.own_lt h4
        omega
    | true =>
      cases c with
      | true => exact hc rfl
      | false =>
        have h3 : T0.own bt0 k := ho
        have h4 : T1.own bt1 k := hk
        have := ho1 k h4
        have := h0.tx.at_.own_lt h3
        omega
  · cases b with
    | false => exact hp0
    | true => exact hp1
  · exact ownsRow_base_a ((Keep.ofBelow (S := fun _ => False) nb).ownsRow htx (fun _ _ e => e)) (Nat.zero_le _)
  · have h2 := World.ownsRow.lt htx k hk
    rw [hsa] at h2
    refine ⟨by omega, by omega, by omega, fun hf => by have := hfl k hf; omega, fun c ho => by have := (hown c k ho).1; omega, fun c e => (by cases e)⟩
end Go.Proofs.YtalgheocjnajlaaGreatDoor

namespace Go.Proofs.YtalgheocjnajlaaGreatDoor
open Go.RowKit Go.MapKept
attribute [local go_sem] gives givesH
set_option maxRecDepth 100000

def rawOf (n : Nat) (i : Int) (s : ByteArray) : Puts := if 0 ≤ i ∧ i < n ∧ s.size ≤ 512 then [(i, s)] else []
theorem fullP_raw (P : Puts) (n : Nat) (i : Int) (s : ByteArray) : fullP (P ++ rawOf n i s) = fullP P ++ putsOf n i s := by
  unfold rawOf putsOf
  by_cases h : 0 ≤ i ∧ i < n ∧ s.size ≤ 512
  · rw [if_pos h, if_pos h, fullP_snoc]
  · rw [if_neg h, if_neg h, List.append_nil, List.append_nil]
theorem ref6Write_any {w : World} {P : Puts} {ha : Option Addr} {hc : Nat} {pa : Option Addr} {pl pc : Nat} (hp : RowP w (.slice pa pl pc) P) (hl1 : P.length ≤ 1000) (ring : Int) (i : Int) (s : ByteArray) :
    Calls Tryz.prog 12 #[.agg #[.slice ha 20 hc, .int .i64 ring, .slice pa pl pc], .int .i64 i, .string s] w fun e w' => ∃ xa xl xc, e = .returned (.tuple #[.agg #[.slice ha 20 hc, .int .i64 ring, .slice xa xl xc], .int .i64 (writeErr 20 i s)]) ∧ Ref6Out w w' (.slice pa pl pc) (.slice xa xl xc) (P ++ rawOf 20 i s) := by
  by_cases hr : 0 ≤ i ∧ i < (20 : Nat)
  · by_cases h5 : s.size ≤ 512
    · have e1 : writeErr 20 i s = 0 := writeErr_zero hr h5
      have e2 : rawOf 20 i s = [(i, s)] := if_pos ⟨hr.1, hr.2, h5⟩
      rw [e1, e2]
      refine (ref6Write_ok hp hl1 ring hr.1 hr.2 h5).mono fun e w' ⟨pv', he, ho⟩ => ?_
      obtain ⟨xa, xc, hx, _, _⟩ := slice_form ho.row
      subst hx
      exact ⟨xa, _, xc, he, ho⟩
    · have e1 : writeErr 20 i s = 5 := by unfold writeErr; rw [if_pos hr, if_pos (by omega)]
      have e2 : rawOf 20 i s = [] := if_neg (by omega)
      rw [e1, e2, List.append_nil]
      refine (ref6Write_bad (hl := 20) ring 5 (.inr ⟨rfl, hr.1, hr.2, by omega⟩)).mono fun e w' ⟨he, hb⟩ => ⟨pa, pl, pc, he, RowP.still hp hb, .inl rfl, hb⟩
  · have e1 : writeErr 20 i s = 2 := by unfold writeErr; rw [if_neg hr]
    have e2 : rawOf 20 i s = [] := if_neg (fun h => hr ⟨h.1, h.2.1⟩)
    rw [e1, e2, List.append_nil]
    refine (ref6Write_bad (hl := 20) ring 2 (.inl ⟨rfl, by omega⟩)).mono fun e w' ⟨he, hb⟩ => ⟨pa, pl, pc, he, RowP.still hp hb, .inl rfl, hb⟩
section
variable {B : Nat} {w w' w'' : World} {bl : Nat} {L : LogS} {d : Dk} {N : Nat} {W : Int → ByteArray} {bb wb mb : Nat} {Z : Two} {hv : Value} {ws : List ByteArray} {n : Nat}
/-- a value that lies beside all, or is new -/
theorem TRel.aside_new (h : TRel B w bl L d N W bb wb mb Z hv ws n) {v : Value} (hv2 : ∀ k, v.ownBlock = some k → w.heap.size ≤ k) : Z.Aside bl L bb wb mb v := fun k hk => by
  have h1 := hv2 k hk
  obtain ⟨l1, l2, l3⟩ := h.at_.lt
  exact ⟨by omega, by omega, by omega, fun hf => by have := h.at_.log.up.at_.foot_lt hf; omega, fun c ho => by have := h.at_.own_lt ho; omega, fun c e => by have := ((h.at_.rowM c).lt k e).2; omega⟩
theorem TRel.aside_out (h : TRel B w bl L d N W bb wb mb Z hv ws n) {b : Bool} {u : World} {pv' : Value} {Q : Puts} (ho : Ref6Out w u (Z.pv b) pv' Q) : Z.Aside bl L bb wb mb pv' := by
  rcases ho.own with e | e
  · exact fun k hk => h.at_.pvN b k (by rw [← e]; exact hk)
  · exact h.aside_new e
/-- a change's puts turned, and the document's -/
theorem TRel.put (h : TRel B w bl L d N W bb wb mb Z hv ws n) (hB : B ≤ w.heap.size) (b : Bool) {T' : TxS} (hst : TxStep (Z.bt b) w (Z.T b) w' T') {Q : Puts} (hp : T'.puts = fullP Q) (hg : ∀ x ∈ Q, 0 ≤ x.1 ∧ x.1 < 20 ∧ x.2.size ≤ 512) (hl : Q.length ≤ n + 1) {pv' hs' : Value} (hrow : RowP w pv' Q) (hap : Z.Aside bl L bb wb mb pv') (hsl : ∃ a l c, hs' = .slice a l c)
    (hk : Keep (fun k => k = wb) w' w'') (hw : w''.heap[wb]? = some (.cells #[upd Z.hs b hs' false, .int .i64 16, upd Z.pv b pv' false, upd Z.hs b hs' true, .int .i64 16, upd Z.pv b pv' true] 39 (0, 0))) :
    TRel B w'' bl L d N W bb wb mb { Z with T := upd Z.T b T', P := upd Z.P b Q, hs := upd Z.hs b hs', pv := upd Z.pv b pv' } hv ws (n + 1) := by
  have h1 := h.at_.txStep hB b hst
  have hap2 := Two.Aside.txStep hap hst (fun k hk2 => (hrow.lt k hk2).2)
  have hrow2 : RowP w' pv' Q := hst.keep.ownsRow hrow (fun k hk2 ho => (hap k hk2).2.2.2.2.1 b ho)
  have h2 := h1.setWant (P' := upd Z.P b Q) (hs' := upd Z.hs b hs') (pv' := upd Z.pv b pv') hk hw (fun c => by
    by_cases hc : c = b
    · subst hc; rw [upd_same, upd_same]; exact hrow2
    · rw [upd_ne _ _ hc, upd_ne _ _ hc]; exact h1.rowP c) (fun c => by
    by_cases hc : c = b
    · subst hc; rw [upd_same]; exact hsl
    · rw [upd_ne _ _ hc]; exact h1.hsl c) (fun c => by
    by_cases hc : c = b
    · subst hc; rw [upd_same]; exact hap2
    · rw [upd_ne _ _ hc]; exact h1.pvN c)
  refine ⟨h2, fun c => ?_, fun c => ?_, fun c => ?_, fun c => Nat.le_succ_of_le (h.lenM c), ?_, Two.Aside.txStep h.hap hst (fun k hk2 => (h.hrow.lt k hk2).2), h.wlen, h.wat, Nat.le_succ_of_le h.hN⟩
  · show (upd Z.T b T' c).puts = fullP (upd Z.P b Q c)
    by_cases hc : c = b
    · subst hc; rw [upd_same, upd_same]; exact hp
    · rw [upd_ne _ _ hc, upd_ne _ _ hc]; exact h.puts c
  · show ∀ x ∈ upd Z.P b Q c, _
    by_cases hc : c = b
    · subst hc; rw [upd_same]; exact hg
    · rw [upd_ne _ _ hc]; exact h.good c
  · show (upd Z.P b Q c).length ≤ n + 1
    by_cases hc : c = b
    · subst hc; rw [upd_same]; exact hl
    · rw [upd_ne _ _ hc]; exact Nat.le_succ_of_le (h.lenP c)
  · exact hk.ownsRow (hst.keep.ownsRow h.hrow (fun k hk2 ho => (h.hap k hk2).2.2.2.2.1 b ho)) (fun k hk2 e => (h.hap k hk2).2.1 e)
/-- a mark kept -/
theorem TRel.mark (h : TRel B w bl L d N W bb wb mb Z hv ws n) (hB : B ≤ w.heap.size) (b : Bool) {v' : Value} {l' : List Int} (hk : Keep (fun k => k = mb ∨ (Z.mv b).ownBlock = some k) w w') (hm : w'.heap[mb]? = some (.cells #[upd Z.mv b v' false, upd Z.mv b v' true] 41 (0, 0)))
    (hr : RowM w' v' l') (hv2 : ∀ k, v'.ownBlock = some k → (Z.mv b).ownBlock = some k ∨ w.heap.size ≤ k) (hl : l'.length ≤ n + 1) : TRel B w' bl L d N W bb wb mb { Z with mv := upd Z.mv b v', M := upd Z.M b l' } hv ws (n + 1) := by
  refine ⟨h.at_.setMarks hB b hk hm hr hv2, h.puts, h.good, fun c => Nat.le_succ_of_le (h.lenP c), fun c => ?_, hk.ownsRow h.hrow (fun k hk2 e => ?_), fun k hk2 => ?_, h.wlen, h.wat, Nat.le_succ_of_le h.hN⟩
  · show (upd Z.M b l' c).length ≤ n + 1
    by_cases hc : c = b
    · subst hc; rw [upd_same]; exact hl
    · rw [upd_ne _ _ hc]; exact Nat.le_succ_of_le (h.lenM c)
  · rcases e with e | e
    · exact (h.hap k hk2).2.2.1 e
    · exact (h.hap k hk2).2.2.2.2.2 b e
  · obtain ⟨a1, a2, a3, a4, a5, a6⟩ := h.hap k hk2
    refine ⟨a1, a2, a3, a4, a5, fun c e => ?_⟩
    have e2 : (upd Z.mv b v' c).ownBlock = some k := e
    by_cases hc : c = b
    · subst hc
      rw [upd_same] at e2
      rcases hv2 k e2 with e3 | e3
      · exact a6 c e3
      · have := (h.hrow.lt k hk2).2; omega
    · rw [upd_ne _ _ hc] at e2
      exact a6 c e2
/-- what a commit leaves of a state -/
def Two.com (Z : Two) (b : Bool) (T' : TxS) (W' : Int → ByteArray) (F : Nat → Prop) : Two := { Z with T := fun c => if c = b then T' else { Z.T c with f := W', Fl := F } }
theorem Two.Aside.com {v : Value} (hv2 : Z.Aside bl L bb wb mb v) {b : Bool} {L' : LogS} {T' : TxS} {W' : Int → ByteArray} (hf : ∀ k, L'.foot bl k → L.foot bl k ∨ w.heap.size ≤ k) (ho : ∀ k, T'.own (Z.bt b) k → Z.own b k ∨ w.heap.size ≤ k) (hl : ∀ k, v.ownBlock = some k → k < w.heap.size) : (Z.com b T' W' (L'.foot bl)).Aside bl L' bb wb mb v := fun k hk => by
  obtain ⟨a1, a2, a3, a4, a5, a6⟩ := hv2 k hk
  have hlt := hl k hk
  refine ⟨a1, a2, a3, fun hf2 => (hf k hf2).elim a4 (fun e => by omega), fun c hc2 => ?_, a6⟩
  have hc3 : (if c = b then T' else { Z.T c with f := W', Fl := L'.foot bl } : TxS).own (Z.bt c) k := hc2
  by_cases hc : c = b
  · subst hc
    rw [if_pos rfl] at hc3
    exact (ho k hc3).elim (a5 c) (fun e => by omega)
  · rw [if_neg hc] at hc3
    exact a5 c hc3
/-- a commit that was refused, or made: the log and the change -/
theorem TRel.com (h : TRel B w bl L d N W bb wb mb Z hv ws n) (hB : B ≤ w.heap.size) (b : Bool) {L' : LogS} {d' : Dk} {T' : TxS} {W' : Int → ByteArray} (hl : LogIn B w' bl L' d' (N + 1) 20 16 W') (ht : OnLog w' (Z.bt b) T' bl L' 20 W') (hk : Keep (fun k => L.foot bl k ∨ Z.own b k) w w')
    (hf : ∀ k, L'.foot bl k → L.foot bl k ∨ w.heap.size ≤ k) (ho : ∀ k, T'.own (Z.bt b) k → Z.own b k ∨ w.heap.size ≤ k) : TwoAt B w' bl L' d' (N + 1) W' bb wb mb (Z.com b T' W' (L'.foot bl)) :=
  h.at_.commit hB b hl ht hk hf ho (fun k hk2 hf2 => ht.at_.own_apart hk2 (by rw [ht.flE]; exact hf2))
theorem homeSays_eq {f g : Int → ByteArray} (p : Puts) (h : ∀ q : Nat, q < 20 → f q = g q) (i : Int) : homeSays 20 (seen p f) i = homeSays 20 (seen p g) i := by
  unfold homeSays homeStr
  by_cases hi : 0 ≤ i ∧ i < (20 : Nat)
  · rw [if_pos hi, if_pos hi]
    have h1 := h i.toNat (by omega)
    rw [Int.toNat_of_nonneg hi.1] at h1
    have h2 : seen p f i = seen p g i := by unfold seen; rw [h1]
    rw [h2]
  · rw [if_neg hi, if_neg hi]
end
end Go.Proofs.YtalgheocjnajlaaGreatDoor

namespace Go.Proofs.YtalgheocjnajlaaGreatDoor
open Go.RowKit Go.MapKept
attribute [local go_sem] gives givesH
set_option maxRecDepth 100000

theorem lastOf_fullP (P : Puts) (i : Int) : lastOf (fullP P) i = (lastOf P i).map fullS := by
  refine snoc_ind (p := fun P => lastOf (fullP P) i = (lastOf P i).map fullS) P rfl (fun P x ih => ?_)
  rw [fullP_snoc, lastOf_snoc, lastOf_snoc, ih]
  by_cases h : x.1 = i
  · rw [if_pos h, if_pos h]; rfl
  · rw [if_neg h, if_neg h]
theorem fullG_fullP {P : Puts} (h : ∀ x ∈ P, x.2.size ≤ 512) : fullG (fullP P) = fullG P := by
  funext i
  unfold fullG
  rw [lastOf_fullP]
  cases hl : lastOf P i with
  | none => rfl
  | some t =>
    have := h _ (lastOf_mem hl)
    show some (fullS (fullS t)) = some (fullS t)
    rw [fullS_full _ (fullS_size _ this)]
theorem cErr_fullP {P : Puts} (h : ∀ x ∈ P, 0 ≤ x.1 ∧ x.1 < 20 ∧ x.2.size ≤ 512) : cErr 20 16 (fullP P) = cErr 20 16 P := by
  have h1 : gErr 20 P = 0 := gErr_zero (fun x hx => h x hx)
  have h2 : gErr 20 (fullP P) = 0 := gErr_zero (fun x hx => by
    unfold fullP at hx
    obtain ⟨y, hy, rfl⟩ := List.mem_map.1 hx
    have := h y hy
    exact ⟨this.1, this.2.1, Nat.le_of_eq (fullS_size _ this.2.2)⟩)
  unfold cErr
  rw [h1, h2, metL_fullP]
section
variable {B : Nat} {w w' w'' : World} {bl : Nat} {L : LogS} {d : Dk} {N : Nat} {W : Int → ByteArray} {bb wb mb : Nat} {Z : Two} {hv : Value} {ws : List ByteArray} {n : Nat}
theorem com_puts {T' : TxS} {b c : Bool} {W' : Int → ByteArray} {F : Nat → Prop} : ((Z.com b T' W' F).T c).puts = if c = b then T'.puts else (Z.T c).puts := by
  unfold Two.com
  simp only
  by_cases hc : c = b
  · rw [if_pos hc, if_pos hc]
  · rw [if_neg hc, if_neg hc]
/-- a commit that is refused -/
theorem TRel.comBad (h : TRel B w bl L d N W bb wb mb Z hv ws n) (hB : B ≤ w.heap.size) (b : Bool) {L' : LogS} {d' : Dk} {T' : TxS} (hl : LogIn B w' bl L' d' (N + 1) 20 16 W) (ht : OnLog w' (Z.bt b) T' bl L' 20 W) (hp : T'.puts = (Z.T b).puts) (hk : Keep (fun k => L.foot bl k ∨ Z.own b k) w w')
    (hf : ∀ k, L'.foot bl k → L.foot bl k ∨ w.heap.size ≤ k) (ho : ∀ k, T'.own (Z.bt b) k → Z.own b k ∨ w.heap.size ≤ k) : TRel B w' bl L' d' (N + 1) W bb wb mb (Z.com b T' W (L'.foot bl)) hv ws (n + 1) := by
  refine ⟨h.com hB b hl ht hk hf ho, fun c => ?_, h.good, fun c => Nat.le_succ_of_le (h.lenP c), fun c => Nat.le_succ_of_le (h.lenM c), hk.ownsRow h.hrow (fun k hk2 e => e.elim (h.hap k hk2).2.2.2.1 ((h.hap k hk2).2.2.2.2.1 b)), Two.Aside.com h.hap hf ho (fun k hk2 => (h.hrow.lt k hk2).2), h.wlen, h.wat, Nat.succ_le_succ h.hN⟩
  rw [com_puts]
  by_cases hc : c = b
  · subst hc; rw [if_pos rfl, hp]; exact h.puts c
  · rw [if_neg hc]; exact h.puts c
/-- a commit that is made -/
theorem TRel.comOk (h : TRel B w bl L d N W bb wb mb Z hv ws n) (hB : B ≤ w.heap.size) (b : Bool) {L' : LogS} {d' : Dk} {T' : TxS} {W' : Int → ByteArray} (hl : LogIn B w' bl L' d' (N + 1) 20 16 W') (ht : OnLog w' (Z.bt b) T' bl L' 20 W') (hp : T'.puts = []) (hk : Keep (fun k => L.foot bl k ∨ Z.own b k) w w')
    (hf : ∀ k, L'.foot bl k → L.foot bl k ∨ w.heap.size ≤ k) (ho : ∀ k, T'.own (Z.bt b) k → Z.own b k ∨ w.heap.size ≤ k) {hv' : Value} {ws' : List ByteArray} (hr : TextsAt w 0 hv' ws') (ha : Z.Aside bl L bb wb mb hv') (hwl : ws'.length = 20) (hat : ∀ q : Nat, q < 20 → W' q = atL ws' q)
    (hk2 : Keep (fun k => k = wb) w' w'') (hw : w''.heap[wb]? = some (.cells #[upd Z.hs b hv' false, .int .i64 16, upd Z.pv b (.slice none 0 0) false, upd Z.hs b hv' true, .int .i64 16, upd Z.pv b (.slice none 0 0) true] 39 (0, 0))) :
    TRel B w'' bl L' d' (N + 1) W' bb wb mb { Z.com b T' W' (L'.foot bl) with P := upd Z.P b [], hs := upd Z.hs b hv', pv := upd Z.pv b (.slice none 0 0) } hv' ws' (n + 1) := by
  have h1 := h.com hB b hl ht hk hf ho
  have hr1 : TextsAt w' 0 hv' ws' := hk.ownsRow hr (fun k hk3 e => e.elim (ha k hk3).2.2.2.1 ((ha k hk3).2.2.2.2.1 b))
  have ha1 := Two.Aside.com (T' := T') (W' := W') ha hf ho (fun k hk3 => (hr.lt k hk3).2)
  have h2 := h1.setWant (P' := upd Z.P b []) (hs' := upd Z.hs b hv') (pv' := upd Z.pv b (.slice none 0 0)) hk2 hw (fun c => by
    by_cases hc : c = b
    · subst hc; rw [upd_same, upd_same]; exact World.ownsRow_nil _ _ _ _
    · rw [upd_ne _ _ hc, upd_ne _ _ hc]; exact h1.rowP c) (fun c => by
    by_cases hc : c = b
    · subst hc
      rw [upd_same]
      obtain ⟨a, c2, e⟩ := slice_formB hr
      exact ⟨a, _, c2, e⟩
    · rw [upd_ne _ _ hc]; exact h1.hsl c) (fun c => by
    by_cases hc : c = b
    · subst hc; rw [upd_same]; exact fun k hk3 => by cases hk3
    · rw [upd_ne _ _ hc]; exact h1.pvN c)
  refine ⟨h2, fun c => ?_, fun c => ?_, fun c => ?_, fun c => Nat.le_succ_of_le (h.lenM c), hk2.ownsRow hr1 (fun k hk3 e => (ha k hk3).2.1 e), ha1, hwl, hat, Nat.succ_le_succ h.hN⟩
  · show ((Z.com b T' W' (L'.foot bl)).T c).puts = fullP (upd Z.P b [] c)
    rw [com_puts]
    by_cases hc : c = b
    · subst hc; rw [if_pos rfl, upd_same, hp]; rfl
    · rw [if_neg hc, upd_ne _ _ hc]; exact h.puts c
  · show ∀ x ∈ upd Z.P b [] c, _
    by_cases hc : c = b
    · subst hc; rw [upd_same]; exact fun x hx => by cases hx
    · rw [upd_ne _ _ hc]; exact h.good c
  · show (upd Z.P b [] c).length ≤ n + 1
    by_cases hc : c = b
    · subst hc; rw [upd_same]; exact Nat.zero_le _
    · rw [upd_ne _ _ hc]; exact Nat.le_succ_of_le (h.lenP c)
/-- a change's puts turned, and then the document's -/
theorem TRel.put2 (h : TRel B w bl L d N W bb wb mb Z hv ws n) (hB : B ≤ w.heap.size) (b : Bool) {w1 w2 : World} {T' : TxS} (hst : TxStep (Z.bt b) w (Z.T b) w1 T') {Q : Puts} (hp : T'.puts = fullP Q) (hg : ∀ x ∈ Q, 0 ≤ x.1 ∧ x.1 < 20 ∧ x.2.size ≤ 512) (hl : Q.length ≤ n + 1) {pv' hs' : Value} (ho : Ref6Out w1 w2 (Z.pv b) pv' Q) (hsl : ∃ a l c, hs' = .slice a l c)
    (hk : Keep (fun k => k = wb) w2 w'') (hw : w''.heap[wb]? = some (.cells #[upd Z.hs b hs' false, .int .i64 16, upd Z.pv b pv' false, upd Z.hs b hs' true, .int .i64 16, upd Z.pv b pv' true] 39 (0, 0))) :
    TRel B w'' bl L d N W bb wb mb { Z with T := upd Z.T b T', P := upd Z.P b Q, hs := upd Z.hs b hs', pv := upd Z.pv b pv' } hv ws (n + 1) := by
  have h1 := (h.at_.txStep hB b hst).still ho.below
  have hsz := hst.keep.size
  have hap2 : ({ Z with T := upd Z.T b T' } : Two).Aside bl L bb wb mb pv' := by
    rcases ho.own with e | e
    · exact fun k hk2 => h1.pvN b k (by rw [show ({ Z with T := upd Z.T b T' } : Two).pv b = Z.pv b from rfl, ← e]; exact hk2)
    · have h0 := h.at_.txStep hB b hst
      obtain ⟨l1, l2, l3⟩ := h0.lt
      exact fun k hk2 => by
        have := e k hk2
        exact ⟨by omega, by omega, by omega, fun hf => by have := h0.log.up.at_.foot_lt hf; omega, fun c ho2 => by have := h0.own_lt ho2; omega, fun c e2 => by have := ((h0.rowM c).lt k e2).2; omega⟩
  have h2 := h1.setWant (P' := upd Z.P b Q) (hs' := upd Z.hs b hs') (pv' := upd Z.pv b pv') hk hw (fun c => by
    by_cases hc : c = b
    · subst hc; rw [upd_same, upd_same]; exact ho.row
    · rw [upd_ne _ _ hc, upd_ne _ _ hc]; exact h1.rowP c) (fun c => by
    by_cases hc : c = b
    · subst hc; rw [upd_same]; exact hsl
    · rw [upd_ne _ _ hc]; exact h1.hsl c) (fun c => by
    by_cases hc : c = b
    · subst hc; rw [upd_same]; exact hap2
    · rw [upd_ne _ _ hc]; exact h1.pvN c)
  refine ⟨h2, fun c => ?_, fun c => ?_, fun c => ?_, fun c => Nat.le_succ_of_le (h.lenM c), ?_, Two.Aside.txStep h.hap hst (fun k hk2 => (h.hrow.lt k hk2).2), h.wlen, h.wat, Nat.le_succ_of_le h.hN⟩
  · show (upd Z.T b T' c).puts = fullP (upd Z.P b Q c)
    by_cases hc : c = b
    · subst hc; rw [upd_same, upd_same]; exact hp
    · rw [upd_ne _ _ hc, upd_ne _ _ hc]; exact h.puts c
  · show ∀ x ∈ upd Z.P b Q c, _
    by_cases hc : c = b
    · subst hc; rw [upd_same]; exact hg
    · rw [upd_ne _ _ hc]; exact h.good c
  · show (upd Z.P b Q c).length ≤ n + 1
    by_cases hc : c = b
    · subst hc; rw [upd_same]; exact hl
    · rw [upd_ne _ _ hc]; exact Nat.le_succ_of_le (h.lenP c)
  · exact hk.ownsRow ((Keep.ofBelow (S := fun _ => False) ho.below).ownsRow (hst.keep.ownsRow h.hrow (fun k hk2 ho => (h.hap k hk2).2.2.2.2.1 b ho)) (fun _ _ e => e)) (fun k hk2 e => (h.hap k hk2).2.1 e)
end
end Go.Proofs.YtalgheocjnajlaaGreatDoor
