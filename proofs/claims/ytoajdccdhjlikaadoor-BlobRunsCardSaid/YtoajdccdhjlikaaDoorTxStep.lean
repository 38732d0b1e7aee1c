/-
  CHANGES (tx): what a put leaves in memory.
-/
import Derived.Test.YtoajdccdhjlikaaDoorTxRead
import Derived.Deep.AppendLies
namespace Go.Proofs.YtoajdccdhjlikaaDoor
open Go.RowKit Go.MapKept
attribute [local go_sem] gives

theorem infoInt : (Tryd.prog.info? 3).map (fun i => (i.zero, i.size, i.bytes)) = some (some (.int .i64 0), 1, 8) := by kernel_rfl
theorem infoPut : (Tryd.prog.info? 88).map (fun i => (i.zero, i.size, i.bytes)) = some (some (.agg #[.int .i64 0, .string ⟨#[]⟩]), 2, 24) := by kernel_rfl

/-- a change turned: what is left as it was, and what has come -/
structure TxStep (bt : Nat) (w : World) (T : TxS) (w' : World) (T' : TxS) : Prop where
  at_ : TxAt w' bt T'
  bl : T'.bl = T.bl
  n : T'.n = T.n
  f : T'.f = T.f
  Fl : T'.Fl = T.Fl
  keep : Keep (T.own bt) w w'
  own : ∀ k, T'.own bt k → T.own bt k ∨ w.heap.size ≤ k
theorem TxStep.refl {bt : Nat} {w : World} {T : TxS} (h : TxAt w bt T) : TxStep bt w T w T := ⟨h, rfl, rfl, rfl, rfl, Keep.refl _ _, fun _ h => .inl h⟩
theorem TxStep.trans {bt : Nat} {w w' w'' : World} {T T' T'' : TxS} (h : TxStep bt w T w' T') (k : TxStep bt w' T' w'' T'') : TxStep bt w T w'' T'' :=
  ⟨k.at_, k.bl.trans h.bl, k.n.trans h.n, k.f.trans h.f, k.Fl.trans h.Fl, h.keep.trans k.keep (fun i hi hs => (h.own i hs).resolve_right (by omega)),
   fun i hi => (k.own i hi).elim (h.own i) (fun hge => .inr (Nat.le_trans h.keep.size hge))⟩
theorem TxStep.still {bt : Nat} {w u : World} {T : TxS} (h : TxAt w bt T) (hb : Below w.heap.size w u) : TxStep bt w T u T := ⟨h.still hb, rfl, rfl, rfl, rfl, Keep.ofBelow hb, fun _ h => .inl h⟩

def TxS.slot (T : TxS) (i : Int) : Value := (T.g i).getD (.slice none 0 0)
theorem TxAt.slot {w : World} {bt : Nat} {T : TxS} (h : TxAt w bt T) (i : Int) : w.ownsRow 0 3 1 (T.slot i) (posns T.puts i).length ((posns T.puts i).map (fun k => Value.int .i64 (k : Nat))) := by
  unfold TxS.slot
  by_cases hp : posns T.puts i = []
  · rw [h.none_ i hp, hp]; exact World.ownsRow_nil _ _ _ _
  · obtain ⟨v, hv, ho⟩ := h.some_ i hp
    rw [hv]; exact ho
theorem TxS.slot_some {T : TxS} {i : Int} {k : Nat} (h : (T.slot i).ownBlock = some k) : ∃ v, T.g i = some v ∧ v.ownBlock = some k := by
  unfold TxS.slot at h
  cases hg : T.g i with
  | none => rw [hg] at h; cases h
  | some v => rw [hg] at h; exact ⟨v, rfl, h⟩
theorem TxAt.slot_ne {w : World} {bt : Nat} {T : TxS} (h : TxAt w bt T) {i : Int} {k : Nat} (hk : (T.slot i).ownBlock = some k) : k ≠ bt ∧ k ≠ T.bw ∧ ¬ T.Fl k ∧ T.rowv.ownBlock ≠ some k := by
  obtain ⟨v, hv, hvk⟩ := TxS.slot_some hk
  exact h.lists i v k hv hvk
theorem posns_le (p : Puts) (i : Int) : (posns p i).length ≤ p.length := by
  unfold posns
  have := List.length_filter_le (fun k => decide ((p[k]?.map (·.1)) = some i)) (List.range p.length)
  simpa using this

def TxS.put (T : TxS) (i : Int) (s : ByteArray) (v' rowv' : Value) (ng' : Nat) : TxS := { T with puts := T.puts ++ [(i, s)], rowv := rowv', g := putAt T.g i v', ng := ng' }

/-- what a put leaves, from what its operations leave -/
theorem put_step {w : World} {bt : Nat} {T : TxS} (h : TxAt w bt T) {i : Int} {s : ByteArray} (hi : 0 ≤ i ∧ i < T.n) (hs : s.size = 512)
    {u3 u4 u7 : World} {v' rowv' : Value} {ng' : Nat}
    (k3' : Keep (fun k => (T.slot i).ownBlock = some k) w u3)
    (hown3 : u3.ownsRow 0 3 1 v' ((posns T.puts i).length + 1) ((posns T.puts i).map (fun k => Value.int .i64 (k : Nat)) ++ [.int .i64 (T.puts.length : Nat)]))
    (hloc3 : v'.ownBlock = (T.slot i).ownBlock ∨ ∃ k, v'.ownBlock = some k ∧ w.heap.size ≤ k)
    (hm4 : IMap u4 T.bw (putAt T.g i v') ng') (hk4 : Keep (· = T.bw) u3 u4)
    (k47 : Keep (fun k => T.rowv.ownBlock = some k) u4 u7)
    (hown7 : u7.ownsRow 0 88 2 rowv' (T.puts.length + 1) (writeCells T.puts ++ [.int .i64 i, .string s]))
    (hloc7 : rowv'.ownBlock = T.rowv.ownBlock ∨ ∃ k, rowv'.ownBlock = some k ∧ u3.heap.size ≤ k) :
    TxStep bt w T (u7.setCell ⟨bt, 1, none⟩ rowv') (T.put i s v' rowv' ng') := by
  have hbt : bt < w.heap.size := (Array.getElem?_eq_some_iff.1 h.cells).1
  have hbw : T.bw < w.heap.size := h.where_.lt
  have s3 := k3'.size
  have s4 := hk4.size
  have hslot : ∀ k, (T.slot i).ownBlock = some k → k ≠ bt ∧ k ≠ T.bw ∧ ¬ T.Fl k ∧ T.rowv.ownBlock ≠ some k ∧ k < w.heap.size := fun k hk => by
    obtain ⟨v, hv, hvk⟩ := TxS.slot_some hk
    obtain ⟨a, b, c, d⟩ := h.lists i v k hv hvk
    exact ⟨a, b, c, d, ((h.slot i).lt k hk).2⟩
  have hrow : ∀ k, T.rowv.ownBlock = some k → k ≠ bt ∧ k ≠ T.bw ∧ ¬ T.Fl k ∧ k < w.heap.size := fun k hk => by
    obtain ⟨a, b, c⟩ := h.apart.2.2.2 k hk
    exact ⟨a, b, c, (h.row.lt k hk).2⟩
  -- what has turned, exactly
  let S0 : Nat → Prop := fun k => k = T.bw ∨ T.rowv.ownBlock = some k ∨ (T.slot i).ownBlock = some k
  have k3 : Keep S0 w u3 := k3'.mono (fun k _ e => .inr (.inr e))
  have k4 : Keep S0 w u4 := k3.trans hk4 (fun k _ e => .inl e)
  have k7 : Keep S0 w u7 := k4.trans k47 (fun k _ e => .inr (.inl e))
  have nbt : ¬ S0 bt := by
    rintro (e | e | e)
    · exact h.apart.1 e
    · exact (hrow _ e).1 rfl
    · exact (hslot _ e).1 rfl
  have c7 : u7.heap[bt]? = some (.cells #[.pointer (some ⟨T.bl, 0, none⟩), T.rowv, .map (some T.bw)] 102 (0, 0)) := k7.at h.cells nbt
  have kset : Keep (· = bt) u7 (u7.setCell ⟨bt, 1, none⟩ rowv') := (Keep.refl (· = bt) u7).setCell (p := ⟨bt, 1, none⟩) (fun _ => rfl) _
  have kall : Keep (fun k => S0 k ∨ k = bt) w (u7.setCell ⟨bt, 1, none⟩ rowv') := (k7.mono (fun _ _ e => .inl e)).trans kset (fun _ _ e => .inr e)
  have hv'lt : ∀ k, v'.ownBlock = some k → k < u3.heap.size := fun k hk => (hown3.lt k hk).2
  have hv'ne : ∀ k, v'.ownBlock = some k → k ≠ bt ∧ k ≠ T.bw ∧ ¬ T.Fl k ∧ T.rowv.ownBlock ≠ some k ∧ ((T.slot i).ownBlock = some k ∨ w.heap.size ≤ k) := fun k hk => by
    rcases hloc3 with e | e
    · obtain ⟨a, b, c, d, _⟩ := hslot k (e ▸ hk)
      exact ⟨a, b, c, d, .inl (e ▸ hk)⟩
    · obtain ⟨k', e, hge⟩ := e
      have : k = k' := by rw [e] at hk; exact (Option.some.inj hk).symm
      refine ⟨by omega, by omega, fun hf => ?_, fun hr => ?_, .inr (by omega)⟩
      · have := h.log.lt hf; omega
      · have := (hrow k hr).2.2.2; omega
  have hrv'ne : ∀ k, rowv'.ownBlock = some k → k ≠ bt ∧ k ≠ T.bw ∧ ¬ T.Fl k ∧ (T.rowv.ownBlock = some k ∨ u3.heap.size ≤ k) := fun k hk => by
    rcases hloc7 with e | e
    · obtain ⟨a, b, c, _⟩ := hrow k (e ▸ hk)
      exact ⟨a, b, c, .inl (e ▸ hk)⟩
    · obtain ⟨k', e, hge⟩ := e
      have : k = k' := by rw [e] at hk; exact (Option.some.inj hk).symm
      refine ⟨by omega, by omega, fun hf => ?_, .inr (by omega)⟩
      have := h.log.lt hf; omega
  refine ⟨⟨?_, ?_, ?_, ?_, ?_, ?_, ?_, ?_, ?_, ?_⟩, rfl, rfl, rfl, rfl, ?_, ?_⟩
  · show (u7.setCell ⟨bt, 1, none⟩ rowv').heap[bt]? = some (.cells #[.pointer (some ⟨T.bl, 0, none⟩), rowv', .map (some T.bw)] 102 (0, 0))
    simp [World.setCell, Array.getElem?_modify, c7]
  · refine h.log.keep kall (fun k hf e => ?_)
    rcases e with (e | e | e) | e
    · exact h.apart.2.2.1 (e ▸ hf)
    · exact (hrow _ e).2.2.1 hf
    · exact (hslot _ e).2.2.1 hf
    · exact h.apart.2.1 (e ▸ hf)
  · show World.ownsRow _ 0 88 2 rowv' (T.puts ++ [(i, s)]).length (writeCells (T.puts ++ [(i, s)]))
    have e1 : writeCells (T.puts ++ [(i, s)]) = writeCells T.puts ++ [.int .i64 i, .string s] := by simp [writeCells]
    rw [e1, List.length_append]
    exact kset.ownsRow hown7 (fun k hk e => (hrv'ne k hk).1 e)
  · refine (hm4.keep k47 (fun e => (hrow _ e).2.1 rfl)).keep kset (fun e => h.apart.1 e.symm)
  · intro j hj
    show putAt T.g i v' j = none
    rw [show (T.put i s v' rowv' ng').puts = T.puts ++ [(i, s)] from rfl, posns_snoc] at hj
    obtain ⟨hj1, hj2⟩ := List.append_eq_nil_iff.1 hj
    have hne : ¬ j = i := fun e => by rw [if_pos e.symm] at hj2; cases hj2
    unfold putAt
    rw [if_neg hne]
    exact h.none_ j hj1
  · intro j hj
    show ∃ v, putAt T.g i v' j = some v ∧ World.ownsRow _ 0 3 1 v (posns (T.puts ++ [(i, s)]) j).length _
    rw [show (T.put i s v' rowv' ng').puts = T.puts ++ [(i, s)] from rfl] at hj ⊢
    rw [posns_snoc] at hj ⊢
    by_cases hji : j = i
    · subst hji
      refine ⟨v', by simp [putAt], ?_⟩
      rw [if_pos rfl, List.length_append, List.map_append]
      have o4 := hk4.ownsRow hown3 (fun k hk e => (hv'ne k hk).2.1 e)
      have o7 := k47.ownsRow o4 (fun k hk e => (hv'ne k hk).2.2.2.1 e)
      exact kset.ownsRow o7 (fun k hk e => (hv'ne k hk).1 e)
    · rw [if_neg (fun e => hji e.symm), List.append_nil] at hj ⊢
      obtain ⟨v, hv, ho⟩ := h.some_ j hj
      refine ⟨v, by simp [putAt, hji, hv], kall.ownsRow ho (fun k hk e => ?_)⟩
      obtain ⟨a, b, c, d⟩ := h.lists j v k hv hk
      rcases e with (e | e | e) | e
      · exact b e
      · exact d e
      · obtain ⟨v2, hv2, hk2⟩ := TxS.slot_some e
        exact h.each j i v v2 k hv hv2 hji hk hk2
      · exact a e
  · refine ⟨h.apart.1, h.apart.2.1, h.apart.2.2.1, fun k hk => ?_⟩
    obtain ⟨a, b, c, _⟩ := hrv'ne k hk
    exact ⟨a, b, c⟩
  · intro j v k hv hk
    show k ≠ bt ∧ k ≠ T.bw ∧ ¬ T.Fl k ∧ rowv'.ownBlock ≠ some k
    have hv2 : putAt T.g i v' j = some v := hv
    unfold putAt at hv2
    by_cases hji : j = i
    · rw [if_pos hji] at hv2
      cases hv2
      obtain ⟨a, b, c, d, _⟩ := hv'ne k hk
      refine ⟨a, b, c, fun e => ?_⟩
      have hlt := hv'lt k hk
      rcases (hrv'ne k e).2.2.2 with e | e
      · exact d e
      · omega
    · rw [if_neg hji] at hv2
      obtain ⟨a, b, c, d⟩ := h.lists j v k hv2 hk
      refine ⟨a, b, c, fun e => ?_⟩
      have hne : posns T.puts j ≠ [] := fun hp => by rw [h.none_ j hp] at hv2; cases hv2
      obtain ⟨v2, hv3, ho⟩ := h.some_ j hne
      rw [hv2] at hv3
      cases hv3
      have hlt := (ho.lt k hk).2
      rcases (hrv'ne k e).2.2.2 with e | e
      · exact d e
      · omega
  · intro j j' v v2 k hv hv2 hjj hk hk2
    have e1 : putAt T.g i v' j = some v := hv
    have e2 : putAt T.g i v' j' = some v2 := hv2
    unfold putAt at e1 e2
    have old : ∀ j v, T.g j = some v → v.ownBlock = some k → j ≠ i → v'.ownBlock = some k → False := fun j v hv hk hji hvk => by
      have hne : posns T.puts j ≠ [] := fun hp => by rw [h.none_ j hp] at hv; cases hv
      obtain ⟨v3, hv3, ho⟩ := h.some_ j hne
      rw [hv] at hv3
      cases hv3
      have hlt := (ho.lt k hk).2
      rcases (hv'ne k hvk).2.2.2.2 with e | e
      · obtain ⟨v4, hv4, hk4⟩ := TxS.slot_some e
        exact h.each j i v v4 k hv hv4 hji hk hk4
      · omega
    by_cases hji : j = i
    · rw [if_pos hji] at e1
      cases e1
      rw [if_neg (fun e => hjj (hji.trans e.symm))] at e2
      exact old j' v2 e2 hk2 (fun e => hjj (hji.trans e.symm)) hk
    · rw [if_neg hji] at e1
      by_cases hji' : j' = i
      · rw [if_pos hji'] at e2
        cases e2
        exact old j v e1 hk hji hk2
      · rw [if_neg hji'] at e2
        exact h.each j j' v v2 k e1 e2 hjj hk hk2
  · intro x hx
    rcases List.mem_append.1 hx with hx | hx
    · exact h.good x hx
    · obtain rfl : x = (i, s) := by simpa using hx
      exact ⟨hi.1, hi.2, hs⟩
  · refine kall.mono (fun k _ e => ?_)
    rcases e with (e | e | e) | e
    · exact .inr (.inl e)
    · exact .inr (.inr (.inl e))
    · exact .inr (.inr (.inr ((TxS.slot_some e).elim fun v hv => ⟨i, v, hv.1, hv.2⟩)))
    · exact .inl e
  · intro k hk
    rcases hk with e | e | e | ⟨j, v, hv, e⟩
    · exact .inl (.inl e)
    · exact .inl (.inr (.inl e))
    · rcases (hrv'ne k e).2.2.2 with e | e
      · exact .inl (.inr (.inr (.inl e)))
      · exact .inr (by omega)
    · have e1 : putAt T.g i v' j = some v := hv
      unfold putAt at e1
      by_cases hji : j = i
      · rw [if_pos hji] at e1
        cases e1
        rcases (hv'ne k e).2.2.2.2 with e | e
        · exact .inl (.inr (.inr (.inr ((TxS.slot_some e).elim fun v hv => ⟨i, v, hv.1, hv.2⟩))))
        · exact .inr e
      · rw [if_neg hji] at e1
        exact .inl (.inr (.inr (.inr ⟨j, v, e1, e⟩)))

end Go.Proofs.YtoajdccdhjlikaaDoor
