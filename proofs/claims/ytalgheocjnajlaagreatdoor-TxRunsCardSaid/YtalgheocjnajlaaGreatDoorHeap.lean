/-
  HEAPS: which blocks have turned (Keep), maps whose keys are numbers (IMap), memory of the call's own.
-/
import Derived.Maps.OwnIn
import Derived.Maps.OwnSet
import Derived.Maps.AppendAt
import Derived.Lib.Hide
namespace Go.Proofs.YtalgheocjnajlaaGreatDoor
open Go.RowKit Go.MapKept
open Go.ChangeMaps (setBlock heap_setBlock_same heap_setBlock_other)
open Go.Maps (Keyed)

/-- Only blocks of S, and new ones, have turned. -/
structure Keep (S : Nat → Prop) (w w' : World) : Prop where
  os : w'.os = w.os
  tape : w'.tape = w.tape
  output : w'.output = w.output
  size : w.heap.size ≤ w'.heap.size
  block : ∀ k, k < w.heap.size → ¬ S k → w'.heap[k]? = w.heap[k]?

theorem Keep.refl (S : Nat → Prop) (w : World) : Keep S w w := ⟨rfl, rfl, rfl, Nat.le_refl _, fun _ _ _ => rfl⟩
theorem Keep.trans {S S' : Nat → Prop} {a b c : World} (h : Keep S a b) (k : Keep S' b c) (hs : ∀ i, i < a.heap.size → S' i → S i) : Keep S a c :=
  ⟨k.os.trans h.os, k.tape.trans h.tape, k.output.trans h.output, Nat.le_trans h.size k.size,
   fun i hi hn => (k.block i (Nat.lt_of_lt_of_le hi h.size) (fun e => hn (hs i hi e))).trans (h.block i hi hn)⟩
theorem Keep.mono {S S' : Nat → Prop} {a b : World} (h : Keep S a b) (hs : ∀ i, i < a.heap.size → S i → S' i) : Keep S' a b :=
  (Keep.refl S' a).trans h hs
theorem Keep.ofBelow {S : Nat → Prop} {w w' : World} (h : Below w.heap.size w w') : Keep S w w' := ⟨h.os, h.tape, h.output, h.size, fun k hk _ => h.block k hk⟩
theorem Keep.below {S : Nat → Prop} {w w' : World} {B : Nat} (h : Keep S w w') (hB : B ≤ w.heap.size) (hs : ∀ i, i < B → ¬ S i) : Below B w w' :=
  ⟨h.os, h.tape, h.output, h.size, fun k hk => h.block k (by omega) (hs k hk)⟩
theorem Keep.alloc {S : Nat → Prop} {a w : World} (h : Keep S a w) (o : Obj) : Keep S a (w.alloc o) :=
  h.trans (Keep.ofBelow ((Below.refl _ _).alloc (Nat.le_refl _) o)) (S' := S) (fun _ _ h => h)
theorem Keep.drew {S : Nat → Prop} {a w : World} (h : Keep S a w) : Keep S a w.drew := ⟨h.os, h.tape, h.output, h.size, h.block⟩
theorem Keep.setCell {S : Nat → Prop} {a w : World} (h : Keep S a w) {p : Addr} (hp : p.block < a.heap.size → S p.block) (u : Value) : Keep S a (w.setCell p u) :=
  h.trans (S' := fun k => k = p.block) ⟨rfl, rfl, rfl, by simp [World.setCell], fun k hk hn => Below.heap_setCell _ _ _ _ hn⟩ (fun i hi e => e ▸ hp (e ▸ hi))
theorem Keep.grown {S : Nat → Prop} {a w w' : World} {row : Option Nat} (h : Keep S a w) (hg : w.grownBy w' row) (hr : ∀ k, k < a.heap.size → row = some k → S k) : Keep S a w' :=
  h.trans (S' := fun k => row = some k) ⟨hg.os, hg.tape, hg.output, hg.size, fun k hk hn => hg.block k hk (fun e => hn e.symm)⟩ (fun i hi e => hr i hi e)
theorem Keep.at {S : Nat → Prop} {w w' : World} (h : Keep S w w') {b : Nat} {o : Obj} (hb : w.heap[b]? = some o) (hn : ¬ S b) : w'.heap[b]? = some o :=
  (h.block b (Array.getElem?_eq_some_iff.1 hb).1 hn).trans hb

/-- Block b is a map whose keys are the numbers where g has something. -/
def IMap (w : World) (b : Nat) (g : Int → Option Value) (n : Nat) : Prop :=
  ∃ es clock, w.heap[b]? = some (.map es clock) ∧ Stamped es clock ∧ es.size = n ∧
    (∀ x ∈ es.toList, ∃ i, x.key = .int .i64 i ∧ (Lit.int .i64 i).wf = true) ∧ ∀ i v, g i = some v ↔ ∃ x ∈ es.toList, x.key = .int .i64 i ∧ x.val = v

section
variable {P : Program} {k : TypeId} {w : World} {b n : Nat} {g : Int → Option Value}

theorem IMap.lt (h : IMap w b g n) : b < w.heap.size := by
  obtain ⟨es, c, hb, _⟩ := h
  exact (Array.getElem?_eq_some_iff.1 hb).1
theorem IMap.congr (h : IMap w b g n) {w' : World} (hb : w'.heap[b]? = w.heap[b]?) : IMap w' b g n := by
  obtain ⟨es, c, hb', r⟩ := h
  exact ⟨es, c, hb.trans hb', r⟩
theorem IMap.keep (h : IMap w b g n) {S : Nat → Prop} {w' : World} (hk : Keep S w w') (hn : ¬ S b) : IMap w' b g n := h.congr (hk.block b h.lt hn)
theorem IMap_made (w : World) : IMap (w.alloc (.map #[] 0)) w.heap.size (fun _ => none) 0 :=
  ⟨#[], 0, (MapKept.heap_alloc w _).1, stamped_empty 0, rfl, by simp, by simp⟩

theorem keyOf_i64 (hk : P.underlying k = some (.int .i64)) {i : Int} (hi : (Lit.int .i64 i).wf = true) : keyOf P k (.int .i64 i) = some (.int .i64 i) := by
  simp [keyOf, mapKey, hk, hi]

theorem IMap.run_lookup (h : IMap w b g n) (hk : P.underlying k = some (.int .i64)) {t e : TypeId} (ht : P.underlying t = some (.map k e)) {z : Value} (hz : (zeroValue e).run P w = .ok z w)
    {i : Int} (hi : (Lit.int .i64 i).wf = true) (c : Bool) :
    (Instr.lookup t (.map (some b)) (.int .i64 i) c).run P w = .ok (if c then .tuple #[(g i).getD z, .bool (g i).isSome] else (g i).getD z) w := by
  obtain ⟨es, clock, hb, hs, hn, hkeys, hg⟩ := h
  have K : Keyed P k := Maps.int_keyed hk
  have hkey := keyOf_i64 hk hi
  rcases K.find w hkey es.toList (fun x hx => by obtain ⟨j, h1, h2⟩ := hkeys x hx; exact ⟨_, h1 ▸ keyOf_i64 hk h2⟩) with ⟨h1, h2⟩ | ⟨j, e0, h1, h2, h3⟩
  · have : g i = none := by
      cases hgi : g i with
      | none => rfl
      | some v => obtain ⟨x, hx, hxk, _⟩ := (hg i v).1 hgi; exact absurd hxk (h2 x hx)
    simp [Instr.lookup, run_underlying ht, MapKept.run_getObj_map hb, K.check w _ hkey, h1, hz, Result.andThen, this]
  · have : g i = some e0.val := (hg i _).2 ⟨e0, List.mem_of_getElem? h2, h3, rfl⟩
    simp [Instr.lookup, run_underlying ht, MapKept.run_getObj_map hb, K.check w _ hkey, h1, Result.andThen, this]

/-- g with v at i -/
def putAt (g : Int → Option Value) (i : Int) (v : Value) : Int → Option Value := fun j => if j = i then some v else g j
def dropAt (g : Int → Option Value) (i : Int) : Int → Option Value := fun j => if j = i then none else g j

theorem setBlock_keep {b : Nat} (hb : b < w.heap.size) (o : Obj) : Keep (· = b) w (setBlock w b o) :=
  ⟨rfl, rfl, rfl, by simp [setBlock], fun i _ hi => (heap_set (Array.getElem?_eq_getElem hb)).2 i hi⟩

theorem IMap.run_update (h : IMap w b g n) (hk : P.underlying k = some (.int .i64)) {t e : TypeId} (ht : P.underlying t = some (.map k e))
    {i : Int} (hi : (Lit.int .i64 i).wf = true) (v : Value) :
    ∃ w', (Instr.mapUpdate t (.map (some b)) (.int .i64 i) v).run P w = .ok () w' ∧ IMap w' b (putAt g i v) (if (g i).isSome then n else n + 1) ∧ Keep (· = b) w w' ∧ w'.heap.size = w.heap.size ∧ w'.drawn = w.drawn := by
  have hlt := h.lt
  obtain ⟨es, clock, hb, hs, hn, hkeys, hg⟩ := h
  have K : Keyed P k := Maps.int_keyed hk
  have hkey := keyOf_i64 hk hi
  rcases K.find w hkey es.toList (fun x hx => by obtain ⟨j, h1, h2⟩ := hkeys x hx; exact ⟨_, h1 ▸ keyOf_i64 hk h2⟩) with ⟨h1, h2⟩ | ⟨j, e0, h1, h2, h3⟩
  · have hgi : g i = none := by
      cases hgi : g i with
      | none => rfl
      | some v => obtain ⟨x, hx, hxk, _⟩ := (hg i v).1 hgi; exact absurd hxk (h2 x hx)
    refine ⟨setBlock w b (.map (es.push ⟨.int .i64 i, v, clock⟩) (clock + 1)), ?_, ⟨_, _, heap_setBlock_same hb _, stamped_push hs h2, ?_, ?_, ?_⟩, setBlock_keep hlt _, ?_, ?_⟩
    · simp [Instr.mapUpdate, run_underlying ht, MapKept.run_getObj_map hb, K.check w false hkey, h1, MapKept.run_setObj_map _ hb, Result.andThen, setBlock]
    · simp [hgi, hn]
    · intro x hx
      simp only [Array.toList_push, List.mem_append, List.mem_singleton] at hx
      rcases hx with hx | rfl
      · exact hkeys x hx
      · exact ⟨i, rfl, hi⟩
    · intro j u
      simp only [putAt, Array.toList_push, List.mem_append, List.mem_singleton]
      by_cases hj : j = i
      · subst hj
        simp only [if_true, Option.some.injEq]
        constructor
        · rintro rfl; exact ⟨_, Or.inr rfl, rfl, rfl⟩
        · rintro ⟨x, hx | rfl, hxk, hxv⟩
          · exact absurd hxk (h2 x hx)
          · exact hxv
      · rw [if_neg hj, hg]
        constructor
        · rintro ⟨x, hx, hxk, hxv⟩; exact ⟨x, Or.inl hx, hxk, hxv⟩
        · rintro ⟨x, hx | rfl, hxk, hxv⟩
          · exact ⟨x, hx, hxk, hxv⟩
          · simp at hxk; exact absurd hxk.symm hj
    · simp [setBlock]
    · simp [setBlock]
  · have hm : e0 ∈ es.toList := List.mem_of_getElem? h2
    have hgi : g i = some e0.val := (hg i _).2 ⟨e0, hm, h3, rfl⟩
    have hje : es[j]? = some e0 := by rw [← Array.getElem?_toList]; exact h2
    have hjs : j < es.size := (Array.getElem?_eq_some_iff.1 hje).1
    have hk0 : ∀ e, es[j]? = some e → ({ e with key := Value.int .i64 i, val := v } : MapEntry).key = e.key := fun e he => by
      rw [hje] at he; cases he; exact h3.symm
    have hkk := modify_keys (es := es) j (fun e => { e with key := Value.int .i64 i, val := v }) hk0
    have hmem : ∀ x, x ∈ (es.modify j (fun e => { e with key := Value.int .i64 i, val := v })).toList ↔ (x ∈ es.toList ∧ x.key ≠ .int .i64 i) ∨ x = { e0 with key := .int .i64 i, val := v } := by
      intro x
      have hnd := ((stamped_iff es clock).1 hs).2.2
      rw [List.mem_iff_getElem?, List.mem_iff_getElem?]
      have hget : ∀ a : Nat, (es.modify j (fun e => { e with key := Value.int .i64 i, val := v })).toList[a]? = if j = a then es[a]?.map (fun e => { e with key := Value.int .i64 i, val := v }) else es[a]? := fun a => by
        rw [Array.getElem?_toList, Array.getElem?_modify]
      constructor
      · rintro ⟨a, ha⟩
        rw [hget] at ha
        by_cases hja : j = a
        · subst hja
          rw [if_pos rfl, hje] at ha
          simp at ha
          exact Or.inr ha.symm
        · rw [if_neg hja] at ha
          refine Or.inl ⟨⟨a, by rw [Array.getElem?_toList]; exact ha⟩, fun hxk => ?_⟩
          have hal : a < es.toList.length := by simpa using (Array.getElem?_eq_some_iff.1 ha).1
          have hjl : j < es.toList.length := by simpa using hjs
          have e1 : es.toList[a] = x := by have := (Array.getElem?_eq_some_iff.1 ha).2; simpa using this
          have e2 : es.toList[j] = e0 := by have := (Array.getElem?_eq_some_iff.1 hje).2; simpa using this
          rw [List.pairwise_iff_getElem] at hnd
          rcases Nat.lt_or_gt_of_ne hja with hlt' | hlt'
          · exact hnd j a hjl hal hlt' (by rw [e1, e2, h3, hxk])
          · exact hnd a j hal hjl hlt' (by rw [e1, e2, h3, hxk])
      · rintro (⟨⟨a, ha⟩, hxk⟩ | rfl)
        · refine ⟨a, ?_⟩
          rw [hget, if_neg, ← Array.getElem?_toList]; exact ha
          rintro rfl
          rw [h2] at ha; cases ha; exact hxk h3
        · exact ⟨j, by rw [hget, if_pos rfl, hje]; rfl⟩
    refine ⟨setBlock w b (.map (es.modify j (fun e => { e with key := .int .i64 i, val := v })) clock), ?_, ⟨_, _, heap_setBlock_same hb _, stamped_modify hs j _ (fun _ _ => rfl) (fun e _ he => hk0 e he), ?_, ?_, ?_⟩, setBlock_keep hlt _, ?_, ?_⟩
    · have hg0 : ((es[j]?).map (·.key)).getD (.int .i64 i) = .int .i64 i := by rw [hje]; simpa using h3
      simp [Instr.mapUpdate, run_underlying ht, MapKept.run_getObj_map hb, K.check w false hkey, h1, hg0, K.stays w hkey, MapKept.run_setObj_map _ hb, Result.andThen, setBlock]
    · simp [hgi, hn]
    · intro x hx
      rcases (hmem x).1 hx with ⟨hx, _⟩ | rfl
      · exact hkeys x hx
      · exact ⟨i, rfl, hi⟩
    · intro a u
      simp only [putAt]
      by_cases ha : a = i
      · subst ha
        simp only [if_true, Option.some.injEq]
        constructor
        · rintro rfl; exact ⟨_, (hmem _).2 (Or.inr rfl), rfl, rfl⟩
        · rintro ⟨x, hx, hxk, hxv⟩
          rcases (hmem x).1 hx with ⟨_, hne⟩ | rfl
          · exact absurd hxk hne
          · exact hxv
      · rw [if_neg ha, hg]
        constructor
        · rintro ⟨x, hx, hxk, hxv⟩
          exact ⟨x, (hmem x).2 (Or.inl ⟨hx, by rw [hxk]; simpa using ha⟩), hxk, hxv⟩
        · rintro ⟨x, hx, hxk, hxv⟩
          rcases (hmem x).1 hx with ⟨hx, _⟩ | rfl
          · exact ⟨x, hx, hxk, hxv⟩
          · simp at hxk; exact absurd hxk.symm ha
    · simp [setBlock]
    · simp [setBlock]

theorem IMap.run_delete (h : IMap w b g n) (hk : P.underlying k = some (.int .i64)) {t e ty : TypeId} (ht : P.underlying t = some (.map k e))
    {i : Int} (hi : (Lit.int .i64 i).wf = true) :
    ∃ w', (Builtin.delete_ #[t, k] ty #[.map (some b), .int .i64 i]).run P w = .ok (.tuple #[]) w' ∧ IMap w' b (dropAt g i) (if (g i).isSome then n - 1 else n) ∧ Keep (· = b) w w' ∧ w'.heap.size = w.heap.size ∧ w'.drawn = w.drawn := by
  have hlt := h.lt
  obtain ⟨es, clock, hb, hs, hn, hkeys, hg⟩ := h
  have K : Keyed P k := Maps.int_keyed hk
  have hkey := keyOf_i64 hk hi
  rcases K.find w hkey es.toList (fun x hx => by obtain ⟨j, h1, h2⟩ := hkeys x hx; exact ⟨_, h1 ▸ keyOf_i64 hk h2⟩) with ⟨h1, h2⟩ | ⟨j, e0, h1, h2, h3⟩
  · have hgi : g i = none := by
      cases hgi : g i with
      | none => rfl
      | some v => obtain ⟨x, hx, hxk, _⟩ := (hg i v).1 hgi; exact absurd hxk (h2 x hx)
    refine ⟨setBlock w b (.map es clock), ?_, ⟨_, _, heap_setBlock_same hb _, hs, ?_, hkeys, ?_⟩, setBlock_keep hlt _, ?_, ?_⟩
    · simp [Builtin.delete_, run_underlying ht, MapKept.run_getObj_map hb, K.check w _ hkey, h1, MapKept.run_setObj_map _ hb, Result.andThen, setBlock]
    · simp [hgi, hn]
    · intro a u
      simp only [dropAt]
      by_cases ha : a = i
      · subst ha
        simp only [if_true, reduceCtorEq, false_iff]
        rintro ⟨x, hx, hxk, _⟩
        exact h2 x hx hxk
      · rw [if_neg ha, hg]
    · simp [setBlock]
    · simp [setBlock]
  · have hm : e0 ∈ es.toList := List.mem_of_getElem? h2
    have hgi : g i = some e0.val := (hg i _).2 ⟨e0, hm, h3, rfl⟩
    have hjl : j < es.toList.length := (List.getElem?_eq_some_iff.1 h2).1
    have hjs : j < es.size := by simpa using hjl
    have hsub : (es.eraseIdxIfInBounds j).toList = es.toList.eraseIdx j := by
      unfold Array.eraseIdxIfInBounds
      rw [dif_pos hjs]
      simp
    have hnd := ((stamped_iff es clock).1 hs).2.2
    have hmem : ∀ x, x ∈ (es.eraseIdxIfInBounds j).toList ↔ x ∈ es.toList ∧ x.key ≠ .int .i64 i := by
      intro x
      rw [hsub, List.mem_eraseIdx_iff_getElem?]
      rw [List.pairwise_iff_getElem] at hnd
      have e2 : es.toList[j] = e0 := (List.getElem?_eq_some_iff.1 h2).2
      constructor
      · rintro ⟨a, hne, ha⟩
        refine ⟨List.mem_of_getElem? ha, fun hxk => ?_⟩
        obtain ⟨hal, e1⟩ := List.getElem?_eq_some_iff.1 ha
        rcases Nat.lt_or_gt_of_ne hne with hlt' | hlt'
        · exact hnd a j hal hjl hlt' (by rw [e1, e2, h3, hxk])
        · exact hnd j a hjl hal hlt' (by rw [e1, e2, h3, hxk])
      · rintro ⟨hx, hne⟩
        obtain ⟨a, ha⟩ := List.mem_iff_getElem?.1 hx
        refine ⟨a, ?_, ha⟩
        rintro rfl
        rw [h2] at ha; cases ha; exact hne h3
    refine ⟨setBlock w b (.map (es.eraseIdxIfInBounds j) clock), ?_, ⟨_, _, heap_setBlock_same hb _, stamped_erase hs j, ?_, ?_, ?_⟩, setBlock_keep hlt _, ?_, ?_⟩
    · simp [Builtin.delete_, run_underlying ht, MapKept.run_getObj_map hb, K.check w _ hkey, h1, MapKept.run_setObj_map _ hb, Result.andThen, setBlock]
    · have : (es.eraseIdxIfInBounds j).toList.length = n - 1 := by rw [hsub, List.length_eraseIdx_of_lt hjl]; simp [hn]
      rw [Array.length_toList] at this
      simpa [hgi] using this
    · intro x hx
      exact hkeys x ((hmem x).1 hx).1
    · intro a u
      simp only [dropAt]
      by_cases ha : a = i
      · subst ha
        simp only [if_true, reduceCtorEq, false_iff]
        rintro ⟨x, hx, hxk, _⟩
        exact ((hmem x).1 hx).2 hxk
      · rw [if_neg ha, hg]
        constructor
        · rintro ⟨x, hx, hxk, hxv⟩
          exact ⟨x, (hmem x).2 ⟨hx, by rw [hxk]; simpa using ha⟩, hxk, hxv⟩
        · rintro ⟨x, hx, hxk, hxv⟩
          exact ⟨x, ((hmem x).1 hx).1, hxk, hxv⟩
    · simp [setBlock]
    · simp [setBlock]

theorem IMap.run_len (h : IMap w b g n) {t e ty : TypeId} (ht : P.underlying t = some (.map k e)) : (Builtin.len_ #[t] ty #[.map (some b)]).run P w = .ok (.int .i64 n) w := by
  obtain ⟨es, clock, hb, hs, hn, hkeys, hg⟩ := h
  simp [Builtin.len_, run_underlying ht, MapKept.run_getObj_map hb, goInt, Result.andThen, hn]
end

/-- three new blocks -/
theorem new3 (w : World) (o1 o2 o3 : Obj) : (((w.alloc o1).alloc o2).alloc o3).heap[w.heap.size]? = some o1 ∧ (((w.alloc o1).alloc o2).alloc o3).heap[w.heap.size + 1]? = some o2 ∧
    (((w.alloc o1).alloc o2).alloc o3).heap[w.heap.size + 1 + 1]? = some o3 ∧ Below w.heap.size w (((w.alloc o1).alloc o2).alloc o3) := by
  refine ⟨?_, ?_, ?_, ?_⟩
  · rw [Below.heap_alloc _ _ _ (by simp; omega), Below.heap_alloc _ _ _ (by simp), heap_alloc_new]
  · rw [Below.heap_alloc _ _ _ (by simp)]
    have := heap_alloc_new (w.alloc o1) o2
    rwa [World.size_alloc] at this
  · have := heap_alloc_new ((w.alloc o1).alloc o2) o3
    rwa [World.size_alloc, World.size_alloc] at this
  · exact (((Below.refl _ _).alloc (Nat.le_refl _) _).alloc (by simp) _).alloc (by simp; omega) _

theorem IMap_empty {w : World} {b : Nat} (h : w.heap[b]? = some (.map #[] 0)) : IMap w b (fun _ => none) 0 := ⟨#[], 0, h, stamped_empty 0, rfl, by simp, by simp⟩

theorem wrapI {n : Int} (h1 : -9223372036854775808 ≤ n) (h2 : n ≤ 9223372036854775807) : IntKind.i64.wrap n = n := by rw [IntKind.wrap_i64]; omega

end Go.Proofs.YtalgheocjnajlaaGreatDoor
