/-
  Lists of lists that came in: puts, lists of puts, acts of layer 5.
-/
import Derived.Test.YtalgheocjnajlaaGreatDoorOpenS
import Derived.Test.YtalgheocjnajlaaGreatDoorCat
namespace Go.Proofs.YtalgheocjnajlaaGreatDoor
open Go.ChangeShapes Go.WideShapes Go.ChangeAt Go.RowKit Go.Joins
set_option maxRecDepth 100000

section
variable {H : Type} {enc : TypeId × Value → H} {W : World}
/-- no greater than memory -/
def Fits (t : TypeId) (d : DataW H) : Prop := ∀ n ∈ d.weights Tryz.prog t, n ≤ reachBytes
theorem weightsAll_mem {e : TypeId} : ∀ {ds : List (DataW H)} {d : DataW H}, d ∈ ds → ∀ n ∈ d.weights Tryz.prog e, n ∈ DataW.weightsAll Tryz.prog e ds
  | d0 :: r, d, hd, n, hn => by
    simp only [DataW.weightsAll, List.mem_append]
    rcases List.mem_cons.1 hd with rfl | hd
    · exact .inl hn
    · exact .inr (weightsAll_mem hd n hn)
/-- a cell that holds a slice -/
theorem open_cell {t e : TypeId} {n : Nat} {u : Value} {x : DataW H × List MemPlace} (C : Nat) (hpos : 0 < C) (ht : Tryz.prog.underlying t = some (.slice e)) (hC : Tryz.prog.cellsOf e = C)
    (h : DataW.trod enc Tryz.prog W 0 (fun _ => true) true n t [u] = some x) (hw : Fits t x.1) :
    u = .slice none 0 0 ∨ ∃ (ad : Addr) (len cap b off : Nat) (cs : Nat → List Value), u = .slice (some ad) len cap ∧ (len ≤ maxLen ∧ len * Tryz.prog.bytesOf e ≤ reachBytes) ∧ (0 < len → ad = ⟨b, off, none⟩ ∧ b < W.heap.size) ∧
      ∀ k, k < len → (cs k).length = C ∧ (∀ j, j < C → W.cell? ⟨b, off + k * C + j, none⟩ = (cs k)[j]?) ∧ ∃ n x, DataW.trod enc Tryz.prog W 0 (fun _ => true) true n e (cs k) = some x ∧ Fits e x.1 := by
  rcases Go.Deep.open_slice ht h with ⟨hcs, _⟩ | ⟨a, len, cap, m, n, D, Pl, hcs, _, hl, hm, hmm, hx, hi⟩
  · exact .inl (by simpa using hcs)
  · right
    have hu : u = .slice (some a) len cap := by simpa using hcs
    have hby : len * Tryz.prog.bytesOf e ≤ reachBytes := by
      have h1 := hw ((((List.range len).map D).length + ((List.range (m - len)).map fun j => D (len + j)).length) * Tryz.prog.bytesOf e) (by rw [hx]; simp [DataW.weights, ht])
      rw [List.length_map, List.length_range] at h1
      exact Nat.le_trans (Nat.mul_le_mul_right _ (Nat.le_add_right _ _)) h1
    have hfit : ∀ k, k < len → Fits e (D k) := fun k hk n hn => by
      refine hw n ?_
      rw [hx]
      simp only [DataW.weights, ht, List.mem_cons, List.mem_append]
      exact .inr (.inl (weightsAll_mem (List.mem_map.2 ⟨k, by simpa using hk, rfl⟩) n hn))
    simp only [if_true] at hmm
    rw [hC] at hi
    obtain ⟨b, off, spot⟩ := a
    have hex : ∀ k, ∃ cs' : List Value, k < len → W.cells? 0 ((⟨b, off, spot⟩ : Addr).add (k * C)) C = some cs' ∧ DataW.trod enc Tryz.prog W 0 (fun _ => true) true n e cs' = some (D k, Pl k) := fun k => by
      by_cases hk : k < len
      · obtain ⟨cs', h1, h2⟩ := hi k (by omega)
        exact ⟨cs', fun _ => ⟨h1, h2⟩⟩
      · exact ⟨[], fun h => absurd h hk⟩
    obtain ⟨cs, hcs⟩ := Classical.skolem.1 hex
    have hcell : ∀ k, k < len → (cs k).length = C ∧ ∀ j, j < C → W.cell? (((⟨b, off, spot⟩ : Addr).add (k * C)).add j) = (cs k)[j]? := fun k hk => (World.cells?_some (hcs k hk).1).2
    have hspot : 0 < len → spot = none ∧ b < W.heap.size := fun h0 => by
      obtain ⟨h1, h2⟩ := hcell 0 h0
      have h3 := h2 0 hpos
      rw [List.getElem?_eq_getElem (by omega)] at h3
      have hsp : spot = none := by simpa [Addr.add] using World.cell?_spot h3
      subst hsp
      have := World.block_lt_of_cell? _ _ h3
      refine ⟨rfl, ?_⟩
      simpa [Addr.add] using this
    refine ⟨_, len, cap, b, off, cs, hu, ⟨by omega, hby⟩, fun h0 => ?_, fun k hk => ⟨(hcell k hk).1, fun j hj => ?_, _, _, (hcs k hk).2, hfit k hk⟩⟩
    · obtain ⟨rfl, hb⟩ := hspot h0
      exact ⟨rfl, hb⟩
    · obtain ⟨rfl, hb⟩ := hspot (by omega)
      rw [← (hcell k hk).2 j hj]
      rw [add_none, add_none]
theorem fieldS {e : TypeId} {fs : Array Field} (he : Tryz.prog.underlying e = some (.struct fs)) (hone : Go.Deep.oneCellFields Tryz.prog fs = true) {n : Nat} {cs : List Value} {x : DataW H × List MemPlace}
    (h : DataW.trod enc Tryz.prog W 0 (fun _ => true) true n e cs = some x) (hw : Fits e x.1) (hl : cs.length = fs.size) (j : Nat) (f : Field) (hj : fs[j]? = some f) :
    ∃ m u y, cs[j]? = some u ∧ DataW.trod enc Tryz.prog W 0 (fun _ => true) true m f.type [u] = some y ∧ Fits f.type y.1 := by
  obtain ⟨ys, m, _, hx, _, hyl, hf⟩ := DataW.trod_struct he h
  obtain ⟨ho, hk⟩ := Go.Deep.hone_of hone j f hj
  have hjl : j < fs.size := (Array.getElem?_eq_some_iff.1 hj).1
  have h1 := hf j f hj
  rw [ho, hk, List.drop_eq_getElem_cons (by omega), List.getElem?_eq_getElem (by omega)] at h1
  refine ⟨m, _, _, List.getElem?_eq_getElem (by omega), h1, fun n hn => hw n ?_⟩
  rw [hx]
  simp only [DataW.weights, he]
  refine DataW.weights_mem_each (j := j) (t := f.type) (d := (ys[j]'(by omega)).1) ?_ ?_ n hn
  · rw [List.getElem?_map, Array.getElem?_toList, hj]; rfl
  · rw [List.getElem?_map, List.getElem?_eq_getElem (by omega)]; rfl
theorem map_range_get {α : Type} (f : Nat → α) (n k : Nat) (x : α) (h : ((List.range n).map f)[k]? = some x) : k < n ∧ x = f k := by
  rw [List.getElem?_map] at h
  by_cases hk : k < n
  · rw [List.getElem?_range hk] at h
    exact ⟨hk, (Option.some.inj h).symm⟩
  · rw [List.getElem?_eq_none (by simpa using hk)] at h
    cases h
/-- a list of Booleans -/
def BoolsAt (w : World) (B : Nat) (v : Value) (l : List Bool) : Prop :=
  ∃ a b off cap, v = .slice a l.length cap ∧ (0 < l.length → a = some ⟨b, off, none⟩ ∧ b < B) ∧ ∀ k, k < l.length → w.cell? ⟨b, off + k, none⟩ = some (.bool (l.getD k false))
theorem BoolsAt.still {w u : World} {B : Nat} {v : Value} {l : List Bool} (h : BoolsAt w B v l) (hb : Below B w u) : BoolsAt u B v l := by
  obtain ⟨a, b, off, cap, h1, h2, h3⟩ := h
  exact ⟨a, b, off, cap, h1, h2, fun k hk => by rw [hb.cell (p := ⟨b, off + k, none⟩) (h2 (by omega)).2]; exact h3 k hk⟩
/-- texts no longer than memory -/
def Sizes (p : Puts) : Prop := p.length ≤ 140737488355328 ∧ ∀ x ∈ p, x.2.size ≤ 9223372036854775807
def SizesL (ps : List Puts) : Prop := ps.length ≤ 140737488355328 ∧ ∀ p ∈ ps, Sizes p
theorem SizesL.flat {ps : List Puts} (h : SizesL ps) : ∀ x ∈ ps.flatten, x.2.size ≤ 9223372036854775807 := fun x hx => by
  obtain ⟨p, hp, hxp⟩ := List.mem_flatten.1 hx
  exact (h.2 p hp).2 x hxp
theorem open_puts {n : Nat} {u : Value} {x : DataW H × List MemPlace} (h : DataW.trod enc Tryz.prog W 0 (fun _ => true) true n 36 [u] = some x) (hw : Fits 36 x.1) : ∃ p, PutsAt W W.heap.size u p ∧ Sizes p := by
  rcases open_cell 2 (by decide) Tryz.underlying36 (by kernel_rfl) h hw with rfl | ⟨ad, len, cap, b, off, cs, rfl, hl, ha, hc⟩
  · exact ⟨[], .inl ⟨rfl, rfl⟩, Nat.zero_le _, fun x hx => by cases hx⟩
  · have hlen : len ≤ 140737488355328 := by
      have h1 := hl.2
      have h2 : Tryz.prog.bytesOf 60 = 24 := by kernel_rfl
      rw [h2] at h1
      unfold reachBytes at h1
      omega
    have key : ∀ k, k < len → W.cell? ⟨b, off + k * 2, none⟩ = some (.int .i64 (cInt (cs k) 0)) ∧ W.cell? ⟨b, off + k * 2 + 1, none⟩ = some (.string (cStr (cs k) 1)) ∧ (cStr (cs k) 1).size ≤ 9223372036854775807 := fun k hk => by
      obtain ⟨h1, h2, m, y, h3, _⟩ := hc k hk
      have f0 := field_int Tryz.underlying60 (by kernel_rfl) h3 h1 0 _ rfl Tryz.underlying3
      have f1 := field_str Tryz.underlying60 (by kernel_rfl) h3 h1 1 _ rfl Tryz.underlying9
      exact ⟨(h2 0 (by decide)).trans f0.1, (h2 1 (by decide)).trans f1.1, f1.2⟩
    refine ⟨(List.range len).map (fun k => (cInt (cs k) 0, cStr (cs k) 1)), .inr ⟨ad, b, off, cap, by simp, fun h0 => ha (by simpa using h0), fun k x hx => ?_⟩, by simpa using hlen, fun x hx => ?_⟩
    · obtain ⟨hk, rfl⟩ := map_range_get _ _ _ _ hx
      exact ⟨(key k hk).1, (key k hk).2.1⟩
    · obtain ⟨k, hk, rfl⟩ := List.mem_map.1 hx
      exact (key k (by simpa using hk)).2.2
theorem open_lists {n : Nat} {u : Value} {x : DataW H × List MemPlace} (h : DataW.trod enc Tryz.prog W 0 (fun _ => true) true n 109 [u] = some x) (hw : Fits 109 x.1) : ∃ ps, ListsAt W W.heap.size u ps ∧ SizesL ps := by
  rcases open_cell 1 (by decide) Tryz.underlying109 (by kernel_rfl) h hw with rfl | ⟨ad, len, cap, b, off, cs, rfl, hl, ha, hc⟩
  · exact ⟨[], .inl ⟨rfl, rfl⟩, Nat.zero_le _, fun x hx => by cases hx⟩
  · have hlen : len ≤ 140737488355328 := by
      have h1 := hl.2
      have h2 : Tryz.prog.bytesOf 36 = 24 := by kernel_rfl
      rw [h2] at h1
      unfold reachBytes at h1
      omega
    have hex : ∀ k, ∃ (p : Puts) (vk : Value), k < len → W.cell? ⟨b, off + k, none⟩ = some vk ∧ PutsAt W W.heap.size vk p ∧ Sizes p := fun k => by
      by_cases hk : k < len
      · obtain ⟨h1, h2, m, y, h3, hwk⟩ := hc k hk
        obtain ⟨vk, hvk⟩ : ∃ vk, cs k = [vk] := List.length_eq_one_iff.1 h1
        rw [hvk] at h3
        obtain ⟨p, hp, hs⟩ := open_puts h3 hwk
        refine ⟨p, vk, fun _ => ⟨?_, hp, hs⟩⟩
        have h5 := h2 0 (by decide)
        rw [Nat.mul_one, Nat.add_zero, hvk] at h5
        exact h5
      · exact ⟨[], undef, fun h => absurd h hk⟩
    obtain ⟨p, hp⟩ := Classical.skolem.1 hex
    obtain ⟨vs, hvs⟩ := Classical.skolem.1 hp
    refine ⟨(List.range len).map p, .inr ⟨ad, b, off, cap, vs, by simp, fun h0 => ha (by simpa using h0), fun k y hy => ?_⟩, by simpa using hlen, fun y hy => ?_⟩
    · obtain ⟨hk, rfl⟩ := map_range_get _ _ _ _ hy
      exact ⟨(hvs k hk).1, (hvs k hk).2.1⟩
    · obtain ⟨k, hk, rfl⟩ := List.mem_map.1 hy
      exact (hvs k (by simpa using hk)).2.2
end
end Go.Proofs.YtalgheocjnajlaaGreatDoor

