/-
  Texts of this claim, one behind the other: OpenS OpenF OpR.
-/
import Derived.Test.YtankngomgjlfkaaGreatDoorM5
import Derived.Deep.Slices
import Derived.Deep.Fields
import Derived.SizedLaws
import Derived.ChangeSlices
import Derived.Lib.SmallJoins
namespace Go.Proofs.YtankngomgjlfkaaGreatDoor
open Go.ChangeShapes Go.WideShapes Go.ChangeAt Go.RowKit Go.Joins
set_option maxRecDepth 100000

theorem add_none (b off i : Nat) : (⟨b, off, none⟩ : Addr).add i = ⟨b, off + i, none⟩ := by unfold Addr.add; split <;> simp_all
def cInt (cs : List Value) (j : Nat) : Int := match cs[j]? with | some (.int _ z) => z | _ => 0
def cStr (cs : List Value) (j : Nat) : ByteArray := match cs[j]? with | some (.string s) => s | _ => ⟨#[]⟩
theorem field_of {H : Type} {enc : TypeId × Value → H} {W : World} {e : TypeId} {fs : Array Field} (he : Tryz.prog.underlying e = some (.struct fs)) (hone : Go.Deep.oneCellFields Tryz.prog fs = true) {n : Nat} {cs : List Value} {x : DataW H × List MemPlace}
    (h : DataW.trod enc Tryz.prog W 0 (fun _ => true) true n e cs = some x) (hl : cs.length = fs.size) (j : Nat) (f : Field) (hj : fs[j]? = some f) :
    ∃ m u y, cs[j]? = some u ∧ DataW.trod enc Tryz.prog W 0 (fun _ => true) true m f.type [u] = some y := by
  obtain ⟨ys, m, _, _, _, hyl, hf⟩ := DataW.trod_struct he h
  obtain ⟨ho, hk⟩ := Go.Deep.hone_of hone j f hj
  have hjl : j < fs.size := (Array.getElem?_eq_some_iff.1 hj).1
  have h1 := hf j f hj
  rw [ho, hk, List.drop_eq_getElem_cons (by omega), List.getElem?_eq_getElem (by omega)] at h1
  exact ⟨m, _, _, List.getElem?_eq_getElem (by omega), h1⟩
theorem field_int {H : Type} {enc : TypeId × Value → H} {W : World} {e : TypeId} {fs : Array Field} (he : Tryz.prog.underlying e = some (.struct fs)) (hone : Go.Deep.oneCellFields Tryz.prog fs = true) {n : Nat} {cs : List Value} {x : DataW H × List MemPlace}
    (h : DataW.trod enc Tryz.prog W 0 (fun _ => true) true n e cs = some x) (hl : cs.length = fs.size) (j : Nat) (f : Field) (hj : fs[j]? = some f) {k : IntKind} (ht : Tryz.prog.underlying f.type = some (.int k)) :
    cs[j]? = some (.int k (cInt cs j)) ∧ (Lit.int k (cInt cs j)).wf = true := by
  obtain ⟨m, u, y, h1, h2⟩ := field_of he hone h hl j f hj
  obtain ⟨z, hz, _, hw⟩ := DataW.trod_int ht h2
  obtain rfl : u = .int k z := by simpa using hz
  have e1 : cInt cs j = z := by unfold cInt; rw [h1]
  rw [e1]
  exact ⟨h1, hw⟩
theorem field_str {H : Type} {enc : TypeId × Value → H} {W : World} {e : TypeId} {fs : Array Field} (he : Tryz.prog.underlying e = some (.struct fs)) (hone : Go.Deep.oneCellFields Tryz.prog fs = true) {n : Nat} {cs : List Value} {x : DataW H × List MemPlace}
    (h : DataW.trod enc Tryz.prog W 0 (fun _ => true) true n e cs = some x) (hl : cs.length = fs.size) (j : Nat) (f : Field) (hj : fs[j]? = some f) (ht : Tryz.prog.underlying f.type = some .string) :
    cs[j]? = some (.string (cStr cs j)) ∧ (cStr cs j).size ≤ 9223372036854775807 := by
  obtain ⟨m, u, y, h1, h2⟩ := field_of he hone h hl j f hj
  obtain ⟨z, hz, _, hw⟩ := DataW.trod_string ht h2
  obtain rfl : u = .string z := by simpa using hz
  have e1 : cStr cs j = z := by unfold cStr; rw [h1]
  rw [e1]
  exact ⟨h1, hw⟩
end Go.Proofs.YtankngomgjlfkaaGreatDoor

namespace Go.Proofs.YtankngomgjlfkaaGreatDoor
open Go.ChangeShapes Go.WideShapes Go.ChangeAt Go.RowKit Go.Joins
set_option maxRecDepth 100000

section
variable {H : Type} {enc : TypeId × Value → H} {W : World}
def FitsD (t : TypeId) (d : DataW H) : Prop := ∀ n ∈ d.weights Tryz.prog t, n ≤ reachBytes
theorem weightsAll_mem {e : TypeId} : ∀ {ds : List (DataW H)} {d : DataW H}, d ∈ ds → ∀ n ∈ d.weights Tryz.prog e, n ∈ DataW.weightsAll Tryz.prog e ds
  | d0 :: r, d, hd, n, hn => by
    simp only [DataW.weightsAll, List.mem_append]
    rcases List.mem_cons.1 hd with rfl | hd
    · exact .inl hn
    · exact .inr (weightsAll_mem hd n hn)
theorem open_cell {t e : TypeId} {n : Nat} {u : Value} {x : DataW H × List MemPlace} (C : Nat) (hpos : 0 < C) (ht : Tryz.prog.underlying t = some (.slice e)) (hC : Tryz.prog.cellsOf e = C)
    (h : DataW.trod enc Tryz.prog W 0 (fun _ => true) true n t [u] = some x) (hw : FitsD t x.1) :
    u = .slice none 0 0 ∨ ∃ (ad : Addr) (len cap b off : Nat) (cs : Nat → List Value), u = .slice (some ad) len cap ∧ (len ≤ maxLen ∧ len * Tryz.prog.bytesOf e ≤ reachBytes) ∧ (0 < len → ad = ⟨b, off, none⟩ ∧ b < W.heap.size) ∧
      ∀ k, k < len → (cs k).length = C ∧ (∀ j, j < C → W.cell? ⟨b, off + k * C + j, none⟩ = (cs k)[j]?) ∧ ∃ n x, DataW.trod enc Tryz.prog W 0 (fun _ => true) true n e (cs k) = some x ∧ FitsD e x.1 := by
  rcases Go.Deep.open_slice ht h with ⟨hcs, _⟩ | ⟨a, len, cap, m, n, D, Pl, hcs, _, hl, hm, hmm, hx, hi⟩
  · exact .inl (by simpa using hcs)
  · right
    have hu : u = .slice (some a) len cap := by simpa using hcs
    have hby : len * Tryz.prog.bytesOf e ≤ reachBytes := by
      have h1 := hw ((((List.range len).map D).length + ((List.range (m - len)).map fun j => D (len + j)).length) * Tryz.prog.bytesOf e) (by rw [hx]; simp [DataW.weights, ht])
      rw [List.length_map, List.length_range] at h1
      exact Nat.le_trans (Nat.mul_le_mul_right _ (Nat.le_add_right _ _)) h1
    have hfit : ∀ k, k < len → FitsD e (D k) := fun k hk n hn => by
      refine hw n ?_
      rw [hx]
      simp only [DataW.weights, ht, List.mem_cons, List.mem_append]
      exact .inr (.inl (weightsAll_mem (List.mem_map.2 ⟨k, by simpa using hk, rfl⟩) n hn))
    simp only [if_true] at hmm
    rw [hC] at hi
    obtain ⟨b, off, spot⟩ := a
    have hex : ∀ k, ∃ cs' : List Value, k < len → W.cells? 0 ((⟨b, off, spot⟩ : Addr).add (k * C)) C = some cs' ∧ DataW.trod enc Tryz.prog W 0 (fun _ => true) true n e cs' = some (D k, Pl k) := fun k => by
      by_cases hk : k < len
      · obtain ⟨cs', h1, h2⟩ := hi k (by omega)
        exact ⟨cs', fun _ => ⟨h1, h2⟩⟩
      · exact ⟨[], fun h => absurd h hk⟩
    obtain ⟨cs, hcs⟩ := Classical.skolem.1 hex
    have hcell : ∀ k, k < len → (cs k).length = C ∧ ∀ j, j < C → W.cell? (((⟨b, off, spot⟩ : Addr).add (k * C)).add j) = (cs k)[j]? := fun k hk => (World.cells?_some (hcs k hk).1).2
    have hspot : 0 < len → spot = none ∧ b < W.heap.size := fun h0 => by
      obtain ⟨h1, h2⟩ := hcell 0 h0
      have h3 := h2 0 hpos
      rw [List.getElem?_eq_getElem (by omega)] at h3
      have hsp : spot = none := by simpa [Addr.add] using World.cell?_spot h3
      subst hsp
      have := World.block_lt_of_cell? _ _ h3
      refine ⟨rfl, ?_⟩
      simpa [Addr.add] using this
    refine ⟨_, len, cap, b, off, cs, hu, ⟨by omega, hby⟩, fun h0 => ?_, fun k hk => ⟨(hcell k hk).1, fun j hj => ?_, _, _, (hcs k hk).2, hfit k hk⟩⟩
    · obtain ⟨rfl, hb⟩ := hspot h0
      exact ⟨rfl, hb⟩
    · obtain ⟨rfl, hb⟩ := hspot (by omega)
      rw [← (hcell k hk).2 j hj]
      rw [add_none, add_none]
theorem map_range_get {α : Type} (f : Nat → α) (n k : Nat) (x : α) (h : ((List.range n).map f)[k]? = some x) : k < n ∧ x = f k := by
  rw [List.getElem?_map] at h
  by_cases hk : k < n
  · rw [List.getElem?_range hk] at h
    exact ⟨hk, (Option.some.inj h).symm⟩
  · rw [List.getElem?_eq_none (by simpa using hk)] at h
    cases h
end
end Go.Proofs.YtankngomgjlfkaaGreatDoor

namespace Go.Proofs.YtankngomgjlfkaaGreatDoor
open Go.ChangeShapes Go.WideShapes Go.ChangeAt Go.RowKit Go.Joins
set_option maxRecDepth 100000

section
variable {H : Type} {enc : TypeId × Value → H} {W : World}
theorem open_refs {v : Value} {d : DataW H} {p : List MemPlace} (hv : ∃ u, v.cells = #[u] ∧ u = v) (h : DataW.Trod enc Tryz.prog W 0 (fun _ => true) true 22 v d p) (hw : FitsD 22 d) : ∃ A, RefsAt W W.heap.size v A := by
  obtain ⟨fuel, hf⟩ := h
  obtain ⟨u, hu, rfl⟩ := hv
  rw [hu] at hf
  rcases open_cell 2 (by decide) Tryz.underlying22 (by kernel_rfl) hf hw with rfl | ⟨ad, len, cap, b, off, cs, rfl, hl, ha, hc⟩
  · exact ⟨[], Nat.zero_le _, .inl ⟨rfl, rfl⟩⟩
  · refine ⟨(List.range len).map (fun k => (cStr (cs k) 0, cInt (cs k) 1)), by simpa using hl.1, .inr ⟨ad, b, off, cap, by simp, fun h0 => ?_, fun k x hx => ?_⟩⟩
    · have := ha (by simpa using h0)
      exact ⟨this.1, this.2⟩
    · obtain ⟨hk, rfl⟩ := map_range_get _ _ _ _ hx
      obtain ⟨h1, h2, m, y, h3, _⟩ := hc k hk
      have f0 := field_str Tryz.underlying25 (by kernel_rfl) h3 h1 0 _ rfl Tryz.underlying9
      have f1 := field_int Tryz.underlying25 (by kernel_rfl) h3 h1 1 _ rfl Tryz.underlying3
      exact ⟨(h2 0 (by decide)).trans f0.1, (h2 1 (by decide)).trans f1.1⟩
end
end Go.Proofs.YtankngomgjlfkaaGreatDoor
