/-
  Slices of structs that came in.
-/
import Derived.Test.YtalgheocjnajlaaGreatDoorShell
import Derived.Deep.Slices
import Derived.Deep.Fields
import Derived.SizedLaws
import Derived.ChangeSlices
import Derived.Lib.SmallJoins
namespace Go.Proofs.YtalgheocjnajlaaGreatDoor
open Go.ChangeShapes Go.WideShapes Go.ChangeAt Go.RowKit Go.Joins
set_option maxRecDepth 100000

theorem add_none (b off i : Nat) : (⟨b, off, none⟩ : Addr).add i = ⟨b, off + i, none⟩ := by unfold Addr.add; split <;> simp_all
theorem open_rows {H : Type} {enc : TypeId × Value → H} {W : World} {base : Nat} {r : Reach} {t e : TypeId} {v : Value} {d : DataW H} {p : List MemPlace} (C : Nat) (hpos : 0 < C) (ht : Tryz.prog.underlying t = some (.slice e)) (hC : Tryz.prog.cellsOf e = C)
    (hv : Value.okWide Tryz.prog W r base t v) (h : DataW.Trod enc Tryz.prog W 0 (fun _ => true) true t v d p) :
    ∃ (a : Option Addr) (len cap b off : Nat) (cs : Nat → List Value), v = .slice a len cap ∧ len ≤ 9223372036854775807 ∧ (0 < len → a = some ⟨b, off, none⟩ ∧ b < W.heap.size) ∧
      ∀ k, k < len → (cs k).length = C ∧ (∀ j, j < C → W.cell? ⟨b, off + k * C + j, none⟩ = (cs k)[j]?) ∧ ∃ n x, DataW.trod enc Tryz.prog W 0 (fun _ => true) true n e (cs k) = some x := by
  obtain ⟨a0, len, cap, rfl⟩ := okWide_slice ht hv
  obtain ⟨fuel, hf⟩ := h
  rcases Go.Deep.open_slice ht hf with ⟨hcs, _⟩ | ⟨a, len', cap', m, n, D, Pl, hcs, _, hl, hm, hmm, _, hi⟩
  · simp [Value.cells] at hcs
    obtain ⟨rfl, rfl, rfl⟩ := hcs
    exact ⟨none, 0, 0, 0, 0, fun _ => [], rfl, by omega, fun h => by omega, fun k h => by omega⟩
  · simp [Value.cells] at hcs
    obtain ⟨rfl, rfl, rfl⟩ := hcs
    simp only [if_true] at hmm
    rw [hC] at hi
    obtain ⟨b, off, spot⟩ := a
    unfold maxLen at hm
    have hex : ∀ k, ∃ cs' : List Value, k < len → W.cells? 0 ((⟨b, off, spot⟩ : Addr).add (k * C)) C = some cs' ∧ DataW.trod enc Tryz.prog W 0 (fun _ => true) true n e cs' = some (D k, Pl k) := fun k => by
      by_cases hk : k < len
      · obtain ⟨cs', h1, h2⟩ := hi k (by omega)
        exact ⟨cs', fun _ => ⟨h1, h2⟩⟩
      · exact ⟨[], fun h => absurd h hk⟩
    obtain ⟨cs, hcs⟩ := Classical.skolem.1 hex
    have hcell : ∀ k, k < len → (cs k).length = C ∧ ∀ j, j < C → W.cell? (((⟨b, off, spot⟩ : Addr).add (k * C)).add j) = (cs k)[j]? := fun k hk => (World.cells?_some (hcs k hk).1).2
    have hspot : 0 < len → spot = none ∧ b < W.heap.size := fun h0 => by
      obtain ⟨h1, h2⟩ := hcell 0 h0
      have h3 := h2 0 hpos
      rw [List.getElem?_eq_getElem (by omega)] at h3
      have hsp : spot = none := by simpa [Addr.add] using World.cell?_spot h3
      subst hsp
      have := World.block_lt_of_cell? _ _ h3
      refine ⟨rfl, ?_⟩
      simpa [Addr.add] using this
    refine ⟨_, len, cap, b, off, cs, rfl, by omega, fun h0 => ?_, fun k hk => ⟨(hcell k hk).1, fun j hj => ?_, _, _, (hcs k hk).2⟩⟩
    · obtain ⟨rfl, hb⟩ := hspot h0
      exact ⟨rfl, hb⟩
    · obtain ⟨rfl, hb⟩ := hspot (by omega)
      rw [← (hcell k hk).2 j hj]
      rw [add_none, add_none]
/-- what a cell of a row holds -/
def cInt (cs : List Value) (j : Nat) : Int := match cs[j]? with | some (.int _ z) => z | _ => 0
def cStr (cs : List Value) (j : Nat) : ByteArray := match cs[j]? with | some (.string s) => s | _ => ⟨#[]⟩
def cBool (cs : List Value) (j : Nat) : Bool := match cs[j]? with | some (.bool s) => s | _ => false
theorem field_of {H : Type} {enc : TypeId × Value → H} {W : World} {e : TypeId} {fs : Array Field} (he : Tryz.prog.underlying e = some (.struct fs)) (hone : Go.Deep.oneCellFields Tryz.prog fs = true) {n : Nat} {cs : List Value} {x : DataW H × List MemPlace}
    (h : DataW.trod enc Tryz.prog W 0 (fun _ => true) true n e cs = some x) (hl : cs.length = fs.size) (j : Nat) (f : Field) (hj : fs[j]? = some f) :
    ∃ m u y, cs[j]? = some u ∧ DataW.trod enc Tryz.prog W 0 (fun _ => true) true m f.type [u] = some y := by
  obtain ⟨ys, m, _, _, _, hyl, hf⟩ := DataW.trod_struct he h
  obtain ⟨ho, hk⟩ := Go.Deep.hone_of hone j f hj
  have hjl : j < fs.size := (Array.getElem?_eq_some_iff.1 hj).1
  have h1 := hf j f hj
  rw [ho, hk, List.drop_eq_getElem_cons (by omega), List.getElem?_eq_getElem (by omega)] at h1
  exact ⟨m, _, _, List.getElem?_eq_getElem (by omega), h1⟩
theorem field_int {H : Type} {enc : TypeId × Value → H} {W : World} {e : TypeId} {fs : Array Field} (he : Tryz.prog.underlying e = some (.struct fs)) (hone : Go.Deep.oneCellFields Tryz.prog fs = true) {n : Nat} {cs : List Value} {x : DataW H × List MemPlace}
    (h : DataW.trod enc Tryz.prog W 0 (fun _ => true) true n e cs = some x) (hl : cs.length = fs.size) (j : Nat) (f : Field) (hj : fs[j]? = some f) {k : IntKind} (ht : Tryz.prog.underlying f.type = some (.int k)) :
    cs[j]? = some (.int k (cInt cs j)) ∧ (Lit.int k (cInt cs j)).wf = true := by
  obtain ⟨m, u, y, h1, h2⟩ := field_of he hone h hl j f hj
  obtain ⟨z, hz, _, hw⟩ := DataW.trod_int ht h2
  obtain rfl : u = .int k z := by simpa using hz
  have e1 : cInt cs j = z := by unfold cInt; rw [h1]
  rw [e1]
  exact ⟨h1, hw⟩
theorem field_str {H : Type} {enc : TypeId × Value → H} {W : World} {e : TypeId} {fs : Array Field} (he : Tryz.prog.underlying e = some (.struct fs)) (hone : Go.Deep.oneCellFields Tryz.prog fs = true) {n : Nat} {cs : List Value} {x : DataW H × List MemPlace}
    (h : DataW.trod enc Tryz.prog W 0 (fun _ => true) true n e cs = some x) (hl : cs.length = fs.size) (j : Nat) (f : Field) (hj : fs[j]? = some f) (ht : Tryz.prog.underlying f.type = some .string) :
    cs[j]? = some (.string (cStr cs j)) ∧ (cStr cs j).size ≤ 9223372036854775807 := by
  obtain ⟨m, u, y, h1, h2⟩ := field_of he hone h hl j f hj
  obtain ⟨z, hz, _, hw⟩ := DataW.trod_string ht h2
  obtain rfl : u = .string z := by simpa using hz
  have e1 : cStr cs j = z := by unfold cStr; rw [h1]
  rw [e1]
  exact ⟨h1, hw⟩
theorem field_bool {H : Type} {enc : TypeId × Value → H} {W : World} {e : TypeId} {fs : Array Field} (he : Tryz.prog.underlying e = some (.struct fs)) (hone : Go.Deep.oneCellFields Tryz.prog fs = true) {n : Nat} {cs : List Value} {x : DataW H × List MemPlace}
    (h : DataW.trod enc Tryz.prog W 0 (fun _ => true) true n e cs = some x) (hl : cs.length = fs.size) (j : Nat) (f : Field) (hj : fs[j]? = some f) (ht : Tryz.prog.underlying f.type = some .bool) :
    cs[j]? = some (.bool (cBool cs j)) := by
  obtain ⟨m, u, y, h1, h2⟩ := field_of he hone h hl j f hj
  obtain ⟨z, hz, _⟩ := DataW.trod_bool ht h2
  obtain rfl : u = .bool z := by simpa using hz
  have e1 : cBool cs j = z := by unfold cBool; rw [h1]
  rw [e1]
  exact h1
end Go.Proofs.YtalgheocjnajlaaGreatDoor
