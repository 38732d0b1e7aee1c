/-
  A []int that came in.
-/
import Derived.Test.YtflndioogoehgaaDoorShell
import Derived.SizedLaws
import Derived.ChangeSlices
namespace Go.Proofs.YtflndioogoehgaaDoor
open Go.ChangeShapes Go.WideShapes Go.ChangeAt Go.RowKit
set_option maxRecDepth 100000

theorem open_intslice {H : Type} {enc : TypeId × Value → H} {W : World} {base : Nat} {r : Reach} {v : Value} {d : DataW H} {p : List MemPlace}
    (hv : Value.okWide Tryd.prog W r base 25 v) (h : DataW.Trod enc Tryd.prog W 0 (fun _ => true) true 25 v d p) :
    ∃ (a : Option Addr) (len cap b off : Nat) (zs : List Int), v = .slice a len cap ∧ len ≤ 9223372036854775807 ∧ (0 < len → a = some ⟨b, off, none⟩ ∧ b < W.heap.size) ∧
      (∀ k, k < len → W.cell? ⟨b, off + k, none⟩ = some (.int .i64 (zs.getD k 0))) ∧ ∀ k, k < len → (Lit.int .i64 (zs.getD k 0)).wf = true := by
  obtain ⟨a0, len, cap, rfl⟩ := okWide_slice Tryd.underlying25 hv
  obtain ⟨fuel, hf⟩ := h
  rcases Go.ChangeShapes.open_ints Tryd.underlying25 Tryd.underlying3 (by kernel_rfl) hf with ⟨hcs, _⟩ | ⟨a, len', cap', zs, hcs, _, hl, hm, hz, _, hcell, hwf⟩
  · simp [Value.cells] at hcs
    obtain ⟨rfl, rfl, rfl⟩ := hcs
    exact ⟨none, 0, 0, 0, 0, [], rfl, by omega, fun h => by omega, fun k h => by omega, fun k h => by omega⟩
  · simp [Value.cells] at hcs
    obtain ⟨rfl, rfl, rfl⟩ := hcs
    simp only [if_true] at hz
    obtain ⟨b, off, spot⟩ := a
    unfold maxLen at hm
    refine ⟨_, len, cap, b, off, zs, rfl, by omega, fun h0 => ?_, fun k hk => ?_, fun k hk => ?_⟩
    · have hspot : spot = none := by simpa [Addr.add] using World.cell?_spot (hcell 0 (by omega))
      subst hspot
      have := hcell 0 (by omega)
      exact ⟨rfl, World.block_lt_of_cell? _ _ this⟩
    · have hspot : spot = none := by simpa [Addr.add] using World.cell?_spot (hcell 0 (by omega))
      subst hspot
      have h1 := hcell k (by omega)
      have h2 : (⟨b, off, none⟩ : Addr).add k = ⟨b, off + k, none⟩ := by unfold Addr.add; split <;> simp_all
      rwa [h2] at h1
    · refine hwf _ ?_
      rw [List.getD, List.getElem?_eq_getElem (show k < zs.length by omega)]
      exact List.getElem_mem _
end Go.Proofs.YtflndioogoehgaaDoor
