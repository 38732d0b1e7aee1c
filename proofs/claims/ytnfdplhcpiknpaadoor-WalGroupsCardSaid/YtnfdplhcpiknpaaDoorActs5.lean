/-
  Acts of layer 5 that came in.
-/
import Derived.Test.YtnfdplhcpiknpaaDoorOpenL
namespace Go.Proofs.YtnfdplhcpiknpaaDoor
open Go.ChangeShapes Go.WideShapes Go.ChangeAt Go.RowKit Go.Joins
set_option maxRecDepth 100000

section
variable {H : Type} {enc : TypeId × Value → H} {W : World}
structure ActP where
  what : Int
  n : Int
  lists : List Puts
  keep : List Bool
  again : List Bool
/-- a list of acts -/
def ActsAt (w : World) (B : Nat) (v : Value) (A : List ActP) : Prop :=
  ∃ a b off cap, ∃ vl vk va : Nat → Value, v = .slice a A.length cap ∧ A.length ≤ maxLen ∧ (0 < A.length → a = some ⟨b, off, none⟩ ∧ b < B) ∧
    ∀ (k : Nat) x, A[k]? = some x → w.cell? ⟨b, off + k * 5, none⟩ = some (.int .i64 x.what) ∧ w.cell? ⟨b, off + k * 5 + 1, none⟩ = some (.int .i64 x.n) ∧ w.cell? ⟨b, off + k * 5 + 2, none⟩ = some (vl k) ∧ w.cell? ⟨b, off + k * 5 + 3, none⟩ = some (vk k) ∧ w.cell? ⟨b, off + k * 5 + 4, none⟩ = some (va k) ∧
      ListsAt w B (vl k) x.lists ∧ BoolsAt w B (vk k) x.keep ∧ BoolsAt w B (va k) x.again ∧ SizesL x.lists ∧ (Lit.int .i64 x.n).wf = true ∧ (Lit.int .i64 x.what).wf = true
theorem ActsAt.still {w u : World} {B : Nat} {v : Value} {A : List ActP} (h : ActsAt w B v A) (hb : Below B w u) : ActsAt u B v A := by
  obtain ⟨a, b, off, cap, vl, vk, va, h1, hm, h2, h3⟩ := h
  refine ⟨a, b, off, cap, vl, vk, va, h1, hm, h2, fun k x hx => ?_⟩
  have hlt := (h2 (pos_of_get hx)).2
  obtain ⟨c0, c1, c2, c3, c4, c5, c6, c7, c8⟩ := h3 k x hx
  exact ⟨by rw [hb.cell (p := ⟨b, off + k * 5, none⟩) hlt]; exact c0, by rw [hb.cell (p := ⟨b, off + k * 5 + 1, none⟩) hlt]; exact c1, by rw [hb.cell (p := ⟨b, off + k * 5 + 2, none⟩) hlt]; exact c2, by rw [hb.cell (p := ⟨b, off + k * 5 + 3, none⟩) hlt]; exact c3, by rw [hb.cell (p := ⟨b, off + k * 5 + 4, none⟩) hlt]; exact c4, c5.still hb, c6.still hb, c7.still hb, c8⟩
theorem open_acts5 {v : Value} {d : DataW H} {p : List MemPlace} (hv : ∃ u, v.cells = #[u] ∧ u = v) (h : DataW.Trod enc Tryd.prog W 0 (fun _ => true) true 22 v d p) (hw : Fits 22 d) : ∃ A, ActsAt W W.heap.size v A := by
  obtain ⟨fuel, hf⟩ := h
  obtain ⟨u, hu, rfl⟩ := hv
  rw [hu] at hf
  rcases open_cell 5 (by decide) Tryd.underlying22 (by kernel_rfl) hf hw with rfl | ⟨ad, len, cap, b, off, cs, rfl, hl, ha, hc⟩
  · exact ⟨[], none, 0, 0, 0, fun _ => undef, fun _ => undef, fun _ => undef, rfl, Nat.zero_le _, fun h => absurd h (by simp), fun k x hx => by simp at hx⟩
  · have hex : ∀ k, ∃ (vl vk va : Value) (x : ActP), k < len → W.cell? ⟨b, off + k * 5, none⟩ = some (.int .i64 x.what) ∧ W.cell? ⟨b, off + k * 5 + 1, none⟩ = some (.int .i64 x.n) ∧ W.cell? ⟨b, off + k * 5 + 2, none⟩ = some vl ∧ W.cell? ⟨b, off + k * 5 + 3, none⟩ = some vk ∧ W.cell? ⟨b, off + k * 5 + 4, none⟩ = some va ∧
        ListsAt W W.heap.size vl x.lists ∧ BoolsAt W W.heap.size vk x.keep ∧ BoolsAt W W.heap.size va x.again ∧ SizesL x.lists ∧ (Lit.int .i64 x.n).wf = true ∧ (Lit.int .i64 x.what).wf = true := fun k => by
      by_cases hk : k < len
      · obtain ⟨h1, h2, m, y, h3, hwk⟩ := hc k hk
        have f0 := field_int Tryd.underlying40 (by kernel_rfl) h3 h1 0 _ rfl Tryd.underlying3
        have f1 := field_int Tryd.underlying40 (by kernel_rfl) h3 h1 1 _ rfl Tryd.underlying3
        obtain ⟨m2, u2, y2, g2, t2, k2⟩ := fieldS Tryd.underlying40 (by kernel_rfl) h3 hwk h1 2 _ rfl
        obtain ⟨m3, u3, y3, g3, t3, k3⟩ := fieldS Tryd.underlying40 (by kernel_rfl) h3 hwk h1 3 _ rfl
        obtain ⟨m4, u4, y4, g4, t4, k4⟩ := fieldS Tryd.underlying40 (by kernel_rfl) h3 hwk h1 4 _ rfl
        obtain ⟨ps, hps, hsz⟩ := open_lists t2 k2
        obtain ⟨kl, hkl⟩ := open_bools t3 k3
        obtain ⟨al, hal⟩ := open_bools t4 k4
        exact ⟨u2, u3, u4, ⟨cInt (cs k) 0, cInt (cs k) 1, ps, kl, al⟩, fun _ => ⟨(h2 0 (by decide)).trans f0.1, (h2 1 (by decide)).trans f1.1, (h2 2 (by decide)).trans g2, (h2 3 (by decide)).trans g3, (h2 4 (by decide)).trans g4, hps, hkl, hal, hsz, f1.2, f0.2⟩⟩
      · exact ⟨undef, undef, undef, ⟨0, 0, [], [], []⟩, fun h => absurd h hk⟩
    obtain ⟨vl, hvl⟩ := Classical.skolem.1 hex
    obtain ⟨vk, hvk⟩ := Classical.skolem.1 hvl
    obtain ⟨va, hva⟩ := Classical.skolem.1 hvk
    obtain ⟨A, hA⟩ := Classical.skolem.1 hva
    refine ⟨(List.range len).map A, some ad, b, off, cap, vl, vk, va, by simp, by simpa using hl.1, fun h0 => ?_, fun k x hx => ?_⟩
    · have := ha (by simpa using h0)
      exact ⟨by rw [this.1], this.2⟩
    · obtain ⟨hk, rfl⟩ := map_range_get _ _ _ _ hx
      exact hA k hk
end
end Go.Proofs.YtnfdplhcpiknpaaDoor
