/-
  Parameters that came in: puts, lists of puts, Booleans, bytes.
-/
import Derived.Test.YtalgheocjnajlaaGreatDoorOpenL
namespace Go.Proofs.YtalgheocjnajlaaGreatDoor
open Go.ChangeShapes Go.WideShapes Go.ChangeAt Go.RowKit Go.Joins
set_option maxRecDepth 100000

section
variable {H : Type} {enc : TypeId × Value → H} {W : World}
theorem open_puts5 {v : Value} {d : DataW H} {p : List MemPlace} (hv : ∃ u, v.cells = #[u] ∧ u = v) (h : DataW.Trod enc Tryz.prog W 0 (fun _ => true) true 36 v d p) (hw : Fits 36 d) : ∃ A, PutsAt W W.heap.size v A ∧ Sizes A := by
  obtain ⟨fuel, hf⟩ := h
  obtain ⟨u, hu, rfl⟩ := hv
  rw [hu] at hf
  exact open_puts hf hw
theorem open_lists5 {v : Value} {d : DataW H} {p : List MemPlace} (hv : ∃ u, v.cells = #[u] ∧ u = v) (h : DataW.Trod enc Tryz.prog W 0 (fun _ => true) true 109 v d p) (hw : Fits 109 d) : ∃ A, ListsAt W W.heap.size v A ∧ SizesL A := by
  obtain ⟨fuel, hf⟩ := h
  obtain ⟨u, hu, rfl⟩ := hv
  rw [hu] at hf
  exact open_lists hf hw
/-- a list of bytes -/
def BytesAt (w : World) (B : Nat) (v : Value) (l : List Nat) : Prop :=
  ∃ a b off cap, v = .slice a l.length cap ∧ (0 < l.length → a = some ⟨b, off, none⟩ ∧ b < B) ∧ ∀ (k : Nat) x, l[k]? = some x → w.cell? ⟨b, off + k, none⟩ = some (.int .u8 (x : Nat)) ∧ x < 256
theorem BytesAt.still {w u : World} {B : Nat} {v : Value} {l : List Nat} (h : BytesAt w B v l) (hb : Below B w u) : BytesAt u B v l := by
  obtain ⟨a, b, off, cap, h1, h2, h3⟩ := h
  exact ⟨a, b, off, cap, h1, h2, fun k x hx => by rw [hb.cell (p := ⟨b, off + k, none⟩) (h2 (pos_of_get hx)).2]; exact h3 k x hx⟩
theorem open_bytes5 {v : Value} {d : DataW H} {p : List MemPlace} (hv : ∃ u, v.cells = #[u] ∧ u = v) (h : DataW.Trod enc Tryz.prog W 0 (fun _ => true) true 113 v d p) (hw : Fits 113 d) : ∃ A, BytesAt W W.heap.size v A := by
  obtain ⟨fuel, hf⟩ := h
  obtain ⟨u, hu, rfl⟩ := hv
  rw [hu] at hf
  rcases open_cell 1 (by decide) Tryz.underlying113 (by kernel_rfl) hf hw with rfl | ⟨ad, len, cap, b, off, cs, rfl, hl, ha, hc⟩
  · exact ⟨[], none, 0, 0, 0, rfl, fun h => absurd h (by simp), fun k x hx => by simp at hx⟩
  · refine ⟨(List.range len).map (fun k => (cInt (cs k) 0).toNat), some ad, b, off, cap, by simp, fun h0 => ?_, fun k x hx => ?_⟩
    · have := ha (by simpa using h0)
      exact ⟨by rw [this.1], this.2⟩
    · obtain ⟨hk2, rfl⟩ := map_range_get _ _ _ _ hx
      obtain ⟨h1, h2, m, y, h3, _⟩ := hc k hk2
      obtain ⟨z, hz, _, hwf⟩ := DataW.trod_int Tryz.underlying5 h3
      have hr : 0 ≤ z ∧ z ≤ 255 := by
        have h4 : (decide (0 ≤ z) && decide (z ≤ 255)) = true := hwf
        simpa using h4
      have h5 := h2 0 (by decide)
      rw [Nat.mul_one, Nat.add_zero, hz] at h5
      rw [h5]
      have e : cInt (cs k) 0 = z := by unfold cInt; rw [hz]; rfl
      rw [e]
      have e2 : ((z.toNat : Nat) : Int) = z := Int.toNat_of_nonneg hr.1
      exact ⟨by rw [e2]; rfl, by omega⟩
/-- a list of texts that came in -/
def StrsAt (w : World) (B : Nat) (v : Value) (l : List ByteArray) : Prop :=
  ∃ a b off cap, v = .slice a l.length cap ∧ l.length ≤ 140737488355328 ∧ (0 < l.length → a = some ⟨b, off, none⟩ ∧ b < B) ∧ ∀ (k : Nat) x, l[k]? = some x → w.cell? ⟨b, off + k, none⟩ = some (.string x) ∧ x.size ≤ 9223372036854775807
theorem StrsAt.still {w u : World} {B : Nat} {v : Value} {l : List ByteArray} (h : StrsAt w B v l) (hb : Below B w u) : StrsAt u B v l := by
  obtain ⟨a, b, off, cap, h1, hl, h2, h3⟩ := h
  exact ⟨a, b, off, cap, h1, hl, h2, fun k x hx => by rw [hb.cell (p := ⟨b, off + k, none⟩) (h2 (pos_of_get hx)).2]; exact h3 k x hx⟩
theorem open_strs6 {v : Value} {d : DataW H} {p : List MemPlace} (hv : ∃ u, v.cells = #[u] ∧ u = v) (h : DataW.Trod enc Tryz.prog W 0 (fun _ => true) true 34 v d p) (hw : Fits 34 d) : ∃ A, StrsAt W W.heap.size v A := by
  obtain ⟨fuel, hf⟩ := h
  obtain ⟨u, hu, rfl⟩ := hv
  rw [hu] at hf
  rcases open_cell 1 (by decide) Tryz.underlying34 (by kernel_rfl) hf hw with rfl | ⟨ad, len, cap, b, off, cs, rfl, hl, ha, hc⟩
  · exact ⟨[], none, 0, 0, 0, rfl, by show (0 : Nat) ≤ _; omega, fun h => absurd h (by simp), fun k x hx => by simp at hx⟩
  · have hlen : len ≤ 140737488355328 := by
      have h1 := hl.2
      have h2 : Tryz.prog.bytesOf 9 = 16 := by kernel_rfl
      rw [h2] at h1
      unfold reachBytes at h1
      omega
    refine ⟨(List.range len).map (fun k => cStr (cs k) 0), some ad, b, off, cap, by simp, by simpa using hlen, fun h0 => ?_, fun k x hx => ?_⟩
    · have := ha (by simpa using h0)
      exact ⟨by rw [this.1], this.2⟩
    · obtain ⟨hk2, rfl⟩ := map_range_get _ _ _ _ hx
      obtain ⟨h1, h2, m, y, h3, _⟩ := hc k hk2
      obtain ⟨z, hz, _, hwf⟩ := DataW.trod_string Tryz.underlying9 h3
      have h5 := h2 0 (by decide)
      rw [Nat.mul_one, Nat.add_zero, hz] at h5
      rw [h5]
      have e : cStr (cs k) 0 = z := by unfold cStr; rw [hz]; rfl
      rw [e]
      exact ⟨rfl, hwf⟩
end
end Go.Proofs.YtalgheocjnajlaaGreatDoor

