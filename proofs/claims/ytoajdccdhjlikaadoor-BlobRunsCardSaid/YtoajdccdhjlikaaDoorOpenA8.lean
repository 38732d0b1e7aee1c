/-
  A []Act of layer 8 that came in.
-/
import Derived.Test.YtoajdccdhjlikaaDoorOpenS
namespace Go.Proofs.YtoajdccdhjlikaaDoor
open Go.ChangeShapes Go.WideShapes Go.ChangeAt Go.RowKit
set_option maxRecDepth 100000

theorem wf_u8 {z : Int} (h : (Lit.int .u8 z).wf = true) : 0 ≤ z ∧ z < 256 := by
  have h2 : (decide (0 ≤ z) && decide (z ≤ 255)) = true := h
  simp at h2
  omega
theorem open_acts8 {H : Type} {enc : TypeId × Value → H} {W : World} {base : Nat} {r : Reach} {v : Value} {d : DataW H} {p : List MemPlace}
    (hv : Value.okWide Tryd.prog W r base 54 v) (h : DataW.Trod enc Tryd.prog W 0 (fun _ => true) true 54 v d p) :
    ∃ (a : Option Addr) (len cap b off : Nat) (wh nn sz cc : Nat → Int), v = .slice a len cap ∧ len ≤ 9223372036854775807 ∧ (0 < len → a = some ⟨b, off, none⟩ ∧ b < W.heap.size) ∧
      (∀ k, k < len → W.cell? ⟨b, off + k * 4, none⟩ = some (.int .i64 (wh k)) ∧ W.cell? ⟨b, off + k * 4 + 1, none⟩ = some (.int .i64 (nn k)) ∧ W.cell? ⟨b, off + k * 4 + 2, none⟩ = some (.int .i64 (sz k)) ∧ W.cell? ⟨b, off + k * 4 + 3, none⟩ = some (.int .u8 (cc k))) ∧
      ∀ k, k < len → 0 ≤ cc k ∧ cc k < 256 := by
  obtain ⟨a, len, cap, b, off, cs, hv, hl, hx, hcs⟩ := open_rows 4 (by decide) Tryd.underlying54 (by kernel_rfl) hv h
  have key : ∀ k, k < len → ((cs k)[0]? = some (.int .i64 (cInt (cs k) 0)) ∧ (Lit.int .i64 (cInt (cs k) 0)).wf = true) ∧ ((cs k)[1]? = some (.int .i64 (cInt (cs k) 1)) ∧ (Lit.int .i64 (cInt (cs k) 1)).wf = true) ∧
      ((cs k)[2]? = some (.int .i64 (cInt (cs k) 2)) ∧ (Lit.int .i64 (cInt (cs k) 2)).wf = true) ∧ ((cs k)[3]? = some (.int .u8 (cInt (cs k) 3)) ∧ (Lit.int .u8 (cInt (cs k) 3)).wf = true) := fun k hk => by
    obtain ⟨h1, h2, n, x, h3⟩ := hcs k hk
    exact ⟨field_int Tryd.underlying57 (by kernel_rfl) h3 h1 0 _ rfl Tryd.underlying3, field_int Tryd.underlying57 (by kernel_rfl) h3 h1 1 _ rfl Tryd.underlying3,
      field_int Tryd.underlying57 (by kernel_rfl) h3 h1 2 _ rfl Tryd.underlying3, field_int Tryd.underlying57 (by kernel_rfl) h3 h1 3 _ rfl Tryd.underlying5⟩
  refine ⟨a, len, cap, b, off, fun k => cInt (cs k) 0, fun k => cInt (cs k) 1, fun k => cInt (cs k) 2, fun k => cInt (cs k) 3, hv, hl, hx, fun k hk => ?_, fun k hk => wf_u8 (key k hk).2.2.2.2⟩
  obtain ⟨_, h2, _⟩ := hcs k hk
  obtain ⟨⟨k0, _⟩, ⟨k1, _⟩, ⟨k2, _⟩, ⟨k3, _⟩⟩ := key k hk
  exact ⟨(h2 0 (by omega)).trans k0, (h2 1 (by omega)).trans k1, (h2 2 (by omega)).trans k2, (h2 3 (by omega)).trans k3⟩
end Go.Proofs.YtoajdccdhjlikaaDoor
