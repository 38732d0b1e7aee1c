/-
  A []Act of layer 7 that came in.
-/
import Derived.Test.YtoajdccdhjlikaaDoorOpenS
namespace Go.Proofs.YtoajdccdhjlikaaDoor
open Go.ChangeShapes Go.WideShapes Go.ChangeAt Go.RowKit
set_option maxRecDepth 100000

theorem open_acts7 {H : Type} {enc : TypeId × Value → H} {W : World} {base : Nat} {r : Reach} {v : Value} {d : DataW H} {p : List MemPlace}
    (hv : Value.okWide Tryd.prog W r base 22 v) (h : DataW.Trod enc Tryd.prog W 0 (fun _ => true) true 22 v d p) :
    ∃ (a : Option Addr) (len cap b off : Nat) (wh at_ nn : Nat → Int) (tx : Nat → ByteArray), v = .slice a len cap ∧ len ≤ 9223372036854775807 ∧ (0 < len → a = some ⟨b, off, none⟩ ∧ b < W.heap.size) ∧
      (∀ k, k < len → W.cell? ⟨b, off + k * 4, none⟩ = some (.int .i64 (wh k)) ∧ W.cell? ⟨b, off + k * 4 + 1, none⟩ = some (.int .i64 (at_ k)) ∧ W.cell? ⟨b, off + k * 4 + 2, none⟩ = some (.int .u64 (nn k)) ∧ W.cell? ⟨b, off + k * 4 + 3, none⟩ = some (.string (tx k))) ∧
      (∀ k, k < len → (tx k).size ≤ 9223372036854775807) ∧ ∀ k, k < len → (Lit.int .i64 (wh k)).wf = true ∧ (Lit.int .i64 (at_ k)).wf = true ∧ (Lit.int .u64 (nn k)).wf = true := by
  obtain ⟨a, len, cap, b, off, cs, hv, hl, hx, hcs⟩ := open_rows 4 (by decide) Tryd.underlying22 (by kernel_rfl) hv h
  have key : ∀ k, k < len → ((cs k)[0]? = some (.int .i64 (cInt (cs k) 0)) ∧ (Lit.int .i64 (cInt (cs k) 0)).wf = true) ∧ ((cs k)[1]? = some (.int .i64 (cInt (cs k) 1)) ∧ (Lit.int .i64 (cInt (cs k) 1)).wf = true) ∧
      ((cs k)[2]? = some (.int .u64 (cInt (cs k) 2)) ∧ (Lit.int .u64 (cInt (cs k) 2)).wf = true) ∧ ((cs k)[3]? = some (.string (cStr (cs k) 3)) ∧ (cStr (cs k) 3).size ≤ 9223372036854775807) := fun k hk => by
    obtain ⟨h1, h2, n, x, h3⟩ := hcs k hk
    exact ⟨field_int Tryd.underlying39 (by kernel_rfl) h3 h1 0 _ rfl Tryd.underlying3, field_int Tryd.underlying39 (by kernel_rfl) h3 h1 1 _ rfl Tryd.underlying3,
      field_int Tryd.underlying39 (by kernel_rfl) h3 h1 2 _ rfl Tryd.underlying23, field_str Tryd.underlying39 (by kernel_rfl) h3 h1 3 _ rfl Tryd.underlying9⟩
  refine ⟨a, len, cap, b, off, fun k => cInt (cs k) 0, fun k => cInt (cs k) 1, fun k => cInt (cs k) 2, fun k => cStr (cs k) 3, hv, hl, hx, fun k hk => ?_, fun k hk => (key k hk).2.2.2.2, fun k hk => ⟨(key k hk).1.2, (key k hk).2.1.2, (key k hk).2.2.1.2⟩⟩
  obtain ⟨_, h2, _⟩ := hcs k hk
  obtain ⟨⟨k0, _⟩, ⟨k1, _⟩, ⟨k2, _⟩, ⟨k3, _⟩⟩ := key k hk
  exact ⟨(h2 0 (by omega)).trans k0, (h2 1 (by omega)).trans k1, (h2 2 (by omega)).trans k2, (h2 3 (by omega)).trans k3⟩
end Go.Proofs.YtoajdccdhjlikaaDoor
