/-
  SealEnds: for any two seals whatever, Join and Cut answer, and the same twice. No condition: every pair of api.Seal values.
-/
import Derived.Test.YtpmdibhogjhfnaaAwake
import Derived.Test.YtpmdibhogjhfnaaShell
import Derived.ProofKit
import Derived.Lib.SmallJoins
namespace Go.Proofs.Ytpmdibhogjhfnaa
open Go.RowKit
section
attribute [local go_sem] gives

set_option maxHeartbeats 1600000 in
theorem ends_walk (a1 a2 ac an b1 b2 bc bn : Int) (w : World) (ha1 : a1.natAbs < 18446744073709551616) (ha2 : a2.natAbs < 18446744073709551616)
    (hb1 : b1.natAbs < 18446744073709551616) (hb2 : b2.natAbs < 18446744073709551616) (hac : 0 ≤ ac ∧ ac < 4294967296) (hbc : 0 ≤ bc ∧ bc < 4294967296)
    (hbn : bn < 9223372036854775808) :
    Calls Try.prog 7 #[sealV a1 a2 ac an, sealV b1 b2 bc bn] w fun e w' => e = .returned (.bool true) ∧ Below w.heap.size w w' := by
  have g1 := fun w => join_any a1 a2 ac an b1 b2 bc bn w ha1 ha2 hb1 hb2 hac hbc hbn
  have g2 := fun w => cut_any a1 a2 ac an b1 b2 bc bn w ha1 ha2 hb1 hb2 hac hbc hbn
  unfold sealV at *
  generalize flt.wholeF (joinF (sumF a1 a2) (sumF b1 b2) bn).1 = j1 at *
  generalize flt.wholeF (joinF (sumF a1 a2) (sumF b1 b2) bn).2 = j2 at *
  generalize ((crc.times ac.toNat (powN bn) ^^^ bc.toNat : Nat) : Int) = j3 at *
  generalize IntKind.i64.wrap (an + bn) = j4 at *
  generalize flt.wholeF (lessF (sumF a1 a2) (sumF b1 b2) bn).1 = k1 at *
  generalize flt.wholeF (lessF (sumF a1 a2) (sumF b1 b2) bn).2 = k2 at *
  generalize ((crc.times (ac.toNat ^^^ bc.toNat) (crc.it (backN bn.toNat) crc.one) : Nat) : Int) = k3 at *
  generalize IntKind.i64.wrap (an - bn) = k4 at *
  have G1 := Lib.hid g1
  have G2 := Lib.hid g2
  clear g1 g2 ha1 ha2 hb1 hb2 hac hbc hbn
  go_enter Try.func7, Try.ntmps7
  go_wp2_with (go_at_call 8; refine (awake_any _).mono ?_; rintro e w1 ⟨rfl, hw1⟩)
  have hbel : Below w.heap.size w w1 := ((((Below.refl _ _).alloc (Nat.le_refl _) _).alloc (by simp) _)).trans (hw1.mono (by simp; omega))
  have h1 : w1.heap[w.heap.size]? = some (Obj.cells #[.int .i64 a1, .int .i64 a2, .int .u32 ac, .int .i64 an] 25) := by
    rw [hw1.block _ (by simp; omega), Below.heap_alloc _ _ _ (by simp)]; exact heap_alloc_new _ _
  have h2 : w1.heap[w.heap.size + 1]? = some (Obj.cells #[.int .i64 b1, .int .i64 b2, .int .u32 bc, .int .i64 bn] 25) := by
    rw [hw1.block _ (by simp)]
    have := heap_alloc_new (w.alloc (Obj.cells #[.int .i64 a1, .int .i64 a2, .int .u32 ac, .int .i64 an] 25)) (Obj.cells #[.int .i64 b1, .int .i64 b2, .int .u32 bc, .int .i64 bn] 25)
    rwa [World.size_alloc] at this
  have hl : w.heap.size + 1 < w1.heap.size := (Array.getElem?_eq_some_iff.1 h2).1
  clear hw1
  obtain ⟨C, hC⟩ : ∃ C : World → Prop, ∀ u, C u ↔ Below w1.heap.size w1 u := ⟨fun u => Below w1.heap.size w1 u, fun _ => Iff.rfl⟩
  have F : ∀ u, C u → u.heap[w.heap.size]? = some (Obj.cells #[.int .i64 a1, .int .i64 a2, .int .u32 ac, .int .i64 an] 25) ∧ u.heap[w.heap.size + 1]? = some (Obj.cells #[.int .i64 b1, .int .i64 b2, .int .u32 bc, .int .i64 bn] 25) :=
    fun u hu => ⟨(((hC u).1 hu).block _ (by omega)).trans h1, (((hC u).1 hu).block _ hl).trans h2⟩
  have step : ∀ u u', C u → Below u.heap.size u u' → C u' := fun u u' hu hb => (hC u').2 (((hC u).1 hu).trans (hb.mono ((hC u).1 hu).size))
  have HC := Lib.hid hC
  have FF := Lib.hid F
  clear hC F h1 h2
  refine wp_region_inv 16 C (by kernel_rfl) (by kernel_rfl) ((HC.out _).2 (Below.refl _ _).drew) ?_
  simp only [List.take_succ_cons, List.take_zero, List.drop_succ_cons, List.drop_zero]
  repeat
    (first | refine wpInv_plain rfl (fun K hK => ?_) | refine wpInv_wanted (by rfl) (fun K hK => ?_)
     apply Exists.intro
     refine ⟨fun u hu => ?_, ?_⟩
     · have HU := Lib.hid hu
       obtain ⟨f1, f2⟩ := FF.out u hu
       clear hu
       obtain ⟨⟨c1, c2, c3, c4⟩, d1, d2, d3, d4⟩ := cells4Of f1
       obtain ⟨⟨e1, e2, e3, e4⟩, d1, d2, d3, d4⟩ := cells4Of f2
       clear f1 f2 d1 d2 d3 d4
       go_simp
       first
         | exact ⟨HU.out, rfl⟩
         | (go_at_call 11; with_reducible refine (G1.out _).mono ?_; rintro e w' ⟨rfl, hb⟩; exact ⟨rfl, step _ _ HU.out hb⟩)
         | (go_at_call 12; with_reducible refine (G2.out _).mono ?_; rintro e w' ⟨rfl, hb⟩; exact ⟨rfl, step _ _ HU.out hb⟩)
     go_simp
     refine hK _ ?_
     clear hK K)
  refine wpInv_nil ?_
  intro w' hw'
  have hb := hbel.trans (((HC.out _).1 hw').mono hbel.size)
  go_wp2
  go_ret
  exact ⟨rfl, hb⟩
end

open Go.ChangeShapes Go.WideShapes Go.ChangeAt Go.Joins
theorem open_seal {H : Type} {enc : TypeId × Value → H} {W : World} {base : Nat} {r : Reach} {v : Value} {d : DataW H} {p : List MemPlace}
    (hv : Value.okWide Try.prog W r base 25 v) (h : DataW.Trod enc Try.prog W 0 (fun _ => true) true 25 v d p) :
    ∃ a1 a2 c n : Int, v = sealV a1 a2 c n ∧ (a1.natAbs < 18446744073709551616 ∧ a2.natAbs < 18446744073709551616) ∧ (0 ≤ c ∧ c < 4294967296) ∧ n < 9223372036854775808 := by
  obtain ⟨v0, v1, v2, v3, y0, y1, y2, y3, n, rfl, rfl, rfl, h0, h1, h2, h3⟩ := open_agg4 Try.underlying25 (by kernel_rfl) (by kernel_rfl) hv h
  obtain ⟨a, e0, rfl, w0⟩ := DataW.trod_int Try.underlying3 h0
  obtain ⟨b, e1, rfl, w1⟩ := DataW.trod_int Try.underlying3 h1
  obtain ⟨c, e2, rfl, w2⟩ := DataW.trod_int Try.underlying22 h2
  obtain ⟨m, e3, rfl, w3⟩ := DataW.trod_int Try.underlying3 h3
  simp at e0 e1 e2 e3
  subst e0 e1 e2 e3
  have b0 := bounds_i64 w0
  have b1 := bounds_i64 w1
  have b2 := bounds_u32 w2
  have b3 := bounds_i64 w3
  exact ⟨a, b, c, m, rfl, ⟨by omega, by omega⟩, ⟨by omega, by omega⟩, by omega⟩

set_option maxRecDepth 100000 in
theorem ends_lifted (os : Os) (started : os.Started) (H : Type) (enc : TypeId × Value → H) :
    ReturnsInHanded {} Try.checked os 7 .any (Rows.sealEndsSpec.pre6 enc Try.prog Try.f7 Rows.sealEndsRow.domain false) (Rows.sealEndsSpec.post enc Try.prog Try.f7 false true false false) := by
  refine returnsInHanded_of_change (C := Try.checked) Try.own started (by kernel_rfl) Try.func7
    (ChangeSpec.witness6 (enc := enc) (C := Try.checked) false ⟨#[], #[.agg #[.int .i64 0, .int .i64 0, .int .u32 0, .int .i64 0], .agg #[.int .i64 0, .int .i64 0, .int .u32 0, .int .i64 0]], []⟩ 8 (by kernel_rfl) (by kernel_rfl) (by kernel_rfl) (by kernel_rfl)) ?_
  intro W base args ds gs before hval0 hW _ _
  have hval : ∀ (j : Nat) t v, Try.f7.params[j]? = some t → args[j]? = some v → Value.okWide Try.prog W .any base t v := hval0
  have hW' := hW
  obtain ⟨p, q, hA0, hV, rfl, hfz, hnd⟩ := hW
  have hA : DataW.TrodAll enc Try.prog W 0 (fun _ => true) true Try.f7.params.toList args.toList ds p := hA0
  rw [Try.params7] at hA hval
  obtain ⟨v0, v1, d0, d1, p0, p1, hargs, rfl, rfl, h0, h1⟩ := trodAll_two hA
  obtain rfl : args = #[v0, v1] := by cases args; simp_all
  obtain ⟨rfl, rfl⟩ := trodVars_none hV
  obtain ⟨a1, a2, ac, an, rfl, ⟨ha1, ha2⟩, hac, _⟩ := open_seal (hval 0 25 v0 rfl rfl) h0
  obtain ⟨b1, b2, bc, bn, rfl, ⟨hb1, hb2⟩, hbc, hbn⟩ := open_seal (hval 1 25 v1 rfl rfl) h1
  clear hA0 hval0
  simp only [List.append_nil] at hW'
  refine (ends_walk a1 a2 ac an b1 b2 bc bn W ha1 ha2 hb1 hb2 hac hbc hbn).mono fun e W' ⟨he, hb⟩ => ?_
  subst he
  exact ⟨_, rfl, law_post2 Try.params7 rfl rfl rfl hW' h0 h1 (by kernel_rfl) (of_decide_eq_true (by kernel_rfl)) (by kernel_rfl) (of_decide_eq_true (by kernel_rfl)) hb⟩

theorem sealEnds_holds : Rows.SealEndsSaid :=
  OpenClaim.holds_of_wide 7 Try.f7 rfl rfl rfl rfl rfl rfl rfl ⟨rfl, rfl, rfl, rfl, rfl⟩ rfl rfl rfl rfl rfl (by kernel_rfl) Try.func7 (by kernel_rfl)
    (of_decide_eq_true (by kernel_rfl)) (by unfold Func.isWrapper; first | (rw [if_pos (by decide +kernel)]; kernel_rfl) | (rw [if_neg (by decide +kernel)]; exact ⟨rfl, rfl⟩))
    (fun os started H enc _ => ends_lifted os started H enc)
end Go.Proofs.Ytpmdibhogjhfnaa
