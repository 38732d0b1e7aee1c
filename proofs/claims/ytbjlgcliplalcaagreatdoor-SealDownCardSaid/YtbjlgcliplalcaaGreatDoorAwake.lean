/-
  THE WALK of awake.
-/
import Derived.Test.YtbjlgcliplalcaaGreatDoorLaw
namespace Go.Proofs.YtbjlgcliplalcaaGreatDoor
set_option maxRecDepth 100000
open Go.RowKit
attribute [local go_sem] gives

theorem awake_facts : ∃ c ca cb : Int,
    (∀ w, Calls Tryz.prog 7 #[.string ⟨#[97, 98]⟩] w fun e w' => e = .returned (.agg #[.int .i64 98, .int .i64 97, .int .u32 c, .int .i64 2]) ∧ Below w.heap.size w w') ∧
    (∀ w, Calls Tryz.prog 8 #[.string ⟨#[97, 98]⟩] w fun e w' => e = .returned (.agg #[.int .i64 98, .int .i64 97, .int .u32 c, .int .i64 2]) ∧ Below w.heap.size w w') ∧
    (∀ w, Calls Tryz.prog 7 #[.string ⟨#[97]⟩] w fun e w' => e = .returned (.agg #[.int .i64 97, .int .i64 0, .int .u32 ca, .int .i64 1]) ∧ Below w.heap.size w w') ∧
    (∀ w, Calls Tryz.prog 7 #[.string ⟨#[98]⟩] w fun e w' => e = .returned (.agg #[.int .i64 98, .int .i64 0, .int .u32 cb, .int .i64 1]) ∧ Below w.heap.size w w') ∧
    (∀ w, Calls Tryz.prog 9 #[.agg #[.int .i64 97, .int .i64 0, .int .u32 ca, .int .i64 1], .agg #[.int .i64 98, .int .i64 0, .int .u32 cb, .int .i64 1]] w fun e w' => e = .returned (.agg #[.int .i64 98, .int .i64 97, .int .u32 c, .int .i64 2]) ∧ Below w.heap.size w w') ∧
    (∀ w, Calls Tryz.prog 10 #[.agg #[.int .i64 98, .int .i64 97, .int .u32 c, .int .i64 2], .agg #[.int .i64 98, .int .i64 0, .int .u32 cb, .int .i64 1]] w fun e w' => e = .returned (.agg #[.int .i64 97, .int .i64 0, .int .u32 ca, .int .i64 1]) ∧ Below w.heap.size w w') :=
  have lt1 : ∀ c ∈ [97], c < 256 := by decide
  have lt2 : ∀ c ∈ [98], c < 256 := by decide
  ⟨(crc.check [97, 98] : Nat), (crc.check [97] : Nat), (crc.check [98] : Nat), of_seal ⟨#[97, 98]⟩ (by decide), refOf_seal ⟨#[97, 98]⟩ (by decide), of_seal ⟨#[97]⟩ (by decide), of_seal ⟨#[98]⟩ (by decide),
    join_seal [97] [98] lt1 lt2 (by decide) (by decide), cut_seal [97] [98] lt1 lt2 (by decide) (by decide)⟩

set_option maxHeartbeats 1600000 in
theorem awake_any (w : World) : Calls Tryz.prog 4 #[] w fun e w' => e = .returned (.bool true) ∧ Below w.heap.size w w' := by
  obtain ⟨c, ca, cb, h1, h2, h3, h4, h5, h6⟩ := awake_facts
  have H1 := Lib.hid h1
  have H2 := Lib.hid h2
  have H3 := Lib.hid h3
  have H4 := Lib.hid h4
  have H5 := Lib.hid h5
  have H6 := Lib.hid h6
  clear h1 h2 h3 h4 h5 h6
  go_enter Tryz.func4, Tryz.ntmps4
  go_wp2_with (go_at_call 7; refine (H1.out _).mono ?_; rintro e w1 ⟨rfl, hb1⟩)
  have hbel : Below w.heap.size w (w1.alloc (Obj.cells #[.int .i64 98, .int .i64 97, .int .u32 c, .int .i64 2] 26)) := hb1.alloc hb1.size _
  have h1 := heap_alloc_new w1 (Obj.cells #[.int .i64 98, .int .i64 97, .int .u32 c, .int .i64 2] 26)
  have hl : w1.heap.size < (w1.alloc (Obj.cells #[.int .i64 98, .int .i64 97, .int .u32 c, .int .i64 2] 26)).heap.size := by simp
  clear hb1
  generalize w1.alloc (Obj.cells #[.int .i64 98, .int .i64 97, .int .u32 c, .int .i64 2] 26) = W at *
  generalize w1.heap.size = zb at *
  obtain ⟨C, hC⟩ : ∃ C : World → Prop, ∀ u, C u ↔ Below W.heap.size W u := ⟨fun u => Below W.heap.size W u, fun _ => Iff.rfl⟩
  have F : ∀ u, C u → u.heap[zb]? = some (Obj.cells #[.int .i64 98, .int .i64 97, .int .u32 c, .int .i64 2] 26) := fun u hu => (((hC u).1 hu).block _ hl).trans h1
  have step : ∀ u u', C u → Below u.heap.size u u' → C u' := fun u u' hu hb => (hC u').2 (((hC u).1 hu).trans (hb.mono ((hC u).1 hu).size))
  have HC := Lib.hid hC
  have FF := Lib.hid F
  clear hC F h1
  refine wp_region_inv 27 C (by kernel_rfl) (by kernel_rfl) ((HC.out _).2 (Below.refl _ _).drew) ?_
  simp only [List.take_succ_cons, List.take_zero, List.drop_succ_cons, List.drop_zero]
  repeat
    (first | refine wpInv_plain rfl (fun K hK => ?_) | refine wpInv_wanted (by rfl) (fun K hK => ?_)
     apply Exists.intro
     refine ⟨fun u hu => ?_, ?_⟩
     · have HU := Lib.hid hu
       have f1 := FF.out u hu
       clear hu
       obtain ⟨⟨c1, c2, c3, c4⟩, d1, d2, d3, d4⟩ := cells4Of f1
       clear f1 d1 d2 d3 d4
       go_simp
       first
         | exact ⟨HU.out, rfl⟩
         | (go_at_call 7; with_reducible refine (H3.out _).mono ?_; rintro e w' ⟨rfl, hb⟩; exact ⟨rfl, step _ _ HU.out hb⟩)
         | (go_at_call 7; with_reducible refine (H4.out _).mono ?_; rintro e w' ⟨rfl, hb⟩; exact ⟨rfl, step _ _ HU.out hb⟩)
         | (go_at_call 8; with_reducible refine (H2.out _).mono ?_; rintro e w' ⟨rfl, hb⟩; exact ⟨rfl, step _ _ HU.out hb⟩)
         | (go_at_call 9; with_reducible refine (H5.out _).mono ?_; rintro e w' ⟨rfl, hb⟩; exact ⟨rfl, step _ _ HU.out hb⟩)
         | (go_at_call 10; with_reducible refine (H6.out _).mono ?_; rintro e w' ⟨rfl, hb⟩; exact ⟨rfl, step _ _ HU.out hb⟩)
     go_simp
     refine hK _ ?_
     clear hK K)
  refine wpInv_nil ?_
  intro w' hw'
  have hb := hbel.trans (((HC.out _).1 hw').mono hbel.size)
  go_wp2
  go_ret
  exact ⟨rfl, hb⟩
end Go.Proofs.YtbjlgcliplalcaaGreatDoor
