/-
  SealJoins: for any two texts of at most 3000 bytes each, the seals join to the seal of both, Cut inverts it, and the empty text's seal changes nothing. Longer texts: the law answers true at once. No condition.
-/
import Derived.Test.YtpmdibhogjhfnaaAwake
import Derived.Test.YtpmdibhogjhfnaaShell
namespace Go.Proofs.Ytpmdibhogjhfnaa
open Go.RowKit
theorem agg_seal (l : List Nat) : ∃ x1 x2 x3 x4 : Int, sealL l = .agg #[.int .i64 x1, .int .i64 x2, .int .u32 x3, .int .i64 x4] := ⟨_, _, _, _, rfl⟩
theorem bl_append (a b : ByteArray) : bl (a ++ b) = bl a ++ bl b := by simp [bl]

section
attribute [local go_sem] gives

theorem joins_facts (a b : ByteArray) (ha : a.size ≤ 3000) (hb : b.size ≤ 3000) : ∃ x1 x2 x3 x4 y1 y2 y3 y4 z1 z2 z3 z4 e1 e2 e3 e4 : Int,
    (∀ w, Calls Try.prog 9 #[.string a] w fun e w' => e = .returned (.agg #[.int .i64 x1, .int .i64 x2, .int .u32 x3, .int .i64 x4]) ∧ Below w.heap.size w w') ∧
    (∀ w, Calls Try.prog 9 #[.string b] w fun e w' => e = .returned (.agg #[.int .i64 y1, .int .i64 y2, .int .u32 y3, .int .i64 y4]) ∧ Below w.heap.size w w') ∧
    (∀ w, Calls Try.prog 9 #[.string ⟨#[]⟩] w fun e w' => e = .returned (.agg #[.int .i64 e1, .int .i64 e2, .int .u32 e3, .int .i64 e4]) ∧ Below w.heap.size w w') ∧
    (∀ w, Calls Try.prog 10 #[.string (a ++ b)] w fun e w' => e = .returned (.agg #[.int .i64 z1, .int .i64 z2, .int .u32 z3, .int .i64 z4]) ∧ Below w.heap.size w w') ∧
    (∀ w, Calls Try.prog 11 #[.agg #[.int .i64 x1, .int .i64 x2, .int .u32 x3, .int .i64 x4], .agg #[.int .i64 y1, .int .i64 y2, .int .u32 y3, .int .i64 y4]] w fun e w' => e = .returned (.agg #[.int .i64 z1, .int .i64 z2, .int .u32 z3, .int .i64 z4]) ∧ Below w.heap.size w w') ∧
    (∀ w, Calls Try.prog 12 #[.agg #[.int .i64 z1, .int .i64 z2, .int .u32 z3, .int .i64 z4], .agg #[.int .i64 y1, .int .i64 y2, .int .u32 y3, .int .i64 y4]] w fun e w' => e = .returned (.agg #[.int .i64 x1, .int .i64 x2, .int .u32 x3, .int .i64 x4]) ∧ Below w.heap.size w w') ∧
    (∀ w, Calls Try.prog 11 #[.agg #[.int .i64 x1, .int .i64 x2, .int .u32 x3, .int .i64 x4], .agg #[.int .i64 e1, .int .i64 e2, .int .u32 e3, .int .i64 e4]] w fun e w' => e = .returned (.agg #[.int .i64 x1, .int .i64 x2, .int .u32 x3, .int .i64 x4]) ∧ Below w.heap.size w w') ∧
    (∀ w, Calls Try.prog 11 #[.agg #[.int .i64 e1, .int .i64 e2, .int .u32 e3, .int .i64 e4], .agg #[.int .i64 y1, .int .i64 y2, .int .u32 y3, .int .i64 y4]] w fun e w' => e = .returned (.agg #[.int .i64 y1, .int .i64 y2, .int .u32 y3, .int .i64 y4]) ∧ Below w.heap.size w w') := by
  have h1 := of_seal a (by omega)
  have h2 := of_seal b (by omega)
  have h3 := of_seal ⟨#[]⟩ (by decide)
  have h4 := refOf_seal (a ++ b) (by rw [ByteArray.size_append]; omega)
  have hla := bl_length a
  have hlb := bl_length b
  have lt0 : ∀ c ∈ ([] : List Nat), c < 256 := by intro c hc; cases hc
  have h5 := join_seal (bl a) (bl b) (bl_lt a) (bl_lt b) (by omega) (by omega)
  have h6 := cut_seal (bl a) (bl b) (bl_lt a) (bl_lt b) (by omega) (by omega)
  have h7 := join_seal (bl a) [] (bl_lt a) lt0 (by omega) (by decide)
  have h8 := join_seal [] (bl b) lt0 (bl_lt b) (by decide) (by omega)
  rw [List.append_nil] at h7
  rw [List.nil_append] at h8
  rw [bl_append] at h4
  have e0 : bl ⟨#[]⟩ = [] := rfl
  rw [e0] at h3
  obtain ⟨x1, x2, x3, x4, hx⟩ := agg_seal (bl a)
  obtain ⟨y1, y2, y3, y4, hy⟩ := agg_seal (bl b)
  obtain ⟨z1, z2, z3, z4, hz⟩ := agg_seal (bl a ++ bl b)
  obtain ⟨e1, e2, e3, e4, he⟩ := agg_seal []
  rw [hx, hy, hz] at h6
  rw [hx, hy, hz] at h5
  rw [hx, he] at h7
  rw [hy, he] at h8
  rw [hx] at h1
  rw [hy] at h2
  rw [he] at h3
  rw [hz] at h4
  exact ⟨x1, x2, x3, x4, y1, y2, y3, y4, z1, z2, z3, z4, e1, e2, e3, e4, h1, h2, h3, h4, h5, h6, h7, h8⟩

theorem new_two {w : World} {o1 o2 : Obj} : ((w.alloc o1).alloc o2).heap[w.heap.size]? = some o1 ∧ ((w.alloc o1).alloc o2).heap[w.heap.size + 1]? = some o2 := by
  refine ⟨?_, ?_⟩
  · rw [Below.heap_alloc _ _ _ (by simp), heap_alloc_new]
  · have := heap_alloc_new (w.alloc o1) o2
    rwa [World.size_alloc] at this

set_option maxHeartbeats 1600000 in
theorem joins_walk (a b : ByteArray) (ha : a.size ≤ 3000) (hb : b.size ≤ 3000) (w : World) :
    Calls Try.prog 4 #[.string a, .string b] w fun e w' => e = .returned (.bool true) ∧ Below w.heap.size w w' := by
  obtain ⟨x1, x2, x3, x4, y1, y2, y3, y4, z1, z2, z3, z4, e1, e2, e3, e4, h1, h2, h3, h4, h5, h6, h7, h8⟩ := joins_facts a b ha hb
  have H1 := Lib.hid h1
  have H2 := Lib.hid h2
  have H3 := Lib.hid h3
  have H4 := Lib.hid h4
  have H5 := Lib.hid h5
  have H6 := Lib.hid h6
  have H7 := Lib.hid h7
  have H8 := Lib.hid h8
  clear h1 h2 h3 h4 h5 h6 h7 h8
  have hcat := fun w => run_string_add_sum (P := Try.prog) w a b (by omega)
  have hla : ¬ (3000 : Int) < (a.size : Int) := by omega
  have hlb : ¬ (3000 : Int) < (b.size : Int) := by omega
  go_enter Try.func4, Try.ntmps4
  go_wp2_with (first
    | (go_at_call 8; refine (awake_any _).mono ?_; rintro e w1 ⟨rfl, hw1⟩)
    | (go_at_call 9; with_reducible refine (H1.out _).mono ?_; rintro e w2 ⟨rfl, hw2⟩)
    | (go_at_call 9; with_reducible refine (H2.out _).mono ?_; rintro e w3 ⟨rfl, hw3⟩)
    | (go_at_call 11; with_reducible refine (H5.out _).mono ?_; rintro e w4 ⟨rfl, hw4⟩))
  obtain ⟨n1, n2⟩ := new_two (w := w3) (o1 := Obj.cells #[.int .i64 x1, .int .i64 x2, .int .u32 x3, .int .i64 x4] 25) (o2 := Obj.cells #[.int .i64 y1, .int .i64 y2, .int .u32 y3, .int .i64 y4] 25)
  have hz3 : w3.heap.size + 1 < w4.heap.size := by have := hw4.size; simp at this; omega
  have h1 : (w4.alloc (Obj.cells #[.int .i64 z1, .int .i64 z2, .int .u32 z3, .int .i64 z4] 25)).heap[w3.heap.size]? = some (Obj.cells #[.int .i64 x1, .int .i64 x2, .int .u32 x3, .int .i64 x4] 25) := by
    rw [Below.heap_alloc _ _ _ (by omega), hw4.block _ (by simp; omega)]; exact n1
  have h2 : (w4.alloc (Obj.cells #[.int .i64 z1, .int .i64 z2, .int .u32 z3, .int .i64 z4] 25)).heap[w3.heap.size + 1]? = some (Obj.cells #[.int .i64 y1, .int .i64 y2, .int .u32 y3, .int .i64 y4] 25) := by
    rw [Below.heap_alloc _ _ _ (by omega), hw4.block _ (by simp)]; exact n2
  have h3 := heap_alloc_new w4 (Obj.cells #[.int .i64 z1, .int .i64 z2, .int .u32 z3, .int .i64 z4] 25)
  have hbel : Below w.heap.size w (w4.alloc (Obj.cells #[.int .i64 z1, .int .i64 z2, .int .u32 z3, .int .i64 z4] 25)) := by
    have hs1 := hw1.size
    have hs2 := hw2.size
    have hs3 := hw3.size
    have q3 : Below w.heap.size w w3 := (hw1.trans (hw2.mono hs1)).trans (hw3.mono (by omega))
    exact (((q3.alloc (by omega) _).alloc (by simp; omega) _).trans (hw4.mono (by simp; omega))).alloc (by omega) _
  have hl : w4.heap.size < (w4.alloc (Obj.cells #[.int .i64 z1, .int .i64 z2, .int .u32 z3, .int .i64 z4] 25)).heap.size := by simp
  clear hw1 hw2 hw3 hw4 n1 n2 H1 H2
  generalize w4.alloc (Obj.cells #[.int .i64 z1, .int .i64 z2, .int .u32 z3, .int .i64 z4] 25) = W at *
  generalize w4.heap.size = zb at *
  generalize w3.heap.size = xb at *
  obtain ⟨C, hC⟩ : ∃ C : World → Prop, ∀ u, C u ↔ Below W.heap.size W u := ⟨fun u => Below W.heap.size W u, fun _ => Iff.rfl⟩
  have F : ∀ u, C u → u.heap[xb]? = some (Obj.cells #[.int .i64 x1, .int .i64 x2, .int .u32 x3, .int .i64 x4] 25) ∧ u.heap[xb + 1]? = some (Obj.cells #[.int .i64 y1, .int .i64 y2, .int .u32 y3, .int .i64 y4] 25) ∧
      u.heap[zb]? = some (Obj.cells #[.int .i64 z1, .int .i64 z2, .int .u32 z3, .int .i64 z4] 25) :=
    fun u hu => ⟨(((hC u).1 hu).block _ (by omega)).trans h1, (((hC u).1 hu).block _ (by omega)).trans h2, (((hC u).1 hu).block _ hl).trans h3⟩
  have step : ∀ u u', C u → Below u.heap.size u u' → C u' := fun u u' hu hb => (hC u').2 (((hC u).1 hu).trans (hb.mono ((hC u).1 hu).size))
  have HC := Lib.hid hC
  have FF := Lib.hid F
  clear hC F h1 h2 h3 hla hlb
  refine wp_region_inv 27 C (by kernel_rfl) (by kernel_rfl) ((HC.out _).2 (Below.refl _ _).drew) ?_
  simp only [List.take_succ_cons, List.take_zero, List.drop_succ_cons, List.drop_zero]
  repeat
    (first | refine wpInv_plain rfl (fun K hK => ?_) | refine wpInv_wanted (by rfl) (fun K hK => ?_)
     apply Exists.intro
     refine ⟨fun u hu => ?_, ?_⟩
     · have HU := Lib.hid hu
       obtain ⟨f1, f2, f3⟩ := FF.out u hu
       clear hu
       obtain ⟨⟨c1, c2, c3, c4⟩, d1, d2, d3, d4⟩ := cells4Of f1
       obtain ⟨⟨e1, e2, e3, e4⟩, d1, d2, d3, d4⟩ := cells4Of f2
       obtain ⟨⟨k1, k2, k3, k4⟩, d1, d2, d3, d4⟩ := cells4Of f3
       clear f1 f2 f3 d1 d2 d3 d4
       go_simp
       first
         | exact ⟨HU.out, rfl⟩
         | (go_at_call 10; with_reducible refine (H4.out _).mono ?_; rintro e w' ⟨rfl, hb⟩; exact ⟨rfl, step _ _ HU.out hb⟩)
         | (go_at_call 9; with_reducible refine (H3.out _).mono ?_; rintro e w' ⟨rfl, hb⟩; exact ⟨rfl, step _ _ HU.out hb⟩)
         | (go_at_call 12; with_reducible refine (H6.out _).mono ?_; rintro e w' ⟨rfl, hb⟩; exact ⟨rfl, step _ _ HU.out hb⟩)
         | (go_at_call 11; with_reducible refine (H7.out _).mono ?_; rintro e w' ⟨rfl, hb⟩; exact ⟨rfl, step _ _ HU.out hb⟩)
         | (go_at_call 11; with_reducible refine (H8.out _).mono ?_; rintro e w' ⟨rfl, hb⟩; exact ⟨rfl, step _ _ HU.out hb⟩)
     go_simp
     refine hK _ ?_
     clear hK K)
  refine wpInv_nil ?_
  intro w' hw'
  have hb := hbel.trans (((HC.out _).1 hw').mono hbel.size)
  go_wp2
  go_ret
  exact ⟨rfl, hb⟩

set_option maxHeartbeats 1600000 in
theorem joins_long (a b : ByteArray) (h : 3000 < a.size ∨ 3000 < b.size) (w : World) :
    Calls Try.prog 4 #[.string a, .string b] w fun e w' => e = .returned (.bool true) ∧ Below w.heap.size w w' := by
  by_cases ha : 3000 < a.size
  · have hla : (3000 : Int) < (a.size : Int) := by omega
    go_enter Try.func4, Try.ntmps4
    go_wp2_with (go_at_call 8; refine (awake_any _).mono ?_; rintro e w1 ⟨rfl, hw1⟩)
    go_ret
    exact ⟨rfl, hw1⟩
  · have hla : (a.size : Int) ≤ (3000 : Int) := by omega
    have hlb : (3000 : Int) < (b.size : Int) := by omega
    go_enter Try.func4, Try.ntmps4
    go_wp2_with (go_at_call 8; refine (awake_any _).mono ?_; rintro e w1 ⟨rfl, hw1⟩)
    go_ret
    exact ⟨rfl, hw1⟩
end

open Go.ChangeShapes Go.WideShapes Go.ChangeAt
open Go.ChangeMaps (open_string)
set_option maxRecDepth 100000 in
theorem joins_lifted (os : Os) (started : os.Started) (H : Type) (enc : TypeId × Value → H) :
    ReturnsInHanded {} Try.checked os 4 .any (Rows.sealJoinsSpec.pre6 enc Try.prog Try.f4 Rows.sealJoinsRow.domain false) (Rows.sealJoinsSpec.post enc Try.prog Try.f4 false true false false) := by
  refine returnsInHanded_of_change (C := Try.checked) Try.own started (by kernel_rfl) Try.func4
    (ChangeSpec.witness6 (enc := enc) (C := Try.checked) false ⟨#[], #[.string .empty, .string .empty], []⟩ 8 (by kernel_rfl) (by kernel_rfl) (by kernel_rfl) (by kernel_rfl)) ?_
  intro W base args ds gs before hval0 hW _ _
  have hval : ∀ (j : Nat) t v, Try.f4.params[j]? = some t → args[j]? = some v → Value.okWide Try.prog W .any base t v := hval0
  have hW' := hW
  obtain ⟨p, q, hA0, hV, rfl, hfz, hnd⟩ := hW
  have hA : DataW.TrodAll enc Try.prog W 0 (fun _ => true) true Try.f4.params.toList args.toList ds p := hA0
  rw [Try.params4] at hA hval
  obtain ⟨v0, v1, d0, d1, p0, p1, hargs, rfl, rfl, h0, h1⟩ := trodAll_two hA
  obtain rfl : args = #[v0, v1] := by cases args; simp_all
  obtain ⟨rfl, rfl⟩ := trodVars_none hV
  obtain ⟨a, hv0, _, _, hs0⟩ := open_string Try.underlying9 (hval 0 9 v0 rfl rfl) h0
  obtain ⟨b, hv1, _, _, hs1⟩ := open_string Try.underlying9 (hval 1 9 v1 rfl rfl) h1
  subst hv0 hv1
  clear hA0 hval0
  simp only [List.append_nil] at hW'
  have hwalk : Calls Try.prog 4 #[.string a, .string b] W fun e w' => e = .returned (.bool true) ∧ Below W.heap.size W w' := by
    by_cases h : a.size ≤ 3000 ∧ b.size ≤ 3000
    · exact joins_walk a b h.1 h.2 W
    · exact joins_long a b (by omega) W
  refine hwalk.mono fun e W' ⟨he, hb⟩ => ?_
  subst he
  exact ⟨_, rfl, law_post2 Try.params4 rfl rfl rfl hW' h0 h1 (by kernel_rfl) (of_decide_eq_true (by kernel_rfl)) (by kernel_rfl) (of_decide_eq_true (by kernel_rfl)) hb⟩

theorem sealJoins_holds : Rows.SealJoinsSaid :=
  OpenClaim.holds_of_wide 4 Try.f4 rfl rfl rfl rfl rfl rfl rfl ⟨rfl, rfl, rfl, rfl, rfl⟩ rfl rfl rfl rfl rfl (by kernel_rfl) Try.func4 (by kernel_rfl)
    (of_decide_eq_true (by kernel_rfl)) (by unfold Func.isWrapper; first | (rw [if_pos (by decide +kernel)]; kernel_rfl) | (rw [if_neg (by decide +kernel)]; exact ⟨rfl, rfl⟩))
    (fun os started H enc _ => joins_lifted os started H enc)
end Go.Proofs.Ytpmdibhogjhfnaa
