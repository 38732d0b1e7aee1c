/-
  SealParts: for every slice of strings the seals of the parts join to the seal of the whole, from the left and from the right (at most 30 parts of at most 2000 bytes in all; otherwise the law answers true). Condition: what is read is of bulk at most 1048576 (the second form of the statement), for the whole text is put together before its length is asked.
-/
import Derived.Test.YtpmdibhogjhfnaaJoins
import Derived.SliceStrings
import Derived.JoinedCond
namespace Go.Proofs.Ytpmdibhogjhfnaa
open Go.RowKit

/-- so many parts, one behind the other -/
def cat (l : List ByteArray) : ByteArray := l.foldl (· ++ ·) ⟨#[]⟩
theorem cat_snoc (l : List ByteArray) (p : ByteArray) : cat (l ++ [p]) = cat l ++ p := by simp [cat, List.foldl_append]
theorem bl_cat (l : List ByteArray) : bl (cat l) = (l.map bl).flatten := by
  refine snocInd (P := fun l => bl (cat l) = (l.map bl).flatten) rfl ?_ l
  intro l p ih
  rw [cat_snoc, bl_append, ih]
  simp
theorem cat_size (l : List ByteArray) : (cat l).size = (l.map ByteArray.size).sum := by
  refine snocInd (P := fun l => (cat l).size = (l.map ByteArray.size).sum) rfl ?_ l
  intro l p ih
  rw [cat_snoc, ByteArray.size_append, ih]
  simp

section
attribute [local go_sem] gives

/-- what SealParts is told of its parts, by numbers: the k-th part, the first k parts put together, and the cells of seals -/
structure PartsOf (len : Nat) (P A : Nat → ByteArray) (l1 l2 l3 l4 r1 r2 r3 r4 q1 q2 q3 q4 : Nat → Int) : Prop where
  nil : A 0 = ⟨#[]⟩
  left0 : l1 0 = 0 ∧ l2 0 = 0 ∧ l3 0 = 0 ∧ l4 0 = 0
  right0 : r1 0 = 0 ∧ r2 0 = 0 ∧ r3 0 = 0 ∧ r4 0 = 0
  same : r1 len = l1 len ∧ r2 len = l2 len ∧ r3 len = l3 len ∧ r4 len = l4 len
  ofp : ∀ k, k < len → ∀ w, Calls Try.prog 9 #[.string (P k)] w fun e w' => e = .returned (.agg #[.int .i64 (q1 k), .int .i64 (q2 k), .int .u32 (q3 k), .int .i64 (q4 k)]) ∧ Below w.heap.size w w'
  joinl : ∀ k, k < len → ∀ w, Calls Try.prog 11 #[.agg #[.int .i64 (l1 k), .int .i64 (l2 k), .int .u32 (l3 k), .int .i64 (l4 k)], .agg #[.int .i64 (q1 k), .int .i64 (q2 k), .int .u32 (q3 k), .int .i64 (q4 k)]] w fun e w' =>
    e = .returned (.agg #[.int .i64 (l1 (k + 1)), .int .i64 (l2 (k + 1)), .int .u32 (l3 (k + 1)), .int .i64 (l4 (k + 1))]) ∧ Below w.heap.size w w'
  joinr : ∀ k, k < len → ∀ w, Calls Try.prog 11 #[.agg #[.int .i64 (q1 (len - 1 - k)), .int .i64 (q2 (len - 1 - k)), .int .u32 (q3 (len - 1 - k)), .int .i64 (q4 (len - 1 - k))], .agg #[.int .i64 (r1 k), .int .i64 (r2 k), .int .u32 (r3 k), .int .i64 (r4 k)]] w fun e w' =>
    e = .returned (.agg #[.int .i64 (r1 (k + 1)), .int .i64 (r2 (k + 1)), .int .u32 (r3 (k + 1)), .int .i64 (r4 (k + 1))]) ∧ Below w.heap.size w w'
  ref : ∀ w, Calls Try.prog 10 #[.string (A len)] w fun e w' => e = .returned (.agg #[.int .i64 (l1 len), .int .i64 (l2 len), .int .u32 (l3 len), .int .i64 (l4 len)]) ∧ Below w.heap.size w w'

/-- the first loop's facts -/
structure PartsIn (ao : Option Addr) (len : Nat) (P A : Nat → ByteArray) (w : World) : Prop where
  cell : ∀ k, k < len → ∃ b off, ao = some ⟨b, off, none⟩ ∧ b < w.heap.size ∧ w.cell? ⟨b, off + k, none⟩ = some (.string (P k))
  plus : ∀ k, k < len → ∀ w, (Op.stringOp .add (A k) (P k)).run Try.prog w = .ok (.string (A (k + 1))) w
  nil : A 0 = ⟨#[]⟩

set_option maxHeartbeats 1600000 in
theorem parts_long (ao : Option Addr) (len cap : Nat) (hm : len ≤ 1048576) (P A : Nat → ByteArray) (w : World) (hin : PartsIn ao len P A w) (hlong : 30 < len ∨ 2000 < (A len).size) :
    Calls Try.prog 5 #[.slice ao len cap] w fun e w' => e = .returned (.bool true) ∧ Below w.heap.size w w' := by
  have HIN := Lib.hid hin
  have HL := Lib.hid hlong
  clear hin hlong
  go_enter Try.func5, Try.ntmps5
  go_wp2_with (go_at_call 8; refine (awake_any _).mono ?_; rintro e w1 ⟨rfl, hw1⟩)
  go_loop [3, 15] (fun x i => ∃ k : Nat, k ≤ len ∧ i = .int .i64 k ∧ x = .string (A k)) (fun _ i => len - (intOf i).toNat)
  case atStart => exact ⟨0, by omega, rfl, by rw [HIN.out.nil]⟩
  case round =>
    obtain ⟨k, hk, rfl, rfl⟩ := hrel
    by_cases hlt : k < len
    · obtain ⟨b, off, rfl, hb, hc⟩ := HIN.out.cell k hlt
      rw [← hw1.cell hb] at hc
      have hp := HIN.out.plus k hlt
      have hi0 : (0 : Int) ≤ (k : Int) := by omega
      have hi1 : (k : Int) < (len : Int) := by omega
      generalize hz : A k = z at *
      have HZ := Lib.hid hz
      clear hz
      go_wp2
      go_round
      case rel => exact ⟨k + 1, by omega, by go_num, rfl⟩
      case measure => simp [intOf]; omega
    · obtain rfl : k = len := by omega
      by_cases h30 : 30 < k
      · have h30' : (30 : Int) < (k : Int) := by omega
        go_wp2
        go_ret
        exact ⟨rfl, hw1⟩
      · have h30' : (k : Int) ≤ (30 : Int) := by omega
        have h2000 : (2000 : Int) < ((A k).size : Int) := by have := HL.out; omega
        go_wp2
        go_ret
        exact ⟨rfl, hw1⟩

/-- what a round of the second loop finds -/
structure PartsAt (l1 l2 l3 l4 r1 r2 r3 r4 : Nat → Int) (lb rb k : Nat) (w0 w : World) : Prop where
  left : w.heap[lb]? = some (.cells #[.int .i64 (l1 k), .int .i64 (l2 k), .int .u32 (l3 k), .int .i64 (l4 k)] 25 (0, 0))
  right : w.heap[rb]? = some (.cells #[.int .i64 (r1 k), .int .i64 (r2 k), .int .u32 (r3 k), .int .i64 (r4 k)] 25 (0, 0))
  below : Below w0.heap.size w0 w
theorem set4_far' {w : World} {b k : Nat} (h : k ≠ b) (x y z u : Value) : ((((w.setCell ⟨b, 0, none⟩ x).setCell ⟨b, 1, none⟩ y).setCell ⟨b, 2, none⟩ z).setCell ⟨b, 3, none⟩ u).heap[k]? = w.heap[k]? := by
  rw [Below.heap_setCell _ _ _ _ h, Below.heap_setCell _ _ _ _ h, Below.heap_setCell _ _ _ _ h, Below.heap_setCell _ _ _ _ h]

set_option maxHeartbeats 3200000 in
theorem parts_short (ao : Option Addr) (len cap : Nat) (P A : Nat → ByteArray) (l1 l2 l3 l4 r1 r2 r3 r4 q1 q2 q3 q4 : Nat → Int) (w : World) (hin : PartsIn ao len P A w)
    (hof : PartsOf len P A l1 l2 l3 l4 r1 r2 r3 r4 q1 q2 q3 q4) (h30 : len ≤ 30) (h2000 : (A len).size ≤ 2000) :
    Calls Try.prog 5 #[.slice ao len cap] w fun e w' => e = .returned (.bool true) ∧ Below w.heap.size w w' := by
  have HIN := Lib.hid hin
  have HOF := Lib.hid hof
  have H2 := Lib.hid h2000
  clear hin hof h2000
  have d30 : decide ((30 : Int) < (len : Int)) = false := by simp; omega
  go_enter Try.func5, Try.ntmps5
  go_wp2_with (go_at_call 8; refine (awake_any _).mono ?_; rintro e w1 ⟨rfl, hw1⟩)
  go_loop [3, 15] (fun x i => ∃ k : Nat, k ≤ len ∧ i = .int .i64 k ∧ x = .string (A k)) (fun _ i => len - (intOf i).toNat)
  case atStart => exact ⟨0, by omega, rfl, by rw [HIN.out.nil]⟩
  case round =>
    obtain ⟨k, hk, rfl, rfl⟩ := hrel
    by_cases hlt : k < len
    · obtain ⟨b, off, rfl, hb, hc⟩ := HIN.out.cell k hlt
      rw [← hw1.cell hb] at hc
      have hp := HIN.out.plus k hlt
      have hi0 : (0 : Int) ≤ (k : Int) := by omega
      have hi1 : (k : Int) < (len : Int) := by omega
      generalize hz : A k = z at *
      have HZ := Lib.hid hz
      clear hz
      go_wp2
      go_round
      case rel => exact ⟨k + 1, by omega, by go_num, rfl⟩
      case measure => simp [intOf]; omega
    · obtain rfl : k = len := by omega
      have d2000 : decide ((2000 : Int) < ((A k).size : Int)) = false := by have := H2.out; simp; omega
      generalize hz : A k = z at *
      have HZ := Lib.hid hz
      clear hz
      go_wp2
      have hM : PartsAt l1 l2 l3 l4 r1 r2 r3 r4 w1.heap.size (w1.heap.size + 1) 0 w ((w1.alloc (Obj.cells #[.int .i64 0, .int .i64 0, .int .u32 0, .int .i64 0] 25)).alloc (Obj.cells #[.int .i64 0, .int .i64 0, .int .u32 0, .int .i64 0] 25)) := by
        obtain ⟨n1, n2⟩ := new_two (w := w1) (o1 := Obj.cells #[.int .i64 0, .int .i64 0, .int .u32 0, .int .i64 0] 25) (o2 := Obj.cells #[.int .i64 0, .int .i64 0, .int .u32 0, .int .i64 0] 25)
        obtain ⟨a1, a2, a3, a4⟩ := HOF.out.left0
        obtain ⟨b1, b2, b3, b4⟩ := HOF.out.right0
        refine ⟨?_, ?_, (hw1.alloc hw1.size _).alloc (by have := hw1.size; simp; omega) _⟩
        · rw [a1, a2, a3, a4]; exact n1
        · rw [b1, b2, b3, b4]; exact n2
      have hlb : w.heap.size ≤ w1.heap.size := hw1.size
      clear hw1
      generalize ((w1.alloc (Obj.cells #[.int .i64 0, .int .i64 0, .int .u32 0, .int .i64 0] 25)).alloc (Obj.cells #[.int .i64 0, .int .i64 0, .int .u32 0, .int .i64 0] 25)) = W at *
      generalize w1.heap.size = lb at *
      go_loopw [33] (fun i wr => ∃ j : Nat, j ≤ k ∧ i = .int .i64 j ∧ PartsAt l1 l2 l3 l4 r1 r2 r3 r4 lb (lb + 1) j w wr) (fun i _ => k - (intOf i).toNat)
      case atStart => exact ⟨0, by omega, rfl, hM⟩
      case round =>
        obtain ⟨j, hj, rfl, hm⟩ := hrel
        clear hM
        by_cases hjk : j < k
        · obtain ⟨b, off, rfl, hb, hc⟩ := HIN.out.cell j hjk
          have hc' := (hm.below.cell (p := ⟨b, off + j, none⟩) hb).trans hc
          have hi0 : (0 : Int) ≤ (j : Int) := by omega
          have hi1 : (j : Int) < (k : Int) := by omega
          have HM := Lib.hid hm
          clear hm hc
          have hl := (Array.getElem?_eq_some_iff.1 HM.out.left).1
          have hr := (Array.getElem?_eq_some_iff.1 HM.out.right).1
          have O1 := Lib.hid (HOF.out.ofp j hjk)
          have J1 := Lib.hid (HOF.out.joinl j hjk)
          obtain ⟨b', off', heq, hb', hcr⟩ := HIN.out.cell (k - 1 - j) (by omega)
          obtain ⟨rfl, rfl⟩ : b = b' ∧ off = off' := by
            have := Option.some.inj heq
            exact ⟨congrArg Addr.block this, congrArg Addr.off this⟩
          have O2 := Lib.hid (HOF.out.ofp (k - 1 - j) (by omega))
          have J2 := Lib.hid (HOF.out.joinr j hjk)
          clear heq hb'
          go_wp2
          obtain ⟨C, hC⟩ : ∃ C : World → Prop, ∀ u, C u ↔ Below wr.heap.size wr u := ⟨fun u => Below wr.heap.size wr u, fun _ => Iff.rfl⟩
          have F : ∀ u, C u → u.heap[lb]? = some (Obj.cells #[.int .i64 (l1 j), .int .i64 (l2 j), .int .u32 (l3 j), .int .i64 (l4 j)] 25) ∧
              u.heap[lb + 1]? = some (Obj.cells #[.int .i64 (r1 j), .int .i64 (r2 j), .int .u32 (r3 j), .int .i64 (r4 j)] 25) ∧ Below w.heap.size w u := fun u hu =>
            ⟨(((hC u).1 hu).block _ hl).trans HM.out.left, (((hC u).1 hu).block _ hr).trans HM.out.right, HM.out.below.trans (((hC u).1 hu).mono HM.out.below.size)⟩
          have step : ∀ u u', C u → Below u.heap.size u u' → C u' := fun u u' hu hb => (hC u').2 (((hC u).1 hu).trans (hb.mono ((hC u).1 hu).size))
          have HC := Lib.hid hC
          have FF := Lib.hid F
          clear hC F hc'
          refine wp_region_inv 4 C (by kernel_rfl) (by kernel_rfl) ((HC.out _).2 (Below.refl _ _).drew) ?_
          simp only [List.take_succ_cons, List.take_zero, List.drop_succ_cons, List.drop_zero]
          repeat
            (first | refine wpInv_plain rfl (fun K hK => ?_) | refine wpInv_wanted (by rfl) (fun K hK => ?_)
             apply Exists.intro
             refine ⟨fun u hu => ?_, ?_⟩
             · have HU := Lib.hid hu
               obtain ⟨f1, f2, f3⟩ := FF.out u hu
               clear hu
               obtain ⟨⟨c1, c2, c3, c4⟩, d1, d2, d3, d4⟩ := cells4Of f1
               clear f1 f2 f3 d1 d2 d3 d4
               go_simp
               first
                 | exact ⟨HU.out, rfl⟩
                 | (go_at_call 9; with_reducible refine (O1.out _).mono ?_; rintro e w' ⟨rfl, hb⟩; exact ⟨rfl, step _ _ HU.out hb⟩)
                 | (go_at_call 11; with_reducible refine (J1.out _).mono ?_; rintro e w' ⟨rfl, hb⟩; exact ⟨rfl, step _ _ HU.out hb⟩)
             go_simp
             refine hK _ ?_
             clear hK K)
          refine wpInv_nil ?_
          intro u hu
          obtain ⟨f1, f2, f3⟩ := FF.out u hu
          clear HC FF step hu
          obtain ⟨⟨c1, c2, c3, c4⟩, d1, d2, d3, d4⟩ := cells4Of f1
          have F1 := Lib.hid f1
          have F2 := Lib.hid f2
          clear f1 f2
          go_wp2
          have g1 := set4 F1.out (.int .i64 (l1 (j + 1))) (.int .i64 (l2 (j + 1))) (.int .u32 (l3 (j + 1))) (.int .i64 (l4 (j + 1)))
          have g2 := (set4_far' (w := u) (b := lb) (k := lb + 1) (by omega) (.int .i64 (l1 (j + 1))) (.int .i64 (l2 (j + 1))) (.int .u32 (l3 (j + 1))) (.int .i64 (l4 (j + 1)))).trans F2.out
          have g3 := below_set4 f3 hlb (.int .i64 (l1 (j + 1))) (.int .i64 (l2 (j + 1))) (.int .u32 (l3 (j + 1))) (.int .i64 (l4 (j + 1)))
          clear F1 F2 c1 c2 c3 c4 d1 d2 d3 d4 f3
          generalize ((((u.setCell ⟨lb, 0, none⟩ (.int .i64 (l1 (j + 1)))).setCell ⟨lb, 1, none⟩ (.int .i64 (l2 (j + 1)))).setCell ⟨lb, 2, none⟩ (.int .u32 (l3 (j + 1)))).setCell ⟨lb, 3, none⟩ (.int .i64 (l4 (j + 1)))) = u2 at *
          have hl2 := (Array.getElem?_eq_some_iff.1 g1).1
          have hr2 := (Array.getElem?_eq_some_iff.1 g2).1
          obtain ⟨C, hC⟩ : ∃ C : World → Prop, ∀ u, C u ↔ Below u2.heap.size u2 u := ⟨fun u => Below u2.heap.size u2 u, fun _ => Iff.rfl⟩
          have F : ∀ u, C u → u.heap[lb]? = some (Obj.cells #[.int .i64 (l1 (j + 1)), .int .i64 (l2 (j + 1)), .int .u32 (l3 (j + 1)), .int .i64 (l4 (j + 1))] 25) ∧
              u.heap[lb + 1]? = some (Obj.cells #[.int .i64 (r1 j), .int .i64 (r2 j), .int .u32 (r3 j), .int .i64 (r4 j)] 25) ∧ Below w.heap.size w u := fun u hu =>
            ⟨(((hC u).1 hu).block _ hl2).trans g1, (((hC u).1 hu).block _ hr2).trans g2, g3.trans (((hC u).1 hu).mono g3.size)⟩
          have step : ∀ u u', C u → Below u.heap.size u u' → C u' := fun u u' hu hb => (hC u').2 (((hC u).1 hu).trans (hb.mono ((hC u).1 hu).size))
          have HC := Lib.hid hC
          have FF := Lib.hid F
          clear hC F g1 g2 g3
          have w471 : IntKind.i64.wrap ((k : Int) - 1) = (k : Int) - 1 := IntWalk.i64_in _ (by omega)
          have w472 : IntKind.i64.wrap ((k : Int) - 1 - (j : Int)) = ((k - 1 - j : Nat) : Int) := by rw [IntWalk.i64_in _ (by omega)]; omega
          have h470 : (0 : Int) ≤ ((k - 1 - j : Nat) : Int) := by omega
          have h471 : ((k - 1 - j : Nat) : Int) < (k : Int) := by omega
          generalize k - 1 - j = m at *
          refine wp_region_inv 11 C (by kernel_rfl) (by kernel_rfl) ((HC.out _).2 (Below.refl _ _).drew) ?_
          simp only [List.take_succ_cons, List.take_zero, List.drop_succ_cons, List.drop_zero]
          repeat
            (first | refine wpInv_plain rfl (fun K hK => ?_) | refine wpInv_wanted (by rfl) (fun K hK => ?_)
             apply Exists.intro
             refine ⟨fun u hu => ?_, ?_⟩
             · have HU := Lib.hid hu
               obtain ⟨f1, f2, f3⟩ := FF.out u hu
               clear hu
               obtain ⟨⟨c1, c2, c3, c4⟩, d1, d2, d3, d4⟩ := cells4Of f2
               have cp := (f3.cell (p := ⟨b, off + m, none⟩) hb).trans hcr
               clear f1 f2 f3 d1 d2 d3 d4
               go_simp
               first
                 | exact ⟨HU.out, rfl⟩
                 | (go_at_call 9; with_reducible refine (O2.out _).mono ?_; rintro e w' ⟨rfl, hb⟩; exact ⟨rfl, step _ _ HU.out hb⟩)
                 | (go_at_call 11; with_reducible refine (J2.out _).mono ?_; rintro e w' ⟨rfl, hb⟩; exact ⟨rfl, step _ _ HU.out hb⟩)
             go_simp
             refine hK _ ?_
             clear hK K)
          refine wpInv_nil ?_
          intro v hv
          obtain ⟨f1, f2, f3⟩ := FF.out v hv
          clear HC FF step hv h470 h471 w471 w472
          obtain ⟨⟨c1, c2, c3, c4⟩, d1, d2, d3, d4⟩ := cells4Of f2
          have F1 := Lib.hid f1
          have F2 := Lib.hid f2
          clear f1 f2
          go_wp2
          exact ⟨⟨j + 1, by omega, by go_num, ⟨(set4_far' (by omega) _ _ _ _).trans F1.out, set4 F2.out _ _ _ _, below_set4 f3 (by omega) _ _ _ _⟩⟩, by simp only [intOf]; omega⟩
        · obtain rfl : j = k := by omega
          have hR := HOF.out.ref
          rw [HZ.out] at hR
          have HR := Lib.hid hR
          obtain ⟨s1, s2, s3, s4⟩ := HOF.out.same
          obtain ⟨m1, m2, m3⟩ := hm
          rw [s1, s2, s3, s4] at m2
          have hl := (Array.getElem?_eq_some_iff.1 m1).1
          have hr := (Array.getElem?_eq_some_iff.1 m2).1
          clear hR s1 s2 s3 s4
          go_wp2_with fail
          refine (HR.out _).mono ?_
          rintro ev w5 ⟨rfl, hw5⟩
          have n1 : (w5.alloc (Obj.cells #[.int .i64 (l1 j), .int .i64 (l2 j), .int .u32 (l3 j), .int .i64 (l4 j)] 25)).heap[lb]? = some (Obj.cells #[.int .i64 (l1 j), .int .i64 (l2 j), .int .u32 (l3 j), .int .i64 (l4 j)] 25) := by
            rw [Below.heap_alloc _ _ _ (by have := hw5.size; omega), hw5.block _ hl]; exact m1
          have n2 : (w5.alloc (Obj.cells #[.int .i64 (l1 j), .int .i64 (l2 j), .int .u32 (l3 j), .int .i64 (l4 j)] 25)).heap[lb + 1]? = some (Obj.cells #[.int .i64 (l1 j), .int .i64 (l2 j), .int .u32 (l3 j), .int .i64 (l4 j)] 25) := by
            rw [Below.heap_alloc _ _ _ (by have := hw5.size; omega), hw5.block _ hr]; exact m2
          have hb5 := (m3.trans (hw5.mono m3.size)).alloc (by have := hw5.size; have := m3.size; omega) (Obj.cells #[.int .i64 (l1 j), .int .i64 (l2 j), .int .u32 (l3 j), .int .i64 (l4 j)] 25)
          obtain ⟨⟨c1, c2, c3, c4⟩, _⟩ := cells4Of n1
          obtain ⟨⟨k1, k2, k3, k4⟩, _⟩ := cells4Of n2
          clear n1 n2 m1 m2 m3 hw5
          go_wp2
          go_ret
          exact ⟨rfl, hb5⟩
end

theorem sum_take_le (l : List Nat) (k : Nat) : (l.take k).sum ≤ l.sum := by
  conv => rhs; rw [← List.take_append_drop k l, List.sum_append]
  omega
theorem sum_drop_le (l : List Nat) (k : Nat) : (l.drop k).sum ≤ l.sum := by
  conv => rhs; rw [← List.take_append_drop k l, List.sum_append]
  omega
theorem part_le' (L : List ByteArray) (k : Nat) (hk : k < L.length) : (L.getD k ⟨#[]⟩).size ≤ (L.map ByteArray.size).sum := by
  have e : L.getD k ⟨#[]⟩ = L[k] := by rw [List.getD_eq_getElem?_getD, List.getElem?_eq_getElem hk]; rfl
  rw [e]
  have h1 := sum_drop_le (L.map ByteArray.size) k
  rw [List.drop_eq_getElem_cons (by simpa using hk)] at h1
  simp only [List.sum_cons, List.getElem_map] at h1
  omega
theorem cat_take_le (L : List ByteArray) (k : Nat) : (cat (L.take k)).size ≤ (L.map ByteArray.size).sum := by
  rw [cat_size, List.map_take]; exact sum_take_le _ _
theorem cat_drop_le (L : List ByteArray) (k : Nat) : (cat (L.drop k)).size ≤ (L.map ByteArray.size).sum := by
  rw [cat_size, List.map_drop]; exact sum_drop_le _ _
theorem cat_take_succ (L : List ByteArray) (k : Nat) (hk : k < L.length) : cat (L.take (k + 1)) = cat (L.take k) ++ L.getD k ⟨#[]⟩ := by
  have e : L.getD k ⟨#[]⟩ = L[k] := by rw [List.getD_eq_getElem?_getD, List.getElem?_eq_getElem hk]; rfl
  rw [e, List.take_succ_eq_append_getElem hk, cat_snoc]

def sL (l : List Nat) : Int × Int × Int × Int := ((gs l).1, (gs l).2, (crc.check l : Nat), (l.length : Nat))
theorem parts_of (L : List ByteArray) (hsz : (L.map ByteArray.size).sum ≤ 1048576) : ∃ l1 l2 l3 l4 r1 r2 r3 r4 q1 q2 q3 q4 : Nat → Int,
    PartsOf L.length (fun k => L.getD k ⟨#[]⟩) (fun k => cat (L.take k)) l1 l2 l3 l4 r1 r2 r3 r4 q1 q2 q3 q4 := by
  have hnil : (sL []).1 = 0 ∧ (sL []).2.1 = 0 ∧ (sL []).2.2.1 = 0 ∧ (sL []).2.2.2 = 0 := by decide
  refine ⟨fun k => (sL (bl (cat (L.take k)))).1, fun k => (sL (bl (cat (L.take k)))).2.1, fun k => (sL (bl (cat (L.take k)))).2.2.1, fun k => (sL (bl (cat (L.take k)))).2.2.2,
    fun k => (sL (bl (cat (L.drop (L.length - k))))).1, fun k => (sL (bl (cat (L.drop (L.length - k))))).2.1, fun k => (sL (bl (cat (L.drop (L.length - k))))).2.2.1, fun k => (sL (bl (cat (L.drop (L.length - k))))).2.2.2,
    fun k => (sL (bl (L.getD k ⟨#[]⟩))).1, fun k => (sL (bl (L.getD k ⟨#[]⟩))).2.1, fun k => (sL (bl (L.getD k ⟨#[]⟩))).2.2.1, fun k => (sL (bl (L.getD k ⟨#[]⟩))).2.2.2, ?_⟩
  constructor
  · rfl
  · exact hnil
  · simp only [Nat.sub_zero, List.drop_length]; exact hnil
  · simp only [Nat.sub_self, List.drop_zero, List.take_length, and_self]
  · intro k hk w
    exact of_seal _ (by have := part_le' L k hk; omega) w
  · intro k hk w
    have h := join_seal (bl (cat (L.take k))) (bl (L.getD k ⟨#[]⟩)) (bl_lt _) (bl_lt _) (by rw [bl_length]; have := cat_take_le L k; omega) (by rw [bl_length]; have := part_le' L k hk; omega) w
    rw [← bl_append, ← cat_take_succ L k hk] at h
    exact h
  · intro k hk w
    have h := join_seal (bl (L.getD (L.length - 1 - k) ⟨#[]⟩)) (bl (cat (L.drop (L.length - k)))) (bl_lt _) (bl_lt _) (by rw [bl_length]; have := part_le' L (L.length - 1 - k) (by omega); omega) (by rw [bl_length]; have := cat_drop_le L (L.length - k); omega) w
    have e : bl (L.getD (L.length - 1 - k) ⟨#[]⟩) ++ bl (cat (L.drop (L.length - k))) = bl (cat (L.drop (L.length - (k + 1)))) := by
      have hk' : L.length - (k + 1) < L.length := by omega
      have e1 : L.drop (L.length - (k + 1)) = L[L.length - (k + 1)] :: L.drop (L.length - k) := by
        rw [List.drop_eq_getElem_cons hk', show L.length - (k + 1) + 1 = L.length - k by omega]
      have e2 : L.getD (L.length - 1 - k) ⟨#[]⟩ = L[L.length - (k + 1)] := by
        rw [show L.length - 1 - k = L.length - (k + 1) by omega, List.getD_eq_getElem?_getD, List.getElem?_eq_getElem hk']; rfl
      rw [e1, e2, bl_cat, bl_cat]; rfl
    rw [e] at h
    exact h
  · intro w
    exact refOf_seal _ (by have := cat_take_le L L.length; omega) w

theorem parts_in (L : List ByteArray) (ao : Option Addr) (W : World) (hsz : (L.map ByteArray.size).sum ≤ 1048576)
    (hc : ∀ k, k < L.length → ∃ b off, ao = some ⟨b, off, none⟩ ∧ W.cell? ⟨b, off + k, none⟩ = some (.string (L.getD k ⟨#[]⟩))) : PartsIn ao L.length (fun k => L.getD k ⟨#[]⟩) (fun k => cat (L.take k)) W := by
  refine ⟨fun k hk => ?_, fun k hk w => ?_, rfl⟩
  · obtain ⟨b, off, h1, h2⟩ := hc k hk
    exact ⟨b, off, h1, World.block_lt_of_cell? W _ h2, h2⟩
  · rw [cat_take_succ L k hk]
    exact run_string_add_sum w _ _ (by have := cat_take_le L k; have := part_le' L k hk; omega)

theorem parts_any (L : List ByteArray) (ao : Option Addr) (cap : Nat) (W : World) (hsz : (L.map ByteArray.size).sum ≤ 1048576) (hlen : L.length ≤ 1048576)
    (hc : ∀ k, k < L.length → ∃ b off, ao = some ⟨b, off, none⟩ ∧ W.cell? ⟨b, off + k, none⟩ = some (.string (L.getD k ⟨#[]⟩))) :
    Calls Try.prog 5 #[.slice ao L.length cap] W fun e w' => e = .returned (.bool true) ∧ Below W.heap.size W w' := by
  have hin := parts_in L ao W hsz hc
  by_cases h : L.length ≤ 30 ∧ (cat (L.take L.length)).size ≤ 2000
  · obtain ⟨l1, l2, l3, l4, r1, r2, r3, r4, q1, q2, q3, q4, hof⟩ := parts_of L hsz
    exact parts_short ao L.length cap _ _ l1 l2 l3 l4 r1 r2 r3 r4 q1 q2 q3 q4 W hin hof h.1 h.2
  · exact parts_long ao L.length cap hlen _ _ W hin (by omega)

open Go.ChangeShapes Go.WideShapes Go.ChangeAt
/-- what the bound gives -/
theorem parts_bulk {H : Type} (L rest : List ByteArray) (hk : Rows.uptoSmall H [.slice (strs L) (strs rest)] = true) : (L.map ByteArray.size).sum ≤ 1048576 ∧ L.length ≤ 1048576 := by
  have h : Rows.uptoBulkAll [DataW.slice (H := H) (strs L) (strs rest)] ≤ 1048576 := of_decide_eq_true hk
  have hl : ∀ L : List ByteArray, Rows.uptoBulkAll (strs (H := H) L) = (L.map ByteArray.size).sum + L.length := by
    intro L
    induction L with
    | nil => rfl
    | cons p L ih =>
      have e : Rows.uptoBulkAll (strs (H := H) (p :: L)) = Rows.uptoBulk (DataW.lit (H := H) (.string p.data.toList)) + Rows.uptoBulkAll (strs (H := H) L) := rfl
      have e2 : p.data.toList.length = p.size := by rw [Array.length_toList]; rfl
      rw [e, ih]
      simp only [Rows.uptoBulk, List.map_cons, List.sum_cons, List.length_cons]
      omega
  simp only [Rows.uptoBulkAll, Rows.uptoBulk, hl] at h
  omega

theorem parts_contract (H : Type) (enc : TypeId × Value → H) (W : World) (base : Nat) (args : Array Value) (ds gs : List (DataW H)) (before : List MemPlace)
    (hval : ∀ (j : Nat) t v, Try.f5.params[j]? = some t → args[j]? = some v → Value.okWide Try.prog W .any base t v)
    (hW : DataW.Whole enc Try.prog Try.f5.params.toList Rows.sealPartsSpec.vars false W args.toList ds gs before) (hk : Rows.uptoSmall H (ds ++ gs) = true) :
    Calls Try.prog 5 args W fun e W' => ∃ v, e = .returned v ∧ Rows.sealPartsSpec.post enc Try.prog Try.f5 false true false false W args v W' := by
  have hW' := hW
  obtain ⟨p, q, hA0, hV, rfl, hfz, hnd⟩ := hW
  have hA : DataW.TrodAll enc Try.prog W 0 (fun _ => true) true Try.f5.params.toList args.toList ds p := hA0
  rw [Try.params5] at hA hval
  obtain ⟨v0, d0, hargs, rfl, h0⟩ := trodAll_one hA
  obtain rfl : args = #[v0] := by cases args; simp_all
  obtain ⟨rfl, rfl⟩ := trodVars_none hV
  clear hA0
  simp only [List.append_nil] at hW' hk
  obtain ⟨a0, len, cap, rfl⟩ := okWide_slice Try.underlying31 (hval 0 31 v0 rfl rfl)
  have hwalk : Calls Try.prog 5 #[.slice a0 len cap] W fun e w' => e = .returned (.bool true) ∧ Below W.heap.size W w' := by
    obtain ⟨fuel, hf⟩ := h0
    rcases open_strings Try.underlying31 Try.underlying9 (by kernel_rfl) hf with ⟨hcs, hx⟩ | ⟨a, len', cap', ss, hcs, _, hl, hm, hz, hx, hcell, hws⟩
    · simp [Value.cells] at hcs
      obtain ⟨rfl, rfl, rfl⟩ := hcs
      exact parts_any [] none 0 W (by decide) (by decide) (fun k hk => by cases hk)
    · simp [Value.cells] at hcs
      obtain ⟨rfl, rfl, rfl⟩ := hcs
      simp only [Prod.mk.injEq] at hx
      obtain ⟨rfl, _⟩ := hx
      obtain ⟨b1, b2⟩ := parts_bulk (ss.take len) (ss.drop len) hk
      simp only [if_true] at hz
      have hlen : (ss.take len).length = len := by rw [List.length_take]; omega
      have := parts_any (ss.take len) (some a) cap W b1 b2 (fun k hk => by
        rw [hlen] at hk
        have h1 := hcell k (by omega)
        have h0 := hcell 0 (by omega)
        have h2 : (ss.take len).getD k ⟨#[]⟩ = ss.getD k ByteArray.empty := by
          rw [List.getD_eq_getElem?_getD, List.getD_eq_getElem?_getD, List.getElem?_take_of_lt hk]; rfl
        obtain ⟨b, off, spot⟩ := a
        cases spot with
        | none =>
          refine ⟨b, off, rfl, ?_⟩
          rw [h2, ← h1]
          unfold Addr.add
          split
          · rename_i h; subst h; rfl
          · rfl
        | some x =>
          exfalso
          have e : (Addr.add ⟨b, off, some x⟩ 0) = ⟨b, off, some x⟩ := by unfold Addr.add; rw [if_pos rfl]
          rw [e] at h0
          unfold World.cell? at h0
          split at h0
          · simp at h0
          · cases h0)
      rwa [hlen] at this
  refine hwalk.mono fun e W' ⟨he, hb⟩ => ?_
  subst he
  exact ⟨_, rfl, law_post1 Try.params5 rfl rfl rfl hW' h0 (by kernel_rfl) (of_decide_eq_true (by kernel_rfl)) hb⟩

set_option maxRecDepth 100000 in
theorem parts_lifted (os : Os) (started : os.Started) (H : Type) (enc : TypeId × Value → H) (F : Stop.Interp) :
    ReturnsInHanded {} Try.checked os 5 .any ((Rows.OpenSpec.upto Rows.sealPartsSpec).pre6 enc Try.prog Try.f5 Rows.sealPartsUptoRow.domain false) (((Rows.OpenSpec.upto Rows.sealPartsSpec).at F).post enc Try.prog Try.f5 false true false false) := by
  refine returnsInHanded_of_cond (C := Try.checked) (s := Rows.OpenSpec.upto Rows.sealPartsSpec) (k := Rows.uptoSmall) rfl Try.own started (by kernel_rfl) Try.func5
    (OpenSpec.witness (enc := enc) (C := Try.checked) (s := Rows.OpenSpec.upto Rows.sealPartsSpec) (k := Rows.uptoSmall) rfl false ⟨#[], #[.slice none 0 0], []⟩ 8 (by kernel_rfl) (by kernel_rfl) (by kernel_rfl)
      (x := ([.nil], [], [])) (by kernel_rfl) rfl (by kernel_rfl)) ?_
  intro W base args ds gs before hval hW _ hk _
  exact parts_contract H enc W base args ds gs before hval hW hk

theorem sealParts_holds : Rows.SealPartsUptoSaid :=
  OpenClaim.holds_of_cond 5 Try.f5 rfl rfl rfl rfl rfl rfl rfl ⟨rfl, rfl, rfl, rfl, rfl⟩ rfl rfl rfl rfl rfl (by kernel_rfl) Try.func5 (by kernel_rfl)
    (of_decide_eq_true (by kernel_rfl)) (by unfold Func.isWrapper; first | (rw [if_pos (by decide +kernel)]; kernel_rfl) | (rw [if_neg (by decide +kernel)]; exact ⟨rfl, rfl⟩))
    (fun os started H enc _ F => parts_lifted os started H enc F)
end Go.Proofs.Ytpmdibhogjhfnaa
