/-
  SealMany: for every text of at most 8 bytes and every number up to 200, joining by halves gives the seal of the text repeated so many times. Others: the law answers true at once. No condition.
-/
import Derived.Test.YtpmdibhogjhfnaaJoins
namespace Go.Proofs.Ytpmdibhogjhfnaa
open Go.RowKit

/-- so many times -/
def rep (l : List Nat) : Nat → List Nat
  | 0 => []
  | n + 1 => rep l n ++ l
theorem rep_add (l : List Nat) (m n : Nat) : rep l (m + n) = rep l m ++ rep l n := by
  induction n with
  | zero => simp [rep]
  | succ n ih => rw [← Nat.add_assoc, rep, ih, rep, List.append_assoc]
theorem rep_length (l : List Nat) (n : Nat) : (rep l n).length = n * l.length := by
  induction n with
  | zero => simp [rep]
  | succ n ih => rw [rep, List.length_append, ih, Nat.succ_mul]
theorem rep_lt (l : List Nat) (h : ∀ c ∈ l, c < 256) (n : Nat) : ∀ c ∈ rep l n, c < 256 := by
  induction n with
  | zero => intro c hc; cases hc
  | succ n ih =>
    intro c hc
    rw [rep] at hc
    rcases List.mem_append.1 hc with h1 | h1
    · exact ih c h1
    · exact h c h1
theorem rep_one (l : List Nat) : rep l 1 = l := by simp [rep]
def repB (s : ByteArray) : Nat → ByteArray
  | 0 => ⟨#[]⟩
  | n + 1 => repB s n ++ s
theorem bl_repB (s : ByteArray) (n : Nat) : bl (repB s n) = rep (bl s) n := by
  induction n with
  | zero => rfl
  | succ n ih => rw [repB, bl_append, ih]; rfl
theorem repB_size (s : ByteArray) (n : Nat) : (repB s n).size = n * s.size := by rw [← bl_length, bl_repB, rep_length, bl_length]

/-- four cells that a number tells -/
def four (r1 r2 r3 r4 : Nat → Int) (k : Nat) : Array Value := #[.int .i64 (r1 k), .int .i64 (r2 k), .int .u32 (r3 k), .int .i64 (r4 k)]
theorem many_facts (s : ByteArray) (n : Nat) (hs : s.size ≤ 8) (hn : n ≤ 200) : ∃ r1 r2 r3 r4 : Nat → Int, (r1 0 = 0 ∧ r2 0 = 0 ∧ r3 0 = 0 ∧ r4 0 = 0) ∧
    (∀ w, Calls Try.prog 9 #[.string s] w fun e w' => e = .returned (.agg #[.int .i64 (r1 1), .int .i64 (r2 1), .int .u32 (r3 1), .int .i64 (r4 1)]) ∧ Below w.heap.size w w') ∧
    (∀ a b : Nat, a ≤ 1000 → b ≤ 1000 → ∀ w, Calls Try.prog 11 #[.agg #[.int .i64 (r1 a), .int .i64 (r2 a), .int .u32 (r3 a), .int .i64 (r4 a)], .agg #[.int .i64 (r1 b), .int .i64 (r2 b), .int .u32 (r3 b), .int .i64 (r4 b)]] w fun e w' =>
      e = .returned (.agg #[.int .i64 (r1 (a + b)), .int .i64 (r2 (a + b)), .int .u32 (r3 (a + b)), .int .i64 (r4 (a + b))]) ∧ Below w.heap.size w w') ∧
    (∀ w, Calls Try.prog 10 #[.string (repB s n)] w fun e w' => e = .returned (.agg #[.int .i64 (r1 n), .int .i64 (r2 n), .int .u32 (r3 n), .int .i64 (r4 n)]) ∧ Below w.heap.size w w') := by
  have h1 := of_seal s (by omega)
  have hlt := bl_lt s
  have hlen := bl_length s
  have href := refOf_seal (repB s n) (by rw [repB_size]; have : n * s.size ≤ 200 * 8 := Nat.mul_le_mul hn hs; omega)
  rw [bl_repB] at href
  have hone : bl s = rep (bl s) 1 := by rw [rep_one]
  rw [hone] at h1
  refine ⟨fun k => (gs (rep (bl s) k)).1, fun k => (gs (rep (bl s) k)).2, fun k => (crc.check (rep (bl s) k) : Nat), fun k => ((rep (bl s) k).length : Nat), ⟨rfl, rfl, ?_, rfl⟩, h1, ?_, href⟩
  · have h1 : crc.check [] = 0 := by decide
    show ((crc.check [] : Nat) : Int) = 0
    rw [h1]; rfl
  intro a b ha hb
  have bd : ∀ k, k ≤ 1000 → (rep (bl s) k).length ≤ 1099511627776 := by
    intro k hk
    rw [rep_length, hlen]
    have : k * s.size ≤ 1000 * 8 := Nat.mul_le_mul hk hs
    omega
  have := join_seal (rep (bl s) a) (rep (bl s) b) (rep_lt _ hlt a) (rep_lt _ hlt b) (bd a ha) (bd b hb)
  rw [← rep_add] at this
  exact this

theorem and_one_i64_eq (x : Nat) (hx : x < 9223372036854775808) : (bits .and .i64 (x : Int) 1 == 1) = decide (x % 2 = 1) := by
  have h := (bits_nat .i64 63 (by decide) wraps_i64 x 1 hx (by decide)).1
  rw [show (1 : Int) = ((1 : Nat) : Int) from rfl, h, Nat.and_one_is_mod]
  rcases Nat.mod_two_eq_zero_or_one x with h | h <;> rw [h] <;> rfl
theorem below_set4_at {w : World} {b : Nat} (x y z u : Value) : ((((w.setCell ⟨b, 0, none⟩ x).setCell ⟨b, 1, none⟩ y).setCell ⟨b, 2, none⟩ z).setCell ⟨b, 3, none⟩ u).heap.size = w.heap.size := by
  simp [World.setCell]

/-- what a round of the first loop finds -/
structure ManyAt (r1 r2 r3 r4 : Nat → Int) (sb ob e m : Nat) (w0 w : World) : Prop where
  sum : w.heap[sb]? = some (.cells #[.int .i64 (r1 e), .int .i64 (r2 e), .int .u32 (r3 e), .int .i64 (r4 e)] 25 (0, 0))
  one : w.heap[ob]? = some (.cells #[.int .i64 (r1 m), .int .i64 (r2 m), .int .u32 (r3 m), .int .i64 (r4 m)] 25 (0, 0))
  below : Below w0.heap.size w0 w

theorem set4_far {w : World} {b k : Nat} (h : k ≠ b) (x y z u : Value) : ((((w.setCell ⟨b, 0, none⟩ x).setCell ⟨b, 1, none⟩ y).setCell ⟨b, 2, none⟩ z).setCell ⟨b, 3, none⟩ u).heap[k]? = w.heap[k]? := by
  rw [Below.heap_setCell _ _ _ _ h, Below.heap_setCell _ _ _ _ h, Below.heap_setCell _ _ _ _ h, Below.heap_setCell _ _ _ _ h]

set_option maxHeartbeats 1600000 in
theorem many_long (s : ByteArray) (n : Int) (h : 8 < s.size ∨ 200 < n) (w : World) :
    Calls Try.prog 6 #[.string s, .int .u8 n] w fun e w' => e = .returned (.bool true) ∧ Below w.heap.size w w' := by
  by_cases ha : 8 < s.size
  · have hla : (8 : Int) < (s.size : Int) := by omega
    go_enter Try.func6, Try.ntmps6
    go_wp2_with (go_at_call 8; refine (awake_any _).mono ?_; rintro e w1 ⟨rfl, hw1⟩)
    go_ret
    exact ⟨rfl, hw1⟩
  · have hla : (s.size : Int) ≤ (8 : Int) := by omega
    have hlb : (200 : Int) < n := by omega
    go_enter Try.func6, Try.ntmps6
    go_wp2_with (go_at_call 8; refine (awake_any _).mono ?_; rintro e w1 ⟨rfl, hw1⟩)
    go_ret
    exact ⟨rfl, hw1⟩

section
attribute [local go_sem] gives
set_option maxHeartbeats 3200000 in
theorem many_walk (s : ByteArray) (n : Nat) (hs : s.size ≤ 8) (hn : n ≤ 200) (w : World) :
    Calls Try.prog 6 #[.string s, .int .u8 n] w fun e w' => e = .returned (.bool true) ∧ Below w.heap.size w w' := by
  obtain ⟨r1, r2, r3, r4, ⟨q1, q2, q3, q4⟩, h1, hj, href⟩ := many_facts s n hs hn
  have hszB : ∀ k, k ≤ n → (repB s k).size ≤ 1600 := by
    intro k hk
    rw [repB_size]
    have : k * s.size ≤ 200 * 8 := Nat.mul_le_mul (by omega) hs
    omega
  have hcat : ∀ k, k ≤ n → ∀ w, (Op.stringOp .add (repB s k) s).run Try.prog w = .ok (.string (repB s (k + 1))) w := fun k hk w =>
    run_string_add_sum w (repB s k) s (by have := hszB k hk; omega)
  have H1 := Lib.hid h1
  have HJ := Lib.hid hj
  have HR := Lib.hid href
  have HCAT := Lib.hid hcat
  have HQ := Lib.hid (show (r1 0 = 0 ∧ r2 0 = 0 ∧ r3 0 = 0 ∧ r4 0 = 0) from ⟨q1, q2, q3, q4⟩)
  clear h1 hj href hszB hcat q1 q2 q3 q4
  have hla : decide ((8 : Int) < (s.size : Int)) = false := by simp; omega
  have hln : decide ((200 : Int) < (n : Int)) = false := by simp; omega
  go_enter Try.func6, Try.ntmps6
  go_wp2_with (first
    | (go_at_call 8; refine (awake_any _).mono ?_; rintro e w1 ⟨rfl, hw1⟩)
    | (go_at_call 9; with_reducible refine (H1.out _).mono ?_; rintro e w2 ⟨rfl, hw2⟩))
  have hz := hw2.size
  simp only [World.size_alloc] at hz
  have hsz1 := hw1.size
  have hM : ManyAt r1 r2 r3 r4 w1.heap.size w2.heap.size 0 (2 ^ 0) w (w2.alloc (Obj.cells #[.int .i64 (r1 1), .int .i64 (r2 1), .int .u32 (r3 1), .int .i64 (r4 1)] 25)) := by
    refine ⟨?_, heap_alloc_new _ _, ((hw1.alloc hsz1 _).trans (hw2.mono (by simp; omega))).alloc (by omega) _⟩
    rw [Below.heap_alloc _ _ _ (by omega), hw2.block _ (by simp), heap_alloc_new, HQ.out.1, HQ.out.2.1, HQ.out.2.2.1, HQ.out.2.2.2]
  have hne : w1.heap.size ≠ w2.heap.size := by omega
  have hsb : w.heap.size ≤ w1.heap.size := hsz1
  have hob : w.heap.size ≤ w2.heap.size := by omega
  clear hw1 hw2 hz hsz1
  generalize w2.alloc (Obj.cells #[.int .i64 (r1 1), .int .i64 (r2 1), .int .u32 (r3 1), .int .i64 (r4 1)] 25) = W at *
  generalize w1.heap.size = sb at *
  generalize w2.heap.size = ob at *
  go_loopw [8] (fun x wr => ∃ N j e : Nat, N * 2 ^ j + e = n ∧ N ≤ 255 ∧ (N = 0 ∨ 2 ^ j ≤ 200) ∧ x = .int .i64 N ∧ ManyAt r1 r2 r3 r4 sb ob e (2 ^ j) w wr) (fun x _ => (intOf x).toNat)
  case atStart => exact ⟨n, 0, 0, by omega, by omega, .inr (by decide), rfl, hM⟩
  case round =>
    obtain ⟨N, j, e, hNe, hN, hj2, rfl, hm⟩ := hrel
    have HNE := Lib.hid hNe
    clear hNe hM
    by_cases h0 : N = 0
    · subst h0
      have e0 : e = n := by have := HNE.out; omega
      subst e0
      have hsum := hm.sum
      have hbl := hm.below
      clear hm
      have hlsb : sb < wr.heap.size := (Array.getElem?_eq_some_iff.1 hsum).1
      go_wp2
      go_loop [5, 36] (fun x c => ∃ k : Nat, k ≤ e ∧ c = .int .u8 k ∧ x = .string (repB s k)) (fun _ c => e - (intOf c).toNat)
      case atStart => exact ⟨0, by omega, rfl, rfl⟩
      case round =>
        obtain ⟨k, hk, rfl, rfl⟩ := hrel
        by_cases hke : k < e
        · have hcat := HCAT.out k hk
          generalize hz : repB s k = z at *
          have HZ := Lib.hid hz
          clear hz
          go_wp2
          go_round
          case rel => exact ⟨k + 1, by omega, by go_num, rfl⟩
          case measure => simp [intOf]; omega
        · obtain rfl : k = e := by omega
          generalize repB s k = z at *
          go_wp2
          obtain ⟨C, hC⟩ : ∃ C : World → Prop, ∀ u, C u ↔ Below wr.heap.size wr u := ⟨fun u => Below wr.heap.size wr u, fun _ => Iff.rfl⟩
          have F : ∀ u, C u → u.heap[sb]? = some (Obj.cells #[.int .i64 (r1 k), .int .i64 (r2 k), .int .u32 (r3 k), .int .i64 (r4 k)] 25) := fun u hu => (((hC u).1 hu).block _ hlsb).trans hsum
          have step : ∀ u u', C u → Below u.heap.size u u' → C u' := fun u u' hu hb => (hC u').2 (((hC u).1 hu).trans (hb.mono ((hC u).1 hu).size))
          have HC := Lib.hid hC
          have FF := Lib.hid F
          clear hC F hsum
          refine wp_region_inv 4 C (by kernel_rfl) (by kernel_rfl) ((HC.out _).2 (Below.refl _ _).drew) ?_
          simp only [List.take_succ_cons, List.take_zero, List.drop_succ_cons, List.drop_zero]
          repeat
            (first | refine wpInv_plain rfl (fun K hK => ?_) | refine wpInv_wanted (by rfl) (fun K hK => ?_)
             apply Exists.intro
             refine ⟨fun u hu => ?_, ?_⟩
             · have HU := Lib.hid hu
               have f1 := FF.out u hu
               clear hu
               obtain ⟨⟨c1, c2, c3, c4⟩, d1, d2, d3, d4⟩ := cells4Of f1
               clear f1 d1 d2 d3 d4
               go_simp
               first
                 | exact ⟨HU.out, rfl⟩
                 | (go_at_call 10; with_reducible refine (HR.out _).mono ?_; rintro e w' ⟨rfl, hb⟩; exact ⟨rfl, step _ _ HU.out hb⟩)
             go_simp
             refine hK _ ?_
             clear hK K)
          refine wpInv_nil ?_
          intro u hu
          have hb := hbl.trans (((HC.out _).1 hu).mono hbl.size)
          go_wp2
          go_ret
          exact ⟨rfl, hb⟩
    · have hj200 : 2 ^ j ≤ 200 := by omega
      have he200 : e ≤ 200 := by have := HNE.out; omega
      have hnext : (N / 2 = 0 ∨ 2 ^ (j + 1) ≤ 200) := by
        by_cases h2 : N / 2 = 0
        · exact .inl h2
        · right
          have h3 := HNE.out
          have h4 : 2 * 2 ^ j ≤ N * 2 ^ j := Nat.mul_le_mul_right _ (by omega)
          rw [Nat.pow_succ]; omega
      have hdbl : 2 ^ j + 2 ^ j = 2 ^ (j + 1) := by rw [Nat.pow_succ]; omega
      have HJ1 := Lib.hid (HJ.out e (2 ^ j) (by omega) (by omega))
      have HJ2 := Lib.hid (HJ.out (2 ^ j) (2 ^ j) (by omega) (by omega))
      rw [hdbl] at HJ2
      obtain ⟨m1, m2, m3⟩ := hm
      obtain ⟨⟨c1, c2, c3, c4⟩, d1, d2, d3, d4⟩ := cells4Of m1
      obtain ⟨⟨k1, k2, k3, k4⟩, o1, o2, o3, o4⟩ := cells4Of m2
      have M1 := Lib.hid m1
      have M2 := Lib.hid m2
      have HDB := Lib.hid hdbl
      clear m1 m2 hdbl
      have h1 := and_one_i64_eq N (by omega)
      have hne' := hne.symm
      by_cases ho : N % 2 = 1
      · simp only [ho, decide_true] at h1
        have HO := Lib.hid ho
        clear ho
        go_wp2_with fail
        refine (HJ1.out _).mono ?_
        rintro ev w3 ⟨rfl, hw3⟩
        have hlo : ob < wr.heap.size := (Array.getElem?_eq_some_iff.1 M2.out).1
        have hls : sb < wr.heap.size := (Array.getElem?_eq_some_iff.1 M1.out).1
        have n1 := (hw3.block sb hls).trans M1.out
        have n2 := (hw3.block ob hlo).trans M2.out
        clear c1 c2 c3 c4 d1 d2 d3 d4 k1 k2 k3 k4 o1 o2 o3 o4
        obtain ⟨⟨c1, c2, c3, c4⟩, d1, d2, d3, d4⟩ := cells4Of n1
        obtain ⟨⟨k1, k2, k3, k4⟩, o1, o2, o3, o4⟩ := cells4Of n2
        have N1 := Lib.hid n1
        have N2 := Lib.hid n2
        clear n1 n2
        go_wp2_with fail
        refine (HJ2.out _).mono ?_
        rintro ev w4 ⟨rfl, hw4⟩
        have hs4 := hw4.size
        rw [below_set4_at] at hs4
        have hs3 := hw3.size
        have p1 := (hw4.block sb (by rw [below_set4_at]; omega)).trans (set4 N1.out (.int .i64 (r1 (e + 2 ^ j))) (.int .i64 (r2 (e + 2 ^ j))) (.int .u32 (r3 (e + 2 ^ j))) (.int .i64 (r4 (e + 2 ^ j))))
        have p2 := (hw4.block ob (by rw [below_set4_at]; omega)).trans ((set4_far hne' _ _ _ _).trans N2.out)
        have hbl : Below w.heap.size w w4 := (below_set4 (m3.trans (hw3.mono m3.size)) hsb _ _ _ _).trans (hw4.mono (by rw [below_set4_at]; have := m3.size; omega))
        clear c1 c2 c3 c4 d1 d2 d3 d4 k1 k2 k3 k4 o1 o2 o3 o4 hw3 hw4
        obtain ⟨⟨k1, k2, k3, k4⟩, o1, o2, o3, o4⟩ := cells4Of p2
        have P1 := Lib.hid p1
        have P2 := Lib.hid p2
        clear p1 p2
        go_wp2
        exact ⟨⟨N / 2, j + 1, e + 2 ^ j, exp_odd HNE.out HO.out, by omega, hnext, by go_num, ⟨(set4_far hne _ _ _ _).trans P1.out, set4 P2.out _ _ _ _, below_set4 hbl hob _ _ _ _⟩⟩, by simp only [intOf]; omega⟩
      · simp only [ho, decide_false] at h1
        have HO := Lib.hid ho
        clear ho
        go_wp2_with fail
        refine (HJ2.out _).mono ?_
        rintro ev w4 ⟨rfl, hw4⟩
        have hlo : ob < wr.heap.size := (Array.getElem?_eq_some_iff.1 M2.out).1
        have hls : sb < wr.heap.size := (Array.getElem?_eq_some_iff.1 M1.out).1
        have p1 := (hw4.block sb hls).trans M1.out
        have p2 := (hw4.block ob hlo).trans M2.out
        have hbl : Below w.heap.size w w4 := m3.trans (hw4.mono m3.size)
        clear c1 c2 c3 c4 d1 d2 d3 d4 k1 k2 k3 k4 o1 o2 o3 o4 hw4
        obtain ⟨⟨k1, k2, k3, k4⟩, o1, o2, o3, o4⟩ := cells4Of p2
        have P1 := Lib.hid p1
        have P2 := Lib.hid p2
        clear p1 p2
        go_wp2
        exact ⟨⟨N / 2, j + 1, e, exp_even HNE.out HO.out, by omega, hnext, by go_num, ⟨(set4_far hne _ _ _ _).trans P1.out, set4 P2.out _ _ _ _, below_set4 hbl hob _ _ _ _⟩⟩, by simp only [intOf]; omega⟩
end

open Go.ChangeShapes Go.WideShapes Go.ChangeAt
open Go.ChangeMaps (open_string)
set_option maxRecDepth 100000 in
theorem many_lifted (os : Os) (started : os.Started) (H : Type) (enc : TypeId × Value → H) :
    ReturnsInHanded {} Try.checked os 6 .any (Rows.sealManySpec.pre6 enc Try.prog Try.f6 Rows.sealManyRow.domain false) (Rows.sealManySpec.post enc Try.prog Try.f6 false true false false) := by
  refine returnsInHanded_of_change (C := Try.checked) Try.own started (by kernel_rfl) Try.func6
    (ChangeSpec.witness6 (enc := enc) (C := Try.checked) false ⟨#[], #[.string .empty, .int .u8 0], []⟩ 8 (by kernel_rfl) (by kernel_rfl) (by kernel_rfl) (by kernel_rfl)) ?_
  intro W base args ds gs before hval0 hW _ _
  have hval : ∀ (j : Nat) t v, Try.f6.params[j]? = some t → args[j]? = some v → Value.okWide Try.prog W .any base t v := hval0
  have hW' := hW
  obtain ⟨p, q, hA0, hV, rfl, hfz, hnd⟩ := hW
  have hA : DataW.TrodAll enc Try.prog W 0 (fun _ => true) true Try.f6.params.toList args.toList ds p := hA0
  rw [Try.params6] at hA hval
  obtain ⟨v0, v1, d0, d1, p0, p1, hargs, rfl, rfl, h0, h1⟩ := trodAll_two hA
  obtain rfl : args = #[v0, v1] := by cases args; simp_all
  obtain ⟨rfl, rfl⟩ := trodVars_none hV
  obtain ⟨s, hv0, _, _, hs0⟩ := open_string Try.underlying9 (hval 0 9 v0 rfl rfl) h0
  obtain ⟨n, hv1, _, _, w1⟩ := open_int Try.underlying5 (hval 1 5 v1 rfl rfl) h1
  subst hv0 hv1
  have b1 := bounds_u8 w1
  obtain ⟨N, rfl⟩ := Int.eq_ofNat_of_zero_le b1.1
  clear hA0 hval0
  simp only [List.append_nil] at hW'
  have hwalk : Calls Try.prog 6 #[.string s, .int .u8 (N : Int)] W fun e w' => e = .returned (.bool true) ∧ Below W.heap.size W w' := by
    by_cases h : s.size ≤ 8 ∧ N ≤ 200
    · exact many_walk s N h.1 h.2 W
    · exact many_long s N (by omega) W
  refine hwalk.mono fun e W' ⟨he, hb⟩ => ?_
  subst he
  exact ⟨_, rfl, law_post2 Try.params6 rfl rfl rfl hW' h0 h1 (by kernel_rfl) (of_decide_eq_true (by kernel_rfl)) (by kernel_rfl) (of_decide_eq_true (by kernel_rfl)) hb⟩

theorem sealMany_holds : Rows.SealManySaid :=
  OpenClaim.holds_of_wide 6 Try.f6 rfl rfl rfl rfl rfl rfl rfl ⟨rfl, rfl, rfl, rfl, rfl⟩ rfl rfl rfl rfl rfl (by kernel_rfl) Try.func6 (by kernel_rfl)
    (of_decide_eq_true (by kernel_rfl)) (by unfold Func.isWrapper; first | (rw [if_pos (by decide +kernel)]; kernel_rfl) | (rw [if_neg (by decide +kernel)]; exact ⟨rfl, rfl⟩))
    (fun os started H enc _ => many_lifted os started H enc)
end Go.Proofs.Ytpmdibhogjhfnaa
