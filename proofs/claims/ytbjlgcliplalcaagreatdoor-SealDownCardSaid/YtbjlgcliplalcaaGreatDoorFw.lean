/-
  THE WALKS of whole, turned, plain, many, turn.Join, turn.Less, seal.sum: floats.
-/
import Derived.Test.YtbjlgcliplalcaaGreatDoorChecked
import Derived.Test.YtbjlgcliplalcaaGreatDoorFlt
import Derived.Test.YtbjlgcliplalcaaGreatDoorSmall
import Derived.WalkKit
import Derived.WalkSpells
import Derived.WalkLawsBesides
import Derived.Handy
import Derived.Lib.Hide
namespace Go.Proofs.YtbjlgcliplalcaaGreatDoor
open Go.RowKit
open Go.Op (negFloat)
open flt

def fadd (x y : Nat) : Nat := (Ieee.double.add x y).getD 0
def fsub (x y : Nat) : Nat := (Ieee.double.sub x y).getD 0
theorem fadd_run {x y : Nat} (hx : Num x) (hy : Fini y) : floatBits .add .f64 x y = some (fadd x y) := by
  obtain ⟨r, h, _⟩ := num_add hx hy
  show Ieee.double.add x y = _
  rw [h, fadd, h]; rfl
theorem fadd_num {x y : Nat} (hx : Num x) (hy : Fini y) : Num (fadd x y) := by
  obtain ⟨r, h, hr⟩ := num_add hx hy
  rw [fadd, h]; exact hr
theorem fsub_run {x y : Nat} (hx : Num x) (hy : Fini y) : floatBits .sub .f64 x y = some (fsub x y) := by
  obtain ⟨r, h, _⟩ := num_sub hx hy
  show Ieee.double.sub x y = _
  rw [h, fsub, h]; rfl
theorem fsub_num {x y : Nat} (hx : Num x) (hy : Fini y) : Num (fsub x y) := by
  obtain ⟨r, h, hr⟩ := num_sub hx hy
  rw [fsub, h]; exact hr
theorem fin_zero : Fini 0 := rep_zero.fin

theorem run_unary_neg_float (P : Program) (w : World) (k : FloatKind) (b : Nat) : Sem.run P (Op.unary .neg (.float k b)) w = .ok (.float k (negFloat k b)) w := rfl
attribute [local go_sem] run_unary_neg_float

theorem turned_any (re im : Nat) (w : World) :
    Calls Tryz.prog 36 #[.complex .f64 re im] w fun e w' => e = .returned (.complex .f64 (negFloat .f64 im) re) ∧ w = w' := by
  go_enter Tryz.func36, Tryz.ntmps36
  go_wp2
  go_ret
  exact ⟨rfl, rfl⟩

theorem plain_any (re im : Nat) (hr : Num re) (hi : Num im) (w : World) :
    Calls Tryz.prog 37 #[.complex .f64 re im] w fun e w' => e = .returned (.complex .f64 (fadd re 0) (fadd im 0)) ∧ w = w' := by
  have h1 := fun w => run_float_arith (P := Tryz.prog) w .add 85 .f64 re 0 _ (fadd_run hr fin_zero)
  have h2 := fun w => run_float_arith (P := Tryz.prog) w .add 85 .f64 im 0 _ (fadd_run hi fin_zero)
  go_enter Tryz.func37, Tryz.ntmps37
  go_wp2
  go_ret
  exact ⟨rfl, rfl⟩

theorem whole_in (x : Nat) (h : inside x = true) (w : World) :
    Calls Tryz.prog 35 #[.float .f64 x] w fun e w' => e = .returned (.int .i64 (wholeF x)) ∧ w = w' := by
  have h0 := inside_some h
  have h1 : (Ieee.double.order x 14069245235905429504 == some .gt) = true := by
    unfold inside at h; rw [Bool.and_eq_true] at h; exact h.1
  have h2 : (Ieee.double.order x 4845873199050653696 == some .lt) = true := by
    unfold inside at h; rw [Bool.and_eq_true] at h; exact h.2
  have hc := fun w => run_convert_float_int (P := Tryz.prog) w 85 3 .f64 .i64 x _ (by kernel_rfl) (by kernel_rfl) h0
  clear h0 h
  generalize wholeF x = n at *
  have e64 : FloatKind.f64.format = Ieee.double := rfl
  go_enter Tryz.func35, Tryz.ntmps35
  go_wp2
  go_ret
  exact ⟨rfl, rfl⟩
theorem whole_out (x : Nat) (h : inside x = false) (w : World) :
    Calls Tryz.prog 35 #[.float .f64 x] w fun e w' => e = .returned (.int .i64 (wholeF x)) ∧ w = w' := by
  have h0 : wholeF x = 0 := by unfold wholeF; rw [h]; rfl
  rw [h0]
  have e64 : FloatKind.f64.format = Ieee.double := rfl
  unfold inside at h
  rw [Bool.and_eq_false_iff] at h
  by_cases h1 : (Ieee.double.order x lo == some .gt) = true
  · have h1' : (Ieee.double.order x 14069245235905429504 == some .gt) = true := h1
    have h2 : (Ieee.double.order x 4845873199050653696 == some .lt) = false := by
      rcases h with h | h
      · rw [h] at h1; cases h1
      · exact h
    clear h h1 h0
    go_enter Tryz.func35, Tryz.ntmps35
    go_wp2
    go_ret
    exact ⟨rfl, rfl⟩
  · have h1' : (Ieee.double.order x 14069245235905429504 == some .gt) = false := eq_false_of_ne_true h1
    clear h h1 h0
    go_enter Tryz.func35, Tryz.ntmps35
    go_wp2
    go_ret
    exact ⟨rfl, rfl⟩
theorem whole_any (x : Nat) (w : World) :
    Calls Tryz.prog 35 #[.float .f64 x] w fun e w' => e = .returned (.int .i64 (wholeF x)) ∧ w = w' := by
  cases h : inside x
  · exact whole_out x h w
  · exact whole_in x h w

/-- turned so many times -/
def manyF : Nat → Nat × Nat → Nat × Nat
  | 0, z => z
  | n + 1, z => manyF n (negFloat .f64 z.2, z.1)
theorem manyF_succ (n : Nat) (z : Nat × Nat) : manyF (n + 1) z = (negFloat .f64 (manyF n z).2, (manyF n z).1) := by
  induction n generalizing z with
  | zero => rfl
  | succ n ih =>
    show manyF (n + 1) (negFloat .f64 z.2, z.1) = _
    rw [ih]; rfl
theorem manyF_num (n : Nat) (z : Nat × Nat) (h1 : Num z.1) (h2 : Num z.2) : Num (manyF n z).1 ∧ Num (manyF n z).2 := by
  induction n generalizing z with
  | zero => exact ⟨h1, h2⟩
  | succ n ih => exact ih _ (num_neg h2) h1
theorem manyF_fin (n : Nat) (z : Nat × Nat) (h1 : Fini z.1) (h2 : Fini z.2) : Fini (manyF n z).1 ∧ Fini (manyF n z).2 := by
  induction n generalizing z with
  | zero => exact ⟨h1, h2⟩
  | succ n ih => exact ih _ (fin_neg h2) h1

theorem and3 (n : Int) : bits .and .i64 n 3 = n % 4 := by
  have h : (BitVec.ofInt 64 n &&& BitVec.ofInt 64 3) = BitVec.ofInt 64 (n % 4) := by
    apply BitVec.eq_of_toNat_eq
    have e3 : (BitVec.ofInt 64 3).toNat = 2 ^ 2 - 1 := by decide
    rw [BitVec.toNat_and, e3, Nat.and_two_pow_sub_one_eq_mod, BitVec.toNat_ofInt, BitVec.toNat_ofInt]
    omega
  have hb : bits .and .i64 n 3 = IntKind.i64.wrap ((BitVec.ofInt 64 n &&& BitVec.ofInt 64 3).toNat : Int) := rfl
  rw [hb, h, BitVec.toNat_ofInt, IntKind.wrap_i64]
  omega
theorem n4 (n : Int) : ∃ k : Nat, k < 4 ∧ n % 4 = (k : Int) ∧ (n % 4).toNat = k := ⟨(n % 4).toNat, by omega, by omega, rfl⟩

set_option maxHeartbeats 400000 in
theorem many_any (re im : Nat) (n : Int) (w : World) :
    Calls Tryz.prog 39 #[.complex .f64 re im, .int .i64 n] w fun e w' => e = .returned (.complex .f64 (manyF (n % 4).toNat (re, im)).1 (manyF (n % 4).toNat (re, im)).2) ∧ w = w' := by
  have h3 := and3 n
  obtain ⟨m, hm4, hm, hm'⟩ := n4 n
  rw [hm'] 
  rw [hm] at h3
  have HM := Lib.hid hm
  clear hm hm'
  go_enter Tryz.func39, Tryz.ntmps39
  go_wp2
  go_loop [0, 7] (fun z i => ∃ k : Nat, k ≤ m ∧ i = .int .i64 k ∧ z = .complex .f64 (manyF k (re, im)).1 (manyF k (re, im)).2) (fun _ i => m - (intOf i).toNat)
  case atStart => exact ⟨0, by omega, rfl, rfl⟩
  case round =>
    obtain ⟨k, hk, rfl, rfl⟩ := hrel
    have HS := Lib.hid (manyF_succ k (re, im))
    generalize hz : manyF k (re, im) = z at *
    have HZ := Lib.hid hz
    clear hz
    by_cases hlt : k < m
    · go_wp2_with (go_at_call 36; refine (turned_any _ _ _).mono ?_; rintro e w' ⟨rfl, rfl⟩)
      go_round
      case rel => exact ⟨k + 1, by omega, by go_num, by rw [HS.out]⟩
      case measure => simp [intOf]; omega
    · obtain rfl : k = m := by omega
      go_wp2
      go_ret
      exact ⟨by rw [HZ.out]; rfl, rfl⟩

def joinF (a b : Nat × Nat) (n : Int) : Nat × Nat := (fadd (fadd (manyF (n % 4).toNat a).1 b.1) 0, fadd (fadd (manyF (n % 4).toNat a).2 b.2) 0)
def lessF (z b : Nat × Nat) (n : Int) : Nat × Nat :=
  (fadd (manyF (wrap64 (-n) % 4).toNat (fsub z.1 b.1, fsub z.2 b.2)).1 0, fadd (manyF (wrap64 (-n) % 4).toNat (fsub z.1 b.1, fsub z.2 b.2)).2 0)

theorem cadd_run {x y c d : Nat} (hx : Num x) (hy : Num y) (hc : Fini c) (hd : Fini d) (t : TypeId) (w : World) :
    (binOp .add t (.complex .f64 x y) (.complex .f64 c d)).run Tryz.prog w = .ok (.complex .f64 (fadd x c) (fadd y d)) w :=
  run_complex_sum w .add (.inl rfl) t .f64 x y c d _ _ (by simp [cSumBits, fadd_run hx hc, fadd_run hy hd])
theorem csub_run {x y c d : Nat} (hx : Num x) (hy : Num y) (hc : Fini c) (hd : Fini d) (t : TypeId) (w : World) :
    (binOp .sub t (.complex .f64 x y) (.complex .f64 c d)).run Tryz.prog w = .ok (.complex .f64 (fsub x c) (fsub y d)) w :=
  run_complex_sum w .sub (.inr rfl) t .f64 x y c d _ _ (by simp [cSumBits, fsub_run hx hc, fsub_run hy hd])

theorem turnJoin_any (a b c d : Nat) (n : Int) (ha : Fini a) (hb : Fini b) (hc : Fini c) (hd : Fini d) (w : World) :
    Calls Tryz.prog 21 #[.complex .f64 a b, .complex .f64 c d, .int .i64 n] w fun e w' =>
      e = .returned (.complex .f64 (joinF (a, b) (c, d) n).1 (joinF (a, b) (c, d) n).2) ∧ w = w' := by
  obtain ⟨g1, g2⟩ := manyF_fin (n % 4).toNat (a, b) ha hb
  have hx := fadd_num g1.num hc
  have hy := fadd_num g2.num hd
  have hadd := fun w => cadd_run g1.num g2.num hc hd 50 w
  unfold joinF
  have hmany := many_any a b n
  generalize manyF (n % 4).toNat (a, b) = z at *
  have HM := Lib.hid hmany
  clear hmany
  go_enter Tryz.func21, Tryz.ntmps21
  go_wp2_with (first
    | (go_at_call 39; refine (HM.out _).mono ?_; rintro e w' ⟨rfl, rfl⟩)
    | (go_at_call 37; refine (plain_any _ _ (by assumption) (by assumption) _).mono ?_; rintro e w' ⟨rfl, rfl⟩))
  go_ret
  exact ⟨rfl, rfl⟩
theorem turnLess_any (a b c d : Nat) (n : Int) (ha : Fini a) (hb : Fini b) (hc : Fini c) (hd : Fini d) (w : World) :
    Calls Tryz.prog 25 #[.complex .f64 a b, .complex .f64 c d, .int .i64 n] w fun e w' =>
      e = .returned (.complex .f64 (lessF (a, b) (c, d) n).1 (lessF (a, b) (c, d) n).2) ∧ w = w' := by
  have hsub := fun w => csub_run ha.num hb.num hc hd 50 w
  obtain ⟨g1, g2⟩ := manyF_num (wrap64 (-n) % 4).toNat (fsub a c, fsub b d) (fsub_num ha.num hc) (fsub_num hb.num hd)
  unfold lessF
  have hmany := many_any (fsub a c) (fsub b d) (wrap64 (-n))
  generalize manyF (wrap64 (-n) % 4).toNat (fsub a c, fsub b d) = z at *
  have HM := Lib.hid hmany
  clear hmany
  go_enter Tryz.func25, Tryz.ntmps25
  go_wp2_with (first
    | (go_at_call 39; refine (HM.out _).mono ?_; rintro e w' ⟨rfl, rfl⟩)
    | (go_at_call 37; refine (plain_any _ _ (by assumption) (by assumption) _).mono ?_; rintro e w' ⟨rfl, rfl⟩))
  go_ret
  exact ⟨rfl, rfl⟩

/-- the turned sum that a seal tells -/
def sumF (re im : Int) : Nat × Nat := (floatOfInt .f64 re, floatOfInt .f64 im)
theorem sealSum_any (re im c n : Int) (w : World) :
    Calls Tryz.prog 22 #[.agg #[.int .i64 re, .int .i64 im, .int .u32 c, .int .i64 n]] w fun e w' =>
      e = .returned (.complex .f64 (sumF re im).1 (sumF re im).2) ∧ Below w.heap.size w w' := by
  go_enter Tryz.func22, Tryz.ntmps22
  go_wp2
  go_ret
  exact ⟨rfl, (Below.refl _ _).alloc (Nat.le_refl _) _⟩
theorem told_any (re im : Nat) (c n : Int) (w : World) :
    Calls Tryz.prog 16 #[.complex .f64 re im, .int .u32 c, .int .i64 n] w fun e w' =>
      e = .returned (.agg #[.int .i64 (wholeF re), .int .i64 (wholeF im), .int .u32 c, .int .i64 n]) ∧ Below w.heap.size w w' := by
  go_enter Tryz.func16, Tryz.ntmps16
  go_wp2_with (go_at_call 35; refine (whole_any _ _).mono ?_; rintro e w' ⟨rfl, rfl⟩)
  refine bodyPost_ret (v := .agg #[.int .i64 (wholeF re), .int .i64 (wholeF im), .int .u32 c, .int .i64 n]) (by simp [results, Tryz.results16, go_sem]) rfl ⟨rfl, (Below.refl _ _).alloc (Nat.le_refl _) _⟩
end Go.Proofs.YtbjlgcliplalcaaGreatDoor
