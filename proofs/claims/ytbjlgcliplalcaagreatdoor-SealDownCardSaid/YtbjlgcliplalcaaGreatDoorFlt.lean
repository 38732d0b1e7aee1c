/-
  PLAIN MATHEMATICS: floats that are whole numbers. No program in sight.
-/
import Derived.Laws.FloatArith
import Derived.Laws.ComplexArith
namespace Go.Proofs.YtbjlgcliplalcaaGreatDoor.flt
open Ieee
open Go.Op (negFloat)

theorem place_eq : double.leastPlace = -1074 := by decide
theorem binade_eq : double.binade = 4503599627370496 := by decide +kernel
theorem infRung_eq : double.infRung = 2047 * 4503599627370496 := by decide +kernel
theorem weight_eq : double.signWeight = 9223372036854775808 := by decide +kernel
theorem fraction_eq : double.fractionBits = 52 := rfl

/-- the places behind the point of the least float -/
def B : Nat := 1074
theorem B_eq : B = 1074 := rfl
/-- a float that is this whole number (nought may have a sign) -/
def Rep (x : Nat) (n : Int) : Prop := ∃ s m e, double.read x = .number s m e ∧ -1074 ≤ e ∧ signed s m (e + 1074).toNat = n * 2 ^ B
/-- a float that is no infinity and no NaN -/
def Fini (x : Nat) : Prop := ∃ s m e, double.read x = .number s m e
/-- a float that is no NaN -/
def Num (x : Nat) : Prop := Fini x ∨ ∃ s, double.read x = .infinity s

theorem Rep.fin {x : Nat} {n : Int} (h : Rep x n) : Fini x := let ⟨s, m, e, h, _⟩ := h; ⟨s, m, e, h⟩
theorem Fini.num {x : Nat} (h : Fini x) : Num x := .inl h

theorem read_word (s : Bool) (r : Nat) (h : r < 9223372036854775808) : double.read (double.word s r) =
    if r < 4503599627370496 then .number s r (-1074)
    else if r < 2047 * 4503599627370496 then .number s (4503599627370496 + r % 4503599627370496) (-1074 + (r / 4503599627370496 - 1 : Nat))
    else if r = 2047 * 4503599627370496 then .infinity s else .nan s (r - 2047 * 4503599627370496) := by
  unfold Format.read Format.word
  simp only [place_eq, binade_eq, infRung_eq, weight_eq]
  cases s
  · have h1 : r / 9223372036854775808 = 0 := Nat.div_eq_of_lt h
    have h2 : r % 9223372036854775808 = r := Nat.mod_eq_of_lt h
    simp [h1, h2]
  · have h1 : (9223372036854775808 + r) / 9223372036854775808 = 1 := by omega
    have h2 : (9223372036854775808 + r) % 9223372036854775808 = r := by omega
    simp [h1, h2]

theorem read_any (x : Nat) (h : x < 18446744073709551616) : x = double.word (x / 9223372036854775808 == 1) (x % 9223372036854775808) := by
  unfold Format.word
  simp only [weight_eq]
  split
  · rename_i h1; simp at h1; omega
  · rename_i h1; simp at h1; omega

theorem nearest_num (s : Bool) (m : Nat) (e : Int) : Num (double.nearest s m e) := by
  unfold Format.nearest
  split
  · left; rw [Fini, read_word _ _ (by decide)]; exact ⟨s, 0, -1074, rfl⟩
  · simp only [infRung_eq]
    generalize ((max (e + ↑m.log2 - ↑double.fractionBits) double.leastPlace - double.leastPlace).toNat * double.binade + _) = r
    have hlt : min r (2047 * 4503599627370496) < 9223372036854775808 := by omega
    unfold Num Fini
    rw [read_word _ _ hlt]
    by_cases h1 : min r (2047 * 4503599627370496) < 4503599627370496
    · rw [if_pos h1]; exact .inl ⟨_, _, _, rfl⟩
    · rw [if_neg h1]
      by_cases h2 : min r (2047 * 4503599627370496) < 2047 * 4503599627370496
      · rw [if_pos h2]; exact .inl ⟨_, _, _, rfl⟩
      · rw [if_neg h2, if_pos (by omega)]; exact .inr ⟨_, rfl⟩

/-- cut where nothing is left over -/
theorem cut_exact (way : Toward) (s : Bool) (k t : Nat) : way.cut s (k * 2 ^ t) t = k := by
  unfold Toward.cut
  have h0 : 0 < 2 ^ t := Nat.two_pow_pos t
  by_cases hk : k = 0
  · subst hk
    have hp : 0 < 1 <<< min t (Nat.log2 (0 * 2 ^ t) + 2) := by rw [Nat.shiftLeft_eq, Nat.one_mul]; exact Nat.two_pow_pos _
    cases way <;> simp <;> omega
  · have hl : t ≤ (k * 2 ^ t).log2 := by
      rw [Nat.le_log2 (by exact Nat.mul_ne_zero hk (by omega))]
      exact Nat.le_mul_of_pos_left _ (by omega)
    have hm : min t ((k * 2 ^ t).log2 + 2) = t := by omega
    simp only [hm, Nat.shiftLeft_eq, Nat.one_mul, Nat.mul_mod_left, Nat.mul_div_cancel _ h0]
    cases way <;> simp <;> omega

theorem log2_two_pow {m : Nat} (hm : m ≠ 0) (p : Nat) : (m * 2 ^ p).log2 = m.log2 + p := by
  induction p with
  | zero => simp
  | succ p ih =>
    have h : m * 2 ^ p ≠ 0 := Nat.mul_ne_zero hm (by have := Nat.two_pow_pos p; omega)
    rw [Nat.pow_succ, ← Nat.mul_assoc, Nat.mul_comm _ 2, Nat.log2_two_mul h, ih, Nat.add_assoc]

theorem log2_scaled {m p N q : Nat} (hN : N ≠ 0) (h : m * 2 ^ p = N * 2 ^ q) : m ≠ 0 ∧ m.log2 + p = N.log2 + q := by
  have hm : m ≠ 0 := by
    intro hm
    subst hm
    have : 0 < N * 2 ^ q := Nat.mul_pos (by omega) (Nat.two_pow_pos _)
    omega
  refine ⟨hm, ?_⟩
  have h1 := congrArg Nat.log2 h
  rwa [log2_two_pow hm, log2_two_pow hN] at h1

theorem cancel_pow {a b k : Nat} (h : a * 2 ^ k = b * 2 ^ k) : a = b := Nat.eq_of_mul_eq_mul_right (Nat.two_pow_pos k) h

theorem min_rung (K kept : Nat) (hK : K ≤ 53) (h2 : kept < 9007199254740992) :
    min ((K + 1022) * 4503599627370496 + kept) (2047 * 4503599627370496) = (K + 1022) * 4503599627370496 + kept := Nat.min_eq_left (by omega)
theorem rung_mod (K kept : Nat) (h1 : 4503599627370496 ≤ kept) (h2 : kept < 9007199254740992) :
    4503599627370496 + ((K + 1022) * 4503599627370496 + kept) % 4503599627370496 = kept := by omega
theorem rung_div (K kept : Nat) (h1 : 4503599627370496 ≤ kept) (h2 : kept < 9007199254740992) :
    ((K + 1022) * 4503599627370496 + kept) / 4503599627370496 = K + 1023 := by omega
theorem read_rung (s : Bool) (K kept : Nat) (hK : K ≤ 53) (h1 : 4503599627370496 ≤ kept) (h2 : kept < 9007199254740992) :
    double.read (double.word s (min ((K + 1022) * double.binade + kept) double.infRung)) = .number s kept ((K : Int) - 52) := by
  rw [binade_eq, infRung_eq, min_rung K kept hK h2]
  rw [read_word _ _ (by omega), if_neg (by omega), if_pos (by omega), rung_mod K kept h1 h2, rung_div K kept h1 h2]
  rw [show (-1074 + ((K + 1023 - 1 : Nat) : Int)) = (K : Int) - 52 by omega]

theorem log2_le {N : Nat} (hN : N ≠ 0) (hN2 : N ≤ 9007199254740992) : N.log2 ≤ 53 := by
  have : N.log2 < 54 := (Nat.log2_lt hN).2 (Nat.lt_of_le_of_lt hN2 (by decide +kernel))
  omega
theorem log2_top {N : Nat} (hN : N ≠ 0) (hN2 : N ≤ 9007199254740992) (h : N.log2 = 53) : N = 2 ^ 53 := by
  have := Nat.log2_self_le hN
  rw [h] at this
  have e2 : (2 : Nat) ^ 53 = 9007199254740992 := by decide +kernel
  omega
theorem log2_52 {n : Nat} (hn : n ≠ 0) (h : n.log2 = 52) : 4503599627370496 ≤ n ∧ n < 9007199254740992 := by
  have h1 := Nat.log2_self_le hn
  have h2 := Nat.lt_log2_self (n := n)
  rw [h] at h1 h2
  have e1 : (2 : Nat) ^ 52 = 4503599627370496 := by decide +kernel
  have e2 : (2 : Nat) ^ (52 + 1) = 9007199254740992 := by decide +kernel
  omega

/-- what is kept of a whole number of at most 53 digits is all of it -/
theorem kept_all (s : Bool) (m p N K : Nat) (hK : N.log2 = K) (hK53 : K ≤ 53) (hN3 : K = 53 → N = 2 ^ 53) (h : m * 2 ^ p = N * 2 ^ B) :
    ∃ kept, Toward.even.cut s (m <<< ((p : Int) - 1074 - ((K : Int) - 52)).toNat) ((K : Int) - 52 - ((p : Int) - 1074)).toNat = kept ∧ kept * 2 ^ (K + 1022) = N * 2 ^ B := by
  by_cases hc : K + 1022 ≤ p
  · have e1 : ((p : Int) - 1074 - ((K : Int) - 52)).toNat = p - (K + 1022) := by omega
    have e2 : ((K : Int) - 52 - ((p : Int) - 1074)).toNat = 0 := by omega
    rw [e1, e2]
    have := cut_exact .even s (m <<< (p - (K + 1022))) 0
    rw [Nat.pow_zero, Nat.mul_one] at this
    rw [this]
    refine ⟨_, rfl, ?_⟩
    rw [Nat.shiftLeft_eq, Nat.mul_assoc, ← Nat.pow_add, show p - (K + 1022) + (K + 1022) = p by omega, h]
  · have e1 : ((p : Int) - 1074 - ((K : Int) - 52)).toNat = 0 := by omega
    obtain ⟨t, ht⟩ : ∃ t, K + 1022 = p + t := ⟨K + 1022 - p, by omega⟩
    have e2 : ((K : Int) - 52 - ((p : Int) - 1074)).toNat = t := by omega
    rw [e1, e2, Nat.shiftLeft_zero]
    obtain ⟨k, hk⟩ : ∃ k, m = k * 2 ^ t := by
      by_cases h52 : K ≤ 52
      · refine ⟨N * 2 ^ (52 - K), cancel_pow (k := p) ?_⟩
        have e : 52 - K + (t + p) = B := by have := B_eq; omega
        rw [h, Nat.mul_assoc, Nat.mul_assoc, ← Nat.pow_add, ← Nat.pow_add, e]
      · refine ⟨2 ^ 52, cancel_pow (k := p) ?_⟩
        have e : 53 + B = 52 + (t + p) := by have := B_eq; omega
        rw [h, hN3 (by omega), Nat.mul_assoc, ← Nat.pow_add, ← Nat.pow_add, ← Nat.pow_add, e]
    rw [hk, cut_exact]
    refine ⟨_, rfl, ?_⟩
    rw [ht, Nat.pow_add, Nat.mul_comm (2 ^ p), ← Nat.mul_assoc, ← hk, h]

/-- a whole number of at most 53 digits is written as it is -/
theorem read_nearest (s : Bool) (m : Nat) (e : Int) (N : Nat) (hN : N ≠ 0) (hN2 : N ≤ 9007199254740992) (he : -1074 ≤ e) (h : m * 2 ^ (e + 1074).toNat = N * 2 ^ B) :
    ∃ m' e', double.read (double.nearest s m e) = .number s m' e' ∧ -1074 ≤ e' ∧ m' * 2 ^ (e' + 1074).toNat = N * 2 ^ B := by
  obtain ⟨hm, hlog⟩ := log2_scaled hN h
  have hK := log2_le hN hN2
  have h53 := log2_top hN hN2
  obtain ⟨p, rfl⟩ : ∃ p : Nat, e = (p : Int) - 1074 := ⟨(e + 1074).toNat, by omega⟩
  have hp : ((p : Int) - 1074 + 1074).toNat = p := by omega
  rw [hp] at h hlog
  unfold Format.nearest
  rw [if_neg hm]
  simp only [place_eq, fraction_eq]
  have hlast : max ((p : Int) - 1074 + (m.log2 : Int) - ((52 : Nat) : Int)) (-1074) = (N.log2 : Int) - 52 := by have := B_eq; omega
  rw [hlast]
  obtain ⟨kept, hkept, hk⟩ := kept_all s m p N N.log2 rfl hK h53 h
  rw [hkept]
  obtain ⟨hkn, hk0⟩ := log2_scaled hN hk
  obtain ⟨hk1, hk2⟩ := log2_52 hkn (by have := B_eq; omega)
  have e3 : ((N.log2 : Int) - 52 - -1074).toNat = N.log2 + 1022 := by omega
  rw [e3, read_rung s _ kept hK hk1 hk2]
  refine ⟨_, _, rfl, by omega, ?_⟩
  have e6 : ((N.log2 : Int) - 52 + 1074).toNat = N.log2 + 1022 := by omega
  rw [e6, hk]

theorem signed_mul (s : Bool) (m a : Nat) : signed s m a = (if s then -1 else 1) * ((m * 2 ^ a : Nat) : Int) := by
  unfold signed
  rw [Nat.shiftLeft_eq]
  cases s <;> simp
theorem signed_add (s : Bool) (m a b : Nat) : signed s m (a + b) = signed s m a * 2 ^ b := by
  rw [signed_mul, signed_mul, Nat.pow_add, ← Nat.mul_assoc, Int.natCast_mul (m * 2 ^ a), Int.natCast_pow, Int.mul_assoc]
  rfl
theorem two_pow_pos' (b : Nat) : (0 : Int) < 2 ^ b := Int.pow_pos (by decide)
theorem two_pow_ne (b : Nat) : (2 : Int) ^ b ≠ 0 := by
  have := two_pow_pos' b
  omega

/-- what is written of a whole number of at most 53 digits is that number -/
theorem rep_write (s : Bool) (m : Nat) (e : Int) (n : Int) (hn : n.natAbs ≤ 9007199254740992) (he : -1074 ≤ e) (h : signed s m (e + 1074).toNat = n * 2 ^ B) :
    Rep (double.write (.number s m e)) n := by
  show Rep (double.nearest s m e) n
  have hz : ∀ x : Int, (if s then (-1 : Int) else 1) * x = 0 → x = 0 := by
    intro x hx
    cases s <;> simp at hx <;> exact hx
  by_cases h0 : n = 0
  · subst h0
    have hm : m = 0 := by
      rw [signed_mul, Int.zero_mul] at h
      have h1 := hz _ h
      have h2 : m * 2 ^ (e + 1074).toNat = 0 := Int.ofNat_eq_zero.1 h1
      rcases Nat.mul_eq_zero.1 h2 with h3 | h3
      · exact h3
      · have := Nat.two_pow_pos (e + 1074).toNat
        omega
    subst hm
    unfold Format.nearest
    rw [if_pos rfl]
    refine ⟨s, 0, -1074, ?_, by omega, ?_⟩
    · rw [read_word _ _ (by decide), if_pos (by decide)]
    · rw [signed_mul, Nat.zero_mul, Int.zero_mul, Int.natCast_zero, Int.mul_zero]
  · rw [signed_mul] at h
    have hp := two_pow_pos' B
    have hs : s = decide (n < 0) := by
      cases s
      · simp only [Bool.false_eq_true, if_false, Int.one_mul] at h
        have h1 : 0 ≤ n * 2 ^ B := by rw [← h]; exact Int.natCast_nonneg _
        have := Int.nonneg_of_mul_nonneg_left h1 hp
        exact (decide_eq_false (by omega)).symm
      · simp only [if_true, Int.neg_mul, Int.one_mul] at h
        have h1 : 0 ≤ (-n) * 2 ^ B := by rw [Int.neg_mul, ← h, Int.neg_neg]; exact Int.natCast_nonneg _
        have := Int.nonneg_of_mul_nonneg_left h1 hp
        exact (decide_eq_true (by omega)).symm
    have hN : m * 2 ^ (e + 1074).toNat = n.natAbs * 2 ^ B := by
      have h2 := congrArg Int.natAbs h
      rw [Int.natAbs_mul, Int.natAbs_mul, Int.natAbs_natCast, Int.natAbs_pow] at h2
      cases s <;> simpa using h2
    obtain ⟨m', e', h1, h2, h3⟩ := read_nearest s m e n.natAbs (by omega) hn he hN
    refine ⟨s, m', e', h1, h2, ?_⟩
    rw [signed_mul, h3]
    rw [Int.natCast_mul, Int.natCast_pow, ← Int.mul_assoc]
    congr 1
    subst hs
    by_cases hneg : n < 0 <;> simp [hneg] <;> omega

theorem signed_sum (s : Bool) (m : Nat) (i base : Int) (hb : base ≤ i) (h0 : -1074 ≤ base) :
    signed s m (i - base).toNat * 2 ^ (base + 1074).toNat = signed s m (i + 1074).toNat := by
  rw [← signed_add]
  congr 1
  omega
theorem signed_natAbs (z : Bool) (total : Int) (a : Nat) : signed (if total = 0 then z else decide (total < 0)) total.natAbs a = total * 2 ^ a := by
  rw [signed_mul, Int.natCast_mul, Int.natCast_pow, ← Int.mul_assoc]
  congr 1
  by_cases h0 : total = 0
  · subst h0; simp
  · rw [if_neg h0]
    by_cases hneg : total < 0 <;> simp [hneg] <;> omega

theorem sum_rep (s t : Bool) (m n : Nat) (i j : Int) (a b : Int) (hi : -1074 ≤ i) (hj : -1074 ≤ j) (ha : signed s m (i + 1074).toNat = a * 2 ^ B) (hb : signed t n (j + 1074).toNat = b * 2 ^ B)
    (h : (a + b).natAbs ≤ 9007199254740992) : ∃ r, ((Datum.number s m i).sum (Datum.number t n j)).map double.write = some r ∧ Rep r (a + b) := by
  refine ⟨_, rfl, ?_⟩
  refine rep_write _ _ _ _ h (by omega) ?_
  rw [show (decide (signed s m (i - min i j).toNat + signed t n (j - min i j).toNat < 0)) = decide (signed s m (i - min i j).toNat + signed t n (j - min i j).toNat < 0) from rfl, signed_natAbs, Int.add_mul, signed_sum _ _ _ _ (by omega) (by omega), signed_sum _ _ _ _ (by omega) (by omega), ha, hb, Int.add_mul]

theorem rep_add {x y : Nat} {a b : Int} (hx : Rep x a) (hy : Rep y b) (h : (a + b).natAbs ≤ 9007199254740992) : ∃ r, double.add x y = some r ∧ Rep r (a + b) := by
  obtain ⟨s, m, i, h1, h2, h3⟩ := hx
  obtain ⟨t, n, j, h4, h5, h6⟩ := hy
  unfold Format.add
  rw [h1, h4]
  exact sum_rep s t m n i j a b h2 h5 h3 h6 h
theorem signed_not (s : Bool) (m a : Nat) : signed (!s) m a = - signed s m a := by
  rw [signed_mul, signed_mul]
  cases s <;> simp
theorem rep_sub {x y : Nat} {a b : Int} (hx : Rep x a) (hy : Rep y b) (h : (a - b).natAbs ≤ 9007199254740992) : ∃ r, double.sub x y = some r ∧ Rep r (a - b) := by
  obtain ⟨s, m, i, h1, h2, h3⟩ := hx
  obtain ⟨t, n, j, h4, h5, h6⟩ := hy
  unfold Format.sub
  rw [h1, h4]
  exact sum_rep s (!t) m n i j a (-b) h2 h5 h3 (by rw [signed_not, h6, Int.neg_mul]) h

theorem neg_div (x : Nat) : (x ^^^ 9223372036854775808) / 9223372036854775808 = x / 9223372036854775808 ^^^ 1 := by
  have h := Nat.shiftRight_xor_distrib (a := x) (b := 9223372036854775808) (i := 63)
  rw [Nat.shiftRight_eq_div_pow, Nat.shiftRight_eq_div_pow, Nat.shiftRight_eq_div_pow] at h
  simpa using h
theorem neg_mod (x : Nat) : (x ^^^ 9223372036854775808) % 9223372036854775808 = x % 9223372036854775808 := by
  have h := Nat.xor_mod_two_pow (a := x) (b := 9223372036854775808) (n := 63)
  simpa using h
theorem xor_one_mod (x : Nat) : (x ^^^ 1) % 2 = 1 - x % 2 := by
  have h := Nat.xor_mod_two_pow (a := x) (b := 1) (n := 1)
  simp only [Nat.pow_one] at h
  rw [h]
  rcases Nat.mod_two_eq_zero_or_one x with hx | hx <;> simp [hx]
/-- the sign is turned -/
theorem read_neg (x : Nat) : double.read (negFloat .f64 x) = (double.read x).opposite := by
  unfold negFloat
  have e : (2 : Nat) ^ (FloatKind.f64.format.exponentBits + FloatKind.f64.format.fractionBits) = 9223372036854775808 := by decide +kernel
  rw [e]
  unfold Format.read
  simp only [weight_eq, neg_div, neg_mod, xor_one_mod]
  have hs : (1 - x / 9223372036854775808 % 2 == 1) = !(x / 9223372036854775808 % 2 == 1) := by
    rcases Nat.mod_two_eq_zero_or_one (x / 9223372036854775808) with hx | hx <;> simp [hx]
  rw [hs]
  split
  · rfl
  · split
    · rfl
    · split <;> rfl
theorem rep_neg {x : Nat} {a : Int} (hx : Rep x a) : Rep (negFloat .f64 x) (-a) := by
  obtain ⟨s, m, i, h1, h2, h3⟩ := hx
  refine ⟨!s, m, i, ?_, h2, ?_⟩
  · rw [read_neg, h1]; rfl
  · rw [signed_not, h3, Int.neg_mul]
theorem rep_int (n : Int) (h : n.natAbs ≤ 9007199254740992) : Rep (floatOfInt .f64 n) n := by
  refine rep_write _ _ _ _ h (by omega) ?_
  have := signed_natAbs false n (0 + 1074 : Int).toNat
  by_cases h0 : n = 0
  · subst h0
    rw [signed_mul, Int.natAbs_zero, Nat.zero_mul, Int.natCast_zero, Int.mul_zero, Int.zero_mul]
  · rw [if_neg h0] at this; exact this
theorem rep_zero : Rep 0 0 := by
  refine ⟨false, 0, -1074, ?_, by omega, ?_⟩
  · decide +kernel
  · rw [signed_mul, Nat.zero_mul, Int.natCast_zero, Int.mul_zero, Int.zero_mul]

theorem fin_neg {x : Nat} (h : Fini x) : Fini (negFloat .f64 x) := by
  obtain ⟨s, m, e, h⟩ := h
  exact ⟨!s, m, e, by rw [read_neg, h]; rfl⟩
theorem num_neg {x : Nat} (h : Num x) : Num (negFloat .f64 x) := by
  rcases h with h | ⟨s, h⟩
  · exact .inl (fin_neg h)
  · exact .inr ⟨!s, by rw [read_neg, h]; rfl⟩
theorem num_word_inf (s : Bool) : Num (double.word s double.infRung) := by
  right
  refine ⟨s, ?_⟩
  rw [infRung_eq, read_word _ _ (by omega), if_neg (by omega), if_neg (by omega), if_pos rfl]
theorem num_write {d : Datum} (h : (∃ s m e, d = .number s m e) ∨ ∃ s, d = .infinity s) : Num (double.write d) := by
  rcases h with ⟨s, m, e, rfl⟩ | ⟨s, rfl⟩
  · exact nearest_num s m e
  · exact num_word_inf s
theorem num_add {x y : Nat} (hx : Num x) (hy : Fini y) : ∃ r, double.add x y = some r ∧ Num r := by
  obtain ⟨t, n, j, h4⟩ := hy
  unfold Format.add
  rw [h4]
  rcases hx with ⟨s, m, i, h1⟩ | ⟨s, h1⟩
  · rw [h1]; exact ⟨_, rfl, num_write (.inl ⟨_, _, _, rfl⟩)⟩
  · rw [h1]; exact ⟨_, rfl, num_write (.inr ⟨_, rfl⟩)⟩
theorem num_sub {x y : Nat} (hx : Num x) (hy : Fini y) : ∃ r, double.sub x y = some r ∧ Num r := by
  obtain ⟨t, n, j, h4⟩ := hy
  unfold Format.sub
  rw [h4]
  rcases hx with ⟨s, m, i, h1⟩ | ⟨s, h1⟩
  · rw [h1]; exact ⟨_, rfl, num_write (.inl ⟨_, _, _, rfl⟩)⟩
  · rw [h1]; exact ⟨_, rfl, num_write (.inr ⟨_, rfl⟩)⟩

theorem cut_le (way : Toward) (s : Bool) (n t : Nat) : way.cut s n t ≤ n / (1 <<< min t (n.log2 + 2)) + 1 := by
  unfold Toward.cut
  have (b : Bool) : b.toNat ≤ 1 := Bool.toNat_le b
  exact Nat.add_le_add_left (this _) _

theorem div_pow_lt {n K : Nat} (hK : n < 2 ^ (K + 1)) (h : 52 ≤ K) : n / 2 ^ (K - 52) < 9007199254740992 := by
  rw [Nat.div_lt_iff_lt_mul (Nat.two_pow_pos _)]
  have e : 9007199254740992 * 2 ^ (K - 52) = 2 ^ (K + 1) := by
    rw [show (9007199254740992 : Nat) = 2 ^ 53 by decide +kernel, ← Nat.pow_add]
    congr 1
    omega
  rw [e]; exact hK
theorem read_fin {s : Bool} {r : Nat} (h : r < 2047 * 4503599627370496) : Fini (double.word s r) := by
  rw [Fini, read_word _ _ (by omega)]
  by_cases h1 : r < 4503599627370496
  · rw [if_pos h1]; exact ⟨_, _, _, rfl⟩
  · rw [if_neg h1, if_pos h]; exact ⟨_, _, _, rfl⟩
/-- a whole number of 64 bits is a float that is no infinity -/
theorem fin_int (n : Int) (h : n.natAbs < 18446744073709551616) : Fini (floatOfInt .f64 n) := by
  show Fini (double.nearest (decide (n < 0)) n.natAbs 0)
  generalize decide (n < 0) = s
  generalize hN : n.natAbs = N at h
  unfold Format.nearest
  split
  · exact read_fin (by omega)
  · rename_i h0
    have hK : N.log2 < 64 := (Nat.log2_lt h0).2 (Nat.lt_of_lt_of_le h (by decide +kernel))
    simp only [place_eq, fraction_eq, binade_eq, infRung_eq]
    have hlast : max ((0 : Int) + (N.log2 : Int) - ((52 : Nat) : Int)) (-1074) = (N.log2 : Int) - 52 := by omega
    rw [hlast]
    have h1 := Nat.lt_log2_self (n := N)
    have e3 : ((N.log2 : Int) - 52 - -1074).toNat = N.log2 + 1022 := by omega
    rw [e3]
    have hk : Toward.even.cut s (N <<< ((0 : Int) - ((N.log2 : Int) - 52)).toNat) ((N.log2 : Int) - 52 - 0).toNat ≤ 9007199254740992 := by
      generalize N.log2 = K at *
      by_cases hc : 52 ≤ K
      · have e1 : ((0 : Int) - ((K : Int) - 52)).toNat = 0 := by omega
        have e2 : ((K : Int) - 52 - 0).toNat = K - 52 := by omega
        rw [e1, e2, Nat.shiftLeft_zero]
        have h2 := cut_le .even s N (K - 52)
        have hlog : K - 52 ≤ N.log2 + 2 ∨ N.log2 + 2 < K - 52 := by omega
        rcases hlog with hlog | hlog
        · rw [Nat.min_eq_left hlog, Nat.shiftLeft_eq, Nat.one_mul] at h2
          have := div_pow_lt h1 hc
          omega
        · rw [Nat.min_eq_right (by omega), Nat.shiftLeft_eq, Nat.one_mul] at h2
          have h3 := Nat.lt_log2_self (n := N)
          have h4 : N / 2 ^ (N.log2 + 2) = 0 := Nat.div_eq_of_lt (Nat.lt_of_lt_of_le h3 (Nat.pow_le_pow_right (by decide) (by omega)))
          omega
      · have e1 : ((0 : Int) - ((K : Int) - 52)).toNat = 52 - K := by omega
        have e2 : ((K : Int) - 52 - 0).toNat = 0 := by omega
        rw [e1, e2]
        have h2 := cut_exact .even s (N <<< (52 - K)) 0
        rw [Nat.pow_zero, Nat.mul_one] at h2
        rw [h2, Nat.shiftLeft_eq]
        have h3 : N * 2 ^ (52 - K) < 2 ^ (K + 1) * 2 ^ (52 - K) := Nat.mul_lt_mul_of_pos_right h1 (Nat.two_pow_pos _)
        rw [← Nat.pow_add, show K + 1 + (52 - K) = 53 by omega] at h3
        have : (2 : Nat) ^ 53 = 9007199254740992 := by decide +kernel
        omega
    generalize Toward.even.cut s (N <<< ((0 : Int) - ((N.log2 : Int) - 52)).toNat) ((N.log2 : Int) - 52 - 0).toNat = kept at *
    exact read_fin (Nat.lt_of_le_of_lt (Nat.min_le_left _ _) (by omega))

theorem compare_mul (a b k : Int) (hk : 0 < k) : compare (a * k) (b * k) = compare a b := by
  rcases Int.lt_trichotomy a b with h | h | h
  · have : a * k < b * k := Int.mul_lt_mul_of_pos_right h hk
    rw [Int.compare_eq_lt.2 this, Int.compare_eq_lt.2 h]
  · subst h
    rw [Int.compare_eq_eq.2 rfl, Int.compare_eq_eq.2 rfl]
  · have : b * k < a * k := Int.mul_lt_mul_of_pos_right h hk
    rw [Int.compare_eq_gt.2 this, Int.compare_eq_gt.2 h]
theorem order_rep {x y : Nat} {a b : Int} (hx : Rep x a) (hy : Rep y b) : double.order x y = some (compare a b) := by
  obtain ⟨s, m, i, h1, h2, h3⟩ := hx
  obtain ⟨t, n, j, h4, h5, h6⟩ := hy
  unfold Format.order
  rw [h1, h4]
  show some (compare (signed s m (i - min i j).toNat) (signed t n (j - min i j).toNat)) = _
  rw [← compare_mul _ _ (2 ^ (min i j + 1074).toNat) (two_pow_pos' _), signed_sum _ _ _ _ (by omega) (by omega), signed_sum _ _ _ _ (by omega) (by omega), h3, h6, compare_mul _ _ _ (two_pow_pos' _)]

theorem cut_zero (s : Bool) (n t : Nat) : Toward.zero.cut s n t = n / 2 ^ t := by
  unfold Toward.cut
  simp only [Bool.toNat_false, Nat.add_zero, Nat.shiftLeft_eq, Nat.one_mul]
  by_cases h : t ≤ n.log2 + 2
  · rw [Nat.min_eq_left h]
  · have h3 := Nat.lt_log2_self (n := n)
    rw [Nat.min_eq_right (by omega)]
    rw [Nat.div_eq_of_lt (Nat.lt_of_lt_of_le h3 (Nat.pow_le_pow_right (by decide) (by omega)))]
    rw [Nat.div_eq_of_lt (Nat.lt_of_lt_of_le h3 (Nat.pow_le_pow_right (by decide) (by omega)))]

theorem toInt_number (s : Bool) (m : Nat) (e : Int) : (Datum.number s m e).toInt .zero = some (signed s (m * 2 ^ e.toNat / 2 ^ (-e).toNat) 0) := by
  show some (signed s (Toward.zero.cut s (m <<< e.toNat) (-e).toNat) 0) = _
  rw [cut_zero, Nat.shiftLeft_eq]

theorem min_i64 : IntKind.i64.min = -9223372036854775808 := by decide +kernel
theorem max_i64 : IntKind.i64.max = 9223372036854775807 := by decide +kernel
theorem cut_rep (m N : Nat) (e : Int) (he : -1074 ≤ e) (h : m * 2 ^ (e + 1074).toNat = N * 2 ^ B) : m * 2 ^ e.toNat / 2 ^ (-e).toNat = N := by
  have hB := B_eq
  by_cases h0 : 0 ≤ e
  · have e1 : (-e).toNat = 0 := by omega
    rw [e1, Nat.pow_zero, Nat.div_one]
    have e2 : (e + 1074).toNat = e.toNat + B := by omega
    rw [e2, Nat.pow_add, ← Nat.mul_assoc] at h
    exact cancel_pow h
  · have e1 : e.toNat = 0 := by omega
    rw [e1, Nat.pow_zero, Nat.mul_one]
    have e2 : B = (-e).toNat + (e + 1074).toNat := by omega
    rw [e2, Nat.pow_add, ← Nat.mul_assoc] at h
    rw [cancel_pow h]
    exact Nat.mul_div_cancel _ (Nat.two_pow_pos _)
theorem natAbs_of_signed {s : Bool} {m a : Nat} {n : Int} (h : signed s m a = n * 2 ^ B) : m * 2 ^ a = n.natAbs * 2 ^ B := by
  rw [signed_mul] at h
  have h2 := congrArg Int.natAbs h
  rw [Int.natAbs_mul, Int.natAbs_mul, Int.natAbs_natCast, Int.natAbs_pow] at h2
  cases s <;> simpa using h2
theorem toInt_rep {x : Nat} {n : Int} (h : Rep x n) (hn : n.natAbs ≤ 9007199254740992) : floatToIntVal .f64 x .i64 = some n := by
  obtain ⟨s, m, e, h1, h2, h3⟩ := h
  have hN := natAbs_of_signed h3
  have hc := cut_rep m n.natAbs e h2 hN
  unfold floatToIntVal
  rw [show FloatKind.f64.decode x = .number s m e from h1, toInt_number, hc]
  have hs : signed s n.natAbs 0 = n := by
    rw [signed_mul, hN] at h3
    rw [signed_mul, Nat.pow_zero, Nat.mul_one]
    rw [Int.natCast_mul, Int.natCast_pow, ← Int.mul_assoc] at h3
    exact Int.eq_of_mul_eq_mul_right (two_pow_ne B) h3
  rw [hs]
  simp only [min_i64, max_i64]
  rw [if_pos (by omega)]

def lo : Nat := 14069245235905429504
def hi : Nat := 4845873199050653696
theorem read_hi : double.read hi = .number false 4503599627370496 1 := by decide +kernel
theorem read_lo : double.read lo = .number true 4503599627370496 1 := by decide +kernel
theorem rep_pow : ((4503599627370496 : Nat) : Int) * 2 ^ (1 + B) = 9007199254740992 * 2 ^ B := by
  rw [Int.pow_add, ← Int.mul_assoc]
  congr 1
theorem rep_hi : Rep hi 9007199254740992 := by
  refine ⟨_, _, _, read_hi, by omega, ?_⟩
  have e : ((1 : Int) + 1074).toNat = 1 + B := by have := B_eq; omega
  rw [e, signed_mul, Int.natCast_mul, Int.natCast_pow]
  simp only [Bool.false_eq_true, if_false, Int.one_mul]
  exact rep_pow
theorem rep_lo : Rep lo (-9007199254740992) := by
  refine ⟨_, _, _, read_lo, by omega, ?_⟩
  have e : ((1 : Int) + 1074).toNat = 1 + B := by have := B_eq; omega
  rw [e, signed_mul, Int.natCast_mul, Int.natCast_pow]
  simp only [if_true, Int.neg_mul, Int.one_mul]
  exact congrArg Neg.neg rep_pow

theorem abs_lt_pow (s : Bool) (m : Nat) (a C : Nat) (h1 : -(C : Int) < signed s m a) (h2 : signed s m a < (C : Int)) : m * 2 ^ a < C := by
  rw [signed_mul] at h1 h2
  cases s
  · simp only [Bool.false_eq_true, if_false, Int.one_mul] at h2; omega
  · simp only [if_true, Int.neg_mul, Int.one_mul] at h1; omega
/-- a number between these two is a whole one when it is cut -/
theorem toInt_some {x : Nat} (h1 : double.order x lo = some .gt) (h2 : double.order x hi = some .lt) : ∃ n, floatToIntVal .f64 x .i64 = some n ∧ -9007199254740992 < n ∧ n < 9007199254740992 := by
  unfold Format.order at h1 h2
  rw [read_lo] at h1
  rw [read_hi] at h2
  unfold floatToIntVal
  cases hr : double.read x with
  | nan s f => rw [hr] at h1; cases h1
  | infinity s =>
    rw [hr] at h1 h2
    cases s
    · cases h2
    · cases h1
  | number s m e =>
    rw [hr] at h1 h2
    rw [show FloatKind.f64.decode x = .number s m e from hr, toInt_number]
    have g1 := Option.some.inj h1
    have g2 := Option.some.inj h2
    rw [Int.compare_eq_gt] at g1
    rw [Int.compare_eq_lt] at g2
    rw [signed_mul true] at g1
    rw [signed_mul false] at g2
    simp only [if_true, Bool.false_eq_true, if_false, Int.neg_mul, Int.one_mul] at g1 g2
    have hm := abs_lt_pow s m _ _ g1 g2
    have hq : m * 2 ^ e.toNat / 2 ^ (-e).toNat < 9007199254740992 := by
      rw [Nat.div_lt_iff_lt_mul (Nat.two_pow_pos _)]
      by_cases he : 1 ≤ e
      · have e1 : (e - min e 1).toNat + 1 = e.toNat := by omega
        have e2 : (1 - min e 1).toNat = 0 := by omega
        have e3 : (-e).toNat = 0 := by omega
        rw [e3, ← e1, Nat.pow_succ, ← Nat.mul_assoc, Nat.pow_zero]
        rw [e2, Nat.pow_zero] at hm
        omega
      · have e1 : (e - min e 1).toNat = 0 := by omega
        have e2 : (1 - min e 1).toNat = (-e).toNat + 1 := by omega
        have e3 : e.toNat = 0 := by omega
        rw [e3, Nat.pow_zero, Nat.mul_one]
        rw [e1, e2, Nat.pow_zero, Nat.mul_one, Nat.pow_succ] at hm
        omega
    generalize m * 2 ^ e.toNat / 2 ^ (-e).toNat = q at *
    have hb : -9007199254740992 < signed s q 0 ∧ signed s q 0 < 9007199254740992 := by
      rw [signed_mul, Nat.pow_zero, Nat.mul_one]
      cases s
      · simp only [Bool.false_eq_true, if_false]; omega
      · simp only [if_true]; omega
    refine ⟨signed s q 0, ?_, hb.1, hb.2⟩
    simp only [min_i64, max_i64]
    rw [if_pos (by omega)]

/-- the whole number that a float is; 0 of what is none, or too great -/
def inside (x : Nat) : Bool := (double.order x lo == some .gt) && (double.order x hi == some .lt)
def wholeF (x : Nat) : Int := if inside x = true then (floatToIntVal .f64 x .i64).getD 0 else 0
theorem inside_some {x : Nat} (h : inside x = true) : floatToIntVal .f64 x .i64 = some (wholeF x) := by
  unfold wholeF
  rw [if_pos h]
  unfold inside at h
  rw [Bool.and_eq_true, beq_iff_eq, beq_iff_eq] at h
  obtain ⟨n, hn, _⟩ := toInt_some h.1 h.2
  rw [hn]; rfl
theorem wholeF_rep {x : Nat} {n : Int} (h : Rep x n) (h1 : -9007199254740992 < n) (h2 : n < 9007199254740992) : wholeF x = n := by
  have hi : inside x = true := by
    unfold inside
    rw [order_rep h rep_lo, order_rep h rep_hi, Int.compare_eq_gt.2 h1, Int.compare_eq_lt.2 h2]
    rfl
  unfold wholeF
  rw [if_pos hi, toInt_rep h (by omega)]
  rfl
theorem wholeF_bd (x : Nat) : -9007199254740992 < wholeF x ∧ wholeF x < 9007199254740992 := by
  unfold wholeF
  split
  · rename_i h
    unfold inside at h
    rw [Bool.and_eq_true, beq_iff_eq, beq_iff_eq] at h
    obtain ⟨n, hn, h1, h2⟩ := toInt_some h.1 h.2
    rw [hn]; exact ⟨h1, h2⟩
  · omega
end Go.Proofs.YtbjlgcliplalcaaGreatDoor.flt
