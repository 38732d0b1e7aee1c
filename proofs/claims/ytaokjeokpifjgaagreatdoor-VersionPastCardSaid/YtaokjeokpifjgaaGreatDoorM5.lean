/-
  Texts of this claim, one behind the other: SealG1 SealG2 Ct1 Ct2 Ct3 Ct4 RcKV RcBV NmAV NmBV NmCV BkFV StXV RcRV RcWV VrBV BkKV BkMV VrKV VrNV VrRV VrGV VrFV VrUV.
-/
import Derived.Test.YtaokjeokpifjgaaGreatDoorM4
import Derived.Laws.FloatArith
import Derived.Laws.ComplexArith
import Derived.WalkLawsBesides
import Derived.Handy
import Derived.ScopeJumps
import Derived.Laws.BytesArg
import Derived.WalkMore
namespace Go.Proofs.YtaokjeokpifjgaaGreatDoor.crc

end Go.Proofs.YtaokjeokpifjgaaGreatDoor.crc

namespace Go.Proofs.YtaokjeokpifjgaaGreatDoor.flt
open Ieee
open Go.Op (negFloat)

theorem place_eq : double.leastPlace = -1074 := by decide
theorem binade_eq : double.binade = 4503599627370496 := by decide +kernel
theorem infRung_eq : double.infRung = 2047 * 4503599627370496 := by decide +kernel
theorem weight_eq : double.signWeight = 9223372036854775808 := by decide +kernel
theorem fraction_eq : double.fractionBits = 52 := rfl

def B : Nat := 1074
theorem B_eq : B = 1074 := rfl
def Rep (x : Nat) (n : Int) : Prop := ∃ s m e, double.read x = .number s m e ∧ -1074 ≤ e ∧ signed s m (e + 1074).toNat = n * 2 ^ B
def Fini (x : Nat) : Prop := ∃ s m e, double.read x = .number s m e
def Num (x : Nat) : Prop := Fini x ∨ ∃ s, double.read x = .infinity s

theorem Rep.fin {x : Nat} {n : Int} (h : Rep x n) : Fini x := let ⟨s, m, e, h, _⟩ := h; ⟨s, m, e, h⟩
theorem Fini.num {x : Nat} (h : Fini x) : Num x := .inl h

theorem read_word (s : Bool) (r : Nat) (h : r < 9223372036854775808) : double.read (double.word s r) =
    if r < 4503599627370496 then .number s r (-1074)
    else if r < 2047 * 4503599627370496 then .number s (4503599627370496 + r % 4503599627370496) (-1074 + (r / 4503599627370496 - 1 : Nat))
    else if r = 2047 * 4503599627370496 then .infinity s else .nan s (r - 2047 * 4503599627370496) := by
  unfold Format.read Format.word
  simp only [place_eq, binade_eq, infRung_eq, weight_eq]
  cases s
  · have h1 : r / 9223372036854775808 = 0 := Nat.div_eq_of_lt h
    have h2 : r % 9223372036854775808 = r := Nat.mod_eq_of_lt h
    simp [h1, h2]
  · have h1 : (9223372036854775808 + r) / 9223372036854775808 = 1 := by omega
    have h2 : (9223372036854775808 + r) % 9223372036854775808 = r := by omega
    simp [h1, h2]

theorem nearest_num (s : Bool) (m : Nat) (e : Int) : Num (double.nearest s m e) := by
  unfold Format.nearest
  split
  · left; rw [Fini, read_word _ _ (by decide)]; exact ⟨s, 0, -1074, rfl⟩
  · simp only [infRung_eq]
    generalize ((max (e + ↑m.log2 - ↑double.fractionBits) double.leastPlace - double.leastPlace).toNat * double.binade + _) = r
    have hlt : min r (2047 * 4503599627370496) < 9223372036854775808 := by omega
    unfold Num Fini
    rw [read_word _ _ hlt]
    by_cases h1 : min r (2047 * 4503599627370496) < 4503599627370496
    · rw [if_pos h1]; exact .inl ⟨_, _, _, rfl⟩
    · rw [if_neg h1]
      by_cases h2 : min r (2047 * 4503599627370496) < 2047 * 4503599627370496
      · rw [if_pos h2]; exact .inl ⟨_, _, _, rfl⟩
      · rw [if_neg h2, if_pos (by omega)]; exact .inr ⟨_, rfl⟩

theorem cut_exact (way : Toward) (s : Bool) (k t : Nat) : way.cut s (k * 2 ^ t) t = k := by
  unfold Toward.cut
  have h0 : 0 < 2 ^ t := Nat.two_pow_pos t
  by_cases hk : k = 0
  · subst hk
    have hp : 0 < 1 <<< min t (Nat.log2 (0 * 2 ^ t) + 2) := by rw [Nat.shiftLeft_eq, Nat.one_mul]; exact Nat.two_pow_pos _
    cases way <;> simp <;> omega
  · have hl : t ≤ (k * 2 ^ t).log2 := by
      rw [Nat.le_log2 (by exact Nat.mul_ne_zero hk (by omega))]
      exact Nat.le_mul_of_pos_left _ (by omega)
    have hm : min t ((k * 2 ^ t).log2 + 2) = t := by omega
    simp only [hm, Nat.shiftLeft_eq, Nat.one_mul, Nat.mul_mod_left, Nat.mul_div_cancel _ h0]
    cases way <;> simp <;> omega

theorem log2_two_pow {m : Nat} (hm : m ≠ 0) (p : Nat) : (m * 2 ^ p).log2 = m.log2 + p := by
  induction p with
  | zero => simp
  | succ p ih =>
    have h : m * 2 ^ p ≠ 0 := Nat.mul_ne_zero hm (by have := Nat.two_pow_pos p; omega)
    rw [Nat.pow_succ, ← Nat.mul_assoc, Nat.mul_comm _ 2, Nat.log2_two_mul h, ih, Nat.add_assoc]

theorem log2_scaled {m p N q : Nat} (hN : N ≠ 0) (h : m * 2 ^ p = N * 2 ^ q) : m ≠ 0 ∧ m.log2 + p = N.log2 + q := by
  have hm : m ≠ 0 := by
    intro hm
    subst hm
    have : 0 < N * 2 ^ q := Nat.mul_pos (by omega) (Nat.two_pow_pos _)
    omega
  refine ⟨hm, ?_⟩
  have h1 := congrArg Nat.log2 h
  rwa [log2_two_pow hm, log2_two_pow hN] at h1

theorem cancel_pow {a b k : Nat} (h : a * 2 ^ k = b * 2 ^ k) : a = b := Nat.eq_of_mul_eq_mul_right (Nat.two_pow_pos k) h

theorem min_rung (K kept : Nat) (hK : K ≤ 53) (h2 : kept < 9007199254740992) :
    min ((K + 1022) * 4503599627370496 + kept) (2047 * 4503599627370496) = (K + 1022) * 4503599627370496 + kept := Nat.min_eq_left (by omega)
theorem rung_mod (K kept : Nat) (h1 : 4503599627370496 ≤ kept) (h2 : kept < 9007199254740992) :
    4503599627370496 + ((K + 1022) * 4503599627370496 + kept) % 4503599627370496 = kept := by omega
theorem rung_div (K kept : Nat) (h1 : 4503599627370496 ≤ kept) (h2 : kept < 9007199254740992) :
    ((K + 1022) * 4503599627370496 + kept) / 4503599627370496 = K + 1023 := by omega
theorem read_rung (s : Bool) (K kept : Nat) (hK : K ≤ 53) (h1 : 4503599627370496 ≤ kept) (h2 : kept < 9007199254740992) :
    double.read (double.word s (min ((K + 1022) * double.binade + kept) double.infRung)) = .number s kept ((K : Int) - 52) := by
  rw [binade_eq, infRung_eq, min_rung K kept hK h2]
  rw [read_word _ _ (by omega), if_neg (by omega), if_pos (by omega), rung_mod K kept h1 h2, rung_div K kept h1 h2]
  rw [show (-1074 + ((K + 1023 - 1 : Nat) : Int)) = (K : Int) - 52 by omega]

theorem log2_le {N : Nat} (hN : N ≠ 0) (hN2 : N ≤ 9007199254740992) : N.log2 ≤ 53 := by
  have : N.log2 < 54 := (Nat.log2_lt hN).2 (Nat.lt_of_le_of_lt hN2 (by decide +kernel))
  omega
theorem log2_top {N : Nat} (hN : N ≠ 0) (hN2 : N ≤ 9007199254740992) (h : N.log2 = 53) : N = 2 ^ 53 := by
  have := Nat.log2_self_le hN
  rw [h] at this
  have e2 : (2 : Nat) ^ 53 = 9007199254740992 := by decide +kernel
  omega
theorem log2_52 {n : Nat} (hn : n ≠ 0) (h : n.log2 = 52) : 4503599627370496 ≤ n ∧ n < 9007199254740992 := by
  have h1 := Nat.log2_self_le hn
  have h2 := Nat.lt_log2_self (n := n)
  rw [h] at h1 h2
  have e1 : (2 : Nat) ^ 52 = 4503599627370496 := by decide +kernel
  have e2 : (2 : Nat) ^ (52 + 1) = 9007199254740992 := by decide +kernel
  omega

theorem kept_all (s : Bool) (m p N K : Nat) (hK : N.log2 = K) (hK53 : K ≤ 53) (hN3 : K = 53 → N = 2 ^ 53) (h : m * 2 ^ p = N * 2 ^ B) :
    ∃ kept, Toward.even.cut s (m <<< ((p : Int) - 1074 - ((K : Int) - 52)).toNat) ((K : Int) - 52 - ((p : Int) - 1074)).toNat = kept ∧ kept * 2 ^ (K + 1022) = N * 2 ^ B := by
  by_cases hc : K + 1022 ≤ p
  · have e1 : ((p : Int) - 1074 - ((K : Int) - 52)).toNat = p - (K + 1022) := by omega
    have e2 : ((K : Int) - 52 - ((p : Int) - 1074)).toNat = 0 := by omega
    rw [e1, e2]
    have := cut_exact .even s (m <<< (p - (K + 1022))) 0
    rw [Nat.pow_zero, Nat.mul_one] at this
    rw [this]
    refine ⟨_, rfl, ?_⟩
    rw [Nat.shiftLeft_eq, Nat.mul_assoc, ← Nat.pow_add, show p - (K + 1022) + (K + 1022) = p by omega, h]
  · have e1 : ((p : Int) - 1074 - ((K : Int) - 52)).toNat = 0 := by omega
    obtain ⟨t, ht⟩ : ∃ t, K + 1022 = p + t := ⟨K + 1022 - p, by omega⟩
    have e2 : ((K : Int) - 52 - ((p : Int) - 1074)).toNat = t := by omega
    rw [e1, e2, Nat.shiftLeft_zero]
    obtain ⟨k, hk⟩ : ∃ k, m = k * 2 ^ t := by
      by_cases h52 : K ≤ 52
      · refine ⟨N * 2 ^ (52 - K), cancel_pow (k := p) ?_⟩
        have e : 52 - K + (t + p) = B := by have := B_eq; omega
        rw [h, Nat.mul_assoc, Nat.mul_assoc, ← Nat.pow_add, ← Nat.pow_add, e]
      · refine ⟨2 ^ 52, cancel_pow (k := p) ?_⟩
        have e : 53 + B = 52 + (t + p) := by have := B_eq; omega
        rw [h, hN3 (by omega), Nat.mul_assoc, ← Nat.pow_add, ← Nat.pow_add, ← Nat.pow_add, e]
    rw [hk, cut_exact]
    refine ⟨_, rfl, ?_⟩
    rw [ht, Nat.pow_add, Nat.mul_comm (2 ^ p), ← Nat.mul_assoc, ← hk, h]

theorem read_nearest (s : Bool) (m : Nat) (e : Int) (N : Nat) (hN : N ≠ 0) (hN2 : N ≤ 9007199254740992) (he : -1074 ≤ e) (h : m * 2 ^ (e + 1074).toNat = N * 2 ^ B) :
    ∃ m' e', double.read (double.nearest s m e) = .number s m' e' ∧ -1074 ≤ e' ∧ m' * 2 ^ (e' + 1074).toNat = N * 2 ^ B := by
  obtain ⟨hm, hlog⟩ := log2_scaled hN h
  have hK := log2_le hN hN2
  have h53 := log2_top hN hN2
  obtain ⟨p, rfl⟩ : ∃ p : Nat, e = (p : Int) - 1074 := ⟨(e + 1074).toNat, by omega⟩
  have hp : ((p : Int) - 1074 + 1074).toNat = p := by omega
  rw [hp] at h hlog
  unfold Format.nearest
  rw [if_neg hm]
  simp only [place_eq, fraction_eq]
  have hlast : max ((p : Int) - 1074 + (m.log2 : Int) - ((52 : Nat) : Int)) (-1074) = (N.log2 : Int) - 52 := by have := B_eq; omega
  rw [hlast]
  obtain ⟨kept, hkept, hk⟩ := kept_all s m p N N.log2 rfl hK h53 h
  rw [hkept]
  obtain ⟨hkn, hk0⟩ := log2_scaled hN hk
  obtain ⟨hk1, hk2⟩ := log2_52 hkn (by have := B_eq; omega)
  have e3 : ((N.log2 : Int) - 52 - -1074).toNat = N.log2 + 1022 := by omega
  rw [e3, read_rung s _ kept hK hk1 hk2]
  refine ⟨_, _, rfl, by omega, ?_⟩
  have e6 : ((N.log2 : Int) - 52 + 1074).toNat = N.log2 + 1022 := by omega
  rw [e6, hk]

theorem signed_mul (s : Bool) (m a : Nat) : signed s m a = (if s then -1 else 1) * ((m * 2 ^ a : Nat) : Int) := by
  unfold signed
  rw [Nat.shiftLeft_eq]
  cases s <;> simp
theorem signed_add (s : Bool) (m a b : Nat) : signed s m (a + b) = signed s m a * 2 ^ b := by
  rw [signed_mul, signed_mul, Nat.pow_add, ← Nat.mul_assoc, Int.natCast_mul (m * 2 ^ a), Int.natCast_pow, Int.mul_assoc]
  rfl
theorem two_pow_pos' (b : Nat) : (0 : Int) < 2 ^ b := Int.pow_pos (by decide)
theorem two_pow_ne (b : Nat) : (2 : Int) ^ b ≠ 0 := by
  have := two_pow_pos' b
  omega

theorem rep_write (s : Bool) (m : Nat) (e : Int) (n : Int) (hn : n.natAbs ≤ 9007199254740992) (he : -1074 ≤ e) (h : signed s m (e + 1074).toNat = n * 2 ^ B) :
    Rep (double.write (.number s m e)) n := by
  show Rep (double.nearest s m e) n
  have hz : ∀ x : Int, (if s then (-1 : Int) else 1) * x = 0 → x = 0 := by
    intro x hx
    cases s <;> simp at hx <;> exact hx
  by_cases h0 : n = 0
  · subst h0
    have hm : m = 0 := by
      rw [signed_mul, Int.zero_mul] at h
      have h1 := hz _ h
      have h2 : m * 2 ^ (e + 1074).toNat = 0 := Int.ofNat_eq_zero.1 h1
      rcases Nat.mul_eq_zero.1 h2 with h3 | h3
      · exact h3
      · have := Nat.two_pow_pos (e + 1074).toNat
        omega
    subst hm
    unfold Format.nearest
    rw [if_pos rfl]
    refine ⟨s, 0, -1074, ?_, by omega, ?_⟩
    · rw [read_word _ _ (by decide), if_pos (by decide)]
    · rw [signed_mul, Nat.zero_mul, Int.zero_mul, Int.natCast_zero, Int.mul_zero]
  · rw [signed_mul] at h
    have hp := two_pow_pos' B
    have hs : s = decide (n < 0) := by
      cases s
      · simp only [Bool.false_eq_true, if_false, Int.one_mul] at h
        have h1 : 0 ≤ n * 2 ^ B := by rw [← h]; exact Int.natCast_nonneg _
        have := Int.nonneg_of_mul_nonneg_left h1 hp
        exact (decide_eq_false (by omega)).symm
      · simp only [if_true, Int.neg_mul, Int.one_mul] at h
        have h1 : 0 ≤ (-n) * 2 ^ B := by rw [Int.neg_mul, ← h, Int.neg_neg]; exact Int.natCast_nonneg _
        have := Int.nonneg_of_mul_nonneg_left h1 hp
        exact (decide_eq_true (by omega)).symm
    have hN : m * 2 ^ (e + 1074).toNat = n.natAbs * 2 ^ B := by
      have h2 := congrArg Int.natAbs h
      rw [Int.natAbs_mul, Int.natAbs_mul, Int.natAbs_natCast, Int.natAbs_pow] at h2
      cases s <;> simpa using h2
    obtain ⟨m', e', h1, h2, h3⟩ := read_nearest s m e n.natAbs (by omega) hn he hN
    refine ⟨s, m', e', h1, h2, ?_⟩
    rw [signed_mul, h3]
    rw [Int.natCast_mul, Int.natCast_pow, ← Int.mul_assoc]
    congr 1
    subst hs
    by_cases hneg : n < 0 <;> simp [hneg] <;> omega

theorem signed_sum (s : Bool) (m : Nat) (i base : Int) (hb : base ≤ i) (h0 : -1074 ≤ base) :
    signed s m (i - base).toNat * 2 ^ (base + 1074).toNat = signed s m (i + 1074).toNat := by
  rw [← signed_add]
  congr 1
  omega
theorem signed_natAbs (z : Bool) (total : Int) (a : Nat) : signed (if total = 0 then z else decide (total < 0)) total.natAbs a = total * 2 ^ a := by
  rw [signed_mul, Int.natCast_mul, Int.natCast_pow, ← Int.mul_assoc]
  congr 1
  by_cases h0 : total = 0
  · subst h0; simp
  · rw [if_neg h0]
    by_cases hneg : total < 0 <;> simp [hneg] <;> omega

theorem sum_rep (s t : Bool) (m n : Nat) (i j : Int) (a b : Int) (hi : -1074 ≤ i) (hj : -1074 ≤ j) (ha : signed s m (i + 1074).toNat = a * 2 ^ B) (hb : signed t n (j + 1074).toNat = b * 2 ^ B)
    (h : (a + b).natAbs ≤ 9007199254740992) : ∃ r, ((Datum.number s m i).sum (Datum.number t n j)).map double.write = some r ∧ Rep r (a + b) := by
  refine ⟨_, rfl, ?_⟩
  refine rep_write _ _ _ _ h (by omega) ?_
  rw [show (decide (signed s m (i - min i j).toNat + signed t n (j - min i j).toNat < 0)) = decide (signed s m (i - min i j).toNat + signed t n (j - min i j).toNat < 0) from rfl, signed_natAbs, Int.add_mul, signed_sum _ _ _ _ (by omega) (by omega), signed_sum _ _ _ _ (by omega) (by omega), ha, hb, Int.add_mul]

theorem rep_add {x y : Nat} {a b : Int} (hx : Rep x a) (hy : Rep y b) (h : (a + b).natAbs ≤ 9007199254740992) : ∃ r, double.add x y = some r ∧ Rep r (a + b) := by
  obtain ⟨s, m, i, h1, h2, h3⟩ := hx
  obtain ⟨t, n, j, h4, h5, h6⟩ := hy
  unfold Format.add
  rw [h1, h4]
  exact sum_rep s t m n i j a b h2 h5 h3 h6 h
theorem signed_not (s : Bool) (m a : Nat) : signed (!s) m a = - signed s m a := by
  rw [signed_mul, signed_mul]
  cases s <;> simp
theorem rep_sub {x y : Nat} {a b : Int} (hx : Rep x a) (hy : Rep y b) (h : (a - b).natAbs ≤ 9007199254740992) : ∃ r, double.sub x y = some r ∧ Rep r (a - b) := by
  obtain ⟨s, m, i, h1, h2, h3⟩ := hx
  obtain ⟨t, n, j, h4, h5, h6⟩ := hy
  unfold Format.sub
  rw [h1, h4]
  exact sum_rep s (!t) m n i j a (-b) h2 h5 h3 (by rw [signed_not, h6, Int.neg_mul]) h

theorem neg_div (x : Nat) : (x ^^^ 9223372036854775808) / 9223372036854775808 = x / 9223372036854775808 ^^^ 1 := by
  have h := Nat.shiftRight_xor_distrib (a := x) (b := 9223372036854775808) (i := 63)
  rw [Nat.shiftRight_eq_div_pow, Nat.shiftRight_eq_div_pow, Nat.shiftRight_eq_div_pow] at h
  simpa using h
theorem neg_mod (x : Nat) : (x ^^^ 9223372036854775808) % 9223372036854775808 = x % 9223372036854775808 := by
  have h := Nat.xor_mod_two_pow (a := x) (b := 9223372036854775808) (n := 63)
  simpa using h
theorem xor_one_mod (x : Nat) : (x ^^^ 1) % 2 = 1 - x % 2 := by
  have h := Nat.xor_mod_two_pow (a := x) (b := 1) (n := 1)
  simp only [Nat.pow_one] at h
  rw [h]
  rcases Nat.mod_two_eq_zero_or_one x with hx | hx <;> simp [hx]
theorem read_neg (x : Nat) : double.read (negFloat .f64 x) = (double.read x).opposite := by
  unfold negFloat
  have e : (2 : Nat) ^ (FloatKind.f64.format.exponentBits + FloatKind.f64.format.fractionBits) = 9223372036854775808 := by decide +kernel
  rw [e]
  unfold Format.read
  simp only [weight_eq, neg_div, neg_mod, xor_one_mod]
  have hs : (1 - x / 9223372036854775808 % 2 == 1) = !(x / 9223372036854775808 % 2 == 1) := by
    rcases Nat.mod_two_eq_zero_or_one (x / 9223372036854775808) with hx | hx <;> simp [hx]
  rw [hs]
  split
  · rfl
  · split
    · rfl
    · split <;> rfl
theorem rep_neg {x : Nat} {a : Int} (hx : Rep x a) : Rep (negFloat .f64 x) (-a) := by
  obtain ⟨s, m, i, h1, h2, h3⟩ := hx
  refine ⟨!s, m, i, ?_, h2, ?_⟩
  · rw [read_neg, h1]; rfl
  · rw [signed_not, h3, Int.neg_mul]
theorem rep_int (n : Int) (h : n.natAbs ≤ 9007199254740992) : Rep (floatOfInt .f64 n) n := by
  refine rep_write _ _ _ _ h (by omega) ?_
  have := signed_natAbs false n (0 + 1074 : Int).toNat
  by_cases h0 : n = 0
  · subst h0
    rw [signed_mul, Int.natAbs_zero, Nat.zero_mul, Int.natCast_zero, Int.mul_zero, Int.zero_mul]
  · rw [if_neg h0] at this; exact this
theorem rep_zero : Rep 0 0 := by
  refine ⟨false, 0, -1074, ?_, by omega, ?_⟩
  · decide +kernel
  · rw [signed_mul, Nat.zero_mul, Int.natCast_zero, Int.mul_zero, Int.zero_mul]

theorem fin_neg {x : Nat} (h : Fini x) : Fini (negFloat .f64 x) := by
  obtain ⟨s, m, e, h⟩ := h
  exact ⟨!s, m, e, by rw [read_neg, h]; rfl⟩
theorem num_word_inf (s : Bool) : Num (double.word s double.infRung) := by
  right
  refine ⟨s, ?_⟩
  rw [infRung_eq, read_word _ _ (by omega), if_neg (by omega), if_neg (by omega), if_pos rfl]
theorem num_write {d : Datum} (h : (∃ s m e, d = .number s m e) ∨ ∃ s, d = .infinity s) : Num (double.write d) := by
  rcases h with ⟨s, m, e, rfl⟩ | ⟨s, rfl⟩
  · exact nearest_num s m e
  · exact num_word_inf s
theorem num_add {x y : Nat} (hx : Num x) (hy : Fini y) : ∃ r, double.add x y = some r ∧ Num r := by
  obtain ⟨t, n, j, h4⟩ := hy
  unfold Format.add
  rw [h4]
  rcases hx with ⟨s, m, i, h1⟩ | ⟨s, h1⟩
  · rw [h1]; exact ⟨_, rfl, num_write (.inl ⟨_, _, _, rfl⟩)⟩
  · rw [h1]; exact ⟨_, rfl, num_write (.inr ⟨_, rfl⟩)⟩
theorem num_sub {x y : Nat} (hx : Num x) (hy : Fini y) : ∃ r, double.sub x y = some r ∧ Num r := by
  obtain ⟨t, n, j, h4⟩ := hy
  unfold Format.sub
  rw [h4]
  rcases hx with ⟨s, m, i, h1⟩ | ⟨s, h1⟩
  · rw [h1]; exact ⟨_, rfl, num_write (.inl ⟨_, _, _, rfl⟩)⟩
  · rw [h1]; exact ⟨_, rfl, num_write (.inr ⟨_, rfl⟩)⟩

theorem compare_mul (a b k : Int) (hk : 0 < k) : compare (a * k) (b * k) = compare a b := by
  rcases Int.lt_trichotomy a b with h | h | h
  · have : a * k < b * k := Int.mul_lt_mul_of_pos_right h hk
    rw [Int.compare_eq_lt.2 this, Int.compare_eq_lt.2 h]
  · subst h
    rw [Int.compare_eq_eq.2 rfl, Int.compare_eq_eq.2 rfl]
  · have : b * k < a * k := Int.mul_lt_mul_of_pos_right h hk
    rw [Int.compare_eq_gt.2 this, Int.compare_eq_gt.2 h]
theorem order_rep {x y : Nat} {a b : Int} (hx : Rep x a) (hy : Rep y b) : double.order x y = some (compare a b) := by
  obtain ⟨s, m, i, h1, h2, h3⟩ := hx
  obtain ⟨t, n, j, h4, h5, h6⟩ := hy
  unfold Format.order
  rw [h1, h4]
  show some (compare (signed s m (i - min i j).toNat) (signed t n (j - min i j).toNat)) = _
  rw [← compare_mul _ _ (2 ^ (min i j + 1074).toNat) (two_pow_pos' _), signed_sum _ _ _ _ (by omega) (by omega), signed_sum _ _ _ _ (by omega) (by omega), h3, h6, compare_mul _ _ _ (two_pow_pos' _)]

theorem cut_zero (s : Bool) (n t : Nat) : Toward.zero.cut s n t = n / 2 ^ t := by
  unfold Toward.cut
  simp only [Bool.toNat_false, Nat.add_zero, Nat.shiftLeft_eq, Nat.one_mul]
  by_cases h : t ≤ n.log2 + 2
  · rw [Nat.min_eq_left h]
  · have h3 := Nat.lt_log2_self (n := n)
    rw [Nat.min_eq_right (by omega)]
    rw [Nat.div_eq_of_lt (Nat.lt_of_lt_of_le h3 (Nat.pow_le_pow_right (by decide) (by omega)))]
    rw [Nat.div_eq_of_lt (Nat.lt_of_lt_of_le h3 (Nat.pow_le_pow_right (by decide) (by omega)))]

theorem toInt_number (s : Bool) (m : Nat) (e : Int) : (Datum.number s m e).toInt .zero = some (signed s (m * 2 ^ e.toNat / 2 ^ (-e).toNat) 0) := by
  show some (signed s (Toward.zero.cut s (m <<< e.toNat) (-e).toNat) 0) = _
  rw [cut_zero, Nat.shiftLeft_eq]

theorem min_i64 : IntKind.i64.min = -9223372036854775808 := by decide +kernel
theorem max_i64 : IntKind.i64.max = 9223372036854775807 := by decide +kernel
theorem cut_rep (m N : Nat) (e : Int) (he : -1074 ≤ e) (h : m * 2 ^ (e + 1074).toNat = N * 2 ^ B) : m * 2 ^ e.toNat / 2 ^ (-e).toNat = N := by
  have hB := B_eq
  by_cases h0 : 0 ≤ e
  · have e1 : (-e).toNat = 0 := by omega
    rw [e1, Nat.pow_zero, Nat.div_one]
    have e2 : (e + 1074).toNat = e.toNat + B := by omega
    rw [e2, Nat.pow_add, ← Nat.mul_assoc] at h
    exact cancel_pow h
  · have e1 : e.toNat = 0 := by omega
    rw [e1, Nat.pow_zero, Nat.mul_one]
    have e2 : B = (-e).toNat + (e + 1074).toNat := by omega
    rw [e2, Nat.pow_add, ← Nat.mul_assoc] at h
    rw [cancel_pow h]
    exact Nat.mul_div_cancel _ (Nat.two_pow_pos _)
theorem natAbs_of_signed {s : Bool} {m a : Nat} {n : Int} (h : signed s m a = n * 2 ^ B) : m * 2 ^ a = n.natAbs * 2 ^ B := by
  rw [signed_mul] at h
  have h2 := congrArg Int.natAbs h
  rw [Int.natAbs_mul, Int.natAbs_mul, Int.natAbs_natCast, Int.natAbs_pow] at h2
  cases s <;> simpa using h2
theorem toInt_rep {x : Nat} {n : Int} (h : Rep x n) (hn : n.natAbs ≤ 9007199254740992) : floatToIntVal .f64 x .i64 = some n := by
  obtain ⟨s, m, e, h1, h2, h3⟩ := h
  have hN := natAbs_of_signed h3
  have hc := cut_rep m n.natAbs e h2 hN
  unfold floatToIntVal
  rw [show FloatKind.f64.decode x = .number s m e from h1, toInt_number, hc]
  have hs : signed s n.natAbs 0 = n := by
    rw [signed_mul, hN] at h3
    rw [signed_mul, Nat.pow_zero, Nat.mul_one]
    rw [Int.natCast_mul, Int.natCast_pow, ← Int.mul_assoc] at h3
    exact Int.eq_of_mul_eq_mul_right (two_pow_ne B) h3
  rw [hs]
  simp only [min_i64, max_i64]
  rw [if_pos (by omega)]

end Go.Proofs.YtaokjeokpifjgaaGreatDoor.flt

namespace Go.Proofs.YtaokjeokpifjgaaGreatDoor.SealG

end Go.Proofs.YtaokjeokpifjgaaGreatDoor.SealG

namespace Go.Proofs.YtaokjeokpifjgaaGreatDoor.SealG
open Go.RowKit

end Go.Proofs.YtaokjeokpifjgaaGreatDoor.SealG

namespace Go.Proofs.YtaokjeokpifjgaaGreatDoor.SealG
open Go.RowKit

end Go.Proofs.YtaokjeokpifjgaaGreatDoor.SealG

namespace Go.Proofs.YtaokjeokpifjgaaGreatDoor.SealG
open Go.RowKit
open Go.Op (negFloat)
open flt

def fadd (x y : Nat) : Nat := (Ieee.double.add x y).getD 0
def fsub (x y : Nat) : Nat := (Ieee.double.sub x y).getD 0
theorem fadd_run {x y : Nat} (hx : Num x) (hy : Fini y) : floatBits .add .f64 x y = some (fadd x y) := by
  obtain ⟨r, h, _⟩ := num_add hx hy
  show Ieee.double.add x y = _
  rw [h, fadd, h]; rfl
theorem fadd_num {x y : Nat} (hx : Num x) (hy : Fini y) : Num (fadd x y) := by
  obtain ⟨r, h, hr⟩ := num_add hx hy
  rw [fadd, h]; exact hr
theorem fsub_run {x y : Nat} (hx : Num x) (hy : Fini y) : floatBits .sub .f64 x y = some (fsub x y) := by
  obtain ⟨r, h, _⟩ := num_sub hx hy
  show Ieee.double.sub x y = _
  rw [h, fsub, h]; rfl
theorem fin_zero : Fini 0 := rep_zero.fin

theorem run_unary_neg_float (P : Program) (w : World) (k : FloatKind) (b : Nat) : Sem.run P (Op.unary .neg (.float k b)) w = .ok (.float k (negFloat k b)) w := rfl
attribute [local go_sem] run_unary_neg_float

theorem turned_any (re im : Nat) (w : World) :
    Calls Tryz.prog 255 #[.complex .f64 re im] w fun e w' => e = .returned (.complex .f64 (negFloat .f64 im) re) ∧ w = w' := by
  go_enter Tryz.func255, Tryz.ntmps255
  go_wp2
  go_ret
  exact ⟨rfl, rfl⟩

theorem plain_any (re im : Nat) (hr : Num re) (hi : Num im) (w : World) :
    Calls Tryz.prog 253 #[.complex .f64 re im] w fun e w' => e = .returned (.complex .f64 (fadd re 0) (fadd im 0)) ∧ w = w' := by
  have h1 := fun w => run_float_arith (P := Tryz.prog) w .add 305 .f64 re 0 _ (fadd_run hr fin_zero)
  have h2 := fun w => run_float_arith (P := Tryz.prog) w .add 305 .f64 im 0 _ (fadd_run hi fin_zero)
  go_enter Tryz.func253, Tryz.ntmps253
  go_wp2
  go_ret
  exact ⟨rfl, rfl⟩

def manyF : Nat → Nat × Nat → Nat × Nat
  | 0, z => z
  | n + 1, z => manyF n (negFloat .f64 z.2, z.1)
theorem manyF_succ (n : Nat) (z : Nat × Nat) : manyF (n + 1) z = (negFloat .f64 (manyF n z).2, (manyF n z).1) := by
  induction n generalizing z with
  | zero => rfl
  | succ n ih =>
    show manyF (n + 1) (negFloat .f64 z.2, z.1) = _
    rw [ih]; rfl
theorem manyF_fin (n : Nat) (z : Nat × Nat) (h1 : Fini z.1) (h2 : Fini z.2) : Fini (manyF n z).1 ∧ Fini (manyF n z).2 := by
  induction n generalizing z with
  | zero => exact ⟨h1, h2⟩
  | succ n ih => exact ih _ (fin_neg h2) h1

theorem and3 (n : Int) : bits .and .i64 n 3 = n % 4 := by
  have h : (BitVec.ofInt 64 n &&& BitVec.ofInt 64 3) = BitVec.ofInt 64 (n % 4) := by
    apply BitVec.eq_of_toNat_eq
    have e3 : (BitVec.ofInt 64 3).toNat = 2 ^ 2 - 1 := by decide
    rw [BitVec.toNat_and, e3, Nat.and_two_pow_sub_one_eq_mod, BitVec.toNat_ofInt, BitVec.toNat_ofInt]
    omega
  have hb : bits .and .i64 n 3 = IntKind.i64.wrap ((BitVec.ofInt 64 n &&& BitVec.ofInt 64 3).toNat : Int) := rfl
  rw [hb, h, BitVec.toNat_ofInt, IntKind.wrap_i64]
  omega
theorem n4 (n : Int) : ∃ k : Nat, k < 4 ∧ n % 4 = (k : Int) ∧ (n % 4).toNat = k := ⟨(n % 4).toNat, by omega, by omega, rfl⟩

set_option maxHeartbeats 400000 in
theorem many_any (re im : Nat) (n : Int) (w : World) :
    Calls Tryz.prog 254 #[.complex .f64 re im, .int .i64 n] w fun e w' => e = .returned (.complex .f64 (manyF (n % 4).toNat (re, im)).1 (manyF (n % 4).toNat (re, im)).2) ∧ w = w' := by
  have h3 := and3 n
  obtain ⟨m, hm4, hm, hm'⟩ := n4 n
  rw [hm'] 
  rw [hm] at h3
  have HM := Hd hm
  clear hm hm'
  go_enter Tryz.func254, Tryz.ntmps254
  go_wp2
  go_loop [0, 7] (fun z i => ∃ k : Nat, k ≤ m ∧ i = .int .i64 k ∧ z = .complex .f64 (manyF k (re, im)).1 (manyF k (re, im)).2) (fun _ i => m - (intOf i).toNat)
  case atStart => exact ⟨0, by omega, rfl, rfl⟩
  case round =>
    obtain ⟨k, hk, rfl, rfl⟩ := hrel
    have HS := Hd (manyF_succ k (re, im))
    generalize hz : manyF k (re, im) = z at *
    have HZ := Hd hz
    clear hz
    by_cases hlt : k < m
    · go_wp2_with (go_at_call 255; refine (turned_any _ _ _).mono ?_; rintro e w' ⟨rfl, rfl⟩)
      go_round
      case rel => exact ⟨k + 1, by omega, by go_num, by rw [HS.out]⟩
      case measure => simp [intOf]; omega
    · obtain rfl : k = m := by omega
      go_wp2
      go_ret
      exact ⟨by rw [HZ.out]; rfl, rfl⟩

def joinF (a b : Nat × Nat) (n : Int) : Nat × Nat := (fadd (fadd (manyF (n % 4).toNat a).1 b.1) 0, fadd (fadd (manyF (n % 4).toNat a).2 b.2) 0)
theorem cadd_run {x y c d : Nat} (hx : Num x) (hy : Num y) (hc : Fini c) (hd : Fini d) (t : TypeId) (w : World) :
    (binOp .add t (.complex .f64 x y) (.complex .f64 c d)).run Tryz.prog w = .ok (.complex .f64 (fadd x c) (fadd y d)) w :=
  run_complex_sum w .add (.inl rfl) t .f64 x y c d _ _ (by simp [cSumBits, fadd_run hx hc, fadd_run hy hd])
theorem csub_run {x y c d : Nat} (hx : Num x) (hy : Num y) (hc : Fini c) (hd : Fini d) (t : TypeId) (w : World) :
    (binOp .sub t (.complex .f64 x y) (.complex .f64 c d)).run Tryz.prog w = .ok (.complex .f64 (fsub x c) (fsub y d)) w :=
  run_complex_sum w .sub (.inr rfl) t .f64 x y c d _ _ (by simp [cSumBits, fsub_run hx hc, fsub_run hy hd])

theorem turnJoin_any (a b c d : Nat) (n : Int) (ha : Fini a) (hb : Fini b) (hc : Fini c) (hd : Fini d) (w : World) :
    Calls Tryz.prog 214 #[.complex .f64 a b, .complex .f64 c d, .int .i64 n] w fun e w' =>
      e = .returned (.complex .f64 (joinF (a, b) (c, d) n).1 (joinF (a, b) (c, d) n).2) ∧ w = w' := by
  obtain ⟨g1, g2⟩ := manyF_fin (n % 4).toNat (a, b) ha hb
  have hx := fadd_num g1.num hc
  have hy := fadd_num g2.num hd
  have hadd := fun w => cadd_run g1.num g2.num hc hd 254 w
  unfold joinF
  have hmany := many_any a b n
  generalize manyF (n % 4).toNat (a, b) = z at *
  have HM := Hd hmany
  clear hmany
  go_enter Tryz.func214, Tryz.ntmps214
  go_wp2_with (first
    | (go_at_call 254; refine (HM.out _).mono ?_; rintro e w' ⟨rfl, rfl⟩)
    | (go_at_call 253; refine (plain_any _ _ (by assumption) (by assumption) _).mono ?_; rintro e w' ⟨rfl, rfl⟩))
  go_ret
  exact ⟨rfl, rfl⟩
end Go.Proofs.YtaokjeokpifjgaaGreatDoor.SealG

namespace Go.Proofs.YtaokjeokpifjgaaGreatDoor.SealG
open Go.RowKit

def bl (s : ByteArray) : List Nat := s.data.toList.map UInt8.toNat
theorem bl_length (s : ByteArray) : (bl s).length = s.size := by simp [bl]
end Go.Proofs.YtaokjeokpifjgaaGreatDoor.SealG

namespace Go.Proofs.YtaokjeokpifjgaaGreatDoor.SealG
open Go.RowKit
open Go.Op (negFloat)
open flt

end Go.Proofs.YtaokjeokpifjgaaGreatDoor.SealG

namespace Go.Proofs.YtaokjeokpifjgaaGreatDoor.SealG
set_option maxRecDepth 100000
open Go.RowKit
open flt

theorem new3 (w : World) (o1 o2 o3 : Obj) : (((w.alloc o1).alloc o2).alloc o3).heap[w.heap.size]? = some o1 ∧ (((w.alloc o1).alloc o2).alloc o3).heap[w.heap.size + 1]? = some o2 ∧
    (((w.alloc o1).alloc o2).alloc o3).heap[w.heap.size + 1 + 1]? = some o3 ∧ Below w.heap.size w (((w.alloc o1).alloc o2).alloc o3) := by
  refine ⟨?_, ?_, ?_, ?_⟩
  · rw [Below.heap_alloc _ _ _ (by simp; omega), Below.heap_alloc _ _ _ (by simp), heap_alloc_new]
  · rw [Below.heap_alloc _ _ _ (by simp)]
    have := heap_alloc_new (w.alloc o1) o2
    rwa [World.size_alloc] at this
  · have := heap_alloc_new ((w.alloc o1).alloc o2) o3
    rwa [World.size_alloc, World.size_alloc] at this
  · exact (((Below.refl _ _).alloc (Nat.le_refl _) _).alloc (by simp) _).alloc (by simp; omega) _
attribute [local go_sem] gives

end Go.Proofs.YtaokjeokpifjgaaGreatDoor.SealG

namespace Go.Proofs.YtaokjeokpifjgaaGreatDoor.SealG
set_option maxRecDepth 100000
open Go.RowKit
open flt
attribute [local go_sem] gives
end Go.Proofs.YtaokjeokpifjgaaGreatDoor.SealG

namespace Go.Proofs.YtaokjeokpifjgaaGreatDoor.SealG
set_option maxRecDepth 100000
open Go.RowKit
open Go.Op (negFloat)
open flt

theorem fadd_rep {x y : Nat} {a b : Int} (hx : Rep x a) (hy : Rep y b) (h : (a + b).natAbs ≤ 9007199254740992) : Rep (fadd x y) (a + b) := by
  obtain ⟨r, h1, h2⟩ := rep_add hx hy h
  rw [fadd, h1]; exact h2
theorem fsub_rep {x y : Nat} {a b : Int} (hx : Rep x a) (hy : Rep y b) (h : (a - b).natAbs ≤ 9007199254740992) : Rep (fsub x y) (a - b) := by
  obtain ⟨r, h1, h2⟩ := rep_sub hx hy h
  rw [fsub, h1]; exact h2
end Go.Proofs.YtaokjeokpifjgaaGreatDoor.SealG

namespace Go.Proofs.YtaokjeokpifjgaaGreatDoor.SealG
set_option maxRecDepth 100000
open Go.RowKit
attribute [local go_sem] gives

end Go.Proofs.YtaokjeokpifjgaaGreatDoor.SealG

namespace Go.Proofs.YtaokjeokpifjgaaGreatDoor
open Go.RowKit Go.MapKept
open SealG flt
attribute [local go_sem] gives givesH
set_option maxRecDepth 100000

def Whl (a b : Nat) (m : Nat) : Prop := ∃ x y : Int, Rep a x ∧ Rep b y ∧ x.natAbs ≤ m ∧ y.natAbs ≤ m
theorem Whl.mono {a b m m' : Nat} (h : Whl a b m) (hm : m ≤ m') : Whl a b m' := by
  obtain ⟨x, y, h1, h2, h3, h4⟩ := h
  exact ⟨x, y, h1, h2, by omega, by omega⟩
theorem whl_zero : Whl 0 0 0 := ⟨0, 0, rep_zero, rep_zero, by decide, by decide⟩
theorem rep_byte (c : Nat) (hc : c < 256) : Rep (floatOfInt .f64 (c : Int)) (c : Int) := rep_int _ (by omega)
theorem tjoin1_any (a b m : Nat) (h : Whl a b m) (hm : m ≤ 1000000000) (c : Nat) (hc : c < 256) : ∃ a' b', Whl a' b' (m + 256) ∧ ∀ w : World,
    Calls Tryz.prog 214 #[.complex .f64 a b, .complex .f64 (floatOfInt .f64 (c : Int)) 0, .int .i64 1] w fun e w' => e = .returned (.complex .f64 a' b') ∧ w = w' := by
  obtain ⟨x, y, h1, h2, h3, h4⟩ := h
  have hj := turnJoin_any a b (floatOfInt .f64 (c : Int)) 0 1 h1.fin h2.fin (rep_byte c hc).fin rep_zero.fin
  refine ⟨_, _, ?_, hj⟩
  have hn := rep_neg h2
  have r1 := fadd_rep hn (rep_byte c hc) (by omega)
  have r2 := fadd_rep h1 rep_zero (by omega)
  have r3 := fadd_rep r1 rep_zero (by omega)
  have r4 := fadd_rep r2 rep_zero (by omega)
  exact ⟨_, _, r3, r4, by omega, by omega⟩
theorem troll_any (a b m : Nat) (h : Whl a b m) (hm : m ≤ 1000000000) (o c : Nat) (ho : o < 256) (hc : c < 256) : ∃ a' b', Whl a' b' (m + 512) ∧ ∀ w : World,
    Calls Tryz.prog 215 #[.complex .f64 a b, .int .i64 8, .int .u8 o, .int .u8 c] w fun e w' => e = .returned (.complex .f64 a' b') ∧ w = w' := by
  obtain ⟨x, y, h1, h2, h3, h4⟩ := h
  have hn := rep_neg h2
  have ro := rep_byte o ho
  have rc := rep_byte c hc
  have r1 := fadd_rep hn rc (by omega)
  have r2 := fadd_rep h1 rep_zero (by omega)
  have s1 := fsub_rep r1 ro (by omega)
  have s2 := fsub_rep r2 rep_zero (by omega)
  have t1 := fadd_rep s1 rep_zero (by omega)
  have t2 := fadd_rep s2 rep_zero (by omega)
  refine ⟨_, _, ⟨_, _, t1, t2, by omega, by omega⟩, fun w => ?_⟩
  clear t1 t2
  have hadd := fun w => cadd_run hn.fin.num h1.fin.num rc.fin rep_zero.fin 254 w
  have hsub := fun w => csub_run r1.fin.num r2.fin.num ro.fin rep_zero.fin 254 w
  have hmany := many_any (floatOfInt .f64 (o : Int)) 0 8
  have e8 : manyF (((8 : Int) % 4).toNat) (floatOfInt .f64 (o : Int), 0) = (floatOfInt .f64 (o : Int), 0) := rfl
  rw [e8] at hmany
  have hpl := plain_any _ _ s1.fin.num s2.fin.num
  have HM := Hd hmany
  have HP := Hd hpl
  clear hmany hpl e8 r1 r2 s1 s2 hn ro rc h1 h2
  go_enter Tryz.func215, Tryz.ntmps215
  go_wp2_with (first
    | (go_at_call 255; refine (turned_any _ _ _).mono ?_; rintro e w' ⟨rfl, rfl⟩)
    | (go_at_call 254; refine (HM.out _).mono ?_; rintro e w' ⟨rfl, rfl⟩)
    | (go_at_call 253; refine (HP.out _).mono ?_; rintro e w' ⟨rfl, rfl⟩))
  go_ret
  exact ⟨rfl, rfl⟩
theorem rep_p50 : Rep 4832362400168542208 1125899906842624 := by
  have h := rep_int 1125899906842624 (by decide)
  have e : floatOfInt .f64 1125899906842624 = 4832362400168542208 := by decide +kernel
  rwa [e] at h
theorem rep_m50 : Rep 14055734437023318016 (-1125899906842624) := by
  have h := rep_int (-1125899906842624) (by decide)
  have e : floatOfInt .f64 (-1125899906842624) = 14055734437023318016 := by decide +kernel
  rwa [e] at h
theorem tcell_any (a b m : Nat) (h : Whl a b m) (hm : m ≤ 1000000000) (w : World) :
    Calls Tryz.prog 159 #[.complex .f64 a b, .int .i64 16] w fun e w' => (∃ k : Int, e = .returned (.int .i64 k)) ∧ w = w' := by
  obtain ⟨x, y, h1, h2, h3, h4⟩ := h
  have e64 : FloatKind.f64.format = Ieee.double := rfl
  have o1 : (Ieee.double.order a 14055734437023318016 == some .gt) = true := by
    rw [order_rep h1 rep_m50, show compare x (-1125899906842624) = .gt from by rw [Int.compare_eq_gt]; omega]; rfl
  have o2 : (Ieee.double.order a 4832362400168542208 == some .lt) = true := by
    rw [order_rep h1 rep_p50, show compare x 1125899906842624 = .lt from by rw [Int.compare_eq_lt]; omega]; rfl
  have o3 : (Ieee.double.order b 14055734437023318016 == some .gt) = true := by
    rw [order_rep h2 rep_m50, show compare y (-1125899906842624) = .gt from by rw [Int.compare_eq_gt]; omega]; rfl
  have o4 : (Ieee.double.order b 4832362400168542208 == some .lt) = true := by
    rw [order_rep h2 rep_p50, show compare y 1125899906842624 = .lt from by rw [Int.compare_eq_lt]; omega]; rfl
  have c1 := fun w => run_convert_float_int (P := Tryz.prog) w 305 3 .f64 .i64 a _ (by kernel_rfl) (by kernel_rfl) (toInt_rep h1 (by omega))
  have c2 := fun w => run_convert_float_int (P := Tryz.prog) w 305 3 .f64 .i64 b _ (by kernel_rfl) (by kernel_rfl) (toInt_rep h2 (by omega))
  have w1 : IntKind.i64.wrap (3 * y) = 3 * y := wrapI (by omega) (by omega)
  have w2 : IntKind.i64.wrap (x + 3 * y) = x + 3 * y := wrapI (by omega) (by omega)
  clear h1 h2
  obtain ⟨k, hk⟩ : ∃ k, (x + 3 * y).tmod 16 = k := ⟨_, rfl⟩
  by_cases hneg : k < 0
  · have g1 : decide (k < 0) = true := by simpa using hneg
    go_enter Tryz.func159, Tryz.ntmps159
    go_wp2
    go_ret
    exact ⟨⟨_, rfl⟩, rfl⟩
  · have g1 : decide (k < 0) = false := by simpa using hneg
    go_enter Tryz.func159, Tryz.ntmps159
    go_wp2
    go_ret
    exact ⟨⟨_, rfl⟩, rfl⟩
end Go.Proofs.YtaokjeokpifjgaaGreatDoor

namespace Go.Proofs.YtaokjeokpifjgaaGreatDoor
open Go.RowKit Go.MapKept
open SealG flt
attribute [local go_sem] gives givesH
set_option maxRecDepth 100000

def jumpsTo (J : Nat → Act → World → Prop) (Q : Exit → Act → World → Prop) : Exit → Act → World → Prop
  | .goto l, a, w => J l a w
  | e, a, w => Q e a w
theorem jumpsTo_ret {J : Nat → Act → World → Prop} {Q : Exit → Act → World → Prop} {a : Act} {w : World} : jumpsTo J Q .ret a w = Q .ret a w := rfl
theorem wp_scope_labels {P : Program} {a : Act} {w : World} {Q : Exit → Act → World → Prop} {c : Code} (J : Nat → Act → World → Prop) (μ : Nat → Act → World → Nat)
    (first : c.wp P (jumpsTo J Q) a w)
    (pass : ∀ l a w, J l a w → ∃ rest, findLabel c l = some rest ∧ rest.wp P (jumpsTo (fun l' a' w' => J l' a' w' ∧ μ l' a' w' < μ l a w) Q) a w) : (Code.scope c).wp P Q a w := by
  intro b k cs
  have key : ∀ n l a w, μ l a w = n → J l a w → ∃ e a' w' rest, findLabel c l = some rest ∧ Q e a' w' ∧ Arrives P (lone (b.at a (.code rest :: .inScope c :: k)) cs w) b k cs e a' w' := by
    intro n
    induction n using Nat.strongRecOn with
    | _ n ih =>
      intro l a w hn hJ
      obtain ⟨rest, hf, hp⟩ := pass l a w hJ
      obtain ⟨e, a₁, w₁, hq, harr⟩ := hp b (.inScope c :: k) cs
      cases e with
      | normal => exact ⟨.normal, a₁, w₁, rest, hf, hq, Steps.trans harr (.one step_inScope)⟩
      | exit id => exact ⟨.exit id, a₁, w₁, rest, hf, hq, fun k' hk => harr k' (by simp [exitTo, hk])⟩
      | goto l' =>
        obtain ⟨hJ', hlt⟩ := hq
        obtain ⟨e₂, a₂, w₂, rest', hf', hq₂, harr₂⟩ := ih _ (by omega) l' a₁ w₁ rfl hJ'
        have hg : gotoIn l' (.inScope c :: k) = some (.code rest' :: .inScope c :: k) := by simp [gotoIn, hf']
        exact ⟨e₂, a₂, w₂, rest, hf, hq₂, .of_steps (harr _ hg) harr₂⟩
      | ret => exact ⟨_, a₁, w₁, rest, hf, hq, harr⟩
      | panic ch => exact ⟨_, a₁, w₁, rest, hf, hq, harr⟩
      | outgrown => exact ⟨_, a₁, w₁, rest, hf, hq, harr⟩
  obtain ⟨e, a₁, w₁, hq, harr⟩ := first b (.inScope c :: k) cs
  cases e with
  | normal => exact ⟨.normal, a₁, w₁, hq, .head step_scope (Steps.trans harr (.one step_inScope))⟩
  | exit id => exact ⟨.exit id, a₁, w₁, hq, fun k' hk => .head step_scope (harr k' (by simp [exitTo, hk]))⟩
  | goto l' =>
    obtain ⟨e₂, a₂, w₂, rest', hf', hq₂, harr₂⟩ := key _ l' a₁ w₁ rfl hq
    have hg : gotoIn l' (.inScope c :: k) = some (.code rest' :: .inScope c :: k) := by simp [gotoIn, hf']
    exact ⟨e₂, a₂, w₂, hq₂, .of_steps (.head step_scope (harr _ hg)) harr₂⟩
  | ret => exact ⟨_, a₁, w₁, hq, .of_steps (.one step_scope) harr⟩
  | panic ch => exact ⟨_, a₁, w₁, hq, .of_steps (.one step_scope) harr⟩
  | outgrown => exact ⟨_, a₁, w₁, hq, .of_steps (.one step_scope) harr⟩

theorem run_store_complex {P : Program} {w : World} {a : Addr} {m : Mode} (k : FloatKind) (x y : Nat) : (store a (.complex k x y) m).run P w = stored P w a (.complex k x y) m := run_store P w a _ m rfl
attribute [local go_sem] run_store_complex
structure CutAt (w : World) (B cb : Nat) (l : List UInt8) : Prop where
  ex : ∃ v a b, w.heap[cb]? = some (.cells #[v, .complex .f64 a b] 256 (0, 0)) ∧ w.ownsRow B 5 1 v l.length (Lib.byteCells l) ∧ Whl a b (512 * l.length) ∧ B ≤ cb
def cutTurns (B cb : Nat) (w : World) (k : Nat) : Prop := B ≤ k ∧ (k = cb ∨ ∃ c fz, w.heap[k]? = some (.cells c 5 fz))
theorem CutAt.fresh {w : World} {B cb : Nat} (h : w.heap[cb]? = some (.cells #[.slice none 0 0, .complex .f64 0 0] 256 (0, 0)) ∧ B ≤ cb) : CutAt w B cb [] := ⟨_, _, _, h.1, World.ownsRow_nil _ _ _ _, whl_zero, h.2⟩
theorem cutNew_any (w : World) : Calls Tryz.prog 93 #[] w fun e w' => e = .returned (.pointer (some ⟨w.heap.size, 0, none⟩)) ∧ CutAt w' w.heap.size w.heap.size [] ∧ Below w.heap.size w w' ∧ w'.heap.size = w.heap.size + 1 := by
  go_enter Tryz.func93, Tryz.ntmps93
  go_wp2
  go_ret
  exact ⟨rfl, ⟨_, _, _, heap_alloc_new w _, World.ownsRow_nil _ _ _ _, whl_zero, Nat.le_refl _⟩, (Below.refl _ _).alloc (Nat.le_refl _) _, by simp⟩
set_option maxHeartbeats 2000000 in
theorem cutEnd_any {w : World} {B cb : Nat} {l : List UInt8} (h : CutAt w B cb l) :
    Calls Tryz.prog 95 #[.pointer (some ⟨cb, 0, none⟩)] w fun e w' => e = .returned (.string ⟨l.toArray⟩) ∧ (w'.heap[cb]? = some (.cells #[.slice none 0 0, .complex .f64 0 0] 256 (0, 0)) ∧ B ≤ cb) ∧ Keep (fun k => k = cb) w w' := by
  obtain ⟨v, a, b, h1, h2, h3, h4⟩ := h.ex
  have c0 : w.cell? ⟨cb, 0, none⟩ = some v := Lib.cell_of_heap h1 0
  have c1 : w.cell? ⟨cb, 1, none⟩ = some (.complex .f64 a b) := Lib.cell_of_heap h1 1
  have f0 : w.frozen? ⟨cb, 0, none⟩ = false := by simp [World.frozen?, h1]
  have f1 : w.frozen? ⟨cb, 1, none⟩ = false := by simp [World.frozen?, h1]
  have l1 : (convert 121 9 v).run Tryz.prog w = .ok (.string ⟨l.toArray⟩) w := by
    have hz : (⟨l.toArray⟩ : ByteArray).size = l.length := by show l.toArray.size = _; simp
    rcases h2.2 with ⟨e1, e2⟩ | ⟨g, cap, cur, e1, _⟩
    · have hl : l = [] := List.length_eq_zero_iff.1 e2
      subst hl
      rw [e1]
      exact run_convert_bytes_nil (P := Tryz.prog) (w := w) 121 5 Tryz.underlying121 Tryz.underlying5 0 0 9 Tryz.underlying9
    · have hby : Lib.Bytes w g 0 ⟨l.toArray⟩ := by
        intro i hi
        rw [hz] at hi
        rw [e1] at h2
        have := row_cells h2 i (.int .u8 (l[i].toNat : Int)) (by simp [Lib.byteCells, hi])
        rw [Nat.zero_add]
        exact this
      have := Lib.run_convert_whole (P := Tryz.prog) w 121 5 9 Tryz.underlying121 Tryz.underlying5 Tryz.underlying9 g 0 _ hby cap
      rw [hz] at this
      rw [e1]
      exact this
  have H1 := Hd h1
  have H2 := Hd h2
  obtain ⟨va, vc, hv⟩ := slice_formB h2
  subst hv
  clear h h1 h2 h3
  go_enter Tryz.func95, Tryz.ntmps95
  go_wp2
  go_ret
  have k1 := heap_setCell_same w cb 0 _ _ (.slice none 0 0) H1.out
  have k2 := heap_setCell_same _ cb 1 _ _ (.complex .f64 0 0) k1
  exact ⟨rfl, ⟨k2, h4⟩, ((Keep.refl (fun k => k = cb) w).setCell (p := ⟨cb, 0, none⟩) (fun _ => rfl) _).setCell (p := ⟨cb, 1, none⟩) (fun _ => rfl) _⟩
theorem infoU8' : (Tryz.prog.info? 5).map (fun i => (i.zero, i.size, i.bytes)) = some (some (.int .u8 0), 1, 1) := by kernel_rfl
set_option maxHeartbeats 4000000 in
theorem cutRoll_any {w : World} {B cb : Nat} {l : List UInt8} (h : CutAt w B cb l) (hB : B ≤ w.heap.size) (hl : l.length < 128) (c : UInt8) :
    Calls Tryz.prog 158 #[.pointer (some ⟨cb, 0, none⟩), .int .u8 (c.toNat : Int)] w fun e w' => e = .returned (.tuple #[]) ∧ CutAt w' B cb (l ++ [c]) ∧ Keep (cutTurns B cb w) w w' := by
  obtain ⟨v, a, b, h1, h2, h3, h4⟩ := h.ex
  have c0 : w.cell? ⟨cb, 0, none⟩ = some v := Lib.cell_of_heap h1 0
  have c1 : w.cell? ⟨cb, 1, none⟩ = some (.complex .f64 a b) := Lib.cell_of_heap h1 1
  have f0 : w.frozen? ⟨cb, 0, none⟩ = false := by simp [World.frozen?, h1]
  have f1 : w.frozen? ⟨cb, 1, none⟩ = false := by simp [World.frozen?, h1]
  have hc := c.toNat_lt
  obtain ⟨i0, hi, hz0, hz1, hz2⟩ := info_parts infoU8'
  have HI := Hd hi
  have Hz0 := Hd hz0
  have Hz1 := Hd hz1
  have Hz2 := Hd hz2
  have H1 := Hd h1
  have H2 := Hd h2
  have HS0 := Hd (byteCells_snoc l c)
  obtain ⟨n, hn⟩ : ∃ n, l.length = n := ⟨_, rfl⟩
  obtain ⟨cn, hcn⟩ : ∃ cn, c.toNat = cn := ⟨_, rfl⟩
  rw [hcn] at hc HS0 ⊢
  rw [hn] at H2 h3 hl
  have HN := Hd hn
  obtain ⟨va, vc, hv⟩ := slice_formB H2.out
  subst hv
  have HLt := Hd (show cb < w.heap.size from (Gl h1))
  clear h h1 h2 hi hz0 hz1 hz2 hn hcn
  have HNe := Hd (show ∀ k, (Value.slice va n vc).ownBlock = some k → k ≠ cb from fun k e e2 => by
    obtain ⟨c, fz, hc⟩ := row_formE H2.out k e
    rw [e2, H1.out] at hc
    cases hc)
  have HNe3 := Hd (show ∀ (w3 : World) {v : Value} {m : Nat} {xs : List Value} {cs : Array Value} (k : Nat), w3.ownsRow B 5 1 v m xs → w3.heap[cb]? = some (.cells cs 256 (0, 0)) → v.ownBlock = some k → k ≠ cb from fun w3 v m xs cs k hr hc e e2 => by
    obtain ⟨c, fz, hc2⟩ := row_formE hr k e
    rw [e2, hc] at hc2
    cases hc2)
  by_cases h8 : n < 8
  · obtain ⟨a', b', hw', hj⟩ := tjoin1_any a b _ h3 (by omega) cn (by omega)
    have g1 : decide ((n : Int) < 8) = true := by simp; omega
    have g1' : decide (n < 8) = true := by simpa using h8
    have HJ := Hd hj
    have HW' := Hd (hw'.mono (show 512 * n + 256 ≤ 512 * n + 512 by omega))
    have HHc := Hd H1.out
    have HKw := Hd (Keep.refl (fun k => k = cb) w)
    clear hj hw' h3
    have k1 := heap_setCell_same w cb 1 _ _ (.complex .f64 a' b') HHc.out
    have hkp : Keep (fun k => k = cb) w (w.setCell ⟨cb, 1, none⟩ (.complex .f64 a' b')) := HKw.out.setCell (p := ⟨cb, 1, none⟩) (fun _ => rfl) _
    have hrj : (w.setCell ⟨cb, 1, none⟩ (.complex .f64 a' b')).ownsRow B 5 1 (.slice va n vc) n (Lib.byteCells l) := hkp.ownsRow H2.out (fun k e e2 => HNe.out k e e2)
    obtain ⟨wj, hwj⟩ : ∃ wj, w.setCell ⟨cb, 1, none⟩ (.complex .f64 a' b') = wj := ⟨_, rfl⟩
    rw [hwj] at k1 hkp hrj
    have HJr := Hd hrj
    have HJk := Hd hkp
    have HJc := Hd k1
    have cj0 : wj.cell? ⟨cb, 0, none⟩ = some (.slice va n vc) := Lib.cell_of_heap k1 0
    clear k1 hkp hrj
    go_enter Tryz.func158, Tryz.ntmps158
    go_wp2_with (first
    | (go_at_call 214; refine (HJ.out _).mono ?_; rintro e w3 ⟨rfl, rfl⟩)
    | (at_builtin
       refine wpList_append_own_at _ (by rfl) _ _ 121 (by rfl) B 5 i0 (.int .u8 0) 1 1 Tryz.underlying121 HI.out Hz0.out Hz1.out Hz2.out (by rfl) (by decide) (.slice va n vc) _ _ (by rfl) (HJr.out.alloc _) ⟨wj.heap.size, 0, none⟩ 1 1 [.int .u8 cn] (by rfl) (by rfl) (cell_one_new _ _ _) (by simp [Value.oneCell']) (by unfold maxLen; omega) (by omega) ?_ ?_
       · have := HJk.out.size; simp; omega
       intro v' w3 hown3 hg3 hnil hloc
       have HO3 := Hd hown3
       have hc3 : w3.heap[cb]? = some (.cells #[.slice va n vc, .complex .f64 a' b'] 256 (0, 0)) := by
         rw [hg3.block cb (by have := HLt.out; have := HJk.out.size; simp; omega) (fun e => HNe.out cb e.symm rfl)]
         exact (((Below.refl wj.heap.size wj).alloc (Nat.le_refl _) _).block cb (by have := HLt.out; have := HJk.out.size; omega)).trans HJc.out
       have HC3 := Hd hc3
       have HK3 := Hd (show Keep (cutTurns B cb w) w w3 from (HJk.out.mono (fun i _ e => ⟨by rw [show i = cb from e]; exact h4, .inl e⟩)).trans (((Keep.refl (fun k => (Value.slice va n vc).ownBlock = some k) wj).alloc _).grown hg3 (fun k _ e => e)) (fun i _ e => ⟨(H2.out.lt i e).1, .inr (row_formE H2.out i e)⟩))
       have c3 : w3.cell? ⟨cb, 0, none⟩ = some (.slice va n vc) := Lib.cell_of_heap hc3 0
       have f3 : w3.frozen? ⟨cb, 0, none⟩ = false := by simp [World.frozen?, hc3]
       obtain ⟨p3, q3, hv3⟩ := slice_formB hown3
       subst hv3
       clear hown3 hg3 hnil hloc hc3))
    go_end0
    have k4 := heap_setCell_same w3 cb 0 _ _ (.slice p3 (n + 1) q3) HC3.out
    refine ⟨rfl, ⟨_, _, _, k4, ?_, by rw [List.length_append, HN.out]; exact HW'.out.mono (by simp; omega), h4⟩, HK3.out.setCell (p := ⟨cb, 0, none⟩) (fun _ => ⟨h4, .inl rfl⟩) _⟩
    have hr4 := ((Keep.refl (fun k => k = cb) w3).setCell (p := ⟨cb, 0, none⟩) (fun _ => rfl) (.slice p3 (n + 1) q3)).ownsRow HO3.out (fun k e e2 => HNe3.out w3 k HO3.out HC3.out e e2)
    rw [HS0.out, List.length_append, HN.out]
    exact hr4
  · obtain ⟨g, cap, rfl, hc1, hc2, hgB⟩ : ∃ g, ∃ cap : Nat, va = some ⟨g, 0, none⟩ ∧ n ≤ vc ∧ vc ≤ maxLen ∧ B ≤ g := by
      obtain ⟨g, c', e1, e2, e3, e4⟩ := row_posB H2.out (by omega)
      cases e1
      exact ⟨g, 0, rfl, e2, e3, e4⟩
    have hm : n - 8 < l.length := by rw [HN.out]; omega
    obtain ⟨o, ho⟩ : ∃ o, (l[n - 8]'hm).toNat = o := ⟨_, rfl⟩
    have ho2 : o < 256 := by rw [← ho]; exact UInt8.toNat_lt _
    have q0 : w.cell? ⟨g, n - 8, none⟩ = some (.int .u8 o) := row_cells H2.out (n - 8) _ (by rw [← ho]; simp [Lib.byteCells, hm])
    have HQ0 := Hd q0
    have HGl := Hd (show g < w.heap.size from (H2.out.lt g rfl).2)
    obtain ⟨a', b', hw', hj⟩ := troll_any a b _ h3 (by omega) o cn ho2 (by omega)
    have g1 : decide ((n : Int) < 8) = false := by simp; omega
    have g1' : decide (n < 8) = false := by simpa using h8
    have hn8 : (n : Int) - 8 = ((n - 8 : Nat) : Int) := by omega
    have hn8t : ((n : Int) - 8).toNat = n - 8 := by omega
    have hn80 : (0 : Int) ≤ (n : Int) - 8 := by omega
    have hn81 : (n : Int) - 8 < (n : Int) := by omega
    have hn128 : (n : Int) < 128 := by omega
    have hn88 : (8 : Int) ≤ (n : Int) := by omega
    have hwn : IntKind.i64.wrap ((n : Int) - 8) = (n : Int) - 8 := wrapI (by omega) (by omega)
    have HJ := Hd hj
    have HW' := Hd hw'
    have HHc := Hd (show w.drew.heap[cb]? = _ from H1.out)
    have HKw := Hd (show Keep (fun k => k = cb) w w.drew from (Keep.refl _ _).drew)
    clear hj hw' h3 ho q0 hn8
    go_enter Tryz.func158, Tryz.ntmps158
    go_wp2
    obtain ⟨S, hS⟩ : ∃ S : World → Prop, ∀ u, S u ↔ Keep (fun _ => False) (w) u := ⟨fun u => Keep (fun _ => False) (w) u, fun _ => Iff.rfl⟩
    have HS := Hd hS
    clear hS
    refine wp_region_ord 15 [(0, true), (1, true), (2, true), (3, true), (4, true), (5, true), (6, true), (7, true), (8, true), (9, true), (10, true), (11, true), (12, true), (13, true), (14, false)] S (by kernel_rfl) (by kernel_rfl) ((HS.out _).2 (Keep.refl _ _).drew) ?_
    iterate 14
      first
        | (refine wpH_passed rfl (by rfl) (fun K hK => ?_); go_simp; refine hK _ ?_; clear hK K)
        | (first
             | refine wpH_read rfl rfl (fun K hK => ?_)
             | refine wpH_readw rfl (by rfl) (fun K hK => ?_)
           apply Exists.intro
           refine ⟨fun u hu => ?_, ?_⟩
           · have hu := (HS.out u).1 hu
             have c0 : u.cell? ⟨cb, 0, none⟩ = some (.slice (some ⟨g, 0, none⟩) n vc) := by rw [hu.cell (p := ⟨cb, 0, none⟩) HLt.out (fun e => e)]; exact Lib.cell_of_heap H1.out 0
             have c1 : u.cell? ⟨cb, 1, none⟩ = some (.complex .f64 a b) := by rw [hu.cell (p := ⟨cb, 1, none⟩) HLt.out (fun e => e)]; exact Lib.cell_of_heap H1.out 1
             have q0 : u.cell? ⟨g, n - 8, none⟩ = some (.int .u8 o) := by rw [hu.cell (p := ⟨g, n - 8, none⟩) HGl.out (fun e => e)]; exact HQ0.out
             clear hu
             go_simp
             exact ⟨rfl, rfl⟩
           go_simp
           refine hK _ ?_
           clear hK K)
    first | refine wpH_do rfl rfl (fun K hK => ?_) | refine wpH_dow rfl (by rfl) (fun K hK => ?_)
    go_simp
    go_at_call 215
    refine (HJ.out _).mono ?_
    rintro e w4 ⟨rfl, rfl⟩
    refine hK _ _ ((HS.out _).2 (Keep.refl _ _).drew) ?_
    clear hK K
    refine wpH_nil ?_
    simp only [List.drop_succ_cons, List.drop_zero]
    clear S HS
    have cd1 : w.drew.cell? ⟨cb, 1, none⟩ = some (.complex .f64 a b) := Lib.cell_of_heap HHc.out 1
    have cd0 : w.drew.frozen? ⟨cb, 1, none⟩ = false := f1
    generalize w.drew = WW at *
    have k1 := heap_setCell_same WW cb 1 _ _ (.complex .f64 a' b') HHc.out
    have hkp : Keep (fun k => k = cb) w (WW.setCell ⟨cb, 1, none⟩ (.complex .f64 a' b')) := HKw.out.setCell (p := ⟨cb, 1, none⟩) (fun _ => rfl) _
    have hrj : (WW.setCell ⟨cb, 1, none⟩ (.complex .f64 a' b')).ownsRow B 5 1 (.slice (some ⟨g, 0, none⟩) n vc) n (Lib.byteCells l) := hkp.ownsRow H2.out (fun k e e2 => HNe.out k e e2)
    obtain ⟨wj, hwj⟩ : ∃ wj, WW.setCell ⟨cb, 1, none⟩ (.complex .f64 a' b') = wj := ⟨_, rfl⟩
    rw [hwj] at k1 hkp hrj
    have HJr := Hd hrj
    have HJk := Hd hkp
    have HJc := Hd k1
    have cj0 : wj.cell? ⟨cb, 0, none⟩ = some (.slice (some ⟨g, 0, none⟩) n vc) := Lib.cell_of_heap k1 0
    clear k1 hkp hrj
    go_wp2_with (first
    | (at_builtin
       refine wpList_append_own_at _ (by rfl) _ _ 121 (by rfl) B 5 i0 (.int .u8 0) 1 1 Tryz.underlying121 HI.out Hz0.out Hz1.out Hz2.out (by rfl) (by decide) (.slice (some ⟨g, 0, none⟩) n vc) _ _ (by rfl) (HJr.out.alloc _) ⟨wj.heap.size, 0, none⟩ 1 1 [.int .u8 cn] (by rfl) (by rfl) (cell_one_new _ _ _) (by simp [Value.oneCell']) (by unfold maxLen; omega) (by omega) ?_ ?_
       · have := HJk.out.size; simp; omega
       intro v' w3 hown3 hg3 hnil hloc
       have HO3 := Hd hown3
       have hc3 : w3.heap[cb]? = some (.cells #[.slice (some ⟨g, 0, none⟩) n vc, .complex .f64 a' b'] 256 (0, 0)) := by
         rw [hg3.block cb (by have := HLt.out; have := HJk.out.size; simp; omega) (fun e => HNe.out cb e.symm rfl)]
         exact (((Below.refl wj.heap.size wj).alloc (Nat.le_refl _) _).block cb (by have := HLt.out; have := HJk.out.size; omega)).trans HJc.out
       have HC3 := Hd hc3
       have HK3 := Hd (show Keep (cutTurns B cb w) w w3 from (HJk.out.mono (fun i _ e => ⟨by rw [show i = cb from e]; exact h4, .inl e⟩)).trans (((Keep.refl (fun k => (Value.slice (some ⟨g, 0, none⟩) n vc).ownBlock = some k) wj).alloc _).grown hg3 (fun k _ e => e)) (fun i _ e => ⟨(H2.out.lt i e).1, .inr (row_formE H2.out i e)⟩))
       have c3 : w3.cell? ⟨cb, 0, none⟩ = some (.slice (some ⟨g, 0, none⟩) n vc) := Lib.cell_of_heap hc3 0
       have f3 : w3.frozen? ⟨cb, 0, none⟩ = false := by simp [World.frozen?, hc3]
       obtain ⟨p3, q3, hv3⟩ := slice_formB hown3
       subst hv3
       clear hown3 hg3 hnil hloc hc3))
    go_end0
    have k4 := heap_setCell_same w3 cb 0 _ _ (.slice p3 (n + 1) q3) HC3.out
    refine ⟨rfl, ⟨_, _, _, k4, ?_, by rw [List.length_append, HN.out]; exact HW'.out.mono (by simp; omega), h4⟩, HK3.out.setCell (p := ⟨cb, 0, none⟩) (fun _ => ⟨h4, .inl rfl⟩) _⟩
    have hr4 := ((Keep.refl (fun k => k = cb) w3).setCell (p := ⟨cb, 0, none⟩) (fun _ => rfl) (.slice p3 (n + 1) q3)).ownsRow HO3.out (fun k e e2 => HNe3.out w3 k HO3.out HC3.out e e2)
    rw [HS0.out, List.length_append, HN.out]
    exact hr4
end Go.Proofs.YtaokjeokpifjgaaGreatDoor

namespace Go.Proofs.YtaokjeokpifjgaaGreatDoor
open Go.RowKit Go.MapKept
open SealG flt
attribute [local go_sem] gives givesH
set_option maxRecDepth 100000

def txtV (l : List ByteArray) : List Value := l.map Value.string
theorem infoStr' : (Tryz.prog.info? 9).map (fun i => (i.zero, i.size, i.bytes)) = some (some (.string ⟨#[]⟩), 1, 16) := by kernel_rfl
structure FeedRel (w : World) (B cb : Nat) (s : ByteArray) (wr : World) (v : Value) (k lo hi : Nat) (ls : List ByteArray) (o : List UInt8) : Prop where
  row : wr.ownsRow B 9 1 v ls.length (txtV ls)
  cut : CutAt wr B cb o
  cat : ls.flatMap (fun x => x.data.toList) ++ o = s.data.toList.take k
  part : ∀ x ∈ ls, 16 ≤ x.size ∧ x.size ≤ 128
  lo : lo ≤ o.length
  hi : o.length ≤ hi
  below : Below B w wr
theorem FeedRel.few {w : World} {B cb : Nat} {s : ByteArray} {wr : World} {v : Value} {k lo hi : Nat} {ls : List ByteArray} {o : List UInt8} (h : FeedRel w B cb s wr v k lo hi ls o) (hk : k ≤ s.size) : 16 * ls.length + o.length ≤ s.size := by
  have h1 := congrArg List.length h.cat
  rw [List.length_append, List.length_take] at h1
  have h7 : s.data.toList.length = s.size := by rw [Array.length_toList]; rfl
  have h2 : ∀ l : List ByteArray, (∀ x ∈ l, 16 ≤ x.size ∧ x.size ≤ 128) → 16 * l.length ≤ (l.flatMap (fun x => x.data.toList)).length := by
    intro l
    induction l with
    | nil => intro _; exact Nat.le_refl _
    | cons x t ih =>
      intro hx
      have h3 := ih (fun y hy => hx y (List.mem_cons_of_mem _ hy))
      have h4 := (hx x (by simp)).1
      have h8 : x.data.toList.length = x.size := by rw [Array.length_toList]; rfl
      rw [List.flatMap_cons, List.length_append, List.length_cons, h8]
      omega
  have h3 := h2 ls h.part
  omega
theorem strRow_keep {w w' : World} {B cb n : Nat} {v : Value} {xs : List Value} {cs : Array Value} (h : w.ownsRow B 9 1 v n xs) (hc : w.heap[cb]? = some (.cells cs 256 (0, 0))) (hk : Keep (cutTurns B cb w) w w') : w'.ownsRow B 9 1 v n xs :=
  hk.ownsRow h (fun k e e2 => by
    obtain ⟨c, fz, h1⟩ := row_formE h k e
    rcases e2.2 with e3 | ⟨c2, fz2, h2⟩
    · rw [e3, hc] at h1; cases h1
    · rw [h2] at h1; cases h1)
theorem CutAt.cell {w : World} {B cb : Nat} {l : List UInt8} (h : CutAt w B cb l) : ∃ cs, w.heap[cb]? = some (.cells cs 256 (0, 0)) := by
  obtain ⟨v, a, b, h1, _⟩ := h.ex
  exact ⟨_, h1⟩
def FeedOut (w : World) (B cb : Nat) (s : ByteArray) (e : Ending) (w' : World) : Prop := ∃ v ls o, e = .returned v ∧ FeedRel w B cb s w' v s.size 0 127 ls o
def feedJ (w : World) (B cb : Nat) (s : ByteArray) (l : Nat) (a : Act) (wr : World) : Prop :=
  ∃ (k : Nat) (v : Value) (ls : List ByteArray) (o : List UInt8) (u2 u3 u4 u7 u8 u9 u10 u11 u12 u13 u14 u15 u16 u17 u18 u19 u20 u21 u22 u23 u24 u25 u26 u27 u28 u29 u30 u31 u32 u33 u34 u35 u36 u37 u38 u39 u40 u41 u42 u43 u44 u45 : Value), k ≤ s.size ∧ a = { tmps := #[.pointer (some ⟨cb, 0, none⟩), .string s, u2, u3, u4, v, .int .i64 (k : Nat), u7, u8, u9, u10, u11, u12, u13, u14, u15, u16, u17, u18, u19, u20, u21, u22, u23, u24, u25, u26, u27, u28, u29, u30, u31, u32, u33, u34, u35, u36, u37, u38, u39, u40, u41, u42, u43, u44, u45], defers := [] } ∧
    ((l = 0 ∧ FeedRel w B cb s wr v k 0 127 ls o) ∨ (l = 1 ∧ FeedRel w B cb s wr v k 16 128 ls o))
def feedM (n : Nat) (l : Nat) (a : Act) (_ : World) : Nat := 2 * (n - (intOf (a.tmps.getD 6 undef)).toNat) + 1 + l
set_option maxHeartbeats 8000000 in
theorem feed_any {w : World} {B cb : Nat} {s : ByteArray} (h : CutAt w B cb []) (hB : B ≤ w.heap.size) (hs : s.size ≤ 100000) :
    Calls Tryz.prog 94 #[.pointer (some ⟨cb, 0, none⟩), .string s] w (FeedOut w B cb s) := by
  have H := Hd h
  have HB := Hd hB
  clear h hB
  obtain ⟨i0, hi0, hz0, hz1, hz2⟩ := info_parts infoStr'
  have HI := Hd hi0
  have Hz0 := Hd hz0
  have Hz1 := Hd hz1
  have Hz2 := Hd hz2
  clear hi0 hz0 hz1 hz2
  go_enter Tryz.func94, Tryz.ntmps94
  go_wp2
  refine wp_scope_labels (feedJ w B cb s) (feedM s.size) ?_ ?_
  · have hrel : FeedRel w B cb s w (.slice none 0 0) 0 0 127 ([] : List ByteArray) ([] : List UInt8) := ⟨World.ownsRow_nil _ _ _ _, H.out, by simp, fun x hx => (by cases hx), by simp, by simp, Below.refl _ _⟩
    go_wp2
    apply wp_label
    by_cases hlt : 0 < s.size
    · have HR := Hd hrel
      have hB1 : B ≤ w.heap.size := Nat.le_trans HB.out hrel.below.size
      have HRo := Hd (cutRoll_any hrel.cut hB1 (by have := hrel.hi; omega) s[0])
      obtain ⟨cs, hcs⟩ := hrel.cut.cell
      have HCs := Hd hcs
      have g1 : ((0 : Int) == (s.size : Int)) = false := by simp; omega
      have g2 : (0 : Int) < (s.size : Int) := by omega
      have hsz : (s.size : Int) ≤ 100000 := by omega
      have hcat : ([] : List ByteArray).flatMap (fun x => x.data.toList) ++ (([] : List UInt8) ++ [s[0]]) = s.data.toList.take (0 + 1) := by
        rw [← List.append_assoc, hrel.cat, List.take_add_one]
        congr 1
        rw [Array.getElem?_toList]
        exact (congrArg Option.toList (Array.getElem?_eq_getElem hlt)).symm
      have HCat := Hd hcat
      clear hcs hcat hrel
      obtain ⟨c, hc⟩ : ∃ c, s[0] = c := ⟨_, rfl⟩
      rw [hc] at HRo HCat
      have hx := byteN_get s 0 hlt
      rw [hc] at hx
      rw [hx] at HRo
      go_wp2_with (first
      | (go_at_call 158; refine (HRo.out).mono ?_; rintro e w3 ⟨rfl, hc3, hk3⟩
         have HR1 := Hd (show FeedRel w B cb s w3 (.slice none 0 0) (0 + 1) 1 128 ([] : List ByteArray) (([] : List UInt8) ++ [c]) from ⟨strRow_keep HR.out.row HCs.out hk3, hc3, HCat.out, HR.out.part, by rw [List.length_append]; simp, by rw [List.length_append]; have := HR.out.hi; simp <;> omega, HR.out.below.trans (hk3.below hB1 (fun i hi e => by have := e.1; omega))⟩)
         obtain ⟨v3, za, zb, q1, q2, q3, q4⟩ := hc3.ex
         obtain ⟨va, vc, hv3⟩ := slice_formB q2
         subst hv3
         obtain ⟨m, hm⟩ : ∃ m, (([] : List UInt8) ++ [c]).length = m := ⟨_, rfl⟩
         rw [hm] at q1
         have c0 : w3.cell? ⟨cb, 0, none⟩ = some (.slice va m vc) := Lib.cell_of_heap q1 0
         have c1 : w3.cell? ⟨cb, 1, none⟩ = some (.complex .f64 za zb) := Lib.cell_of_heap q1 1
         have HM := Hd hm
         have hm128 : m ≤ 128 := by rw [← hm]; exact HR1.out.hi
         have HCe := Hd (fun u => tcell_any za zb _ q3 (by rw [hm]; omega) u)
         clear hc3 hk3 q1 q2 q3 q4 hm
         have hm3 : (((m : Int) == 128) = false ∧ decide ((m : Int) < 16) = true) ∨ (((m : Int) == 128) = true ∧ m = 128) ∨ (((m : Int) == 128) = false ∧ decide ((m : Int) < 16) = false ∧ 16 ≤ m) := by
           rcases Nat.lt_or_ge m 16 with hm1 | hm1
           · exact .inl ⟨by simp; omega, by simp; omega⟩
           · by_cases hm2 : m = 128
             · exact .inr (.inl ⟨by simp; omega, hm2⟩)
             · exact .inr (.inr ⟨by simp; omega, by simp; omega, hm1⟩)
         rcases hm3 with ⟨f1, f2⟩ | ⟨f1, hm2⟩ | ⟨f1, f2, hm1⟩)
      | (go_at_call 159; refine (HCe.out _).mono ?_; rintro e w4 ⟨⟨kk, rfl⟩, rfl⟩
         by_cases hkk : kk = 0))
      · have hrel9 : FeedRel w B cb s w3 (.slice none 0 0) (0 + 1) 0 127 ([] : List ByteArray) (([] : List UInt8) ++ [c]) := ⟨HR1.out.row, HR1.out.cut, HR1.out.cat, HR1.out.part, by simp, by rw [HM.out]; have := of_decide_eq_true f2; omega, HR1.out.below⟩
        apply wp_goto
        show feedJ w B cb s 0 _ _
        exact ⟨0 + 1, _, ([] : List ByteArray), ([] : List UInt8) ++ [c], _, _, _, _, _, _, _, _, _, _, _, _, _, _, _, _, _, _, _, _, _, _, _, _, _, _, _, _, _, _, _, _, _, _, _, _, _, _, _, _, _, _, by omega, rfl, .inl ⟨rfl, hrel9⟩⟩
      · have hrel9 : FeedRel w B cb s w3 (.slice none 0 0) (0 + 1) 16 128 ([] : List ByteArray) (([] : List UInt8) ++ [c]) := ⟨HR1.out.row, HR1.out.cut, HR1.out.cat, HR1.out.part, by rw [HM.out]; omega, HR1.out.hi, HR1.out.below⟩
        apply wp_goto
        show feedJ w B cb s 1 _ _
        exact ⟨0 + 1, _, ([] : List ByteArray), ([] : List UInt8) ++ [c], _, _, _, _, _, _, _, _, _, _, _, _, _, _, _, _, _, _, _, _, _, _, _, _, _, _, _, _, _, _, _, _, _, _, _, _, _, _, _, _, _, _, by omega, rfl, .inr ⟨rfl, hrel9⟩⟩
      · have hrel9 : FeedRel w B cb s w3 (.slice none 0 0) (0 + 1) 16 128 ([] : List ByteArray) (([] : List UInt8) ++ [c]) := ⟨HR1.out.row, HR1.out.cut, HR1.out.cat, HR1.out.part, by rw [HM.out]; omega, HR1.out.hi, HR1.out.below⟩
        clear HR1
        have HR1 := Hd hrel9
        clear hrel9
        apply wp_label
        have HEn := Hd (cutEnd_any HR1.out.cut)
        have HN1 := Hd (show 16 ≤ (([] : List UInt8) ++ [c]).length ∧ (([] : List UInt8) ++ [c]).length ≤ 128 from ⟨HR1.out.lo, HR1.out.hi⟩)
        have HF1 := Hd (HR1.out.few (by omega))
        go_wp2_with (first
          | (go_at_call 95; refine (HEn.out).mono ?_; rintro e w5 ⟨rfl, hc5, hk5⟩
             have HC5 := Hd hc5
             have HK5 := Hd hk5
             have hne5 : ∀ q, (Value.slice none 0 0).ownBlock = some q → q ≠ cb := fun q e e2 => by
               obtain ⟨c, fz, h1⟩ := row_formE HR1.out.row q e
               obtain ⟨cs, h2⟩ := HR1.out.cut.cell
               rw [e2, h2] at h1; cases h1
             have HNe5 := Hd hne5
             have HRow5 := Hd (hk5.ownsRow HR1.out.row (fun q e e2 => hne5 q e e2))
             have HB5 := Hd (show Below B w w5 from HR1.out.below.trans (hk5.below (Nat.le_trans HB.out HR1.out.below.size) (fun i hi e => by have := hc5.2; omega)))
             clear hc5 hk5 hne5)
          | (at_builtin
             refine wpList_append_own_at _ (by rfl) _ _ 22 (by rfl) B 9 i0 (.string ⟨#[]⟩) 1 16 Tryz.underlying22 HI.out Hz0.out Hz1.out Hz2.out (by rfl) (by decide) (.slice none 0 0) _ _ (by rfl) (HRow5.out.alloc _) ⟨w5.heap.size, 0, none⟩ 1 1 [.string ⟨(([] : List UInt8) ++ [c]).toArray⟩] (by rfl) (by rfl) (cell_one_new _ _ _) (by simp [Value.oneCell']) (by have := HF1.out; unfold maxLen; omega) (by have := HF1.out; omega) ?_ ?_
             · have h1 := HB5.out.size; have h2 := HB.out; simp; omega
             intro v8 w8 hown8 hg8 hnil8 hloc8
             have HO8 := Hd hown8
             have HK8 := Hd (((Keep.refl (fun q => (Value.slice none 0 0).ownBlock = some q) w5).alloc (.cells #[.string ⟨(([] : List UInt8) ++ [c]).toArray⟩] 9)).grown hg8 (fun q _ e => e))
             clear hown8 hg8 hnil8 hloc8))
        have hb8 : Below B w w8 := HB5.out.trans (HK8.out.below (Nat.le_trans HB.out HB5.out.size) (fun i hi e => by have := (HRow5.out.lt i e).1; omega))
        have hc8 : CutAt w8 B cb [] := CutAt.fresh ⟨HK8.out.at HC5.out.1 (fun e => HNe5.out _ e rfl), HC5.out.2⟩
        have hr8 : w8.ownsRow B 9 1 v8 (([] : List ByteArray) ++ [(⟨(([] : List UInt8) ++ [c]).toArray⟩ : ByteArray)]).length (txtV (([] : List ByteArray) ++ [(⟨(([] : List UInt8) ++ [c]).toArray⟩ : ByteArray)])) := by
          have := HO8.out
          unfold txtV
          rw [List.length_append, List.map_append]
          exact this
        have hrel8 : FeedRel w B cb s w8 v8 (0 + 1) 0 127 (([] : List ByteArray) ++ [(⟨(([] : List UInt8) ++ [c]).toArray⟩ : ByteArray)]) [] := by
          refine ⟨hr8, hc8, ?_, fun x hx => ?_, by simp, by simp, hb8⟩
          · rw [List.append_nil, List.flatMap_append, ← HR1.out.cat]
            simp
          · rcases List.mem_append.1 hx with e | e
            · exact HR1.out.part x e
            · rw [List.mem_singleton.1 e]
              have h1 := HN1.out
              have h2 : (⟨(([] : List UInt8) ++ [c]).toArray⟩ : ByteArray).size = (([] : List UInt8) ++ [c]).length := by show (([] : List UInt8) ++ [c]).toArray.size = _; exact List.size_toArray
              omega
        go_wp2
        apply wp_goto
        show feedJ w B cb s 0 _ _
        exact ⟨0 + 1, v8, ([] : List ByteArray) ++ [(⟨(([] : List UInt8) ++ [c]).toArray⟩ : ByteArray)], [], _, _, _, _, _, _, _, _, _, _, _, _, _, _, _, _, _, _, _, _, _, _, _, _, _, _, _, _, _, _, _, _, _, _, _, _, _, _, _, _, _, _, by omega, rfl, .inl ⟨rfl, hrel8⟩⟩
      · have hrel9 : FeedRel w B cb s w3 (.slice none 0 0) (0 + 1) 0 127 ([] : List ByteArray) (([] : List UInt8) ++ [c]) := ⟨HR1.out.row, HR1.out.cut, HR1.out.cat, HR1.out.part, by simp, by rw [HM.out]; have : m ≠ 128 := (fun e => by rw [e] at f1; simp at f1); omega, HR1.out.below⟩
        apply wp_goto
        show feedJ w B cb s 0 _ _
        exact ⟨0 + 1, _, ([] : List ByteArray), ([] : List UInt8) ++ [c], _, _, _, _, _, _, _, _, _, _, _, _, _, _, _, _, _, _, _, _, _, _, _, _, _, _, _, _, _, _, _, _, _, _, _, _, _, _, _, _, _, _, by omega, rfl, .inl ⟨rfl, hrel9⟩⟩
    · have hkn : 0 = s.size := by omega
      have g1 : ((0 : Int) == (s.size : Int)) = true := by simp; omega
      go_wp2
      rw [jumpsTo_ret]
      go_ret
      exact ⟨_, ([] : List ByteArray), ([] : List UInt8), rfl, by rw [← hkn]; exact hrel⟩
  · intro l a wr hJ
    obtain ⟨k, v, ls, o, u2, u3, u4, u7, u8, u9, u10, u11, u12, u13, u14, u15, u16, u17, u18, u19, u20, u21, u22, u23, u24, u25, u26, u27, u28, u29, u30, u31, u32, u33, u34, u35, u36, u37, u38, u39, u40, u41, u42, u43, u44, u45, hk, rfl, hrel⟩ := hJ
    rcases hrel with ⟨rfl, hrel⟩ | ⟨rfl, hrel⟩
    · refine ⟨_, rfl, ?_⟩
      obtain ⟨sa, sc, rfl⟩ := slice_formB hrel.row
      by_cases hlt : k < s.size
      · have HR := Hd hrel
        have hB1 : B ≤ wr.heap.size := Nat.le_trans HB.out hrel.below.size
        have HRo := Hd (cutRoll_any hrel.cut hB1 (by have := hrel.hi; omega) s[k])
        obtain ⟨cs, hcs⟩ := hrel.cut.cell
        have HCs := Hd hcs
        have g1 : (((k : Nat) : Int) == (s.size : Int)) = false := by simp; omega
        have g2 : ((k : Nat) : Int) < (s.size : Int) := by omega
        have hsz : (s.size : Int) ≤ 100000 := by omega
        have hcat : ls.flatMap (fun x => x.data.toList) ++ (o ++ [s[k]]) = s.data.toList.take (k + 1) := by
          rw [← List.append_assoc, hrel.cat, List.take_add_one]
          congr 1
          rw [Array.getElem?_toList]
          exact (congrArg Option.toList (Array.getElem?_eq_getElem hlt)).symm
        have HCat := Hd hcat
        clear hcs hcat hrel
        obtain ⟨c, hc⟩ : ∃ c, s[k] = c := ⟨_, rfl⟩
        rw [hc] at HRo HCat
        have hx := byteN_get s k hlt
        rw [hc] at hx
        rw [hx] at HRo
        go_wp2_with (first
        | (go_at_call 158; refine (HRo.out).mono ?_; rintro e w3 ⟨rfl, hc3, hk3⟩
           have HR1 := Hd (show FeedRel w B cb s w3 (.slice sa ls.length sc) (k + 1) 1 128 ls (o ++ [c]) from ⟨strRow_keep HR.out.row HCs.out hk3, hc3, HCat.out, HR.out.part, by rw [List.length_append]; simp, by rw [List.length_append]; have := HR.out.hi; simp <;> omega, HR.out.below.trans (hk3.below hB1 (fun i hi e => by have := e.1; omega))⟩)
           obtain ⟨v3, za, zb, q1, q2, q3, q4⟩ := hc3.ex
           obtain ⟨va, vc, hv3⟩ := slice_formB q2
           subst hv3
           obtain ⟨m, hm⟩ : ∃ m, (o ++ [c]).length = m := ⟨_, rfl⟩
           rw [hm] at q1
           have c0 : w3.cell? ⟨cb, 0, none⟩ = some (.slice va m vc) := Lib.cell_of_heap q1 0
           have c1 : w3.cell? ⟨cb, 1, none⟩ = some (.complex .f64 za zb) := Lib.cell_of_heap q1 1
           have HM := Hd hm
           have hm128 : m ≤ 128 := by rw [← hm]; exact HR1.out.hi
           have HCe := Hd (fun u => tcell_any za zb _ q3 (by rw [hm]; omega) u)
           clear hc3 hk3 q1 q2 q3 q4 hm
           have hm3 : (((m : Int) == 128) = false ∧ decide ((m : Int) < 16) = true) ∨ (((m : Int) == 128) = true ∧ m = 128) ∨ (((m : Int) == 128) = false ∧ decide ((m : Int) < 16) = false ∧ 16 ≤ m) := by
             rcases Nat.lt_or_ge m 16 with hm1 | hm1
             · exact .inl ⟨by simp; omega, by simp; omega⟩
             · by_cases hm2 : m = 128
               · exact .inr (.inl ⟨by simp; omega, hm2⟩)
               · exact .inr (.inr ⟨by simp; omega, by simp; omega, hm1⟩)
           rcases hm3 with ⟨f1, f2⟩ | ⟨f1, hm2⟩ | ⟨f1, f2, hm1⟩)
        | (go_at_call 159; refine (HCe.out _).mono ?_; rintro e w4 ⟨⟨kk, rfl⟩, rfl⟩
           by_cases hkk : kk = 0))
        · have hrel9 : FeedRel w B cb s w3 (.slice sa ls.length sc) (k + 1) 0 127 ls (o ++ [c]) := ⟨HR1.out.row, HR1.out.cut, HR1.out.cat, HR1.out.part, by simp, by rw [HM.out]; have := of_decide_eq_true f2; omega, HR1.out.below⟩
          apply wp_goto
          show feedJ w B cb s 0 _ _ ∧ feedM s.size 0 _ _ < feedM s.size _ _ _
          exact ⟨⟨k + 1, _, ls, o ++ [c], _, _, _, _, _, _, _, _, _, _, _, _, _, _, _, _, _, _, _, _, _, _, _, _, _, _, _, _, _, _, _, _, _, _, _, _, _, _, _, _, _, _, by omega, rfl, .inl ⟨rfl, hrel9⟩⟩, by unfold feedM; simp [intOf] <;> omega⟩
        · have hrel9 : FeedRel w B cb s w3 (.slice sa ls.length sc) (k + 1) 16 128 ls (o ++ [c]) := ⟨HR1.out.row, HR1.out.cut, HR1.out.cat, HR1.out.part, by rw [HM.out]; omega, HR1.out.hi, HR1.out.below⟩
          apply wp_goto
          show feedJ w B cb s 1 _ _ ∧ feedM s.size 1 _ _ < feedM s.size _ _ _
          exact ⟨⟨k + 1, _, ls, o ++ [c], _, _, _, _, _, _, _, _, _, _, _, _, _, _, _, _, _, _, _, _, _, _, _, _, _, _, _, _, _, _, _, _, _, _, _, _, _, _, _, _, _, _, by omega, rfl, .inr ⟨rfl, hrel9⟩⟩, by unfold feedM; simp [intOf] <;> omega⟩
        · have hrel9 : FeedRel w B cb s w3 (.slice sa ls.length sc) (k + 1) 16 128 ls (o ++ [c]) := ⟨HR1.out.row, HR1.out.cut, HR1.out.cat, HR1.out.part, by rw [HM.out]; omega, HR1.out.hi, HR1.out.below⟩
          clear HR1
          have HR1 := Hd hrel9
          clear hrel9
          apply wp_label
          have HEn := Hd (cutEnd_any HR1.out.cut)
          have HN1 := Hd (show 16 ≤ (o ++ [c]).length ∧ (o ++ [c]).length ≤ 128 from ⟨HR1.out.lo, HR1.out.hi⟩)
          have HF1 := Hd (HR1.out.few (by omega))
          go_wp2_with (first
            | (go_at_call 95; refine (HEn.out).mono ?_; rintro e w5 ⟨rfl, hc5, hk5⟩
               have HC5 := Hd hc5
               have HK5 := Hd hk5
               have hne5 : ∀ q, (Value.slice sa ls.length sc).ownBlock = some q → q ≠ cb := fun q e e2 => by
                 obtain ⟨c, fz, h1⟩ := row_formE HR1.out.row q e
                 obtain ⟨cs, h2⟩ := HR1.out.cut.cell
                 rw [e2, h2] at h1; cases h1
               have HNe5 := Hd hne5
               have HRow5 := Hd (hk5.ownsRow HR1.out.row (fun q e e2 => hne5 q e e2))
               have HB5 := Hd (show Below B w w5 from HR1.out.below.trans (hk5.below (Nat.le_trans HB.out HR1.out.below.size) (fun i hi e => by have := hc5.2; omega)))
               clear hc5 hk5 hne5)
            | (at_builtin
               refine wpList_append_own_at _ (by rfl) _ _ 22 (by rfl) B 9 i0 (.string ⟨#[]⟩) 1 16 Tryz.underlying22 HI.out Hz0.out Hz1.out Hz2.out (by rfl) (by decide) (.slice sa ls.length sc) _ _ (by rfl) (HRow5.out.alloc _) ⟨w5.heap.size, 0, none⟩ 1 1 [.string ⟨(o ++ [c]).toArray⟩] (by rfl) (by rfl) (cell_one_new _ _ _) (by simp [Value.oneCell']) (by have := HF1.out; unfold maxLen; omega) (by have := HF1.out; omega) ?_ ?_
               · have h1 := HB5.out.size; have h2 := HB.out; simp; omega
               intro v8 w8 hown8 hg8 hnil8 hloc8
               have HO8 := Hd hown8
               have HK8 := Hd (((Keep.refl (fun q => (Value.slice sa ls.length sc).ownBlock = some q) w5).alloc (.cells #[.string ⟨(o ++ [c]).toArray⟩] 9)).grown hg8 (fun q _ e => e))
               clear hown8 hg8 hnil8 hloc8))
          have hb8 : Below B w w8 := HB5.out.trans (HK8.out.below (Nat.le_trans HB.out HB5.out.size) (fun i hi e => by have := (HRow5.out.lt i e).1; omega))
          have hc8 : CutAt w8 B cb [] := CutAt.fresh ⟨HK8.out.at HC5.out.1 (fun e => HNe5.out _ e rfl), HC5.out.2⟩
          have hr8 : w8.ownsRow B 9 1 v8 (ls ++ [(⟨(o ++ [c]).toArray⟩ : ByteArray)]).length (txtV (ls ++ [(⟨(o ++ [c]).toArray⟩ : ByteArray)])) := by
            have := HO8.out
            unfold txtV
            rw [List.length_append, List.map_append]
            exact this
          have hrel8 : FeedRel w B cb s w8 v8 (k + 1) 0 127 (ls ++ [(⟨(o ++ [c]).toArray⟩ : ByteArray)]) [] := by
            refine ⟨hr8, hc8, ?_, fun x hx => ?_, by simp, by simp, hb8⟩
            · rw [List.append_nil, List.flatMap_append, ← HR1.out.cat]
              simp
            · rcases List.mem_append.1 hx with e | e
              · exact HR1.out.part x e
              · rw [List.mem_singleton.1 e]
                have h1 := HN1.out
                have h2 : (⟨(o ++ [c]).toArray⟩ : ByteArray).size = (o ++ [c]).length := by show (o ++ [c]).toArray.size = _; exact List.size_toArray
                omega
          go_wp2
          apply wp_goto
          show feedJ w B cb s 0 _ _ ∧ feedM s.size 0 _ _ < feedM s.size _ _ _
          exact ⟨⟨k + 1, v8, ls ++ [(⟨(o ++ [c]).toArray⟩ : ByteArray)], [], _, _, _, _, _, _, _, _, _, _, _, _, _, _, _, _, _, _, _, _, _, _, _, _, _, _, _, _, _, _, _, _, _, _, _, _, _, _, _, _, _, _, by omega, rfl, .inl ⟨rfl, hrel8⟩⟩, by unfold feedM; simp [intOf] <;> omega⟩
        · have hrel9 : FeedRel w B cb s w3 (.slice sa ls.length sc) (k + 1) 0 127 ls (o ++ [c]) := ⟨HR1.out.row, HR1.out.cut, HR1.out.cat, HR1.out.part, by simp, by rw [HM.out]; have : m ≠ 128 := (fun e => by rw [e] at f1; simp at f1); omega, HR1.out.below⟩
          apply wp_goto
          show feedJ w B cb s 0 _ _ ∧ feedM s.size 0 _ _ < feedM s.size _ _ _
          exact ⟨⟨k + 1, _, ls, o ++ [c], _, _, _, _, _, _, _, _, _, _, _, _, _, _, _, _, _, _, _, _, _, _, _, _, _, _, _, _, _, _, _, _, _, _, _, _, _, _, _, _, _, _, by omega, rfl, .inl ⟨rfl, hrel9⟩⟩, by unfold feedM; simp [intOf] <;> omega⟩
      · have hkn : k = s.size := by omega
        have g1 : (((k : Nat) : Int) == (s.size : Int)) = true := by simp; omega
        go_wp2
        rw [jumpsTo_ret]
        go_ret
        exact ⟨_, ls, o, rfl, by rw [← hkn]; exact hrel⟩
    · refine ⟨_, rfl, ?_⟩
      obtain ⟨sa, sc, rfl⟩ := slice_formB hrel.row
      have HR1 := Hd hrel
      clear hrel
      have HEn := Hd (cutEnd_any HR1.out.cut)
      have HN1 := Hd (show 16 ≤ (o).length ∧ (o).length ≤ 128 from ⟨HR1.out.lo, HR1.out.hi⟩)
      have HF1 := Hd (HR1.out.few (by omega))
      go_wp2_with (first
        | (go_at_call 95; refine (HEn.out).mono ?_; rintro e w5 ⟨rfl, hc5, hk5⟩
           have HC5 := Hd hc5
           have HK5 := Hd hk5
           have hne5 : ∀ q, (Value.slice sa ls.length sc).ownBlock = some q → q ≠ cb := fun q e e2 => by
             obtain ⟨c, fz, h1⟩ := row_formE HR1.out.row q e
             obtain ⟨cs, h2⟩ := HR1.out.cut.cell
             rw [e2, h2] at h1; cases h1
           have HNe5 := Hd hne5
           have HRow5 := Hd (hk5.ownsRow HR1.out.row (fun q e e2 => hne5 q e e2))
           have HB5 := Hd (show Below B w w5 from HR1.out.below.trans (hk5.below (Nat.le_trans HB.out HR1.out.below.size) (fun i hi e => by have := hc5.2; omega)))
           clear hc5 hk5 hne5)
        | (at_builtin
           refine wpList_append_own_at _ (by rfl) _ _ 22 (by rfl) B 9 i0 (.string ⟨#[]⟩) 1 16 Tryz.underlying22 HI.out Hz0.out Hz1.out Hz2.out (by rfl) (by decide) (.slice sa ls.length sc) _ _ (by rfl) (HRow5.out.alloc _) ⟨w5.heap.size, 0, none⟩ 1 1 [.string ⟨(o).toArray⟩] (by rfl) (by rfl) (cell_one_new _ _ _) (by simp [Value.oneCell']) (by have := HF1.out; unfold maxLen; omega) (by have := HF1.out; omega) ?_ ?_
           · have h1 := HB5.out.size; have h2 := HB.out; simp; omega
           intro v8 w8 hown8 hg8 hnil8 hloc8
           have HO8 := Hd hown8
           have HK8 := Hd (((Keep.refl (fun q => (Value.slice sa ls.length sc).ownBlock = some q) w5).alloc (.cells #[.string ⟨(o).toArray⟩] 9)).grown hg8 (fun q _ e => e))
           clear hown8 hg8 hnil8 hloc8))
      have hb8 : Below B w w8 := HB5.out.trans (HK8.out.below (Nat.le_trans HB.out HB5.out.size) (fun i hi e => by have := (HRow5.out.lt i e).1; omega))
      have hc8 : CutAt w8 B cb [] := CutAt.fresh ⟨HK8.out.at HC5.out.1 (fun e => HNe5.out _ e rfl), HC5.out.2⟩
      have hr8 : w8.ownsRow B 9 1 v8 (ls ++ [(⟨(o).toArray⟩ : ByteArray)]).length (txtV (ls ++ [(⟨(o).toArray⟩ : ByteArray)])) := by
        have := HO8.out
        unfold txtV
        rw [List.length_append, List.map_append]
        exact this
      have hrel8 : FeedRel w B cb s w8 v8 (k) 0 127 (ls ++ [(⟨(o).toArray⟩ : ByteArray)]) [] := by
        refine ⟨hr8, hc8, ?_, fun x hx => ?_, by simp, by simp, hb8⟩
        · rw [List.append_nil, List.flatMap_append, ← HR1.out.cat]
          simp
        · rcases List.mem_append.1 hx with e | e
          · exact HR1.out.part x e
          · rw [List.mem_singleton.1 e]
            have h1 := HN1.out
            have h2 : (⟨(o).toArray⟩ : ByteArray).size = (o).length := by show (o).toArray.size = _; exact List.size_toArray
            omega
      go_wp2
      apply wp_goto
      show feedJ w B cb s 0 _ _ ∧ feedM s.size 0 _ _ < feedM s.size _ _ _
      exact ⟨⟨k, v8, ls ++ [(⟨(o).toArray⟩ : ByteArray)], [], _, _, _, _, _, _, _, _, _, _, _, _, _, _, _, _, _, _, _, _, _, _, _, _, _, _, _, _, _, _, _, _, _, _, _, _, _, _, _, _, _, _, by omega, rfl, .inl ⟨rfl, hrel8⟩⟩, by unfold feedM; simp [intOf] <;> omega⟩
end Go.Proofs.YtaokjeokpifjgaaGreatDoor

namespace Go.Proofs.YtaokjeokpifjgaaGreatDoor
open Go.RowKit Go.MapKept
open SealG flt
attribute [local go_sem] gives givesH
set_option maxRecDepth 100000

structure PartsOf (s : ByteArray) (ls : List ByteArray) : Prop where
  cat : ls.flatMap (fun x => x.data.toList) = s.data.toList
  part : ∀ x ∈ ls, 1 ≤ x.size ∧ x.size ≤ 128
  few : 16 * ls.length ≤ s.size + 15
set_option maxHeartbeats 4000000 in
theorem cut_parts (s : ByteArray) (hs : s.size ≤ 100000) (w : World) :
    Calls Tryz.prog 34 #[.string s] w fun e w' => ∃ v ls, e = .returned v ∧ w'.ownsRow w.heap.size 9 1 v ls.length (txtV ls) ∧ PartsOf s ls ∧ Below w.heap.size w w' := by
  have HN := Hd (cutNew_any w)
  have HF := Hd (fun (u : World) (hc : CutAt u w.heap.size w.heap.size []) (hb : w.heap.size ≤ u.heap.size) => feed_any hc hb hs)
  obtain ⟨i0, hi0, hz0, hz1, hz2⟩ := info_parts infoStr'
  have HI := Hd hi0
  have Hz0 := Hd hz0
  have Hz1 := Hd hz1
  have Hz2 := Hd hz2
  clear hi0 hz0 hz1 hz2
  go_enter Tryz.func34, Tryz.ntmps34
  go_wp2_with (first
    | (go_at_call 93; refine (HN.out).mono ?_; rintro e w1 ⟨rfl, hc1, hb1, hz1⟩
       have HB1 := Hd hb1
       have HFe := Hd (HF.out w1 hc1 hb1.size)
       clear hc1 hb1 hz1)
    | (go_at_call 94; refine (HFe.out).mono ?_; rintro e w2 ⟨v, ls, o, rfl, hrel⟩
       obtain ⟨sa, sc, hv⟩ := slice_formB hrel.row
       subst hv
       have HR := Hd hrel
       have hen := cutEnd_any hrel.cut
       obtain ⟨x, hx⟩ : ∃ x : ByteArray, (⟨o.toArray⟩ : ByteArray) = x := ⟨_, rfl⟩
       rw [hx] at hen
       have HEn := Hd hen
       have HX := Hd hx
       have hxl : x.toList = o := by rw [← hx, Lib.toList_data]
       have hcase : (x.toList.isEmpty = true ∧ o = []) ∨ (x.toList.isEmpty = false ∧ ¬ (x.toList = []) ∧ o ≠ []) := by
         rw [hxl]
         cases o with
         | nil => exact .inl ⟨rfl, rfl⟩
         | cons c t => exact .inr ⟨rfl, by simp, by simp⟩
       clear hrel hen hx hxl
       rcases hcase with ⟨x1, ho⟩ | ⟨x1, x2, ho⟩)
    | (go_at_call 95; refine (HEn.out).mono ?_; rintro e w3 ⟨rfl, hc3, hk3⟩
       have hne5 : ∀ q, (Value.slice sa ls.length sc).ownBlock = some q → q ≠ w.heap.size := fun q e e2 => by
         obtain ⟨c, fz, h1⟩ := row_formE HR.out.row q e
         obtain ⟨cs, h2⟩ := HR.out.cut.cell
         rw [e2, h2] at h1; cases h1
       have HRow := Hd (hk3.ownsRow HR.out.row (fun q e e2 => hne5 q e e2))
       have HB3 := Hd (show Below w.heap.size w w3 from HB1.out.trans (HR.out.below.trans (hk3.below (Nat.le_trans HB1.out.size HR.out.below.size) (fun i hi e => by omega))))
       clear hc3 hk3 hne5)
    | (at_builtin
       refine wpList_append_own_at _ (by rfl) _ _ 22 (by rfl) w.heap.size 9 i0 (.string ⟨#[]⟩) 1 16 Tryz.underlying22 HI.out Hz0.out Hz1.out Hz2.out (by rfl) (by decide) (.slice sa ls.length sc) _ _ (by rfl) (HRow.out.alloc _) ⟨w3.heap.size, 0, none⟩ 1 1 [.string x] (by rfl) (by rfl) (cell_one_new _ _ _) (by simp [Value.oneCell']) (by have := HR.out.few (Nat.le_refl _); unfold maxLen; omega) (by have := HR.out.few (Nat.le_refl _); omega) ?_ ?_
       · have h1 := HB3.out.size; simp; omega
       intro v8 w8 hown8 hg8 hnil8 hloc8
       have HO8 := Hd hown8
       have HK8 := Hd (((Keep.refl (fun q => (Value.slice sa ls.length sc).ownBlock = some q) w3).alloc (.cells #[.string x] 9)).grown hg8 (fun q _ e => e))
       clear hown8 hg8 hnil8 hloc8))
  · go_ret
    have hc := HR.out.cat
    rw [ho, List.append_nil, List.take_of_length_le (by rw [Array.length_toList]; exact Nat.le_refl _)] at hc
    exact ⟨_, ls, rfl, HRow.out, ⟨hc, fun y hy => by have := HR.out.part y hy; omega, by have := HR.out.few (Nat.le_refl _); omega⟩, HB3.out⟩
  · go_ret
    have hc := HR.out.cat
    rw [List.take_of_length_le (by rw [Array.length_toList]; exact Nat.le_refl _)] at hc
    have hxs : x.size = o.length := by rw [← HX.out]; show o.toArray.size = _; exact List.size_toArray
    have hol : 1 ≤ o.length := by cases o with
      | nil => exact absurd rfl ho
      | cons c t => simp
    refine ⟨_, ls ++ [x], rfl, ?_, ⟨?_, fun y hy => ?_, ?_⟩, HB3.out.trans (HK8.out.below HB3.out.size (fun i hi e => by have := (HRow.out.lt i e).1; omega))⟩
    · have := HO8.out
      unfold txtV
      rw [List.length_append, List.map_append]
      exact this
    · rw [List.flatMap_append, ← hc, ← HX.out]
      simp
    · rcases List.mem_append.1 hy with e | e
      · have := HR.out.part y e; omega
      · rw [List.mem_singleton.1 e, hxs]
        have := HR.out.hi; omega
    · have := HR.out.few (Nat.le_refl _)
      rw [List.length_append, List.length_singleton]
      omega
end Go.Proofs.YtaokjeokpifjgaaGreatDoor

namespace Go.Proofs.YtaokjeokpifjgaaGreatDoor
open Go.RowKit Go.MapKept
attribute [local go_sem] gives givesH
set_option maxRecDepth 100000

theorem results_box2 {P : Program} {fn : Func} {p u : Tmp} {ty : TypeId} (h : fn.results = #[.cell p ty, .tmp u]) (tmps : Array Value) (w : World) (g : Nat) (t : TypeId) (cs : Array Value) (fr : Nat × Nat) (d : TypeDesc)
    (hp : tmps.getD p undef = .pointer (some ⟨g, 0, none⟩)) (hg : w.heap[g]? = some (.cells cs t fr))
    (hu : P.underlying ty = some d) (hd : (match d with | .struct _ | .array _ _ => true | _ => false) = true) (hi : (P.info? ty).map (·.size) = some cs.size) :
    (results fn tmps).run P w = .ok (.tuple #[.agg cs, tmps.getD u undef]) w := by
  have hp' : tmps[p]?.getD undef = .pointer (some ⟨g, 0, none⟩) := by simpa using hp
  have e : (results fn tmps).run P w = ((asAddr (tmps.getD p undef)).run P w).andThen fun a w₁ => ((loadVar ty a).run P w₁).andThen fun x w₂ => .ok (.tuple #[x, tmps.getD u undef]) w₂ := by
    simp only [results, h]
    simp [Sem.run_bind, Result.andThen]
  rw [e]
  simp [hp', asAddr, run_loadVar_row w g t ty cs fr d hg hu hd hi, Result.andThen]
section
variable {w : World} {sb : Nat} {s : Sto} {D : Dict} {nz : Nat}
set_option maxHeartbeats 4000000 in
theorem rkeep_st (h : StAt w sb s D nz) (hn : nz ≤ 1900 ∧ 8 * nz + 300 ≤ s.R.pages) (hk8 : s.kvI.length < 256) {t : ByteArray} (h1 : 1 ≤ t.size) (h2 : t.size ≤ 128) :
    Calls Tryz.prog 37 #[.pointer (some ⟨sb, 0, none⟩), .string t] w fun e w' => ∃ id s' D', e = .returned (.tuple #[.agg #[.string id, .int .i64 t.size], .int .i64 0]) ∧ id.size = 33 ∧ StAt w' sb s' D' (nz + 2) ∧ StStep w s w' s' ∧ D' id = some t ∧ D.le D' ∧ s'.kvI.length ≤ s.kvI.length + 1 := by
  have hb0 : Below w.heap.size w (w.alloc (.cells #[.string ⟨#[]⟩, .int .i64 0] 98)) := (Below.refl _ _).alloc (Nat.le_refl _) _
  have HM := Hd (stMark_any (h.still hb0))
  have HP := Hd (sput_st (h.still hb0) (by omega) hk8 h1 h2)
  have HSt := Hd h
  have HB0 := Hd hb0
  have HE0 := Hd (heap_alloc_new w (.cells #[.string ⟨#[]⟩, .int .i64 0] 98))
  have ht9 : t.size ≤ 9223372036854775807 := by omega
  clear h hb0
  go_enter Tryz.func37, Tryz.ntmps37
  go_wp2_with (first
    | (go_at_call 36; refine (HM.out).mono ?_; rintro e _ ⟨rfl, rfl⟩)
    | (go_at_call 97; refine (HP.out).mono ?_; rintro e w1 ⟨id, fresh, s1, D1, rfl, hid, hs1, hss1, hD1, hle1, hkv1⟩
       have HA := Hd (add_st hs1 (by have := hss1.pg; omega) (by have := hs1.sized.puts; omega) (id := id) (by omega) hD1)
       have HSS1 := Hd hss1
       have HS1 := Hd hs1
       have HD1 := Hd (show id.size = 33 ∧ D1 id = some t ∧ D.le D1 from ⟨hid, hD1, hle1⟩)
       clear hid hs1 hss1 hD1 hle1)
    | (go_at_call 98; refine (HA.out).mono ?_; rintro e w2 ⟨rfl, s2, hs2, hss2, hkv2⟩
       have HS2 := Hd hs2
       have hah := HSt.out.ahead
       have hnf0 : ¬ s.foot w.heap.size := fun e => by have := hah.2.2.2 _ e; omega
       have hz0 : w.heap.size < (w.alloc (.cells #[.string ⟨#[]⟩, .int .i64 0] 98)).heap.size := by simp
       have hnf1 : ¬ s1.foot w.heap.size := fun e => (HSS1.out.foot _ e).elim hnf0 (fun e2 => by omega)
       have hz1 : w.heap.size < w1.heap.size := Nat.lt_of_lt_of_le hz0 HSS1.out.keep.size
       have hnf2 : ¬ s2.foot w.heap.size := fun e => (hss2.foot _ e).elim hnf1 (fun e2 => by omega)
       have hx1 := HSS1.out.keep.at HE0.out hnf0
       have hx2 := hss2.keep.at hx1 hnf1
       have d0 : w2.cell? ⟨w.heap.size, 0, none⟩ = some (.string ⟨#[]⟩) := Lib.cell_of_heap hx2 0
       have d1 : w2.cell? ⟨w.heap.size, 1, none⟩ = some (.int .i64 0) := Lib.cell_of_heap hx2 1
       have y0 : w2.frozen? ⟨w.heap.size, 0, none⟩ = false := by simp [World.frozen?, hx2]
       have y1 : w2.frozen? ⟨w.heap.size, 1, none⟩ = false := by simp [World.frozen?, hx2]
       have HX2 := Hd hx2
       have HNf2 := Hd hnf2
       have HSS2 := Hd ((StStep.still (s := s) HB0.out).trans (HSS1.out.trans hss2))
       clear hs2 hss2 hah hnf0 hz0 hnf1 hz1 hnf2 hx1 hx2))
  have hx3 := heap_setCell_same w2 w.heap.size 0 _ _ (.string id) HX2.out
  have hx4 := heap_setCell_same _ w.heap.size 1 _ _ (.int .i64 t.size) hx3
  have hk := ((Keep.refl (fun k => k = w.heap.size) w2).setCell (p := ⟨w.heap.size, 0, none⟩) (fun _ => rfl) (.string id)).setCell (p := ⟨w.heap.size, 1, none⟩) (fun _ => rfl) (.int .i64 t.size)
  have hah := HSt.out.ahead
  have hib := HSS2.out.ib
  have hlb := HSS2.out.lb
  refine bodyPost_ret (results_box2 rfl _ _ w.heap.size _ _ _ _ rfl hx4 Tryz.underlying98 rfl (by kernel_rfl)) rfl ?_
  exact ⟨id, s2, D1, rfl, HD1.out.1, HS2.out.aside hk (by omega) (by omega) (by omega) HNf2.out, ⟨HSS2.out.keep.trans hk (fun i hi e => by omega), HSS2.out.foot, hib, hlb, HSS2.out.br, HSS2.out.pg, HSS2.out.X⟩, HD1.out.2.1, HD1.out.2.2, by omega⟩
end
end Go.Proofs.YtaokjeokpifjgaaGreatDoor

namespace Go.Proofs.YtaokjeokpifjgaaGreatDoor
open Go.RowKit Go.MapKept
attribute [local go_sem] gives givesH
set_option maxRecDepth 100000

abbrev RefL := List (ByteArray × Int)
def refV (l : RefL) : List Value := l.flatMap (fun r => [Value.string r.1, Value.int .i64 r.2])
theorem refV_snoc (l : RefL) (r : ByteArray × Int) : refV (l ++ [r]) = refV l ++ [Value.string r.1, Value.int .i64 r.2] := by unfold refV; rw [List.flatMap_append]; simp
theorem infoRef : (Tryz.prog.info? 98).map (fun i => (i.zero, i.size, i.bytes)) = some (some (.agg #[.string ⟨#[]⟩, .int .i64 0]), 2, 24) := by kernel_rfl
structure Met (D : Dict) (l : RefL) (ls : List ByteArray) : Prop where
  len : l.length = ls.length
  one : ∀ (j : Nat) r p, l[j]? = some r → ls[j]? = some p → r.1.size = 33 ∧ r.2 = (p.size : Int) ∧ D r.1 = some p
theorem Met.nil (D : Dict) : Met D [] [] := ⟨rfl, fun j r p h => by simp at h⟩
theorem Met.snoc {D D' : Dict} {l : RefL} {ls : List ByteArray} (h : Met D l ls) (hle : D.le D') {id p : ByteArray} (hid : id.size = 33) (hD : D' id = some p) : Met D' (l ++ [(id, (p.size : Int))]) (ls ++ [p]) := by
  refine ⟨by rw [List.length_append, List.length_append, h.len]; rfl, fun j r q h1 h2 => ?_⟩
  by_cases hj : j < l.length
  · rw [List.getElem?_append_left hj] at h1
    rw [List.getElem?_append_left (by rw [← h.len]; exact hj)] at h2
    obtain ⟨a, b, c⟩ := h.one j r q h1 h2
    exact ⟨a, b, hle _ _ c⟩
  · rw [List.getElem?_append_right (by omega)] at h1
    rw [List.getElem?_append_right (by rw [← h.len]; omega), ← h.len] at h2
    by_cases e : j - l.length = 0
    · rw [e] at h1 h2
      simp at h1 h2
      rw [← h1, ← h2]
      exact ⟨hid, rfl, hD⟩
    · rw [List.getElem?_eq_none (by simp; omega)] at h1
      cases h1
structure Built (w2 : World) (B sb : Nat) (s : Sto) (D : Dict) (ls : List ByteArray) (nz : Nat) (wr : World) (v : Value) (k : Nat) (s' : Sto) (D' : Dict) (l : RefL) : Prop where
  st : StAt wr sb s' D' (nz + 2 * k)
  step : StStep w2 s wr s'
  le : D.le D'
  met : Met D' l (ls.take k)
  row : wr.ownsRow B 98 2 v k (refV l)
  apart : ∀ g, v.ownBlock = some g → ¬ s'.foot g ∧ w2.heap.size ≤ g
  kv : s'.kvI.length ≤ s.kvI.length + k
set_option maxHeartbeats 8000000 in
theorem build_st {w : World} {sb : Nat} {s : Sto} {D : Dict} {nz : Nat} (h : StAt w sb s D nz) (text : ByteArray) (ht : text.size ≤ 2000) (hn : nz + text.size ≤ 1500 ∧ 8 * (nz + text.size) + 500 ≤ s.R.pages) (hk8 : 16 * s.kvI.length + text.size ≤ 4000) :
    Calls Tryz.prog 12 #[.pointer (some ⟨sb, 0, none⟩), .string text] w fun e w' => ∃ v l ls s' D' k, e = .returned (.tuple #[v, .int .i64 0]) ∧ PartsOf text ls ∧ Met D' l ls ∧ w'.ownsRow w.heap.size 98 2 v l.length (refV l) ∧ (∀ g, v.ownBlock = some g → ¬ s'.foot g) ∧ StAt w' sb s' D' (nz + 2 * k) ∧ 16 * k ≤ text.size + 15 ∧ StStep w s w' s' ∧ s'.kvI.length ≤ s.kvI.length + k ∧ D.le D' := by
  have HC := Hd (cut_parts text (by omega) w)
  have HSt := Hd h
  obtain ⟨i0, hi0, hz0, hz1, hz2⟩ := info_parts infoRef
  have HI := Hd hi0
  have Hz0 := Hd hz0
  have Hz1 := Hd hz1
  have Hz2 := Hd hz2
  clear h hi0 hz0 hz1 hz2
  go_enter Tryz.func12, Tryz.ntmps12
  go_wp2_with (go_at_call 34; refine (HC.out).mono ?_; rintro e w1 ⟨v, ls, rfl, hrow, hpt, hb1⟩
               obtain ⟨sa, sc, hv⟩ := slice_formB hrow
               subst hv
               have HRow := Hd hrow
               have HPt := Hd hpt
               have HB1 := Hd hb1
               have HM := Hd (stMark_any (HSt.out.still hb1))
               have HW := Hd (waits_any (HSt.out.still hb1) (by omega))
               obtain ⟨n, hnn⟩ : ∃ n, ls.length = n := ⟨_, rfl⟩
               have hn38 : 16 * n ≤ text.size + 15 := by have := hpt.few; omega
               rw [hnn] at HRow
               have HN := Hd hnn
               have g0 : decide ((4000 : Int) < (n : Int)) = false := by simp; omega
               have hcase : (((n : Int) == 0) = true ∧ n = 0) ∨ (((n : Int) == 0) = false ∧ 1 ≤ n) := by
                 by_cases e : n = 0
                 · exact .inl ⟨by simp [e], e⟩
                 · exact .inr ⟨by simp; omega, by omega⟩
               rw [hnn]
               clear hrow hpt hb1 hnn
               rcases hcase with ⟨g1, hn0⟩ | ⟨g1, hn1⟩)
  · subst hn0
    go_wp2_with (go_at_call 35; refine (HW.out).mono ?_; rintro e w2 ⟨⟨m, rfl⟩, hb2⟩)
    go_ret2
    have hls : ls = [] := List.length_eq_zero_iff.1 HN.out
    have hb : Below w.heap.size w w2 := HB1.out.trans (hb2.mono HB1.out.size)
    exact ⟨_, [], ls, s, D, 0, rfl, HPt.out, by rw [hls]; exact Met.nil D, World.ownsRow_nil _ _ _ _, fun g e => (by cases e), HSt.out.still hb, by omega, StStep.still hb, Nat.le_refl _, Dict.le_refl D⟩
  · have hst1 := HSt.out.still HB1.out
    have HS1 := Hd hst1
    have HAh := Hd hst1.ahead
    have HAh0 := Hd HSt.out.ahead
    have HSz := Hd HB1.out.size
    clear hst1
    go_wp2_with (go_at_call 36; refine (HM.out).mono ?_; rintro e _ ⟨rfl, rfl⟩)
    go_loopw [12, 14, 15, 16, 43] (fun v _ _ _ i wr => ∃ (k : Nat) (s' : Sto) (D' : Dict) (l : RefL), k ≤ n ∧ i = .int .i64 k ∧ Built w1 w.heap.size sb s D ls nz wr v k s' D' l) (fun _ _ _ _ i _ => n - (intOf i).toNat)
    case atStart => exact ⟨0, s, D, [], by omega, rfl, HS1.out, StStep.refl _ _, Dict.le_refl D, by rw [List.take_zero]; exact Met.nil D, World.ownsRow_nil _ _ _ _, fun g e => (by cases e), Nat.le_refl _⟩
    case round =>
      obtain ⟨k, s', D', l, hk, rfl, hbt⟩ := hrel
      obtain ⟨oa, oc, hov⟩ := slice_formB hbt.row
      subst hov
      have HBt := Hd hbt
      by_cases hlt : k < n
      · have g2 : decide ((k : Int) < (n : Int)) = true := by simp; omega
        have g2' : decide (k < n) = true := by simpa using hlt
        have hkl : k < ls.length := by rw [HN.out]; exact hlt
        obtain ⟨gs, cs, hs, hc1, hc2, hgB⟩ := row_posB HRow.out (by omega)
        obtain ⟨e1, e2, e3⟩ := Value.slice.inj hs
        subst e1
        have hgl := (HRow.out.lt gs rfl)
        have q1 : w1.cell? ⟨gs, k, none⟩ = some (.string ls[k]) := row_cells HRow.out k _ (by unfold txtV; rw [List.getElem?_map, List.getElem?_eq_getElem hkl]; rfl)
        have hgf : ¬ s.foot gs := fun e => by have := HAh0.out.2.2.2 _ e; omega
        have q0 : wr.cell? ⟨gs, k, none⟩ = some (.string ls[k]) := by rw [hbt.step.keep.cell (p := ⟨gs, k, none⟩) hgl.2 hgf]; exact q1
        have hp := HPt.out.part _ (List.getElem_mem hkl)
        have HK := Hd (rkeep_st hbt.st (by have := hbt.step.pg; omega) (by have := hbt.kv; omega) hp.1 hp.2)
        have htk : ls.take (k + 1) = ls.take k ++ [ls[k]] := List.take_succ_eq_append_getElem hkl
        obtain ⟨p, hpe⟩ : ∃ p, ls[k] = p := ⟨_, rfl⟩
        rw [hpe] at q0 HK htk
        have HTk := Hd htk
        have hk0 : (k : Int) < (n : Int) := by omega
        have hnl : (n : Int) ≤ 130 := by omega
        clear hs e2 e3 q1 hgf hp htk hpe hbt
        go_wp2_with (first
          | (go_at_call 37; refine (HK.out).mono ?_; rintro e w3 ⟨id, s3, D3, rfl, hid, hs3, hss3, hD3, hle3, hkv3⟩
             have HS3 := Hd hs3
             have HSS3 := Hd hss3
             have HD3 := Hd (show id.size = 33 ∧ D3 id = some p ∧ D'.le D3 from ⟨hid, hD3, hle3⟩)
             have HRow3 := Hd (hss3.keep.ownsRow HBt.out.row (fun g e => (HBt.out.apart g e).1))
             have hx4 := heap_alloc_new w3 (.cells #[.string id, .int .i64 p.size] 98)
             have d0 : (w3.alloc (.cells #[.string id, .int .i64 p.size] 98)).cell? ⟨w3.heap.size, 0, none⟩ = some (.string id) := Lib.cell_of_heap hx4 0
             have d1 : (w3.alloc (.cells #[.string id, .int .i64 p.size] 98)).cell? ⟨w3.heap.size, 1, none⟩ = some (.int .i64 p.size) := Lib.cell_of_heap hx4 1
             have hx5 := heap_alloc_new (w3.alloc (.cells #[.string id, .int .i64 p.size] 98)) (.cells #[.string id, .int .i64 p.size] 98)
             rw [World.size_alloc] at hx5
             have HX5 := Hd hx5
             clear hid hs3 hss3 hD3 hle3 hx4 hx5)
          | (at_builtin
             refine wpList_append_own_at _ (by rfl) _ _ 34 (by rfl) w.heap.size 98 i0 (.agg #[.string ⟨#[]⟩, .int .i64 0]) 2 24 Tryz.underlying34 HI.out Hz0.out Hz1.out Hz2.out (by rfl) (by decide) (.slice oa k oc) _ _ (by rfl) ((HRow3.out.alloc _).alloc _) ⟨w3.heap.size + 1, 0, none⟩ 1 1 [.string id, .int .i64 p.size] (by rfl) (by rfl) (World.news_of_block (cs := #[.string id, .int .i64 p.size]) (t := 98) (fr := (0, 0)) HX5.out) (by simp [Value.oneCell']) (by unfold maxLen; omega) (by omega) ?_ ?_
             · have h1 := HBt.out.step.keep.size; have h2 := HSS3.out.keep.size; have h3 := HSz.out; simp; omega
             intro v8 w8 hown8 hg8 hnil8 hloc8
             have HO8 := Hd hown8
             have HK8 := Hd ((((Keep.refl (fun q => (Value.slice oa k oc).ownBlock = some q) w3).alloc (.cells #[.string id, .int .i64 p.size] 98)).alloc (.cells #[.string id, .int .i64 p.size] 98)).grown hg8 (fun q _ e => e))
             have HLoc := Hd (show ∀ g, v8.ownBlock = some g → (Value.slice oa k oc).ownBlock = some g ∨ w3.heap.size ≤ g from fun g e => hloc8.imp (fun e2 => by rw [← e2]; exact e) (fun e2 => by
               rw [e2] at e
               have e3 := Option.some.inj e
               simp at e3
               omega))
             obtain ⟨p8, c8, hv8⟩ := slice_formB hown8
             subst hv8
             clear hown8 hg8 hnil8 hloc8))
        go_roundw
        case rel =>
          have hapt := HBt.out.apart
          have hk8 := HK8.out
          have hd := HD3.out
          have hz3 := HSS3.out.keep.size
          have hz1 := HBt.out.step.keep.size
          have hnf3 : ∀ g, (Value.slice oa k oc).ownBlock = some g → ¬ s3.foot g := fun g e e2 => (HSS3.out.foot g e2).elim (hapt g e).1 (fun e3 => by have := (HBt.out.row.lt g e).2; omega)
          have hlb := HBt.out.step.lb
          have hib := HBt.out.step.ib
          have hlb3 := HSS3.out.lb
          have hib3 := HSS3.out.ib
          have hah := HAh.out
          refine ⟨k + 1, s3, D3, l ++ [(id, (p.size : Int))], by omega, by go_num, HS3.out.keep hk8 (fun e => by have := (hapt _ e).2; omega) (fun e => by have := (hapt _ e).2; omega) (fun e => by have := (hapt _ e).2; omega) (fun g e e2 => hnf3 g e2 e), ?_, Dict.le_trans HBt.out.le hd.2.2, by rw [HTk.out]; exact HBt.out.met.snoc hd.2.2 hd.1 hd.2.1, by rw [refV_snoc]; exact HO8.out, fun g e => ?_, by have := HBt.out.kv; omega⟩
          · have h1 := HBt.out.step.trans HSS3.out
            exact ⟨h1.keep.trans hk8 (fun i hi e => absurd hi (by have := (hapt _ e).2; omega)), h1.foot, h1.ib, h1.lb, h1.br, h1.pg, h1.X⟩
          · rcases HLoc.out g e with e2 | e2
            · exact ⟨hnf3 g e2, (hapt g e2).2⟩
            · exact ⟨fun e3 => by have := HS3.out.ahead.2.2.2 _ e3; omega, by omega⟩
        case measure => simp [intOf]; omega
      · obtain rfl : k = n := by omega
        have g2 : decide ((k : Int) < (k : Int)) = false := by simp
        clear hbt
        go_wp2
        go_ret2
        have hm := HBt.out.met
        have htk : ls.take k = ls := by rw [← HN.out, List.take_length]
        rw [htk] at hm
        refine ⟨_, l, ls, s', D', k, rfl, HPt.out, hm, by rw [hm.len, HN.out]; exact HBt.out.row, fun g e => (HBt.out.apart g e).1, HBt.out.st, hn38, (StStep.still (s := s) HB1.out).trans HBt.out.step, HBt.out.kv, HBt.out.le⟩
end Go.Proofs.YtaokjeokpifjgaaGreatDoor

namespace Go.Proofs.YtaokjeokpifjgaaGreatDoor
open Go.RowKit Go.MapKept
attribute [local go_sem] gives givesH
set_option maxRecDepth 100000

def zB : ByteArray := ⟨#[0]⟩
def ix0 (s : ByteArray) : Int := Lib.indexByte s.data.toList 0
def noZero (s : ByteArray) : Bool := decide (ix0 s < 0)
theorem ix_any (s : ByteArray) (w : World) : Calls Tryz.prog 136 #[.string s, .int .u8 0] w fun e w' => e = .returned (.int .i64 (ix0 s)) ∧ w = w' :=
  (Tryz.strings_IndexByte s 0 w).mono fun _ _ ⟨h1, h2⟩ => ⟨h1, h2.symm⟩
def itemOk (s : ByteArray) : Bool := !decide (s = ⟨#[]⟩) && (decide (s.size ≤ 40) && noZero s)
theorem item_any (s : ByteArray) (w : World) :
    Calls Tryz.prog 101 #[.string s] w fun e w' => e = .returned (.bool (itemOk s)) ∧ w = w' := by
  have HI := Hd (ix_any s)
  by_cases c1 : s = ⟨#[]⟩
  · subst c1
    have hr : itemOk ⟨#[]⟩ = false := by rfl
    rw [hr]
    go_enter Tryz.func101, Tryz.ntmps101
    go_wp2
    go_ret
    exact ⟨rfl, rfl⟩
  have e1 : s.toList.isEmpty = false := by rw [isEmpty_eq, decide_eq_false c1]
  by_cases c2 : s.size ≤ 40
  · have hr : itemOk s = decide (ix0 s < 0) := by unfold itemOk noZero; rw [decide_eq_false c1, decide_eq_true c2]; rfl
    rw [hr]
    have e2 : decide ((s.size : Int) ≤ 40) = true := by simp; omega
    have e2' : decide (s.size ≤ 40) = true := decide_eq_true c2
    generalize ix0 s = ix at *
    by_cases c3 : ix < 0
    · have e3 : decide (ix < 0) = true := decide_eq_true c3
      rw [e3]
      clear c1 hr
      go_enter Tryz.func101, Tryz.ntmps101
      go_wp2_with (go_at_call 136; refine (HI.out _).mono ?_; rintro e w1 ⟨rfl, rfl⟩)
      go_ret
      exact ⟨rfl, rfl⟩
    · have e3 : decide (ix < 0) = false := decide_eq_false c3
      rw [e3]
      clear c1 hr
      go_enter Tryz.func101, Tryz.ntmps101
      go_wp2_with (go_at_call 136; refine (HI.out _).mono ?_; rintro e w1 ⟨rfl, rfl⟩)
      go_ret
      exact ⟨rfl, rfl⟩
  · have hr : itemOk s = false := by unfold itemOk; rw [decide_eq_false c2]; simp
    rw [hr]
    have e2 : decide ((s.size : Int) ≤ 40) = false := by simp; omega
    have e2' : decide (s.size ≤ 40) = false := decide_eq_false c2
    clear c1 hr
    go_enter Tryz.func101, Tryz.ntmps101
    go_wp2
    go_ret
    exact ⟨rfl, rfl⟩
theorem part_any (s : ByteArray) (hs : s.size ≤ 1000000) (h0 : noZero s = true) (w : World) :
    Calls Tryz.prog 175 #[.string s] w fun e w' => e = .returned (.tuple #[.string (s ++ zB), .bool true]) ∧ w = w' := by
  have HI := Hd (ix_any s)
  have e0 : decide (ix0 s < 0) = true := h0
  have hcat := run_string_add_sum (P := Tryz.prog) w s zB (by show s.size + 1 ≤ _; omega)
  unfold zB at hcat
  have h1 : ¬ (0 ≤ ix0 s) := by have := of_decide_eq_true e0; omega
  generalize ix0 s = ix at *
  have e1 : decide (0 ≤ ix) = false := decide_eq_false h1
  clear h0 h1
  unfold zB
  go_enter Tryz.func175, Tryz.ntmps175
  go_wp2_with (go_at_call 136; refine (HI.out _).mono ?_; rintro e w1 ⟨rfl, rfl⟩)
  go_ret2
  exact ⟨rfl, rfl⟩
def fallsS (n : Nat) : ByteArray := ⟨(beW 8 (18446744073709551615 - n) 8).toArray⟩
theorem fallsS_size (n : Nat) : (fallsS n).size = 8 := by
  unfold fallsS
  show (List.toArray _).size = 8
  rw [List.size_toArray, beW_length]
theorem xor_max64 (n : Nat) (h : n < 18446744073709551616) : 18446744073709551615 ^^^ n = 18446744073709551615 - n := by
  have h2 : n < 2 ^ 64 := by omega
  apply Nat.eq_of_testBit_eq
  intro i
  have e2 : 18446744073709551615 - n = 2 ^ 64 - (n + 1) := by omega
  have e1 : (18446744073709551615 : Nat) = 2 ^ 64 - 1 := by decide
  rw [Nat.testBit_xor, e2, Nat.testBit_two_pow_sub_succ h2, e1, Nat.testBit_two_pow_sub_one]
  by_cases hi : i < 64
  · rw [decide_eq_true hi]; simp
  · rw [decide_eq_false hi, Nat.testBit_lt_two_pow (Nat.lt_of_lt_of_le h2 (Nat.pow_le_pow_right (by decide) (by omega)))]
    rfl
theorem not64 (n q : Nat) (h : n < 18446744073709551616) (hq : 18446744073709551615 - n = q) : bits .xor .u64 IntKind.u64.max (n : Int) = (q : Int) := by
  have h1 : IntKind.u64.max = ((18446744073709551615 : Nat) : Int) := by decide
  rw [h1, bits_xor_u64_nat _ _ (by decide) h, xor_max64 n h, hq]
theorem falls_any (n : Nat) (hn : n < 18446744073709551616) (w : World) :
    Calls Tryz.prog 178 #[.int .u64 n] w fun e w' => e = .returned (.string (fallsS n)) ∧ Below w.heap.size w w' := by
  obtain ⟨q, hq⟩ : ∃ q : Nat, 18446744073709551615 - n = q := ⟨_, rfl⟩
  have e1 := not64 n q hn hq
  have hfs : fallsS n = ⟨(beW 8 q 8).toArray⟩ := by unfold fallsS; rw [hq]
  have hib : IsB w.heap.size w.heap.size [] (w.alloc (.cells #[.pointer none, .slice none 0 0] 123)) := Lib.fresh_isBuilder _ _ w
  have HNu := Hd (show Calls Tryz.prog 153 #[.pointer (some ⟨w.heap.size, 0, none⟩), .int .u64 q, .int .i64 8] _ _ from number_any hib (by simp) (by decide) q 8 (by decide))
  rw [hfs]
  clear hfs hq hib
  go_enter Tryz.func178, Tryz.ntmps178
  go_wp2_with (fail)
  refine (HNu.out).mono ?_
  rintro e w1 ⟨rfl, hi1, hb1, ho1⟩
  have HSt := Hd (Tryz.Builder_String_any_k w.heap.size w.heap.size (beW 8 q 8) w1 (Lib.IsBuilderF.of hi1) (by have := hb1.size; simp at this; omega))
  have HB := Hd (show Below w.heap.size w w1 from ((Below.refl _ _).alloc (Nat.le_refl _) _).trans hb1)
  clear hi1 hb1 ho1
  go_wp2_with (go_at_call 57; refine (HSt.out).mono ?_; rintro e w5 ⟨rfl, -, hb5, -⟩
               have HB5 := Hd (HB.out.trans hb5)
               clear hb5)
  go_ret
  exact ⟨rfl, HB5.out⟩
theorem fell_any (s : ByteArray) (hs : s.size = 8) (w : World) :
    Calls Tryz.prog 186 #[.string s] w fun e w' => e = .returned (.tuple #[.int .u64 (18446744073709551615 - beN s.data.toList : Nat), .bool true]) ∧ Below w.heap.size w w' := by
  have HT := Hd (told_any8 s (by omega))
  have hlt : beN s.data.toList < 18446744073709551616 := by
    have h1 := beN_lt s.data.toList
    have h2 : s.data.toList.length = 8 := by rw [Array.length_toList]; exact hs
    rw [h2] at h1
    exact h1
  obtain ⟨n, hn⟩ : ∃ n, beN s.data.toList = n := ⟨_, rfl⟩
  rw [hn] at hlt HT ⊢
  obtain ⟨q, hq⟩ : ∃ q : Nat, 18446744073709551615 - n = q := ⟨_, rfl⟩
  have e1 := not64 n q hlt hq
  rw [hq]
  have e2 : ((s.size : Int) == 8) = true := by rw [hs]; rfl
  have e3 : (s.size : Int) = 8 := by rw [hs]; rfl
  clear hn hq hs
  go_enter Tryz.func186, Tryz.ntmps186
  go_wp2_with (go_at_call 152; refine (HT.out _).mono ?_; rintro e w1 ⟨rfl, hb1⟩)
  go_ret2
  exact ⟨rfl, hb1⟩
end Go.Proofs.YtaokjeokpifjgaaGreatDoor

namespace Go.Proofs.YtaokjeokpifjgaaGreatDoor
open Go.RowKit Go.MapKept
attribute [local go_sem] gives givesH
set_option maxRecDepth 100000

theorem ix_app (l r : List UInt8) (h : Lib.indexByte l 0 < 0) : Lib.indexByte (l ++ 0 :: r) 0 = l.length := by
  induction l with
  | nil => rfl
  | cons b l ih =>
    unfold Lib.indexByte at h ⊢
    have hg := Lib.indexByte_ge l 0
    show (if b == 0 then (0 : Int) else if Lib.indexByte (l ++ 0 :: r) 0 == -1 then -1 else Lib.indexByte (l ++ 0 :: r) 0 + 1) = _
    by_cases hb : (b == 0) = true
    · rw [if_pos hb] at h; omega
    · rw [if_neg hb] at h ⊢
      rw [List.length_cons]
      by_cases hl : (Lib.indexByte l 0 == -1) = true
      · have h1 : Lib.indexByte l 0 = -1 := by simpa using hl
        rw [ih (by omega), if_neg (by simp)]
        omega
      · rw [if_neg hl] at h
        omega
theorem ix0_app (p r : ByteArray) (h : noZero p = true) : ix0 (p ++ zB ++ r) = p.size := by
  unfold noZero ix0 at h
  have h1 := ix_app p.data.toList r.data.toList (of_decide_eq_true h)
  unfold ix0
  have e : (p ++ zB ++ r).data.toList = p.data.toList ++ 0 :: r.data.toList := by
    unfold zB
    simp
  rw [e, h1]
  simp
theorem part_take (p r : ByteArray) : (p ++ zB ++ r).extract 0 p.size = p ∧ (p ++ zB ++ r).extract (p.size + 1) (p ++ zB ++ r).size = r ∧ (p ++ zB ++ r).size = p.size + 1 + r.size := by
  have hz : (p ++ zB).size = p.size + 1 := by rw [ByteArray.size_append]; rfl
  have hs : (p ++ zB ++ r).size = p.size + 1 + r.size := by rw [ByteArray.size_append, hz]
  have hd : (p ++ zB ++ r).data.toList = p.data.toList ++ (0 :: r.data.toList) := by unfold zB; simp
  have hpl : p.data.toList.length = p.size := by simp
  refine ⟨?_, ?_, hs⟩
  · apply ByteArray.ext
    apply Array.toList_inj.1
    rw [ByteArray.data_extract, Array.toList_extract, List.extract_eq_take_drop, hd, List.drop_zero, Nat.sub_zero, ← hpl, List.take_left]
  · apply ByteArray.ext
    apply Array.toList_inj.1
    have h2 : (p ++ zB ++ r).size - (p.size + 1) = r.data.toList.length := by rw [hs]; simp
    rw [ByteArray.data_extract, Array.toList_extract, List.extract_eq_take_drop, hd, h2, ← hpl, List.drop_append, List.drop_eq_nil_of_le (by omega)]
    simp [List.take_of_length_le]
theorem slcut_any {s p r : ByteArray} {i : Nat} (hx : ix0 s = i) (h1 : s.extract 0 i = p) (h2 : s.extract (i + 1) s.size = r) (h3 : i + 1 ≤ s.size) (h4 : s.size ≤ 1000000) (w : World) :
    Calls Tryz.prog 285 #[.string s, .string ⟨#[0]⟩] w fun e w' => e = .returned (.tuple #[.string p, .string r, .bool true]) ∧ Below w.heap.size w w' := by
  have HI := Hd (show ∀ w : World, Calls Tryz.prog 188 #[.string s, .string ⟨#[0]⟩] w fun e w' => e = .returned (.int .i64 (ix0 s)) ∧ w' = w from Tryz.stringslite_Index_one s 0)
  rw [hx] at HI
  have e0 : decide ((0 : Int) ≤ (i : Int)) = true := by simp
  have e1 : IntKind.i64.wrap ((i : Int) + 1) = ((i + 1 : Nat) : Int) := by rw [IntKind.wrap_i64]; omega
  obtain ⟨sz, hsz⟩ : ∃ sz, s.size = sz := ⟨_, rfl⟩
  rw [hsz] at h2 h3 h4
  have g1 : (i : Int) ≤ (sz : Int) := by omega
  have g2 : (i : Int) + 1 ≤ (sz : Int) := by omega
  have g3 : (sz : Int) ≤ 1000000 := by omega
  clear hx
  go_enter Tryz.func285, Tryz.ntmps285
  go_wp2_with (go_at_call 188; refine (HI.out _).mono ?_; rintro e w1 ⟨rfl, rfl⟩)
  obtain ⟨S, hS⟩ : ∃ S : World → Prop, ∀ u, S u ↔ Keep (fun _ => False) (w1) u := ⟨fun u => Keep (fun _ => False) (w1) u, fun _ => Iff.rfl⟩
  have HS := Hd hS
  clear hS
  refine wp_region_whole 12 [(0, true), (1, true), (2, true), (3, true), (4, true), (5, true), (6, true), (7, true), (8, true), (9, true), (10, true), (11, true)] S (by kernel_rfl) (by kernel_rfl) ((HS.out _).2 (Keep.refl _ _).drew) ?_
  iterate 12
    first
      | (refine wpH_passed rfl (by rfl) (fun K hK => ?_); go_simp; refine hK _ ?_; clear hK K)
      | (first
           | refine wpH_read rfl rfl (fun K hK => ?_)
           | refine wpH_readw rfl (by rfl) (fun K hK => ?_)
         apply Exists.intro
         refine ⟨fun u hu => ?_, ?_⟩
         · have hu := (HS.out u).1 hu
           clear hu
           go_simp
           exact ⟨rfl, rfl⟩
         go_simp
         refine hK _ ?_
         clear hK K)
  refine wpH_nil ?_
  simp only [List.drop_succ_cons, List.drop_zero]
  clear S HS
  go_wp2
  go_ret3
  exact ⟨rfl, rfl, rfl, rfl, Nat.le_refl _, fun _ _ => rfl⟩
theorem strcut_any {s p r : ByteArray} {i : Nat} (hx : ix0 s = i) (h1 : s.extract 0 i = p) (h2 : s.extract (i + 1) s.size = r) (h3 : i + 1 ≤ s.size) (h4 : s.size ≤ 1000000) (w : World) :
    Calls Tryz.prog 264 #[.string s, .string ⟨#[0]⟩] w fun e w' => e = .returned (.tuple #[.string p, .string r, .bool true]) ∧ Below w.heap.size w w' := by
  have HI := Hd (slcut_any hx h1 h2 h3 h4)
  clear hx h1 h2 h3 h4
  go_enter Tryz.func264, Tryz.ntmps264
  go_wp2_with (go_at_call 285; refine (HI.out _).mono ?_; rintro e w1 ⟨rfl, hb⟩)
  go_ret3
  exact ⟨rfl, hb⟩
theorem cut_any {p r : ByteArray} (h0 : noZero p = true) (hs : p.size + r.size ≤ 900000) (w : World) :
    Calls Tryz.prog 230 #[.string (p ++ zB ++ r)] w fun e w' => e = .returned (.tuple #[.string p, .string r, .bool true]) ∧ Below w.heap.size w w' := by
  obtain ⟨h1, h2, h3⟩ := part_take p r
  have HI := Hd (strcut_any (ix0_app p r h0) h1 h2 (by omega) (by omega))
  generalize p ++ zB ++ r = s at *
  clear h1 h2 h3
  go_enter Tryz.func230, Tryz.ntmps230
  go_wp2_with (go_at_call 264; refine (HI.out _).mono ?_; rintro e w1 ⟨rfl, hb⟩)
  go_ret3
  exact ⟨rfl, hb⟩
end Go.Proofs.YtaokjeokpifjgaaGreatDoor

namespace Go.Proofs.YtaokjeokpifjgaaGreatDoor
open Go.RowKit Go.MapKept
attribute [local go_sem] gives givesH
set_option maxRecDepth 100000

def trimB (s cs : ByteArray) : ByteArray := ⟨(Lib.trimS s.data.toList cs.data.toList).toArray⟩
def dashB : ByteArray := ⟨#[45]⟩
def alphaB : ByteArray := ⟨#[97, 98, 99, 100, 101, 102, 103, 104, 105, 106, 107, 108, 109, 110, 111, 112, 113, 114, 115, 116, 117, 118, 119, 120, 121, 122, 48, 49, 50, 51, 52, 53, 54, 55, 56, 57, 45]⟩
theorem trim_any (s cs : ByteArray) (hs : s.size ≤ 1000000) (hcs : cs.size ≤ 1000) (ha : cs.data.toList.all (fun b => decide (b.toNat < 128)) = true) (w : World) :
    Calls Tryz.prog 141 #[.string s, .string cs] w fun e w' => e = .returned (.string (trimB s cs)) ∧ Below w.heap.size w w' :=
  (Any.strings_Trim_laid Tryz.lays160 (by kernel_rfl) s cs w (by omega) (by omega) (ascii_of_all ha)).mono fun _ _ ⟨h1, h2⟩ => ⟨h1, h2⟩
def bucketOk (s : ByteArray) : Bool := decide (3 ≤ s.size) && (decide (s.size ≤ 16) && (decide (trimB s dashB = s) && decide (trimB s alphaB = ⟨#[]⟩)))
theorem beq_str (a b : ByteArray) : (a.toList == b.toList) = decide (a = b) := by
  rw [Lib.toList_data, Lib.toList_data]
  by_cases h : a = b
  · subst h; simp
  · rw [decide_eq_false h]
    exact beq_false_of_ne (fun e => h (ByteArray.ext (Array.toList_inj.1 e)))
theorem bucket_any (s : ByteArray) (w : World) :
    Calls Tryz.prog 85 #[.string s] w fun e w' => e = .returned (.bool (bucketOk s)) ∧ Below w.heap.size w w' := by
  by_cases c1 : 3 ≤ s.size
  · have e1 : decide ((3 : Int) ≤ (s.size : Int)) = true := by simp; omega
    have e1' : decide (3 ≤ s.size) = true := decide_eq_true c1
    by_cases c2 : s.size ≤ 16
    · have e2 : decide ((s.size : Int) ≤ 16) = true := by simp; omega
      have e2' : decide (s.size ≤ 16) = true := decide_eq_true c2
      have HT1 := Hd (show ∀ w : World, Calls Tryz.prog 141 #[.string s, .string ⟨#[45]⟩] w fun e w' => e = .returned (.string (trimB s dashB)) ∧ Below w.heap.size w w' from trim_any s dashB (by omega) (by decide) rfl)
      have HT2 := Hd (show ∀ w : World, Calls Tryz.prog 141 #[.string s, .string ⟨#[97, 98, 99, 100, 101, 102, 103, 104, 105, 106, 107, 108, 109, 110, 111, 112, 113, 114, 115, 116, 117, 118, 119, 120, 121, 122, 48, 49, 50, 51, 52, 53, 54, 55, 56, 57, 45]⟩] w fun e w' => e = .returned (.string (trimB s alphaB)) ∧ Below w.heap.size w w' from trim_any s alphaB (by omega) (by decide) rfl)
      have hr : bucketOk s = (decide (trimB s dashB = s) && decide (trimB s alphaB = ⟨#[]⟩)) := by unfold bucketOk; rw [e1', e2']; rfl
      rw [hr]
      have q1 := beq_str (trimB s dashB) s
      have q2 := isEmpty_eq (trimB s alphaB)
      generalize trimB s dashB = t1 at *
      generalize trimB s alphaB = t2 at *
      clear hr c1 c2
      by_cases c3 : t1 = s
      · have f3 : decide (t1 = s) = true := decide_eq_true c3
        rw [f3] at q1 ⊢
        by_cases c4 : t2 = ⟨#[]⟩
        · have f4 : decide (t2 = ⟨#[]⟩) = true := decide_eq_true c4
          rw [f4] at q2 ⊢
          clear c3 c4 f3 f4
          go_enter Tryz.func85, Tryz.ntmps85
          go_wp2_with (first
            | (go_at_call 141; with_reducible refine (HT1.out _).mono ?_; rintro e w1 ⟨rfl, hb1⟩)
            | (go_at_call 141; with_reducible refine (HT2.out _).mono ?_; rintro e w2 ⟨rfl, hb2⟩))
          go_ret
          exact ⟨rfl, hb1.trans (hb2.mono hb1.size)⟩
        · have f4 : decide (t2 = ⟨#[]⟩) = false := decide_eq_false c4
          rw [f4] at q2 ⊢
          clear c3 c4 f3 f4
          go_enter Tryz.func85, Tryz.ntmps85
          go_wp2_with (first
            | (go_at_call 141; with_reducible refine (HT1.out _).mono ?_; rintro e w1 ⟨rfl, hb1⟩)
            | (go_at_call 141; with_reducible refine (HT2.out _).mono ?_; rintro e w2 ⟨rfl, hb2⟩))
          go_ret
          exact ⟨rfl, hb1.trans (hb2.mono hb1.size)⟩
      · have f3 : decide (t1 = s) = false := decide_eq_false c3
        rw [f3] at q1 ⊢
        clear c3 f3 q2
        go_enter Tryz.func85, Tryz.ntmps85
        go_wp2_with (go_at_call 141; with_reducible refine (HT1.out _).mono ?_; rintro e w1 ⟨rfl, hb1⟩)
        go_ret
        exact ⟨rfl, hb1⟩
    · have hr : bucketOk s = false := by unfold bucketOk; rw [decide_eq_false c2]; simp
      rw [hr]
      have e2 : decide ((s.size : Int) ≤ 16) = false := by simp; omega
      have e2' : decide (s.size ≤ 16) = false := decide_eq_false c2
      clear c1 c2 hr
      go_enter Tryz.func85, Tryz.ntmps85
      go_wp2
      go_ret
      exact ⟨rfl, Below.refl _ _⟩
  · have hr : bucketOk s = false := by unfold bucketOk; rw [decide_eq_false c1]; simp
    rw [hr]
    have e1 : decide ((3 : Int) ≤ (s.size : Int)) = false := by simp; omega
    have e1' : decide (3 ≤ s.size) = false := decide_eq_false c1
    clear c1 hr
    go_enter Tryz.func85, Tryz.ntmps85
    go_wp2
    go_ret
    exact ⟨rfl, Below.refl _ _⟩
def underL (k : UInt8) (ps : List ByteArray) : List UInt8 := k :: ps.flatMap (fun p => p.data.toList ++ [0])
def underS (k : UInt8) (ps : List ByteArray) : ByteArray := ⟨(underL k ps).toArray⟩
theorem underL_snoc (k : UInt8) (ps : List ByteArray) (p : ByteArray) : underL k (ps ++ [p]) = underL k ps ++ (p ++ zB).data.toList := by
  unfold underL zB
  rw [List.flatMap_append]
  simp
theorem underL_le (k : UInt8) (ps : List ByteArray) (h : ∀ p ∈ ps, p.size ≤ 1000) : (underL k ps).length ≤ 1 + 1001 * ps.length := by
  induction ps with
  | nil => exact Nat.le_refl _
  | cons a t ih =>
    have h1 := ih (fun p hp => h p (by simp [hp]))
    have h2 := h a (by simp)
    unfold underL at h1 ⊢
    rw [List.flatMap_cons]
    simp only [List.length_cons, List.length_append, List.length_nil] at h1 ⊢
    have h3 : a.data.toList.length = a.size := by simp
    omega
set_option maxHeartbeats 1000000 in
theorem under_any {w : World} {b c : Nat} {ps : List ByteArray} {n : Nat} (hn : ps.length = n) (hc : ∀ j (h : j < ps.length), w.cell? ⟨b, j, none⟩ = some (.string ps[j])) (hb : b < w.heap.size) (hz : ∀ p ∈ ps, noZero p = true ∧ p.size ≤ 1000) (hl : n ≤ 10) (k : UInt8) :
    Calls Tryz.prog 107 #[.int .u8 k.toNat, .slice (some ⟨b, 0, none⟩) n c] w fun e w' => e = .returned (.string (underS k ps)) ∧ Below w.heap.size w w' := by
  have hib : IsB w.heap.size w.heap.size [] (w.alloc (.cells #[.pointer none, .slice none 0 0] 123)) := Lib.fresh_isBuilder _ _ w
  have hb0 : Below w.heap.size w (w.alloc (.cells #[.pointer none, .slice none 0 0] 123)) := (Below.refl _ _).alloc (Nat.le_refl _) _
  have HWb := Hd (writeByte_any hib hb0.size (by decide) (k.toNat : Int))
  have HC := Hd hc
  have HZ := Hd hz
  have HN := Hd hn
  have HB0 := Hd hb0
  have HBl := Hd hb
  clear hc hz hn hib hb0 hb
  obtain ⟨kk, hkk⟩ : ∃ kk : Nat, k.toNat = kk := ⟨_, rfl⟩
  have HKk := Hd (show Value.int .u8 (kk : Int) :: [] = Lib.byteCells (underL k []) by rw [← hkk]; rfl)
  rw [hkk] at HWb ⊢
  clear hkk
  go_enter Tryz.func107, Tryz.ntmps107
  go_wp2_with (fail)
  refine (HWb.out).mono ?_
  rintro e w1 ⟨rfl, hi1, hb1, ho1⟩
  rw [List.nil_append, HKk.out] at hi1
  have HI1 := Hd hi1
  have HB1 := Hd (HB0.out.trans hb1)
  clear hi1 hb1 ho1
  obtain ⟨bb, hbb⟩ : ∃ bb, w.heap.size = bb := ⟨_, rfl⟩
  rw [hbb] at HI1 HB1 HBl
  have HBb := Hd hbb
  rw [hbb]
  clear hbb HWb HB0
  go_wp2_with (fail)
  go_loopw [7, 8, 9, 14] (fun _ _ _ i wr => ∃ j : Nat, j ≤ n ∧ i = .int .i64 j ∧ IsB bb bb (Lib.byteCells (underL k (ps.take j))) wr ∧ Below bb w wr) (fun _ _ _ i _ => n - (intOf i).toNat)
  case atStart => exact ⟨0, by omega, rfl, by rw [List.take_zero]; exact HI1.out, HB1.out⟩
  case round =>
    obtain ⟨j, hj, rfl, hib, hbel⟩ := hrel
    have HI := Hd hib
    have HB := Hd hbel
    clear hib hbel
    by_cases hlt : j < n
    · have g1 : decide ((j : Int) < (n : Int)) = true := by simp; omega
      have g1' : decide (j < n) = true := by simpa using hlt
      have hjl : j < ps.length := by rw [HN.out]; exact hlt
      have hx := HC.out j hjl
      obtain ⟨hz0, hz1⟩ := HZ.out ps[j] (List.getElem_mem hjl)
      have htk : ps.take (j + 1) = ps.take j ++ [ps[j]] := List.take_succ_eq_append_getElem hjl
      have hle := underL_le k (ps.take j) (fun p hp => (HZ.out p (List.mem_of_mem_take hp)).2)
      rw [List.length_take] at hle
      obtain ⟨p, hp⟩ : ∃ p, ps[j] = p := ⟨_, rfl⟩
      rw [hp] at hx hz0 hz1 htk
      have q0 : wr.cell? ⟨b, j, none⟩ = some (.string p) := by rw [HB.out.cell (p := ⟨b, j, none⟩) HBl.out]; exact hx
      have HTk := Hd htk
      have HP := Hd (part_any p (by omega) hz0)
      have hps : (p ++ zB).size ≤ 1001 := by rw [ByteArray.size_append]; show p.size + 1 ≤ 1001; omega
      have HWs := Hd (writeString_any HI.out (by rw [← HBb.out]; have h := HB.out.size; omega) (p ++ zB) (by rw [byteCells_length]; omega))
      have g3 : (j : Int) < (n : Int) := by omega
      obtain ⟨pz, hpz⟩ : ∃ pz, p ++ zB = pz := ⟨_, rfl⟩
      rw [hpz] at HP HWs
      have HPz := Hd hpz
      clear hx hz0 hz1 htk hle hp hps hpz
      go_wp2_with (first
        | (go_at_call 175; refine (HP.out _).mono ?_; rintro e w2 ⟨rfl, rfl⟩)
        | (go_at_call 56; refine (HWs.out).mono ?_; rintro e w3 ⟨rfl, hi3, hb3, -⟩
           have HI3 := Hd hi3
           have HB3 := Hd (HB.out.trans hb3)
           clear hi3 hb3))
      go_roundw
      case rel =>
        refine ⟨j + 1, by omega, by go_num, ?_, HB3.out⟩
        rw [HTk.out, underL_snoc, byteCells_append, HPz.out]
        have := HI3.out
        rw [strCells_eq] at this
        exact this
      case measure => simp [intOf]; omega
    · obtain rfl : j = n := by omega
      have ht : ps.take j = ps := by rw [← HN.out, List.take_length]
      rw [ht] at HI
      have HSt := Hd (Tryz.Builder_String_any_k bb bb (underL k ps) wr (Lib.IsBuilderF.of HI.out) (by have := HB.out.size; have := HBb.out; omega))
      clear ht
      go_wp2_with (go_at_call 57; refine (HSt.out).mono ?_; rintro e w5 ⟨rfl, -, hb5, -⟩
                   have HB5 := Hd (HB.out.trans hb5)
                   clear hb5)
      go_ret
      exact ⟨rfl, by rw [HBb.out]; exact HB5.out⟩
end Go.Proofs.YtaokjeokpifjgaaGreatDoor

namespace Go.Proofs.YtaokjeokpifjgaaGreatDoor
open Go.RowKit Go.MapKept
attribute [local go_sem] gives givesH
set_option maxRecDepth 100000

theorem dropWhile_all {α : Type} (p : α → Bool) : ∀ l : List α, l.dropWhile p = [] → ∀ x ∈ l, p x = true
  | [], _, x, h => by cases h
  | a :: l, h, x, hx => by
    by_cases hp : p a = true
    · rw [List.dropWhile_cons_of_pos hp] at h
      rcases List.mem_cons.1 hx with e | e
      · rw [e]; exact hp
      · exact dropWhile_all p l h x e
    · rw [List.dropWhile_cons_of_neg hp] at h
      cases h
theorem trim_all {l cs : List UInt8} (h : Lib.trimS l cs = []) : ∀ x ∈ l, cs.contains x = true := by
  have h1 : ∀ x ∈ Lib.trimRightS l cs, cs.contains x = true := dropWhile_all _ _ h
  have h2 : l.reverse.dropWhile (cs.contains ·) = [] := by
    cases hc : l.reverse.dropWhile (cs.contains ·) with
    | nil => rfl
    | cons a t =>
      have h3 := List.head?_dropWhile_not (cs.contains ·) l.reverse
      rw [hc] at h3
      have h4 := h1 a (by unfold Lib.trimRightS; rw [hc]; simp)
      simp only [List.head?_cons] at h3
      rw [h4] at h3
      exact absurd h3 (by simp)
  intro x hx
  exact dropWhile_all _ _ h2 x (List.mem_reverse.2 hx)
theorem ix_none {l : List UInt8} (h : ∀ x ∈ l, x ≠ 0) : Lib.indexByte l 0 < 0 := by
  induction l with
  | nil => decide
  | cons b l ih =>
    unfold Lib.indexByte
    have h1 := ih (fun x hx => h x (by simp [hx]))
    have h2 := Lib.indexByte_ge l 0
    have h3 : Lib.indexByte l 0 = -1 := by omega
    rw [if_neg (by simpa using h b (by simp)), h3]
    decide
theorem bucketOk_zero {s : ByteArray} (h : bucketOk s = true) : noZero s = true ∧ s.size ≤ 16 := by
  unfold bucketOk at h
  simp only [Bool.and_eq_true, decide_eq_true_eq] at h
  obtain ⟨_, h2, _, h4⟩ := h
  refine ⟨decide_eq_true ?_, h2⟩
  have h5 : Lib.trimS s.data.toList alphaB.data.toList = [] := by
    have := congrArg (fun b : ByteArray => b.data.toList) h4
    simpa [trimB] using this
  unfold ix0
  exact ix_none (fun x hx e => by
    have h6 := trim_all h5 x hx
    rw [e] at h6
    exact absurd h6 (by decide))
theorem itemOk_zero {s : ByteArray} (h : itemOk s = true) : noZero s = true ∧ s.size ≤ 40 := by
  unfold itemOk at h
  simp only [Bool.and_eq_true, decide_eq_true_eq] at h
  exact ⟨h.2.2, h.2.1⟩

def bucketKey (s : ByteArray) : ByteArray := underS 98 [s]
theorem underS_size (k : UInt8) (ps : List ByteArray) : (underS k ps).size = (underL k ps).length := by
  unfold underS; show (List.toArray _).size = _; rw [List.size_toArray]
theorem bucketKey_size (s : ByteArray) : (bucketKey s).size = s.size + 2 := by
  unfold bucketKey
  rw [underS_size]
  unfold underL
  simp
theorem bucketKey_any (s : ByteArray) (h : bucketOk s = true) (w : World) :
    Calls Tryz.prog 88 #[.string s] w fun e w' => e = .returned (.string (bucketKey s)) ∧ Below w.heap.size w w' := by
  obtain ⟨h0, h1⟩ := bucketOk_zero h
  have HB := Hd (bucket_any s)
  rw [h] at HB
  have HU := Hd (fun (u : World) => show Calls Tryz.prog 107 #[.int .u8 98, .slice (some ⟨u.heap.size, 0, none⟩) 1 1] (u.alloc (.cells #[.string s] 9)) fun e w' => e = .returned (.string (underS 98 [s])) ∧ Below (u.alloc (.cells #[.string s] 9)).heap.size (u.alloc (.cells #[.string s] 9)) w' from
    under_any (w := u.alloc (.cells #[.string s] 9)) (b := u.heap.size) (c := 1) (ps := [s]) (n := 1) rfl (fun j hj => by
      have : j = 0 := by simpa using hj
      subst this
      exact Lib.cell_of_heap (heap_alloc_new u _) 0) (by simp) (fun p hp => by rw [List.mem_singleton.1 hp]; exact ⟨h0, by omega⟩) (by omega) 98)
  unfold bucketKey
  generalize underS 98 [s] = k at *
  clear h h0 h1
  go_enter Tryz.func88, Tryz.ntmps88
  go_wp2_with (first
    | (go_at_call 85; refine (HB.out _).mono ?_; rintro e w1 ⟨rfl, hb1⟩)
    | (go_at_call 107; refine (HU.out _).mono ?_; rintro e w2 ⟨rfl, hb2⟩))
  go_ret
  exact ⟨rfl, hb1.trans ((((Below.refl _ _).alloc (Nat.le_refl _) _).trans (hb2.mono (by simp))).mono hb1.size)⟩
theorem up_any {w : World} {br : Nat} {R : RoomS} (h : RoomAt w br R) :
    Calls Tryz.prog 84 #[.pointer (some ⟨br, 0, none⟩)] w fun e w' => e = .returned (.int .i64 0) ∧ Below w.heap.size w w' := by
  have HU := Hd (used_any h)
  clear h
  go_enter Tryz.func84, Tryz.ntmps84
  go_wp2_with (go_at_call 49; refine (HU.out).mono ?_; rintro e w1 ⟨rfl, hb1⟩)
  go_ret
  exact ⟨rfl, hb1⟩
theorem bmeta_any (br : Nat) (w : World) :
    Calls Tryz.prog 86 #[.pointer (some ⟨br, 0, none⟩)] w fun e w' => e = .returned (.pointer (some ⟨w.heap.size, 0, none⟩)) ∧ w' = w.alloc (.cells #[.pointer (some ⟨br, 0, none⟩), .int .i64 4] 242) := by
  have HT := Hd (show ∀ u : World, Calls Tryz.prog 83 #[.pointer (some ⟨br, 0, none⟩), .int .i64 4] u fun e w' => e = .returned (.pointer (some ⟨u.heap.size, 0, none⟩)) ∧ u.alloc (.cells #[.pointer (some ⟨br, 0, none⟩), .int .i64 4] 242) = w' from fun u => (treeAt_any br 4 u).mono fun e w' ⟨a, b⟩ => ⟨a, b.symm⟩)
  go_enter Tryz.func86, Tryz.ntmps86
  go_wp2_with (go_at_call 83; refine (HT.out _).mono ?_; rintro e w1 ⟨rfl, rfl⟩)
  go_ret
  exact ⟨rfl, rfl⟩
def bktK : ByteArray := ⟨#[98, 110, 98, 110, 116]⟩
def bucketT (st born : Nat) : ByteArray := packed bktK [(st, eS), (born, eS), (0, eS), (0, eS), (0, eS)]
theorem fields_bkt {st born : Nat} (h1 : st < 256) (h2 : born < 18446744073709551616) : Fields bktK [(st, eS), (born, eS), (0, eS), (0, eS), (0, eS)] := by
  refine ⟨rfl, by show 5 ≤ 64; decide, fun i hi => ?_, fun i hi => ?_⟩
  · match i, hi with
    | 0, _ => exact .inl ⟨by decide, rfl, h1⟩
    | 1, _ => exact .inl ⟨by decide, rfl, h2⟩
    | 2, _ => exact .inl ⟨by decide, rfl, by show (0 : Nat) < 256; decide⟩
    | 3, _ => exact .inl ⟨by decide, rfl, by show (0 : Nat) < 18446744073709551616; decide⟩
    | 4, _ => exact .inr (.inl ⟨⟨by decide, by show (0 : Nat) ≤ 65535; decide⟩, rfl⟩)
  · match i, hi with
    | 0, _ => intro e; exact absurd e (by decide)
    | 1, _ => intro e; exact absurd e (by decide)
    | 2, _ => intro e; exact absurd e (by decide)
    | 3, _ => intro e; exact absurd e (by decide)
    | 4, _ => intro e; exact absurd e (by decide)
theorem right_bkt (w : World) : Calls Tryz.prog 150 #[.string bktK] w fun e w' => e = .returned (.bool true) ∧ Below w.heap.size w w' := right_any bktK bktK (by decide) (by decide) (by decide) (by decide) w
theorem bucketT_size (st born : Nat) : (bucketT st born).size = 20 := by
  show (packN bktK _ 5).toArray.size = 20
  rw [List.size_toArray, packN_succ, packN_succ, packN_succ, packN_succ, packN_succ, packN_zero, List.nil_append, List.length_append, List.length_append, List.length_append, List.length_append]
  show (beW 1 st 1).length + (beW 8 born 8).length + (beW 1 0 1).length + (beW 8 0 8).length + (beW 2 0 2 ++ []).length = 20
  rw [List.append_nil, beW_length, beW_length, beW_length, beW_length, beW_length]
def bkC (name : ByteArray) (st born : Nat) : Array Value := #[.string name, .int .i64 st, .int .u64 born, .bool false, .string ⟨#[]⟩, .int .u64 0]
def bkZ : Array Value := #[.string ⟨#[]⟩, .int .i64 0, .int .u64 0, .bool false, .string ⟨#[]⟩, .int .u64 0]
theorem box6 {w : World} {b T : Nat} {c0 c1 c2 c3 c4 c5 : Value} (h : w.heap[b]? = some (.cells #[c0, c1, c2, c3, c4, c5] T (0, 0))) :
    (w.cell? ⟨b, 0, none⟩ = some c0 ∧ w.cell? ⟨b, 1, none⟩ = some c1 ∧ w.cell? ⟨b, 2, none⟩ = some c2 ∧ w.cell? ⟨b, 3, none⟩ = some c3 ∧ w.cell? ⟨b, 4, none⟩ = some c4 ∧ w.cell? ⟨b, 5, none⟩ = some c5) ∧
    (w.frozen? ⟨b, 0, none⟩ = false ∧ w.frozen? ⟨b, 1, none⟩ = false ∧ w.frozen? ⟨b, 2, none⟩ = false ∧ w.frozen? ⟨b, 3, none⟩ = false ∧ w.frozen? ⟨b, 4, none⟩ = false ∧ w.frozen? ⟨b, 5, none⟩ = false) :=
  ⟨⟨Lib.cell_of_heap h 0, Lib.cell_of_heap h 1, Lib.cell_of_heap h 2, Lib.cell_of_heap h 3, Lib.cell_of_heap h 4, Lib.cell_of_heap h 5⟩,
   by simp [World.frozen?, h], by simp [World.frozen?, h], by simp [World.frozen?, h], by simp [World.frozen?, h], by simp [World.frozen?, h], by simp [World.frozen?, h]⟩
def set6 (w : World) (b : Nat) (c0 c1 c2 c3 c4 c5 : Value) : World := (((((w.setCell ⟨b, 0, none⟩ c0).setCell ⟨b, 1, none⟩ c1).setCell ⟨b, 2, none⟩ c2).setCell ⟨b, 3, none⟩ c3).setCell ⟨b, 4, none⟩ c4).setCell ⟨b, 5, none⟩ c5
theorem set6_heap {w : World} {b T : Nat} {a0 a1 a2 a3 a4 a5 : Value} (h : w.heap[b]? = some (.cells #[a0, a1, a2, a3, a4, a5] T (0, 0))) (c0 c1 c2 c3 c4 c5 : Value) : (set6 w b c0 c1 c2 c3 c4 c5).heap[b]? = some (.cells #[c0, c1, c2, c3, c4, c5] T (0, 0)) :=
  heap_setCell_same _ b 5 _ _ c5 (heap_setCell_same _ b 4 _ _ c4 (heap_setCell_same _ b 3 _ _ c3 (heap_setCell_same _ b 2 _ _ c2 (heap_setCell_same _ b 1 _ _ c1 (heap_setCell_same _ b 0 _ _ c0 h)))))
theorem set6_below {w0 w : World} {b B : Nat} (h : Below B w0 w) (hb : B ≤ b) (c0 c1 c2 c3 c4 c5 : Value) : Below B w0 (set6 w b c0 c1 c2 c3 c4 c5) :=
  (((((h.setCell (p := ⟨b, 0, none⟩) hb _).setCell (p := ⟨b, 1, none⟩) hb _).setCell (p := ⟨b, 2, none⟩) hb _).setCell (p := ⟨b, 3, none⟩) hb _).setCell (p := ⟨b, 4, none⟩) hb _).setCell (p := ⟨b, 5, none⟩) hb _
section
variable {w : World} {br : Nat} {R : RoomS} {kv : KV} {ps : List Nat} {name : ByteArray}
set_option maxHeartbeats 1000000 in
theorem bfind_bad (hr : RoomAt w br R) (hn : bucketOk name = false) :
    Calls Tryz.prog 32 #[.pointer (some ⟨br, 0, none⟩), .string name] w fun e w' => e = .returned (.tuple #[.agg bkZ, .int .i64 28]) ∧ Below w.heap.size w w' := by
  unfold bkZ
  have hb0 : Below w.heap.size w (w.alloc (.cells #[.string ⟨#[]⟩, .int .i64 0, .int .u64 0, .bool false, .string ⟨#[]⟩, .int .u64 0] 89)) := (Below.refl _ _).alloc (Nat.le_refl _) _
  have hx0 := heap_alloc_new w (.cells #[.string ⟨#[]⟩, .int .i64 0, .int .u64 0, .bool false, .string ⟨#[]⟩, .int .u64 0] 89)
  have HU := Hd (up_any (hr.still hb0))
  have HB := Hd (bucket_any name)
  rw [hn] at HB
  have HB0 := Hd hb0
  have HX0 := Hd hx0
  clear hr hn hb0 hx0
  go_enter Tryz.func32, Tryz.ntmps32
  go_wp2_with (first
    | (go_at_call 84; refine (HU.out).mono ?_; rintro e w1 ⟨rfl, hb1⟩
       have HX1 := Hd ((hb1.block w.heap.size (by simp)).trans HX0.out)
       have HB1 := Hd (HB0.out.trans (hb1.mono HB0.out.size))
       clear hb1)
    | (go_at_call 85; refine (HB.out _).mono ?_; rintro e w2 ⟨rfl, hb2⟩
       have hx2 := (hb2.block w.heap.size (Gl HX1.out)).trans HX1.out
       obtain ⟨⟨d0, d1, d2, d3, d4, d5⟩, y0, y1, y2, y3, y4, y5⟩ := box6 hx2
       have HX2 := Hd hx2
       have HB2 := Hd (HB1.out.trans (hb2.mono HB1.out.size))
       clear hb2 hx2))
  refine bodyPost_ret (results_box2 rfl _ _ w.heap.size _ _ _ _ rfl (set6_heap HX2.out _ _ _ _ _ _) Tryz.underlying89 rfl (by kernel_rfl)) rfl ?_
  exact ⟨rfl, set6_below HB2.out (Nat.le_refl _) _ _ _ _ _ _⟩
set_option maxHeartbeats 1000000 in
theorem bfind_none (hr : RoomAt w br R) (h16 : R.pages ≤ 65536) (hT : TreeIs R 4 kv ps) (hkv : kv.length ≤ 2000) (hn : bucketOk name = true) (hk : look kv (bucketKey name) = none) :
    Calls Tryz.prog 32 #[.pointer (some ⟨br, 0, none⟩), .string name] w fun e w' => e = .returned (.tuple #[.agg bkZ, .int .i64 20]) ∧ Below w.heap.size w w' := by
  unfold bkZ
  have hb0 : Below w.heap.size w (w.alloc (.cells #[.string ⟨#[]⟩, .int .i64 0, .int .u64 0, .bool false, .string ⟨#[]⟩, .int .u64 0] 89)) := (Below.refl _ _).alloc (Nat.le_refl _) _
  have hx0 := heap_alloc_new w (.cells #[.string ⟨#[]⟩, .int .i64 0, .int .u64 0, .bool false, .string ⟨#[]⟩, .int .u64 0] 89)
  have HU := Hd (up_any (hr.still hb0))
  have HB := Hd (bucket_any name)
  have HK := Hd (bucketKey_any name hn)
  have HM := Hd (bmeta_any br)
  have HG := Hd (fun (u : World) tb (hu : Below w.heap.size w u) (ht : TreeAt u tb br 4) => tget_is (key := bucketKey name) ht (hr.still hu) (by decide) hT h16 hkv)
  rw [hn] at HB
  rw [hk] at HG
  have HB0 := Hd hb0
  have HX0 := Hd hx0
  clear hr hn hb0 hx0 hk hT h16 hkv
  generalize bucketKey name = bk at *
  go_enter Tryz.func32, Tryz.ntmps32
  go_wp2_with (first
    | (go_at_call 84; refine (HU.out).mono ?_; rintro e w1 ⟨rfl, hb1⟩
       have HX1 := Hd ((hb1.block w.heap.size (by simp)).trans HX0.out)
       have HB1 := Hd (HB0.out.trans (hb1.mono HB0.out.size))
       clear hb1)
    | (go_at_call 85; refine (HB.out _).mono ?_; rintro e w2 ⟨rfl, hb2⟩
       have HX2 := Hd ((hb2.block w.heap.size (Gl HX1.out)).trans HX1.out)
       have HB2 := Hd (HB1.out.trans (hb2.mono HB1.out.size))
       clear hb2)
    | (go_at_call 86; refine (HM.out _).mono ?_; rintro e w3 ⟨rfl, hw3⟩
       have hb3 : Below w2.heap.size w2 w3 := by rw [hw3]; exact (Below.refl _ _).alloc (Nat.le_refl _) _
       have HT3 := Hd (show w3.heap[w2.heap.size]? = some (.cells #[.pointer (some ⟨br, 0, none⟩), .int .i64 4] 242 (0, 0)) by rw [hw3]; exact heap_alloc_new w2 _)
       have HX3 := Hd ((hb3.block w.heap.size (Gl HX2.out)).trans HX2.out)
       have HB3 := Hd (HB2.out.trans (hb3.mono HB2.out.size))
       clear hb3 hw3)
    | (go_at_call 88; refine (HK.out _).mono ?_; rintro e w4 ⟨rfl, hb4⟩
       have HX4 := Hd ((hb4.block w.heap.size (Gl HX3.out)).trans HX3.out)
       have HB4 := Hd (HB3.out.trans (hb4.mono HB3.out.size))
       have HT4 := Hd ((hb4.block w2.heap.size (Gl HT3.out)).trans HT3.out)
       clear hb4)
    | (go_at_call 87; refine (HG.out _ _ HB4.out ⟨HT4.out⟩).mono ?_; rintro e w5 ⟨rfl, hb5⟩
       have hx5 := (hb5.block w.heap.size (Gl HX4.out)).trans HX4.out
       obtain ⟨⟨d0, d1, d2, d3, d4, d5⟩, y0, y1, y2, y3, y4, y5⟩ := box6 hx5
       have HX5 := Hd hx5
       have HB5 := Hd (HB4.out.trans (hb5.mono HB4.out.size))
       clear hb5 hx5))
  refine bodyPost_ret (results_box2 rfl _ _ w.heap.size _ _ _ _ rfl (set6_heap HX5.out _ _ _ _ _ _) Tryz.underlying89 rfl (by kernel_rfl)) rfl ?_
  exact ⟨rfl, set6_below HB5.out (Nat.le_refl _) _ _ _ _ _ _⟩
set_option maxHeartbeats 2000000 in
theorem bfind_some {st born : Nat} (hr : RoomAt w br R) (h16 : R.pages ≤ 65536) (hT : TreeIs R 4 kv ps) (hkv : kv.length ≤ 2000) (hn : bucketOk name = true) (hk : look kv (bucketKey name) = some (bucketT st born)) (h1 : st < 256) (h2 : born < 18446744073709551616) :
    Calls Tryz.prog 32 #[.pointer (some ⟨br, 0, none⟩), .string name] w fun e w' => e = .returned (.tuple #[.agg (bkC name st born), .int .i64 0]) ∧ Below w.heap.size w w' := by
  unfold bkC
  have hb0 : Below w.heap.size w (w.alloc (.cells #[.string ⟨#[]⟩, .int .i64 0, .int .u64 0, .bool false, .string ⟨#[]⟩, .int .u64 0] 89)) := (Below.refl _ _).alloc (Nat.le_refl _) _
  have hx0 := heap_alloc_new w (.cells #[.string ⟨#[]⟩, .int .i64 0, .int .u64 0, .bool false, .string ⟨#[]⟩, .int .u64 0] 89)
  have HU := Hd (up_any (hr.still hb0))
  have HB := Hd (bucket_any name)
  have HK := Hd (bucketKey_any name hn)
  have HM := Hd (bmeta_any br)
  have HG := Hd (fun (u : World) tb (hu : Below w.heap.size w u) (ht : TreeAt u tb br 4) => tget_is (key := bucketKey name) ht (hr.still hu) (by decide) hT h16 hkv)
  have HRd := Hd (fun u => pread_any (fields_bkt h1 h2) right_bkt u)
  have hv : packed bktK [(st, eS), (born, eS), (0, eS), (0, eS), (0, eS)] = bucketT st born := rfl
  rw [hv] at HRd
  rw [hn] at HB
  rw [hk] at HG
  have HB0 := Hd hb0
  have HX0 := Hd hx0
  clear hr hn hb0 hx0 hk hT h16 hkv hv
  generalize bucketKey name = bk at *
  generalize bucketT st born = bt at *
  go_enter Tryz.func32, Tryz.ntmps32
  go_wp2_with (first
    | (go_at_call 84; refine (HU.out).mono ?_; rintro e w1 ⟨rfl, hb1⟩
       have HX1 := Hd ((hb1.block w.heap.size (by simp)).trans HX0.out)
       have HB1 := Hd (HB0.out.trans (hb1.mono HB0.out.size))
       clear hb1)
    | (go_at_call 85; refine (HB.out _).mono ?_; rintro e w2 ⟨rfl, hb2⟩
       have HX2 := Hd ((hb2.block w.heap.size (Gl HX1.out)).trans HX1.out)
       have HB2 := Hd (HB1.out.trans (hb2.mono HB1.out.size))
       clear hb2)
    | (go_at_call 86; refine (HM.out _).mono ?_; rintro e w3 ⟨rfl, hw3⟩
       have hb3 : Below w2.heap.size w2 w3 := by rw [hw3]; exact (Below.refl _ _).alloc (Nat.le_refl _) _
       have HT3 := Hd (show w3.heap[w2.heap.size]? = some (.cells #[.pointer (some ⟨br, 0, none⟩), .int .i64 4] 242 (0, 0)) by rw [hw3]; exact heap_alloc_new w2 _)
       have HX3 := Hd ((hb3.block w.heap.size (Gl HX2.out)).trans HX2.out)
       have HB3 := Hd (HB2.out.trans (hb3.mono HB2.out.size))
       clear hb3 hw3)
    | (go_at_call 88; refine (HK.out _).mono ?_; rintro e w4 ⟨rfl, hb4⟩
       have HX4 := Hd ((hb4.block w.heap.size (Gl HX3.out)).trans HX3.out)
       have HB4 := Hd (HB3.out.trans (hb4.mono HB3.out.size))
       have HT4 := Hd ((hb4.block w2.heap.size (Gl HT3.out)).trans HT3.out)
       clear hb4)
    | (go_at_call 87; refine (HG.out _ _ HB4.out ⟨HT4.out⟩).mono ?_; rintro e w5 ⟨rfl, hb5⟩
       have HX5 := Hd ((hb5.block w.heap.size (Gl HX4.out)).trans HX4.out)
       have HB5 := Hd (HB4.out.trans (hb5.mono HB4.out.size))
       clear hb5)
    | (go_at_call 89; refine (HRd.out _).mono ?_; rintro e w6 ⟨v, rfl, hrow, hb6⟩
       obtain ⟨g, c, rfl, hc1, hc2, hgB⟩ := row_posB hrow (by show 0 < 5; decide)
       have HRow := Hd hrow
       have HX6 := Hd ((hb6.block w.heap.size (Gl HX5.out)).trans HX5.out)
       have HB6 := Hd (HB5.out.trans (hb6.mono HB5.out.size))
       clear hrow hb6))
  have HGl := Hd (show g < w6.heap.size from (HRow.out.lt g rfl).2)
  have HC := Hd (show w6.cell? ⟨g, 0, none⟩ = some (.int .u64 st) ∧ w6.cell? ⟨g, 2, none⟩ = some (.int .u64 born) ∧ w6.cell? ⟨g, 4, none⟩ = some (.int .u64 0) ∧ w6.cell? ⟨g, 6, none⟩ = some (.int .u64 0) ∧ w6.cell? ⟨g, 9, none⟩ = some (.string ⟨#[]⟩) from
    ⟨row_cells HRow.out 0 _ rfl, row_cells HRow.out 2 _ rfl, row_cells HRow.out 4 _ rfl, row_cells HRow.out 6 _ rfl, row_cells HRow.out 9 _ rfl⟩)
  have p1 : IntKind.i64.wrap (st : Int) = (st : Int) := wrapI (by omega) (by omega)
  obtain ⟨wb, hwb⟩ : ∃ wb, w.heap.size = wb := ⟨_, rfl⟩
  rw [hwb] at HX6
  have HWb := Hd hwb
  rw [hwb]
  clear hwb
  obtain ⟨S, hS⟩ : ∃ S : World → Prop, ∀ u, S u ↔ Keep (fun _ => False) (w6) u := ⟨fun u => Keep (fun _ => False) (w6) u, fun _ => Iff.rfl⟩
  have HS := Hd hS
  clear hS
  refine wp_region_ord 25 [(0, true), (1, true), (2, true), (3, true), (4, true), (5, true), (6, true), (7, true), (8, true), (9, true), (10, true), (11, true), (12, true), (13, true), (14, true), (15, true), (16, true), (17, true), (18, true), (19, true), (20, true), (21, true), (22, true), (23, true), (24, true)] S (by kernel_rfl) (by kernel_rfl) ((HS.out _).2 (Keep.refl _ _).drew) ?_
  iterate 25
    first
      | (refine wpH_passed rfl (by rfl) (fun K hK => ?_); go_simp; refine hK _ ?_; clear hK K)
      | (first
           | refine wpH_read rfl rfl (fun K hK => ?_)
           | refine wpH_readw rfl (by rfl) (fun K hK => ?_)
         apply Exists.intro
         refine ⟨fun u hu => ?_, ?_⟩
         · have hu := (HS.out u).1 hu
           have hr0 : u.cell? ⟨g, 0, none⟩ = some (.int .u64 st) := by rw [hu.cell (p := ⟨g, 0, none⟩) HGl.out (fun e => e)]; exact HC.out.1
           have hr1 : u.cell? ⟨g, 2, none⟩ = some (.int .u64 born) := by rw [hu.cell (p := ⟨g, 2, none⟩) HGl.out (fun e => e)]; exact HC.out.2.1
           have hr2 : u.cell? ⟨g, 4, none⟩ = some (.int .u64 0) := by rw [hu.cell (p := ⟨g, 4, none⟩) HGl.out (fun e => e)]; exact HC.out.2.2.1
           have hr3 : u.cell? ⟨g, 6, none⟩ = some (.int .u64 0) := by rw [hu.cell (p := ⟨g, 6, none⟩) HGl.out (fun e => e)]; exact HC.out.2.2.2.1
           have hr4 : u.cell? ⟨g, 9, none⟩ = some (.string ⟨#[]⟩) := by rw [hu.cell (p := ⟨g, 9, none⟩) HGl.out (fun e => e)]; exact HC.out.2.2.2.2
           clear hu
           go_simp
           exact ⟨rfl, rfl⟩
         go_simp
         refine hK _ ?_
         clear hK K)
  refine wpH_nil ?_
  simp only [List.drop_succ_cons, List.drop_zero]
  clear S HS
  have hx7 : w6.drew.heap[wb]? = some (.cells #[.string ⟨#[]⟩, .int .i64 0, .int .u64 0, .bool false, .string ⟨#[]⟩, .int .u64 0] 89 (0, 0)) := HX6.out
  generalize hw7 : w6.drew = w7 at *
  have HB7 := Hd (show Below w.heap.size w w7 by rw [← hw7]; exact HB6.out.trans ⟨rfl, rfl, rfl, Nat.le_refl _, fun _ _ => rfl⟩)
  clear hw7
  obtain ⟨⟨d0, d1, d2, d3, d4, d5⟩, y0, y1, y2, y3, y4, y5⟩ := box6 hx7
  have HX7 := Hd hx7
  clear hx7
  go_wp2
  refine bodyPost_ret (results_box2 rfl _ _ wb _ _ _ _ rfl (set6_heap HX7.out _ _ _ _ _ _) Tryz.underlying89 rfl (by kernel_rfl)) rfl ?_
  refine ⟨rfl, ?_⟩
  rw [← HWb.out]
  exact set6_below HB7.out (Nat.le_refl _) _ _ _ _ _ _
end
end Go.Proofs.YtaokjeokpifjgaaGreatDoor

namespace Go.Proofs.YtaokjeokpifjgaaGreatDoor
open Go.RowKit Go.MapKept
attribute [local go_sem] gives givesH
set_option maxRecDepth 100000

section
variable {w : World} {sb : Nat} {s : Sto} {D : Dict} {nz : Nat}
structure XStep (w : World) (s : Sto) (D : Dict) (sb nz' : Nat) (w' : World) (s' : Sto) : Prop where
  st : StAt w' sb s' D nz'
  step : VStep w s w' s'
  kv : s'.kvI = s.kvI
theorem StAt.meta_put (h : StAt w sb s D nz) (hn : nz ≤ 1900 ∧ 8 * nz + 300 ≤ s.R.pages) {tb : Nat} (ht : TreeAt w tb s.br 4) (hf : ¬ s.foot tb) {key val : ByteArray} (hk : key.size ≤ 96) (hv : val.size ≤ 56) :
    Calls Tryz.prog 92 #[.pointer (some ⟨tb, 0, none⟩), .string key, .string val] w fun e w' => e = .returned (.int .i64 0) ∧ ∃ s', XStep w s D sb (nz + 1) w' s' ∧ s'.X.kvM = ins s.X.kvM key val ∧ s'.X.vb = s.X.vb ∧ s'.X.next = s.X.next := by
  have hz := h.sized
  have hlen := h.cont.len
  refine (tput_is (key := key) (val := val) ht hf h.room (by have := hz.puts; omega) hz.pages (by decide) hk hv h.cont.out.tm (List.nodup_append.1 h.cont.xnd).1 h.cont.all (by have := hz.m; omega) (by have := hz.i; have := hz.l; have := hz.b; omega)).mono ?_
  rintro e w' ⟨rfl, R', ps', new, hst, hT, hpm, htu⟩
  have hc := h.cont.meta_ htu hT hpm
  have hi := ins_length s.X.kvM key val
  have hps := hpm.length_eq
  rw [List.length_append] at hps
  have hcount := hT.count
  obtain ⟨a, a1, a2⟩ := htu.puts
  have hx1 := hz.bx
  have hx2 := hz.v
  have hx3 := hz.m
  unfold Rest.pages at hx1
  rw [List.length_append] at hx1
  have hs := h.step hst hc (nz' := nz + 1) ⟨by have := hz.i; omega, by have := hz.l; omega, by rw [List.length_append]; omega, by show (ins s.X.kvM key val).length ≤ _; omega, by rw [htu.pages]; exact hz.pages, by rw [a1, List.length_append]; have := hz.puts; omega, by rw [htu.root 2 (by decide)]; have := hz.root; omega, by
    unfold Rest.pages
    rw [List.length_append, List.length_append]
    show _ ≤ nz + 1 + (ps'.length + s.X.vp.length)
    omega, by show s.X.vp.length ≤ _; omega⟩
  exact ⟨rfl, _, ⟨hs, hst.vsto _ _ _ _ _ _, rfl⟩, rfl, rfl, rfl⟩
theorem StAt.number_put (h : StAt w sb s D nz) (hn : nz ≤ 1900) (n : Nat) (hv : n < 18446744073709551616) :
    Calls Tryz.prog 166 #[.pointer (some ⟨s.br, 0, none⟩), .int .i64 5, .int .u64 n] w fun e w' => e = .returned (.int .i64 0) ∧ ∃ s', XStep w s D sb (nz + 1) w' s' ∧ s'.X.kvM = s.X.kvM ∧ s'.X.vb = s.X.vb ∧ s'.X.next = n := by
  have hz := h.sized
  refine (setRoot_any h.room (by have := hz.puts; omega) 5 (by decide) n hv).mono ?_
  rintro e w' ⟨rfl, R', hst, hpp⟩
  have hrd := rooted_of h.room (by decide) hv hst.tx.f hst.maps hpp
  have hc := h.cont.number hrd h.room.pages_le hst.pages
  have hs := h.step hst hc (nz' := nz + 1) ⟨by have := hz.i; omega, by have := hz.l; omega, by have := hz.b; omega, by have := hz.m; show s.X.kvM.length ≤ _; omega, by rw [hst.pages]; exact hz.pages, by rw [hpp, List.length_append]; have := hz.puts; simp; omega, by rw [hrd.root, if_neg (by decide)]; have := hz.root; omega, by have := hz.bx; show s.bp.length ≤ nz + 1 + s.X.pages.length; omega, by have := hz.v; show s.X.vp.length ≤ _; omega⟩
  exact ⟨rfl, _, ⟨hs, hst.vsto _ _ _ _ _ _, rfl⟩, rfl, rfl, rfl⟩
theorem StAt.number_get (h : StAt w sb s D nz) :
    Calls Tryz.prog 165 #[.pointer (some ⟨s.br, 0, none⟩), .int .i64 5] w fun e w' => e = .returned (.tuple #[.int .u64 s.X.next, .int .i64 0]) ∧ Below w.heap.size w w' := by
  have := root_any h.room 5 (by decide)
  rw [h.cont.out.nx] at this
  exact this
end
end Go.Proofs.YtaokjeokpifjgaaGreatDoor

namespace Go.Proofs.YtaokjeokpifjgaaGreatDoor
open Go.RowKit Go.MapKept
attribute [local go_sem] gives givesH
set_option maxRecDepth 100000

def okRef (r : ByteArray × Int) : Bool := r.1.size == 33 && (decide (1 ≤ r.2) && decide (r.2 ≤ 128))
theorem okRef_iff (r : ByteArray × Int) : okRef r = true ↔ r.1.size = 33 ∧ 1 ≤ r.2 ∧ r.2 ≤ 128 := by unfold okRef; simp
theorem refV_get (l : RefL) (k : Nat) (r : ByteArray × Int) (h : l[k]? = some r) : (refV l)[k * 2]? = some (.string r.1) ∧ (refV l)[k * 2 + 1]? = some (.int .i64 r.2) := by
  induction l generalizing k with
  | nil => simp at h
  | cons x l ih =>
    cases k with
    | zero => simp at h; subst h; exact ⟨rfl, rfl⟩
    | succ k =>
      have h' : l[k]? = some r := by simpa using h
      have := ih k h'
      have e1 : (k + 1) * 2 = k * 2 + 2 := by omega
      have e : refV (x :: l) = Value.string x.1 :: Value.int .i64 x.2 :: refV l := rfl
      rw [e1, e]
      simpa using this
theorem all_take_snoc (l : RefL) (k : Nat) (h : k < l.length) (h1 : (l.take k).all okRef = true) (h2 : okRef l[k] = true) : (l.take (k + 1)).all okRef = true := by
  rw [List.take_succ_eq_append_getElem h, List.all_append, h1]
  simp [h2]
theorem all_bad (l : RefL) (k : Nat) (h : k < l.length) (h2 : okRef l[k] = false) : l.all okRef = false := by
  cases e : l.all okRef with
  | false => rfl
  | true => rw [List.all_eq_true] at e; rw [e _ (List.getElem_mem h)] at h2; cases h2
set_option maxHeartbeats 4000000 in
theorem rright_any {w : World} {B : Nat} {v : Value} {l : RefL} (hrow : w.ownsRow B 98 2 v l.length (refV l)) (hl : l.length ≤ 100) :
    Calls Tryz.prog 52 #[v] w fun e w' => e = .returned (.bool (l.all okRef)) ∧ Below w.heap.size w w' := by
  obtain ⟨sa, sc, hv⟩ := slice_formB hrow
  subst hv
  have HRow := Hd hrow
  obtain ⟨n, hn⟩ : ∃ n, l.length = n := ⟨_, rfl⟩
  have HN := Hd hn
  rw [hn] at HRow hl ⊢
  have g4 : decide ((n : Int) ≤ 4000) = true := by simp; omega
  clear hrow hn
  go_enter Tryz.func52, Tryz.ntmps52
  go_wp2
  go_loopw [4, 7] (fun _ i wr => ∃ k, k ≤ n ∧ i = .int .i64 (k : Int) ∧ Below w.heap.size w wr ∧ (l.take k).all okRef = true) (fun _ i _ => n - (intOf i).toNat)
  case atStart => exact ⟨0, by omega, rfl, Below.refl _ _, by simp⟩
  case round =>
    obtain ⟨k, hk, rfl, hb, hall⟩ := hrel
    have HB := Hd hb
    have HAll := Hd hall
    clear hb hall
    by_cases hlt : k < n
    · have g2 : decide ((k : Int) < (n : Int)) = true := by simp; omega
      have g2' : decide (k < n) = true := by simpa using hlt
      have hkl : k < l.length := by rw [HN.out]; exact hlt
      obtain ⟨gs, cs, hs, hc1, hc2, hgB⟩ := row_posB HRow.out (by omega)
      obtain ⟨e1, e2, e3⟩ := Value.slice.inj hs
      subst e1
      have hgl := (HRow.out.lt gs rfl).2
      obtain ⟨q1, q2⟩ := refV_get l k l[k] (List.getElem?_eq_getElem hkl)
      have q1' : wr.cell? ⟨gs, k * 2, none⟩ = some (.string l[k].1) := by rw [HB.out.cell (p := ⟨gs, k * 2, none⟩) hgl]; exact row_cells HRow.out _ _ q1
      have q2' : wr.cell? ⟨gs, k * 2 + 1, none⟩ = some (.int .i64 l[k].2) := by rw [HB.out.cell (p := ⟨gs, k * 2 + 1, none⟩) hgl]; exact row_cells HRow.out _ _ q2
      have HG := Hd (all_take_snoc l k hkl HAll.out)
      have HBd := Hd (all_bad l k hkl)
      obtain ⟨⟨id, len⟩, hr⟩ : ∃ r, l[k] = r := ⟨_, rfl⟩
      rw [hr] at q1' q2' HG HBd
      have hbx := Hd (HB.out.alloc HB.out.size (.cells #[.string id, .int .i64 len] 98))
      clear hs e2 e3 q1 q2 hr
      have hcase : okRef (id, len) = true ∧ ((id.size : Int) != 33) = false ∧ decide (len < 1) = false ∧ decide (len > 128) = false ∨
          okRef (id, len) = false ∧ (((id.size : Int) != 33) = true ∨ ((id.size : Int) != 33) = false ∧ decide (len < 1) = true ∨ ((id.size : Int) != 33) = false ∧ decide (len < 1) = false ∧ decide (len > 128) = true) := by
        unfold okRef
        by_cases a1 : id.size = 33 <;> by_cases a2 : len < 1 <;> by_cases a3 : 128 < len <;> simp [a1, a2, a3] <;> omega
      rcases hcase with ⟨h0, a1, a2, a3⟩ | ⟨h0, ⟨a1⟩ | ⟨a1, a2⟩ | ⟨a1, a2, a3⟩⟩
      · have h1 := Hd (HG.out h0)
        go_wp2
        go_roundw
        case rel => exact ⟨k + 1, by omega, by go_num, hbx.out, h1.out⟩
        case measure => simp [intOf]; omega
      all_goals
        have h1 := Hd (HBd.out h0)
        go_wp2
        go_ret
        exact ⟨by rw [h1.out]; rfl, hbx.out⟩
    · obtain rfl : k = n := by omega
      have g2 : decide ((k : Int) < (k : Int)) = false := by simp
      go_wp2
      go_ret
      have h := HAll.out
      rw [← HN.out, List.take_length] at h
      exact ⟨by rw [h]; rfl, HB.out⟩
def tot : RefL → Int
  | [] => 0
  | r :: l => r.2 + tot l
theorem tot_snoc (l : RefL) (r : ByteArray × Int) : tot (l ++ [r]) = tot l + r.2 := by
  induction l with
  | nil => simp [tot]
  | cons x l ih => simp [tot, ih]; omega
theorem tot_take (l : RefL) (k : Nat) (h : k < l.length) : tot (l.take (k + 1)) = tot (l.take k) + l[k].2 := by rw [List.take_succ_eq_append_getElem h, tot_snoc]
theorem tot_bd (l : RefL) (h : l.all okRef = true) : 0 ≤ tot l ∧ tot l ≤ 128 * l.length := by
  induction l with
  | nil => simp [tot]
  | cons x l ih =>
    rw [List.all_cons, Bool.and_eq_true, okRef_iff] at h
    have := ih h.2
    simp only [tot, List.length_cons]
    omega
theorem all_take (l : RefL) (k : Nat) (h : l.all okRef = true) : (l.take k).all okRef = true := by
  rw [List.all_eq_true] at *
  exact fun x hx => h x (List.mem_of_mem_take hx)
set_option maxHeartbeats 4000000 in
theorem rsize_any {w : World} {B : Nat} {v : Value} {l : RefL} (hrow : w.ownsRow B 98 2 v l.length (refV l)) (hl : l.length ≤ 100) (hok : l.all okRef = true) :
    Calls Tryz.prog 43 #[v] w fun e w' => e = .returned (.int .i64 (tot l)) ∧ Below w.heap.size w w' := by
  have HR := Hd (rright_any hrow hl)
  obtain ⟨sa, sc, hv⟩ := slice_formB hrow
  subst hv
  have HRow := Hd hrow
  obtain ⟨n, hn⟩ : ∃ n, l.length = n := ⟨_, rfl⟩
  have HN := Hd hn
  have HOk := Hd hok
  rw [hn] at HRow HR hl ⊢
  clear hrow hn hok
  go_enter Tryz.func43, Tryz.ntmps43
  go_wp2_with (go_at_call 52; refine (HR.out).mono ?_; rintro e w1 ⟨rfl, hb1⟩
               rw [HOk.out]
               have HB1 := Hd hb1
               clear hb1)
  go_loopw [3, 5, 11] (fun s _ i wr => ∃ k, k ≤ n ∧ i = .int .i64 (k : Int) ∧ s = .int .i64 (tot (l.take k)) ∧ Below w.heap.size w wr) (fun _ _ i _ => n - (intOf i).toNat)
  case atStart => exact ⟨0, by omega, rfl, by simp [tot], HB1.out⟩
  case round =>
    obtain ⟨k, hk, rfl, rfl, hb⟩ := hrel
    have HB := Hd hb
    clear hb
    by_cases hlt : k < n
    · have g2 : decide ((k : Int) < (n : Int)) = true := by simp; omega
      have g2' : decide (k < n) = true := by simpa using hlt
      have hkl : k < l.length := by rw [HN.out]; exact hlt
      obtain ⟨gs, cs, hs, hc1, hc2, hgB⟩ := row_posB HRow.out (by omega)
      obtain ⟨e1, e2, e3⟩ := Value.slice.inj hs
      subst e1
      have hgl := (HRow.out.lt gs rfl).2
      obtain ⟨q1, q2⟩ := refV_get l k l[k] (List.getElem?_eq_getElem hkl)
      have q1' : wr.cell? ⟨gs, k * 2, none⟩ = some (.string l[k].1) := by rw [HB.out.cell (p := ⟨gs, k * 2, none⟩) hgl]; exact row_cells HRow.out _ _ q1
      have q2' : wr.cell? ⟨gs, k * 2 + 1, none⟩ = some (.int .i64 l[k].2) := by rw [HB.out.cell (p := ⟨gs, k * 2 + 1, none⟩) hgl]; exact row_cells HRow.out _ _ q2
      have HT := Hd (tot_take l k hkl)
      have hx1 := tot_bd _ (all_take l k HOk.out)
      have hx2 := tot_bd _ (all_take l (k + 1) HOk.out)
      rw [List.length_take] at hx1 hx2
      rw [HT.out] at hx2
      have hx1' : 0 ≤ tot (l.take k) ∧ tot (l.take k) ≤ 12800 := by omega
      have hx2' : 0 ≤ tot (l.take k) + l[k].2 ∧ tot (l.take k) + l[k].2 ≤ 12800 := by omega
      clear hx1 hx2
      obtain ⟨⟨id, len⟩, hr⟩ : ∃ r, l[k] = r := ⟨_, rfl⟩
      rw [hr] at q1' q2' HT hx2'
      obtain ⟨T, hT⟩ : ∃ T, tot (l.take k) = T := ⟨_, rfl⟩
      rw [hT] at HT hx1' hx2' ⊢
      replace hx2' : 0 ≤ T + len ∧ T + len ≤ 12800 := hx2'
      obtain ⟨y1, y2⟩ := hx1'
      obtain ⟨y3, y4⟩ := hx2'
      have hbx := Hd (HB.out.alloc HB.out.size (.cells #[.string id, .int .i64 len] 98))
      clear hs e2 e3 q1 q2 hr hT
      go_wp2
      go_roundw
      case rel => exact ⟨k + 1, by omega, by go_num, by rw [HT.out], hbx.out⟩
      case measure => simp [intOf]; omega
    · obtain rfl : k = n := by omega
      have g2 : decide ((k : Int) < (k : Int)) = false := by simp
      have hT : l.take k = l := by rw [← HN.out, List.take_length]
      rw [hT]
      clear hT
      go_wp2
      go_ret
      exact ⟨rfl, HB.out⟩
set_option maxHeartbeats 1000000 in
theorem ends_any {T : Int} (h0 : 0 ≤ T) (h1 : T ≤ 12800) (w : World) :
    Calls Tryz.prog 117 #[.int .i64 T, .int .i64 0, .int .i64 1073741824] w fun e w' => e = .returned (.tuple #[.int .i64 0, .int .i64 T]) ∧ w' = w := by
  have hcase : T = 0 ∨ decide ((0 : Int) ≥ T) = false ∧ decide ((1073741824 : Int) ≥ T - 0) = true := by
    by_cases e : T = 0
    · exact .inl e
    · exact .inr ⟨by simp; omega, by simp; omega⟩
  rcases hcase with rfl | ⟨g1, g2⟩
  · go_enter Tryz.func117, Tryz.ntmps117
    go_wp2
    go_ret2
    exact ⟨rfl, rfl⟩
  · go_enter Tryz.func117, Tryz.ntmps117
    go_wp2
    go_ret2
    exact ⟨rfl, rfl⟩
end Go.Proofs.YtaokjeokpifjgaaGreatDoor

namespace Go.Proofs.YtaokjeokpifjgaaGreatDoor
open Go.RowKit Go.MapKept
attribute [local go_sem] gives givesH
set_option maxRecDepth 100000

def wrL (l : RefL) : List UInt8 := l.flatMap (fun r => r.1.data.toList ++ [UInt8.ofNat r.2.toNat])
def wrS (l : RefL) : ByteArray := ⟨(wrL l).toArray⟩
theorem wrL_snoc (l : RefL) (r : ByteArray × Int) : wrL (l ++ [r]) = wrL l ++ (r.1.data.toList ++ [UInt8.ofNat r.2.toNat]) := by unfold wrL; rw [List.flatMap_append]; simp
theorem wrL_cons (l : RefL) (r : ByteArray × Int) : wrL (r :: l) = r.1.data.toList ++ ([UInt8.ofNat r.2.toNat] ++ wrL l) := by unfold wrL; rw [List.flatMap_cons, List.append_assoc]
theorem wrL_length (l : RefL) (h : l.all okRef = true) : (wrL l).length = 34 * l.length := by
  induction l with
  | nil => rfl
  | cons a t ih =>
    rw [List.all_cons, Bool.and_eq_true] at h
    have h1 := (okRef_iff a).1 h.1
    have h3 : a.1.data.toList.length = a.1.size := by simp
    rw [wrL_cons, List.length_append, List.length_append, ih h.2, h3, h1.1, List.length_cons, List.length_cons]
    show 33 + (0 + 1 + _) = _
    omega
theorem wrS_size (l : RefL) (h : l.all okRef = true) : (wrS l).size = 34 * l.length := by
  unfold wrS; show (List.toArray _).size = _; rw [List.size_toArray, wrL_length l h]
set_option maxHeartbeats 2000000 in
theorem rwrite_any {w : World} {B : Nat} {v : Value} {l : RefL} (hrow : w.ownsRow B 98 2 v l.length (refV l)) (hl : l.length ≤ 100) (hok : l.all okRef = true) :
    Calls Tryz.prog 42 #[v] w fun e w' => e = .returned (.tuple #[.string (wrS l), .bool true]) ∧ Below w.heap.size w w' := by
  have HR := Hd (rright_any hrow hl)
  rw [hok] at HR
  obtain ⟨sa, sc, hv⟩ := slice_formB hrow
  subst hv
  have HRow := Hd hrow
  have HOk := Hd hok
  obtain ⟨n, hn⟩ : ∃ n, l.length = n := ⟨_, rfl⟩
  have HN := Hd hn
  rw [hn] at HRow hl HR ⊢
  clear hrow hn hok
  go_enter Tryz.func42, Tryz.ntmps42
  go_wp2_with (go_at_call 52; refine (HR.out).mono ?_; rintro e w1 ⟨rfl, hb1⟩
               have HB1 := Hd hb1
               clear hb1)
  have hib : IsB w1.heap.size w1.heap.size [] (w1.alloc (.cells #[.pointer none, .slice none 0 0] 123)) := Lib.fresh_isBuilder _ _ w1
  have hb2 : Below w1.heap.size w1 (w1.alloc (.cells #[.pointer none, .slice none 0 0] 123)) := (Below.refl _ _).alloc (Nat.le_refl _) _
  obtain ⟨bb, hbb⟩ : ∃ bb, w1.heap.size = bb := ⟨_, rfl⟩
  rw [hbb] at hib hb2 ⊢
  have HBb := Hd hbb
  have HIB := Hd hib
  have HB2 := Hd hb2
  clear hbb hib hb2
  go_loopw [6, 12] (fun _ i wr => ∃ j : Nat, j ≤ n ∧ i = .int .i64 j ∧ IsB bb bb (Lib.byteCells (wrL (l.take j))) wr ∧ Below bb w1 wr) (fun _ i _ => n - (intOf i).toNat)
  case atStart => exact ⟨0, by omega, rfl, by rw [List.take_zero]; exact HIB.out, HB2.out⟩
  case round =>
    obtain ⟨j, hj, rfl, hib, hbel⟩ := hrel
    have HI := Hd hib
    have HB := Hd hbel
    clear hib hbel
    by_cases hlt : j < n
    · have g1 : decide ((j : Int) < (n : Int)) = true := by simp; omega
      have g1' : decide (j < n) = true := by simpa using hlt
      obtain ⟨gs, cs, hs, hc1, hc2, hgB⟩ := row_posB HRow.out (by omega)
      obtain ⟨e1, e2, e3⟩ := Value.slice.inj hs
      subst e1
      have hjl : j < l.length := by rw [HN.out]; exact hlt
      obtain ⟨pa, pb⟩ := refV_get l j l[j] (List.getElem?_eq_getElem hjl)
      have hgl := (HRow.out.lt gs rfl).2
      have hgb : gs < bb := by rw [← HBb.out]; exact Nat.lt_of_lt_of_le hgl HB1.out.size
      have q0 : wr.cell? ⟨gs, j * 2, none⟩ = some (.string l[j].1) := by rw [HB.out.cell (p := ⟨gs, j * 2, none⟩) hgb, HB1.out.cell (p := ⟨gs, j * 2, none⟩) hgl]; exact row_cells HRow.out _ _ pa
      have q1 : wr.cell? ⟨gs, j * 2 + 1, none⟩ = some (.int .i64 l[j].2) := by rw [HB.out.cell (p := ⟨gs, j * 2 + 1, none⟩) hgb, HB1.out.cell (p := ⟨gs, j * 2 + 1, none⟩) hgl]; exact row_cells HRow.out _ _ pb
      have hokj := (okRef_iff l[j]).1 ((List.all_eq_true.1 HOk.out) _ (List.getElem_mem hjl))
      have htk : l.take (j + 1) = l.take j ++ [l[j]] := List.take_succ_eq_append_getElem hjl
      have hoktk : (l.take j).all okRef = true := List.all_eq_true.2 (fun x hx => (List.all_eq_true.1 HOk.out) x (List.mem_of_mem_take hx))
      have hle := wrL_length (l.take j) hoktk
      rw [List.length_take] at hle
      obtain ⟨r, hr⟩ : ∃ r, l[j] = r := ⟨_, rfl⟩
      rw [hr] at q0 q1 hokj htk
      obtain ⟨id, ln⟩ := r
      obtain ⟨k1, k2, k3⟩ := hokj
      simp only at q0 q1 k1 k2 k3
      have HTk := Hd htk
      have hbx := (Below.refl wr.heap.size wr).alloc (Nat.le_refl _) (.cells #[.string id, .int .i64 ln] 98)
      have hbb2 : bb ≤ wr.heap.size := by have := HB.out.size; have := HBb.out; omega
      have HBX := Hd (HB.out.alloc hbb2 (.cells #[.string id, .int .i64 ln] 98))
      have HW1 := Hd (writeString_any (isB_still HI.out hbx) (Nat.le_trans hbb2 hbx.size) id (by rw [byteCells_length]; omega))
      have hce : ln % 256 = ((UInt8.ofNat ln.toNat).toNat : Int) := by
        have : (UInt8.ofNat ln.toNat).toNat = ln.toNat := by simp; omega
        rw [this]; omega
      have HCE := Hd hce
      have HX := Hd (heap_alloc_new wr (.cells #[.string id, .int .i64 ln] 98))
      have HLe := Hd hle
      have HBz := Hd hbb2
      have j0 : (j : Int) < (n : Int) := by omega
      have u8 : IntKind.u8.wrap ln = ln % 256 := by rw [IntKind.wrap_u8]
      clear hs e2 e3 pa pb htk hoktk hle hr hbx hce hbb2 hgb hgl
      go_wp2_with (fail)
      refine (HW1.out).mono ?_
      rintro e w3 ⟨rfl, hi3, hb3, ho3⟩
      have hbl : bb < wr.heap.size := by
        obtain ⟨_, _, h⟩ := isB_lt HI.out
        exact (Gl h)
      have hx3 := ho3 wr.heap.size _ HX.out (fun e => by have := Option.some.inj e; omega) (fun c fz e => by injection e with _ e2 _; exact absurd e2 (by decide))
      have d1 : w3.cell? ⟨wr.heap.size, 1, none⟩ = some (.int .i64 ln) := Lib.cell_of_heap hx3 1
      have hb3' := HBX.out.trans hb3
      have HW2 := Hd (writeByte_any hi3 (Nat.le_trans HBz.out (by have := hb3.size; simp at this; omega)) (by rw [List.length_append, byteCells_length, Lib.strCells_length]; have := HLe.out; omega) (ln % 256))
      have HB3 := Hd hb3'
      clear hi3 hb3 hb3' ho3 hx3 hbl
      go_wp2_with (fail)
      refine (HW2.out).mono ?_
      rintro e w4 ⟨rfl, hi4, hb4, -⟩
      rw [HCE.out, strCells_eq, ← byteCells_append, ← byteCells_snoc, List.append_assoc] at hi4
      have HI4 := Hd hi4
      have HB4 := Hd (HB3.out.trans hb4)
      clear hi4 hb4 d1
      go_wp2
      go_roundw
      case rel => exact ⟨j + 1, by omega, by go_num, by rw [HTk.out, wrL_snoc]; exact HI4.out, HB4.out⟩
      case measure => simp [intOf]; omega
    · obtain rfl : j = n := by omega
      have ht : l.take j = l := by rw [← HN.out, List.take_length]
      rw [ht] at HI
      have HSt := Hd (Tryz.Builder_String_any_k bb bb (wrL l) wr (Lib.IsBuilderF.of HI.out) (by have := HB.out.size; have := HBb.out; omega))
      clear ht
      go_wp2_with (go_at_call 57; refine (HSt.out).mono ?_; rintro e w5 ⟨rfl, -, hb5, -⟩
                   have HB5 := Hd (HB.out.trans hb5)
                   clear hb5)
      go_ret2
      refine ⟨rfl, HB1.out.trans ?_⟩
      have := HB5.out
      rw [← HBb.out] at this
      exact this.mono HB1.out.size
theorem wrS_cons (l : RefL) (id : ByteArray) (ln : Int) (h1 : id.size = 33) (h2 : 1 ≤ ln) (h3 : ln ≤ 128) :
    (wrS ((id, ln) :: l)).extract 0 33 = id ∧ byteN (wrS ((id, ln) :: l)) 33 = ln.toNat ∧ (wrS ((id, ln) :: l)).extract 34 (wrS ((id, ln) :: l)).size = wrS l ∧ 34 ≤ (wrS ((id, ln) :: l)).size := by
  have hd : (wrS ((id, ln) :: l)).data.toList = (id.data.toList ++ [UInt8.ofNat ln.toNat]) ++ (wrS l).data.toList := by
    show wrL ((id, ln) :: l) = _ ++ wrL l
    rw [wrL_cons, List.append_assoc]
  have hil : id.data.toList.length = 33 := by simpa using h1
  have hl34 : (id.data.toList ++ [UInt8.ofNat ln.toNat]).length = 34 := by rw [List.length_append, hil]; rfl
  obtain ⟨a1, a2, a3⟩ := bytes_split hd
  rw [hl34] at a1 a2 a3
  obtain ⟨b1, -, -⟩ := bytes_split (s := wrS ((id, ln) :: l)) (t := ⟨([UInt8.ofNat ln.toNat] ++ (wrS l).data.toList).toArray⟩) (l := id.data.toList) (by rw [hd, List.append_assoc])
  rw [hil] at b1
  refine ⟨b1, ?_, a2, a3⟩
  unfold byteN
  rw [hd, List.append_assoc, List.getD_eq_getElem?_getD, List.getElem?_append_right (by omega), hil]
  simp
  omega
set_option maxHeartbeats 4000000 in
theorem rread_any {l : RefL} (hl : l.length ≤ 100) (hok : l.all okRef = true) (w : World) :
    Calls Tryz.prog 51 #[.string (wrS l)] w fun e w' => ∃ v, e = .returned (.tuple #[v, .bool true]) ∧ w'.ownsRow w.heap.size 98 2 v l.length (refV l) ∧ Below w.heap.size w w' := by
  have hz := wrS_size l hok
  have hm1 : ((wrS l).size : Int) % 34 = 0 := by omega
  have hm2 : ((wrS l).size : Int).tmod 34 = 0 := by rw [Int.tmod_eq_emod_of_nonneg (by omega)]; exact hm1
  have HR := Hd (fun (u : World) (B : Nat) v (hrow : u.ownsRow B 98 2 v l.length (refV l)) => rright_any hrow hl)
  rw [hok] at HR
  have HOk := Hd hok
  obtain ⟨i0, hi0, hz0, hz1, hz2⟩ := info_parts infoRef
  have HI := Hd hi0
  have Hz0 := Hd hz0
  have Hz1 := Hd hz1
  have Hz2 := Hd hz2
  obtain ⟨n, hn⟩ : ∃ n, l.length = n := ⟨_, rfl⟩
  have HN := Hd hn
  rw [hn] at hl HR ⊢
  have hd0 : wrS l = wrS (l.drop 0) := rfl
  obtain ⟨t0, ht0⟩ : ∃ t, wrS l = t := ⟨_, rfl⟩
  rw [ht0] at hm1 hm2 hd0 ⊢
  have HT0 := Hd hd0
  clear hn hok hi0 hz0 hz1 hz2 hz ht0 hd0
  go_enter Tryz.func51, Tryz.ntmps51
  go_wp2
  go_loopw [0, 4] (fun s v wr => ∃ k : Nat, k ≤ n ∧ s = .string (wrS (l.drop k)) ∧ wr.ownsRow w.heap.size 98 2 v k (refV (l.take k)) ∧ Below w.heap.size w wr) (fun s _ _ => (match s with | .string b => b.size | _ => 0))
  case atStart => exact ⟨0, by omega, by rw [HT0.out], World.ownsRow_nil _ _ _ _, Below.refl _ _⟩
  case round =>
    obtain ⟨k, hk, rfl, hrow, hbel⟩ := hrel
    have HRow := Hd hrow
    have HB := Hd hbel
    obtain ⟨oa, oc, hov⟩ := slice_formB hrow
    subst hov
    clear hrow
    by_cases hlt : k < n
    · have hkl : k < l.length := by rw [HN.out]; exact hlt
      have hdr : l.drop k = l[k] :: l.drop (k + 1) := List.drop_eq_getElem_cons hkl
      have htk : l.take (k + 1) = l.take k ++ [l[k]] := List.take_succ_eq_append_getElem hkl
      have hokk := (okRef_iff l[k]).1 ((List.all_eq_true.1 HOk.out) _ (List.getElem_mem hkl))
      obtain ⟨r, hr⟩ : ∃ r, l[k] = r := ⟨_, rfl⟩
      rw [hr] at hdr htk hokk
      obtain ⟨id, ln⟩ := r
      obtain ⟨k1, k2, k3⟩ := hokk
      simp only at k1 k2 k3
      obtain ⟨s1, s2, s3, s4⟩ := wrS_cons (l.drop (k + 1)) id ln k1 k2 k3
      rw [← hdr] at s1 s2 s3 s4
      obtain ⟨t, ht⟩ : ∃ t, wrS (l.drop k) = t := ⟨_, rfl⟩
      obtain ⟨t2, ht2⟩ : ∃ t, wrS (l.drop (k + 1)) = t := ⟨_, rfl⟩
      rw [ht] at s1 s2 s3 s4 ⊢
      rw [ht2] at s3
      have hkx := byteN_get t 33 (by omega)
      rw [s2] at hkx
      have hln : ((ln.toNat : Nat) : Int) = ln := by omega
      have hne : t.toList.isEmpty = false := by
        rw [isEmpty_eq, decide_eq_false (fun e => by rw [e] at s4; exact absurd s4 (by decide))]
      have hz2 : t2.size < t.size := by
        have := congrArg ByteArray.size s3
        rw [ByteArray.size_extract] at this
        omega
      have g1 : (34 : Int) ≤ (t.size : Int) := by omega
      have g33 : (33 : Int) ≤ (t.size : Int) := by omega
      have g33a : (33 : Int) < (t.size : Int) := by omega
      have g33b : 33 < t.size := by omega
      have HTk := Hd htk
      have HT2 := Hd ht2
      have HZ2 := Hd hz2
      have kn : (k : Int) < (n : Int) := by omega
      have hvl : ∀ g, (Value.slice oa k oc).ownBlock = some g → g < wr.heap.size := fun g e => (HRow.out.lt g e).2
      have HVl := Hd hvl
      have hcv : IntKind.i64.wrap ln = ln := wrapI (by omega) (by omega)
      clear hr hdr htk ht ht2 s2 hz2 hbel hvl
      go_wp2
      obtain ⟨S, hS⟩ : ∃ S : World → Prop, ∀ u, S u ↔ Keep (fun z => (Value.slice oa k oc).ownBlock = some z) (wr) u := ⟨fun u => Keep (fun z => (Value.slice oa k oc).ownBlock = some z) (wr) u, fun _ => Iff.rfl⟩
      have HS := Hd hS
      clear hS
      refine wp_region_ord 9 [(0, true), (1, true), (2, true), (3, true), (4, true), (5, true), (6, true), (7, false), (8, false)] S (by kernel_rfl) (by kernel_rfl) ((HS.out _).2 (Keep.refl _ _).drew) ?_
      iterate 7
        first
          | (refine wpH_passed rfl (by rfl) (fun K hK => ?_); go_simp; refine hK _ ?_; clear hK K)
          | (first
               | refine wpH_read rfl rfl (fun K hK => ?_)
               | refine wpH_readw rfl (by rfl) (fun K hK => ?_)
             apply Exists.intro
             refine ⟨fun u hu => ?_, ?_⟩
             · have hu := (HS.out u).1 hu
               clear hu
               go_simp
               exact ⟨rfl, rfl⟩
             go_simp
             refine hK _ ?_
             clear hK K)
      first | refine wpH_do rfl rfl (fun K hK => ?_) | refine wpH_dow rfl (by rfl) (fun K hK => ?_)
      go_simp
      have ka : Keep (fun z => (Value.slice oa k oc).ownBlock = some z) wr (wr.alloc (.cells #[.string id, .int .i64 ln] 98)).drew := ((Keep.refl _ wr).alloc _).drew
      refine hK _ _ ((HS.out _).2 ka) ?_
      clear hK K
      have hrb : ((wr.alloc (.cells #[.string id, .int .i64 ln] 98)).drew).ownsRow w.heap.size 98 2 (.slice oa k oc) k (refV (l.take k)) := (HRow.out.alloc _).drew
      have HRb := Hd hrb
      have HKa := Hd ka
      clear hrb ka
      first | refine wpH_do rfl rfl (fun K hK => ?_) | refine wpH_dow rfl (by rfl) (fun K hK => ?_)
      refine wp_append_at _ _ 34 (by rfl) w.heap.size 98 i0 _ 2 24 Tryz.underlying34 HI.out Hz0.out Hz1.out Hz2.out (by rfl) (by decide) _ _ _ (by rfl) HRb.out ⟨wr.heap.size, 0, none⟩ 1 1 [.string id, .int .i64 ln] (by rfl) (by rfl) (World.news_of_block (cs := #[.string id, .int .i64 ln]) (t := 98) (fr := (0, 0)) (heap_alloc_new wr _)) (by simp [Value.oneCell']) (by unfold maxLen; omega) (by omega) (by have h1 := HB.out.size; show w.heap.size ≤ (wr.alloc _).heap.size; simp; omega) ?_
      intro v8 w8 hown8 hg8 hloc
      obtain ⟨p8, c8, hsl⟩ := slice_formB hown8
      subst hsl
      have kg := HKa.out.trans ((Keep.refl (fun z => (Value.slice oa k oc).ownBlock = some z) _).grown hg8 (fun z _ e => e)) (fun _ _ e => e)
      have HOw := Hd hown8
      have HB8 := Hd (HB.out.trans (kg.below HB.out.size (fun z hz e => by have := (HRow.out.lt z e).1; omega)))
      refine hK _ _ ((HS.out _).2 kg) ?_
      clear hK K hown8 hg8 hloc kg
      refine wpH_nil ?_
      simp only [List.drop_succ_cons, List.drop_zero]
      clear S HS
      go_wp2
      go_roundw
      case rel => exact ⟨k + 1, by omega, by rw [HT2.out], by rw [HTk.out, refV_snoc]; exact HOw.out, HB8.out⟩
      case measure => exact HZ2.out
    · obtain rfl : k = n := by omega
      have hd : l.drop k = [] := by rw [← HN.out, List.drop_length]
      have hwr : wrS (l.drop k) = ⟨#[]⟩ := by rw [hd]; rfl
      rw [hwr]
      have ht : l.take k = l := by rw [← HN.out, List.take_length]
      rw [ht] at HRow
      have HR2 := Hd (HR.out wr w.heap.size _ HRow.out)
      clear hd hwr ht hbel
      go_wp2_with (go_at_call 52; refine (HR2.out).mono ?_; rintro e w5 ⟨rfl, hb5⟩
                   have HB5 := Hd (HB.out.trans (hb5.mono HB.out.size))
                   have HRow5 := Hd ((Keep.still hb5).ownsRow HRow.out (fun _ _ e => e))
                   clear hb5)
      go_ret2
      exact ⟨_, rfl, HRow5.out, HB5.out⟩
end Go.Proofs.YtaokjeokpifjgaaGreatDoor

namespace Go.Proofs.YtaokjeokpifjgaaGreatDoor
open Go.RowKit Go.MapKept
attribute [local go_sem] gives givesH
set_option maxRecDepth 100000

theorem cnt_le_list {f : Nat → Bool} {n : Nat} {L : List Nat} (h : ∀ q, q < n → f q = true → q ∈ L) : cnt f n ≤ L.length := by
  unfold cnt
  have hn : ((List.range n).filter f).Nodup := List.nodup_range.sublist List.filter_sublist
  exact hn.length_le_of_subset (fun q hq => by
    obtain ⟨h1, h2⟩ := List.mem_filter.1 hq
    exact h q (List.mem_range.1 h1) h2)
theorem blobPut_many {w : World} {br : Nat} {R : RoomS} (h : RoomAt w br R) (hlen : R.T.puts.length < 100000000000) (s : ByteArray) (hs : s.size ≤ 131072) (hfree : cnt R.has R.pages + pagesB s.size ≤ R.pages) :
    Calls Tryz.prog 45 #[.pointer (some ⟨br, 0, none⟩), .string s] w fun e w' => ∃ R' ps, e = .returned (.tuple #[.int .i64 (ps.getD 0 0 : Nat), .int .i64 0]) ∧ RoomStep br w R w' R' ∧ Took R R' ps ∧ BlobIn R' s ps ∧ ∃ a, R'.T.puts = R.T.puts ++ a ∧ a.length ≤ 3 * pagesB s.size := by
  have HM := Hd (rmark_any h)
  have HP := Hd (bput_any h hlen s (by omega))
  have HF := Hd hfree
  have e1 : decide ((131072 : Int) < (s.size : Int)) = false := by simp; omega
  clear h hfree
  go_enter Tryz.func45, Tryz.ntmps45
  go_wp2_with (go_at_call 40; refine (HM.out).mono ?_; rintro e w1 ⟨rfl, rfl⟩)
  refine (HP.out).mono ?_
  rintro e w1 (⟨R1, ps, rfl, hst, htook, hb, a, ha, hal⟩ | ⟨R1, rfl, hst, hc, a, ha, hal⟩)
  · have HST := Hd hst
    have HTo := Hd htook
    have HBl := Hd hb
    have HA := Hd ha
    have HAl := Hd hal
    obtain ⟨pk, hpk⟩ : ∃ pk, ps.getD 0 0 = pk := ⟨_, rfl⟩
    have HPk := Hd hpk
    rw [hpk]
    clear hst htook hb ha hal hpk
    go_wp2
    go_ret2
    exact ⟨R1, ps, by rw [HPk.out]; rfl, HST.out, HTo.out, HBl.out, a, HA.out, HAl.out⟩
  · exfalso
    have := HF.out
    omega
theorem StAt.vblob_put {w : World} {sb : Nat} {s : Sto} {D : Dict} {nz : Nat} (h : StAt w sb s D nz) (t : ByteArray) (ht : t.size ≤ 100000) (hn : nz + pagesB t.size ≤ 1900 ∧ 8 * (nz + pagesB t.size) + 300 ≤ s.R.pages) :
    Calls Tryz.prog 45 #[.pointer (some ⟨s.br, 0, none⟩), .string t] w fun e w' => ∃ p ps s', e = .returned (.tuple #[.int .i64 (p : Nat), .int .i64 0]) ∧ XStep w s D sb (nz + pagesB t.size) w' s' ∧ s'.X.kvM = s.X.kvM ∧ s'.X.vb = s.X.vb ++ [(t, ps)] ∧ s'.X.next = s.X.next ∧ ps.getD 0 0 = p ∧ p < 65536 := by
  have hz := h.sized
  have hlen := h.cont.len
  have hcnt := cnt_le_list h.cont.all
  have hpos := pagesB_pos t.size
  refine (blobPut_many h.room (by have := hz.puts; omega) t (by omega) (by have := hz.i; have := hz.l; have := hz.b; omega)).mono ?_
  rintro e w' ⟨R', ps, rfl, hst, htk, hbl, a, a1, a2⟩
  have hc := h.cont.vblob htk hbl h.room.pages_le hst.pages
  have hpl := hbl.len
  have hpg : (⟨s.X.kvM, s.X.psM, s.X.vb ++ [(t, ps)], s.X.next⟩ : Rest).pages = s.X.pages ++ ps := by
    unfold Rest.pages Rest.vp
    rw [List.flatMap_append, ← List.append_assoc]
    simp
  have hvp : (⟨s.X.kvM, s.X.psM, s.X.vb ++ [(t, ps)], s.X.next⟩ : Rest).vp = s.X.vp ++ ps := by
    unfold Rest.vp
    rw [List.flatMap_append]
    simp
  have hs := h.step hst hc (nz' := nz + pagesB t.size) ⟨by have := hz.i; omega, by have := hz.l; omega, by rw [List.length_append]; have := hz.b; omega, by have := hz.m; show s.X.kvM.length ≤ _; omega, by rw [hst.pages]; exact hz.pages, by rw [a1, List.length_append]; have := hz.puts; omega, by rw [zero_root htk.zero]; have := hz.root; omega, by rw [hpg, List.length_append, List.length_append]; have := hz.bx; omega, by rw [hvp, List.length_append]; have := hz.v; omega⟩
  have hp0 : ps.getD 0 0 ∈ ps := getD_mem (by omega)
  exact ⟨_, ps, _, rfl, ⟨hs, hst.vsto _ _ _ _ _ _, rfl⟩, rfl, rfl, rfl, rfl, by have := (htk.new _ hp0).1; have := hz.pages; omega⟩
end Go.Proofs.YtaokjeokpifjgaaGreatDoor

namespace Go.Proofs.YtaokjeokpifjgaaGreatDoor
open Go.RowKit Go.MapKept
attribute [local go_sem] gives givesH
set_option maxRecDepth 100000

theorem results_box1 {P : Program} {fn : Func} {p : Tmp} {ty : TypeId} (h : fn.results = #[.cell p ty]) (tmps : Array Value) (w : World) (g : Nat) (t : TypeId) (cs : Array Value) (fr : Nat × Nat) (d : TypeDesc)
    (hp : tmps.getD p undef = .pointer (some ⟨g, 0, none⟩)) (hg : w.heap[g]? = some (.cells cs t fr))
    (hu : P.underlying ty = some d) (hd : (match d with | .struct _ | .array _ _ => true | _ => false) = true) (hi : (P.info? ty).map (·.size) = some cs.size) :
    (results fn tmps).run P w = .ok (.agg cs) w := by
  have hp' : tmps[p]?.getD undef = .pointer (some ⟨g, 0, none⟩) := by simpa using hp
  have e : (results fn tmps).run P w = ((asAddr (tmps.getD p undef)).run P w).andThen fun a w₁ => (loadVar ty a).run P w₁ := by
    simp [results, h, go_sem]
  rw [e]
  simp [hp', asAddr, run_loadVar_row w g t ty cs fr d hg hu hd hi, Result.andThen]
theorem froz2 {w : World} {b T : Nat} {c0 c1 : Value} (h : w.heap[b]? = some (.cells #[c0, c1] T (0, 0))) : w.frozen? ⟨b, 0, none⟩ = false ∧ w.frozen? ⟨b, 1, none⟩ = false :=
  ⟨by simp [World.frozen?, h], by simp [World.frozen?, h]⟩
theorem flag_any (b : Bool) (w : World) :
    Calls Tryz.prog 91 #[.bool b] w fun e w' => e = .returned (.agg #[.int .u64 (if b then 1 else 0), .string ⟨#[]⟩]) ∧ Below w.heap.size w w' := by
  have hx := heap_alloc_new w (.cells #[.int .u64 0, .string ⟨#[]⟩] 182)
  have d0 : (w.alloc (.cells #[.int .u64 0, .string ⟨#[]⟩] 182)).cell? ⟨w.heap.size, 0, none⟩ = some (.int .u64 0) := Lib.cell_of_heap hx 0
  have d1 : (w.alloc (.cells #[.int .u64 0, .string ⟨#[]⟩] 182)).cell? ⟨w.heap.size, 1, none⟩ = some (.string ⟨#[]⟩) := Lib.cell_of_heap hx 1
  obtain ⟨y0, y1⟩ := froz2 hx
  clear hx
  cases b with
  | true =>
    go_enter Tryz.func91, Tryz.ntmps91
    go_wp2
    refine bodyPost_ret (results_box1 rfl _ _ w.heap.size _ _ _ _ rfl (heap_alloc_new w _) Tryz.underlying182 rfl (by kernel_rfl)) rfl ?_
    exact ⟨rfl, (Below.refl _ _).alloc (Nat.le_refl _) _⟩
  | false =>
    go_enter Tryz.func91, Tryz.ntmps91
    go_wp2
    refine bodyPost_ret (results_box1 rfl _ _ w.heap.size _ _ _ _ rfl (heap_alloc_new w _) Tryz.underlying182 rfl (by kernel_rfl)) rfl ?_
    exact ⟨rfl, (Below.refl _ _).alloc (Nat.le_refl _) _⟩
section
variable {w : World} {sb : Nat} {s : Sto} {D : Dict} {nz : Nat}
theorem XStep.after {w0 : World} {w' : World} {s' : Sto} {nz' : Nat} (hb : Below w0.heap.size w0 w) (h : XStep w s D sb nz' w' s') : XStep w0 s D sb nz' w' s' := ⟨h.st, (VStep.still hb).trans h.step, h.kv⟩
set_option maxHeartbeats 2000000 in
theorem bkeep_st (h : StAt w sb s D nz) (hn : nz ≤ 1900 ∧ 8 * nz + 300 ≤ s.R.pages) {name : ByteArray} (hk : bucketOk name = true) {st born : Nat} (h1 : st < 256) (h2 : born < 18446744073709551616) :
    Calls Tryz.prog 33 #[.pointer (some ⟨s.br, 0, none⟩), .agg (bkC name st born)] w fun e w' => e = .returned (.int .i64 0) ∧ ∃ s', XStep w s D sb (nz + 1) w' s' ∧ s'.X.kvM = ins s.X.kvM (bucketKey name) (bucketT st born) ∧ s'.X.vb = s.X.vb ∧ s'.X.next = s.X.next := by
  have hks := bucketKey_size name
  have hns := (bucketOk_zero hk).2
  unfold bkC
  have hb0 : Below w.heap.size w (w.alloc (.cells #[.string name, .int .i64 st, .int .u64 born, .bool false, .string ⟨#[]⟩, .int .u64 0] 89)) := (Below.refl _ _).alloc (Nat.le_refl _) _
  have hx0 := heap_alloc_new w (.cells #[.string name, .int .i64 st, .int .u64 born, .bool false, .string ⟨#[]⟩, .int .u64 0] 89)
  have HB0 := Hd hb0
  have HX0 := Hd hx0
  have HFl := Hd (fun u => flag_any false u)
  have HWr := Hd (fun (u : World) fb c hfs => pwrite_any (fields_bkt h1 h2) right_bkt (w := u) (fb := fb) (c := c) hfs)
  have hv : packed bktK [(st, eS), (born, eS), (0, eS), (0, eS), (0, eS)] = bucketT st born := rfl
  rw [hv] at HWr
  have HK := Hd (bucketKey_any name hk)
  have HM := Hd (bmeta_any s.br)
  have HP := Hd (fun (u : World) tb (hu : StAt u sb s D nz) (ht : TreeAt u tb s.br 4) (hf : ¬ s.foot tb) => hu.meta_put hn ht hf (key := bucketKey name) (val := bucketT st born) (by omega) (by rw [bucketT_size]; decide))
  have HSt := Hd h
  have HAh := Hd h.ahead
  have p1 : IntKind.u64.wrap (st : Int) = (st : Int) := by rw [IntKind.wrap_u64]; omega
  have HH := Hd (And.intro h1 h2)
  clear h hb0 hx0 hv hks hns hk
  obtain ⟨bk, hbk⟩ : ∃ bk, bucketKey name = bk := ⟨_, rfl⟩
  obtain ⟨bt, hbt⟩ : ∃ bt, bucketT st born = bt := ⟨_, rfl⟩
  rw [hbk] at HK HP ⊢
  rw [hbt] at HWr HP ⊢
  clear hbk hbt
  go_enter Tryz.func33, Tryz.ntmps33
  go_wp2_with (fail)
  obtain ⟨wx, hwx⟩ : ∃ wx, w.alloc (.cells #[.string name, .int .i64 st, .int .u64 born, .bool false, .string ⟨#[]⟩, .int .u64 0] 89) = wx := ⟨_, rfl⟩
  rw [hwx] at HB0 HX0 ⊢
  clear hwx
  obtain ⟨xb, hxb⟩ : ∃ xb, w.heap.size = xb := ⟨_, rfl⟩
  have HXb := Hd hxb
  rw [hxb] at HX0 ⊢
  clear hxb
  have HXl := Hd (show xb < wx.heap.size from (Gl HX0.out))
  obtain ⟨S, hS⟩ : ∃ S : World → Prop, ∀ u, S u ↔ Keep (fun _ => False) (wx) u := ⟨fun u => Keep (fun _ => False) (wx) u, fun _ => Iff.rfl⟩
  have HS := Hd hS
  clear hS
  refine wp_region_whole 26 [(0, true), (1, true), (2, true), (3, true), (4, true), (5, true), (6, true), (7, true), (8, true), (9, true), (11, true), (12, true), (13, true), (14, true), (15, true), (16, true), (17, true), (18, true), (10, false), (19, false), (20, false), (21, true), (22, true), (23, true), (24, true), (25, true)] S (by kernel_rfl) (by kernel_rfl) ((HS.out _).2 (Keep.refl _ _).drew) ?_
  iterate 18
    first
      | (refine wpH_passed rfl (by rfl) (fun K hK => ?_); go_simp; refine hK _ ?_; clear hK K)
      | (first
           | refine wpH_read rfl rfl (fun K hK => ?_)
           | refine wpH_readw rfl (by rfl) (fun K hK => ?_)
         apply Exists.intro
         refine ⟨fun u hu => ?_, ?_⟩
         · have hu := (HS.out u).1 hu
           obtain ⟨⟨d0, d1, d2, d3, d4, d5⟩, -⟩ := box6 (hu.at HX0.out (fun e => e))
           clear hu
           go_simp
           exact ⟨rfl, rfl⟩
         go_simp
         refine hK _ ?_
         clear hK K)
  first | refine wpH_do rfl rfl (fun K hK => ?_) | refine wpH_dow rfl (by rfl) (fun K hK => ?_)
  go_simp
  go_at_call 91
  refine (HFl.out _).mono ?_
  rintro e w2 ⟨rfl, hb2⟩
  have hb2' : Below wx.heap.size wx w2 := ⟨hb2.os, hb2.tape, hb2.output, hb2.size, hb2.block⟩
  have HB2 := Hd hb2'
  refine hK _ _ ((HS.out _).2 (Keep.ofBelow hb2')) ?_
  clear hK K hb2 hb2'
  first | refine wpH_do rfl rfl (fun K hK => ?_) | refine wpH_dow rfl (by rfl) (fun K hK => ?_)
  go_simp
  have hx3 := heap_alloc_new w2 (.cells #[.int .u64 st, .string ⟨#[]⟩, .int .u64 born, .string ⟨#[]⟩, .int .u64 0, .string ⟨#[]⟩, .int .u64 0, .string ⟨#[]⟩, .int .u64 0, .string ⟨#[]⟩] 182)
  obtain ⟨w3, hw3⟩ : ∃ w3, w2.alloc (.cells #[.int .u64 st, .string ⟨#[]⟩, .int .u64 born, .string ⟨#[]⟩, .int .u64 0, .string ⟨#[]⟩, .int .u64 0, .string ⟨#[]⟩, .int .u64 0, .string ⟨#[]⟩] 182) = w3 := ⟨_, rfl⟩
  have hb3 : Below wx.heap.size wx w3 := by rw [← hw3]; exact HB2.out.alloc HB2.out.size _
  rw [hw3] at hx3 ⊢
  have HX3 := Hd hx3
  have HB3 := Hd hb3
  have HW3 := Hd (show Calls Tryz.prog 90 #[.string ⟨#[98, 110, 98, 110, 116]⟩, .slice (some ⟨w2.heap.size, 0, none⟩) 5 5] w3 fun e w' => e = .returned (.tuple #[.string bt, .bool true]) ∧ Below w3.heap.size w3 w' from HWr.out w3 w2.heap.size 5 ⟨(Gl hx3), fun j hj => by
    match j, hj with
    | 0, _ => exact ⟨Lib.cell_of_heap hx3 0, Lib.cell_of_heap hx3 1⟩
    | 1, _ => exact ⟨Lib.cell_of_heap hx3 2, Lib.cell_of_heap hx3 3⟩
    | 2, _ => exact ⟨Lib.cell_of_heap hx3 4, Lib.cell_of_heap hx3 5⟩
    | 3, _ => exact ⟨Lib.cell_of_heap hx3 6, Lib.cell_of_heap hx3 7⟩
    | 4, _ => exact ⟨Lib.cell_of_heap hx3 8, Lib.cell_of_heap hx3 9⟩⟩)
  refine hK _ _ ((HS.out _).2 (Keep.ofBelow hb3)) ?_
  clear hK K hx3 hb3 hw3
  first | refine wpH_do rfl rfl (fun K hK => ?_) | refine wpH_dow rfl (by rfl) (fun K hK => ?_)
  go_simp
  go_at_call 90
  refine (HW3.out).mono ?_
  rintro e w4 ⟨rfl, hb4⟩
  have hb4' := HB3.out.trans (hb4.mono HB3.out.size)
  have HB4 := Hd hb4'
  refine hK _ _ ((HS.out _).2 (Keep.ofBelow hb4')) ?_
  clear hK K hb4 hb4'
  iterate 5
    first
      | (refine wpH_passed rfl (by rfl) (fun K hK => ?_); go_simp; refine hK _ ?_; clear hK K)
      | (first
           | refine wpH_read rfl rfl (fun K hK => ?_)
           | refine wpH_readw rfl (by rfl) (fun K hK => ?_)
         apply Exists.intro
         refine ⟨fun u hu => ?_, ?_⟩
         · have hu := (HS.out u).1 hu
           obtain ⟨⟨d0, d1, d2, d3, d4, d5⟩, -⟩ := box6 (hu.at HX0.out (fun e => e))
           clear hu
           go_simp
           exact ⟨rfl, rfl⟩
         go_simp
         refine hK _ ?_
         clear hK K)
  refine wpH_nil ?_
  simp only [List.drop_succ_cons, List.drop_zero]
  clear S HS
  have HB5 := Hd (HB0.out.trans (HB4.out.mono HB0.out.size))
  have HX5 := Hd ((HB4.out.block xb HXl.out).trans HX0.out)
  have hnx : ¬ s.foot xb := fun e => by have := HAh.out.2.2.2 _ e; have := HXb.out; omega
  have HNx := Hd hnx
  have HXl5 := Hd (show xb < w4.heap.size from (Gl HX5.out))
  clear hnx
  go_wp2_with (fail)
  obtain ⟨S, hS⟩ : ∃ S : World → Prop, ∀ u, S u ↔ Keep (fun g => s.foot g) (w4) u := ⟨fun u => Keep (fun g => s.foot g) (w4) u, fun _ => Iff.rfl⟩
  have HS := Hd hS
  clear hS
  refine wp_region_whole 8 [(0, true), (2, true), (3, true), (5, true), (1, false), (4, false), (6, false), (7, true)] S (by kernel_rfl) (by kernel_rfl) ((HS.out _).2 (Keep.refl _ _).drew) ?_
  iterate 4
    first
      | (refine wpH_passed rfl (by rfl) (fun K hK => ?_); go_simp; refine hK _ ?_; clear hK K)
      | (first
           | refine wpH_read rfl rfl (fun K hK => ?_)
           | refine wpH_readw rfl (by rfl) (fun K hK => ?_)
         apply Exists.intro
         refine ⟨fun u hu => ?_, ?_⟩
         · have hu := (HS.out u).1 hu
           obtain ⟨⟨d0, -⟩, -⟩ := box6 (hu.at HX5.out HNx.out)
           clear hu
           go_simp
           exact ⟨rfl, rfl⟩
         go_simp
         refine hK _ ?_
         clear hK K)
  first | refine wpH_do rfl rfl (fun K hK => ?_) | refine wpH_dow rfl (by rfl) (fun K hK => ?_)
  go_simp
  go_at_call 86
  refine (HM.out _).mono ?_
  rintro e w6 ⟨rfl, hw6⟩
  have hb6 : Below w4.heap.size w4 w6 := by rw [hw6]; exact (Below.refl w4.heap.size w4.drew |>.alloc (Nat.le_refl _) _) |> fun h => ⟨h.os, h.tape, h.output, h.size, h.block⟩
  have HT6 := Hd (show w6.heap[w4.heap.size]? = some (.cells #[.pointer (some ⟨s.br, 0, none⟩), .int .i64 4] 242 (0, 0)) by rw [hw6]; exact heap_alloc_new w4.drew _)
  have HB6 := Hd hb6
  refine hK _ _ ((HS.out _).2 (Keep.ofBelow hb6)) ?_
  clear hK K hw6 hb6
  first | refine wpH_do rfl rfl (fun K hK => ?_) | refine wpH_dow rfl (by rfl) (fun K hK => ?_)
  go_simp
  go_at_call 88
  refine (HK.out _).mono ?_
  rintro e w7 ⟨rfl, hb7⟩
  have hb7' := HB6.out.trans (hb7.mono HB6.out.size)
  have HT7 := Hd ((hb7.block w4.heap.size (Gl HT6.out)).trans HT6.out)
  have HB7 := Hd hb7'
  refine hK _ _ ((HS.out _).2 (Keep.ofBelow hb7')) ?_
  clear hK K hb7 hb7'
  first | refine wpH_do rfl rfl (fun K hK => ?_) | refine wpH_dow rfl (by rfl) (fun K hK => ?_)
  go_simp
  go_at_call 92
  have hb8 := HB5.out.trans (HB7.out.mono HB5.out.size)
  have HB8 := Hd hb8
  refine (HP.out w7 w4.heap.size (HSt.out.still hb8) ⟨HT7.out⟩ (fun e => by have := HAh.out.2.2.2 _ e; have := HB5.out.size; omega)).mono ?_
  rintro e w8 ⟨rfl, s', hx, hk1, hk2, hk3⟩
  have HX8 := Hd (hx.after hb8)
  have HK8 := Hd (And.intro hk1 (And.intro hk2 hk3))
  refine hK _ _ ((HS.out _).2 ((Keep.ofBelow HB7.out).trans hx.step.keep (fun _ _ e => e))) ?_
  clear hK K hb8 hx hk1 hk2 hk3
  iterate 1
    first
      | (refine wpH_passed rfl (by rfl) (fun K hK => ?_); go_simp; refine hK _ ?_; clear hK K)
      | (first
           | refine wpH_read rfl rfl (fun K hK => ?_)
           | refine wpH_readw rfl (by rfl) (fun K hK => ?_)
         apply Exists.intro
         refine ⟨fun u hu => ?_, ?_⟩
         · have hu := (HS.out u).1 hu
           obtain ⟨⟨d0, -⟩, -⟩ := box6 (hu.at HX5.out HNx.out)
           clear hu
           go_simp
           exact ⟨rfl, rfl⟩
         go_simp
         refine hK _ ?_
         clear hK K)
  refine wpH_nil ?_
  simp only [List.drop_succ_cons, List.drop_zero]
  clear S HS
  go_wp2
  go_ret
  exact ⟨rfl, s', HX8.out, HK8.out⟩
end
end Go.Proofs.YtaokjeokpifjgaaGreatDoor

namespace Go.Proofs.YtaokjeokpifjgaaGreatDoor
open Go.RowKit Go.MapKept
attribute [local go_sem] gives givesH
set_option maxRecDepth 100000

section
variable {w : World} {sb : Nat} {s : Sto} {D : Dict} {nz : Nat} {name : ByteArray}
theorem StAt.bfind_none (h : StAt w sb s D nz) (hn : nz ≤ 1900) (hk : bucketOk name = true) (hl : look s.X.kvM (bucketKey name) = none) :
    Calls Tryz.prog 32 #[.pointer (some ⟨s.br, 0, none⟩), .string name] w fun e w' => e = .returned (.tuple #[.agg bkZ, .int .i64 20]) ∧ Below w.heap.size w w' :=
  Go.Proofs.YtaokjeokpifjgaaGreatDoor.bfind_none h.room h.sized.pages h.cont.out.tm (by have := h.sized.m; omega) hk hl
theorem StAt.bfind_some (h : StAt w sb s D nz) (hn : nz ≤ 1900) (hk : bucketOk name = true) {st born : Nat} (hl : look s.X.kvM (bucketKey name) = some (bucketT st born)) (h1 : st < 256) (h2 : born < 18446744073709551616) :
    Calls Tryz.prog 32 #[.pointer (some ⟨s.br, 0, none⟩), .string name] w fun e w' => e = .returned (.tuple #[.agg (bkC name st born), .int .i64 0]) ∧ Below w.heap.size w w' :=
  Go.Proofs.YtaokjeokpifjgaaGreatDoor.bfind_some h.room h.sized.pages h.cont.out.tm (by have := h.sized.m; omega) hk hl h1 h2
set_option maxHeartbeats 1000000 in
theorem bmake_st (h : StAt w sb s D nz) (hn : nz ≤ 1900 ∧ 8 * nz + 300 ≤ s.R.pages) (hk : bucketOk name = true) (hl : look s.X.kvM (bucketKey name) = none) {now : Nat} (h2 : now < 18446744073709551616) :
    Calls Tryz.prog 10 #[.pointer (some ⟨s.br, 0, none⟩), .string name, .int .u64 now] w fun e w' => e = .returned (.int .i64 0) ∧ ∃ s', XStep w s D sb (nz + 1) w' s' ∧ s'.X.kvM = ins s.X.kvM (bucketKey name) (bucketT 0 now) ∧ s'.X.vb = s.X.vb ∧ s'.X.next = s.X.next := by
  have HF := Hd (h.bfind_none (by omega) hk hl)
  have HK := Hd (fun (u : World) (hb : Below w.heap.size w u) => show Calls Tryz.prog 33 #[.pointer (some ⟨s.br, 0, none⟩), .agg #[.string name, .int .i64 0, .int .u64 now, .bool false, .string ⟨#[]⟩, .int .u64 0]] u _ from bkeep_st (h.still hb) hn hk (st := 0) (by decide) h2)
  unfold bkZ at HF
  generalize ins s.X.kvM (bucketKey name) (bucketT 0 now) = kv' at *
  clear h hk hl
  go_enter Tryz.func10, Tryz.ntmps10
  go_wp2_with (first
    | (go_at_call 32; refine (HF.out).mono ?_; rintro e w1 ⟨rfl, hb1⟩
       have HB1 := Hd (hb1.alloc hb1.size (.cells #[.string ⟨#[]⟩, .int .i64 0, .int .u64 0, .bool false, .string ⟨#[]⟩, .int .u64 0] 89))
       clear hb1)
    | (go_at_call 33; refine (HK.out _ HB1.out).mono ?_; rintro e w2 ⟨rfl, s', hx, hk'⟩
       have HX := Hd (hx.after HB1.out)
       have HKv := Hd hk'
       clear hx hk'))
  go_ret
  exact ⟨rfl, s', HX.out, HKv.out⟩
set_option maxHeartbeats 1000000 in
theorem bstate_st (h : StAt w sb s D nz) (hn : nz ≤ 1900 ∧ 8 * nz + 300 ≤ s.R.pages) (hk : bucketOk name = true) {st born : Nat} (hl : look s.X.kvM (bucketKey name) = some (bucketT st born)) (h1 : st < 256) (h2 : born < 18446744073709551616) :
    Calls Tryz.prog 11 #[.pointer (some ⟨s.br, 0, none⟩), .string name, .int .i64 1] w fun e w' => e = .returned (.int .i64 0) ∧ ∃ s', XStep w s D sb (nz + 1) w' s' ∧ s'.X.kvM = ins s.X.kvM (bucketKey name) (bucketT 1 born) ∧ s'.X.vb = s.X.vb ∧ s'.X.next = s.X.next := by
  have HF := Hd (h.bfind_some (by omega) hk hl h1 h2)
  have HK := Hd (fun (u : World) (hb : Below w.heap.size w u) => show Calls Tryz.prog 33 #[.pointer (some ⟨s.br, 0, none⟩), .agg #[.string name, .int .i64 1, .int .u64 born, .bool false, .string ⟨#[]⟩, .int .u64 0]] u _ from bkeep_st (h.still hb) hn hk (st := 1) (by decide) h2)
  unfold bkC at HF
  generalize ins s.X.kvM (bucketKey name) (bucketT 1 born) = kv' at *
  clear h hk hl
  go_enter Tryz.func11, Tryz.ntmps11
  go_wp2_with (first
    | (go_at_call 32; refine (HF.out).mono ?_; rintro e w1 ⟨rfl, hb1⟩
       have HB1 := Hd (hb1.alloc hb1.size (.cells #[.string name, .int .i64 1, .int .u64 born, .bool false, .string ⟨#[]⟩, .int .u64 0] 89))
       clear hb1)
    | (go_at_call 33; refine (HK.out _ HB1.out).mono ?_; rintro e w2 ⟨rfl, s', hx, hk'⟩
       have HX := Hd (hx.after HB1.out)
       have HKv := Hd hk'
       clear hx hk'))
  go_ret
  exact ⟨rfl, s', HX.out, HKv.out⟩
set_option maxHeartbeats 1000000 in
theorem there_ok (h : StAt w sb s D nz) (hn : nz ≤ 1900) (hk : bucketOk name = true) {st born : Nat} (hl : look s.X.kvM (bucketKey name) = some (bucketT st born)) (h1 : st < 256) (h2 : born < 18446744073709551616) {item : ByteArray} (hi : itemOk item = true) :
    Calls Tryz.prog 41 #[.pointer (some ⟨s.br, 0, none⟩), .string name, .string item] w fun e w' => e = .returned (.tuple #[.agg (bkC name st born), .int .i64 0]) ∧ Below w.heap.size w w' := by
  unfold bkC
  have hb0 : Below w.heap.size w (w.alloc (.cells #[.string ⟨#[]⟩, .int .i64 0, .int .u64 0, .bool false, .string ⟨#[]⟩, .int .u64 0] 89)) := (Below.refl _ _).alloc (Nat.le_refl _) _
  have hx0 := heap_alloc_new w (.cells #[.string ⟨#[]⟩, .int .i64 0, .int .u64 0, .bool false, .string ⟨#[]⟩, .int .u64 0] 89)
  have HF := Hd ((h.still hb0).bfind_some hn hk hl h1 h2)
  unfold bkC at HF
  have HIt := Hd (item_any item)
  rw [hi] at HIt
  have HB0 := Hd hb0
  have HX0 := Hd hx0
  clear h hk hl hb0 hx0
  go_enter Tryz.func41, Tryz.ntmps41
  go_wp2_with (first
    | (go_at_call 32; refine (HF.out).mono ?_; rintro e w1 ⟨rfl, hb1⟩
       have hx1 := (hb1.block w.heap.size (by simp)).trans HX0.out
       have hb1' := HB0.out.trans (hb1.mono HB0.out.size)
       have hb2 : Below w1.heap.size w1 (w1.alloc (.cells #[.string name, .int .i64 st, .int .u64 born, .bool false, .string ⟨#[]⟩, .int .u64 0] 89)) := (Below.refl _ _).alloc (Nat.le_refl _) _
       have hx2 := (hb2.block w.heap.size (Gl hx1)).trans hx1
       have hx3 := heap_alloc_new w1 (.cells #[.string name, .int .i64 st, .int .u64 born, .bool false, .string ⟨#[]⟩, .int .u64 0] 89)
       have HX2 := Hd hx2
       have HX3 := Hd hx3
       have HB2 := Hd (hb1'.trans (hb2.mono hb1'.size))
       clear hb1 hx1 hb1' hb2 hx2 hx3)
    | (go_at_call 101; refine (HIt.out _).mono ?_; rintro e w3 ⟨rfl, rfl⟩
       obtain ⟨⟨d0, d1, d2, d3, d4, d5⟩, y0, y1, y2, y3, y4, y5⟩ := box6 HX2.out
       obtain ⟨⟨e0, e1, e2, e3, e4, e5⟩, -⟩ := box6 HX3.out))
  refine bodyPost_ret (results_box2 rfl _ _ w.heap.size _ _ _ _ rfl (set6_heap HX2.out _ _ _ _ _ _) Tryz.underlying89 rfl (by kernel_rfl)) rfl ?_
  exact ⟨rfl, set6_below HB2.out (Nat.le_refl _) _ _ _ _ _ _⟩
theorem number_st (h : StAt w sb s D nz) (hn : nz ≤ 1900) (hx : s.X.next + 1 < 18446744073709551616) :
    Calls Tryz.prog 105 #[.pointer (some ⟨s.br, 0, none⟩)] w fun e w' => e = .returned (.tuple #[.int .u64 (s.X.next + 1 : Nat), .int .i64 0]) ∧ ∃ s', XStep w s D sb (nz + 1) w' s' ∧ s'.X.kvM = s.X.kvM ∧ s'.X.vb = s.X.vb ∧ s'.X.next = s.X.next + 1 := by
  have HG := Hd h.number_get
  have HP := Hd (fun (u : World) (hb : Below w.heap.size w u) => (h.still hb).number_put hn (s.X.next + 1) hx)
  obtain ⟨x, hx0⟩ : ∃ x, s.X.next = x := ⟨_, rfl⟩
  rw [hx0] at HG HP hx ⊢
  obtain ⟨y, hy⟩ : ∃ y, x + 1 = y := ⟨_, rfl⟩
  rw [hy] at HP hx ⊢
  have e1 : IntKind.u64.wrap ((x : Int) + 1) = (y : Int) := by rw [IntKind.wrap_u64]; omega
  have e2 : ((x : Int) + 1) % 18446744073709551616 = (y : Int) := by omega
  clear h hx0 hy
  go_enter Tryz.func105, Tryz.ntmps105
  go_wp2_with (first
    | (go_at_call 165; refine (HG.out).mono ?_; rintro e w1 ⟨rfl, hb1⟩
       have HB1 := Hd hb1
       clear hb1)
    | (go_at_call 166; refine (HP.out _ HB1.out).mono ?_; rintro e w2 ⟨rfl, s', hx2, hk'⟩
       have HX := Hd (hx2.after HB1.out)
       have HKv := Hd hk'
       clear hx2 hk'))
  go_ret2
  exact ⟨rfl, s', HX.out, HKv.out⟩
end
end Go.Proofs.YtaokjeokpifjgaaGreatDoor

namespace Go.Proofs.YtaokjeokpifjgaaGreatDoor
open Go.RowKit Go.MapKept
attribute [local go_sem] gives givesH
set_option maxRecDepth 100000

def versionKey (b item : ByteArray) (id : Nat) : ByteArray := underS 118 [b, item] ++ fallsS id
theorem under2_size (k : UInt8) (b item : ByteArray) : (underS k [b, item]).size = b.size + item.size + 3 := by
  rw [underS_size]
  unfold underL
  simp
  omega
theorem versionKey_size (b item : ByteArray) (id : Nat) : (versionKey b item id).size = b.size + item.size + 11 := by
  unfold versionKey
  rw [ByteArray.size_append, under2_size, fallsS_size]
theorem under2_any (b item : ByteArray) (hb : noZero b = true ∧ b.size ≤ 1000) (hi : noZero item = true ∧ item.size ≤ 1000) (k : UInt8) (u : World) :
    Calls Tryz.prog 107 #[.int .u8 k.toNat, .slice (some ⟨u.heap.size, 0, none⟩) 2 2] (u.alloc (.cells #[.string b, .string item] 9)) fun e w' => e = .returned (.string (underS k [b, item])) ∧ Below (u.alloc (.cells #[.string b, .string item] 9)).heap.size (u.alloc (.cells #[.string b, .string item] 9)) w' :=
  under_any (w := u.alloc (.cells #[.string b, .string item] 9)) (b := u.heap.size) (c := 2) (ps := [b, item]) (n := 2) rfl (fun j hj => by
      match j, hj with
      | 0, _ => exact Lib.cell_of_heap (heap_alloc_new u _) 0
      | 1, _ => exact Lib.cell_of_heap (heap_alloc_new u _) 1) (by simp) (fun p hp => by
      rcases List.mem_cons.1 hp with e | e
      · rw [e]; exact hb
      · rw [List.mem_singleton.1 e]; exact hi) (by omega) k
theorem versionKey_any (b item : ByteArray) (hb : bucketOk b = true) (hi : itemOk item = true) (id : Nat) (hid : id < 18446744073709551616) (w : World) :
    Calls Tryz.prog 112 #[.string b, .string item, .int .u64 id] w fun e w' => e = .returned (.string (versionKey b item id)) ∧ Below w.heap.size w w' := by
  obtain ⟨b0, b1⟩ := bucketOk_zero hb
  obtain ⟨i0, i1⟩ := itemOk_zero hi
  have HB := Hd (bucket_any b)
  have HI := Hd (item_any item)
  rw [hb] at HB
  rw [hi] at HI
  have HU := Hd (fun (u : World) => show Calls Tryz.prog 107 #[.int .u8 118, .slice (some ⟨u.heap.size, 0, none⟩) 2 2] (u.alloc (.cells #[.string b, .string item] 9)) _ from under2_any b item ⟨b0, by omega⟩ ⟨i0, by omega⟩ 118 u)
  have HF := Hd (falls_any id hid)
  have hcat := fun u => run_string_add_sum (P := Tryz.prog) u (underS 118 [b, item]) (fallsS id) (by rw [under2_size, fallsS_size]; omega)
  have HC := Hd hcat
  unfold versionKey
  generalize underS 118 [b, item] = k at *
  generalize fallsS id = f at *
  clear hb hi b0 b1 i0 i1
  go_enter Tryz.func112, Tryz.ntmps112
  go_wp2_with (first
    | (go_at_call 85; refine (HB.out _).mono ?_; rintro e w1 ⟨rfl, hb1⟩
       have HB1 := Hd hb1
       clear hb1)
    | (go_at_call 101; refine (HI.out _).mono ?_; rintro e w2 ⟨rfl, rfl⟩)
    | (go_at_call 107; refine (HU.out _).mono ?_; rintro e w3 ⟨rfl, hb3⟩
       have HB3 := Hd (HB1.out.trans ((((Below.refl _ _).alloc (Nat.le_refl _) _).trans (hb3.mono (by simp))).mono HB1.out.size))
       clear hb3)
    | (go_at_call 178; refine (HF.out _).mono ?_; rintro e w4 ⟨rfl, hb4⟩
       have HB4 := Hd (HB3.out.trans (hb4.mono HB3.out.size))
       clear hb4))
  go_ret
  exact ⟨rfl, HB4.out⟩
def vrsK : ByteArray := ⟨#[98, 110, 104, 104]⟩
def verT (how born size page : Nat) : ByteArray := packed vrsK [(how, eS), (born, eS), (size, eS), (page, eS)]
theorem fields_vrs {how born size page : Nat} (h1 : how < 256) (h2 : born < 18446744073709551616) (h3 : size < 4294967296) (h4 : page < 4294967296) : Fields vrsK [(how, eS), (born, eS), (size, eS), (page, eS)] := by
  refine ⟨rfl, by show 4 ≤ 64; decide, fun i hi => ?_, fun i hi => ?_⟩
  · match i, hi with
    | 0, _ => exact .inl ⟨by decide, rfl, h1⟩
    | 1, _ => exact .inl ⟨by decide, rfl, h2⟩
    | 2, _ => exact .inl ⟨by decide, rfl, h3⟩
    | 3, _ => exact .inl ⟨by decide, rfl, h4⟩
  · match i, hi with
    | 0, _ => intro e; exact absurd e (by decide)
    | 1, _ => intro e; exact absurd e (by decide)
    | 2, _ => intro e; exact absurd e (by decide)
    | 3, _ => intro e; exact absurd e (by decide)
theorem right_vrs (w : World) : Calls Tryz.prog 150 #[.string vrsK] w fun e w' => e = .returned (.bool true) ∧ Below w.heap.size w w' := right_any vrsK vrsK (by decide) (by decide) (by decide) (by decide) w
set_option maxHeartbeats 1000000 in
theorem verT_size (how born size page : Nat) : (verT how born size page).size = 17 := by
  show (packN vrsK _ 4).toArray.size = 17
  rw [List.size_toArray, packN_succ, packN_succ, packN_succ, packN_succ, packN_zero, List.nil_append, List.length_append, List.length_append, List.length_append]
  show (beW 1 how 1).length + (beW 8 born 8).length + (beW 4 size 4).length + (beW 4 page 4).length = 17
  rw [beW_length, beW_length, beW_length, beW_length]
def vC (b item : ByteArray) (id : Nat) (pl mk : Bool) (born size page : Nat) : Array Value := #[.string b, .string item, .int .u64 id, .bool pl, .bool mk, .int .u64 born, .int .i64 size, .int .i64 page]
def vZ : Array Value := #[.string ⟨#[]⟩, .string ⟨#[]⟩, .int .u64 0, .bool false, .bool false, .int .u64 0, .int .i64 0, .int .i64 0]
def howN (pl mk : Bool) : Nat := (if pl then 1 else 0) + (if mk then 2 else 0)
theorem box8 {w : World} {b T : Nat} {c0 c1 c2 c3 c4 c5 c6 c7 : Value} (h : w.heap[b]? = some (.cells #[c0, c1, c2, c3, c4, c5, c6, c7] T (0, 0))) :
    (w.cell? ⟨b, 0, none⟩ = some c0 ∧ w.cell? ⟨b, 1, none⟩ = some c1 ∧ w.cell? ⟨b, 2, none⟩ = some c2 ∧ w.cell? ⟨b, 3, none⟩ = some c3 ∧ w.cell? ⟨b, 4, none⟩ = some c4 ∧ w.cell? ⟨b, 5, none⟩ = some c5 ∧ w.cell? ⟨b, 6, none⟩ = some c6 ∧ w.cell? ⟨b, 7, none⟩ = some c7) ∧
    (w.frozen? ⟨b, 0, none⟩ = false ∧ w.frozen? ⟨b, 1, none⟩ = false ∧ w.frozen? ⟨b, 2, none⟩ = false ∧ w.frozen? ⟨b, 3, none⟩ = false ∧ w.frozen? ⟨b, 4, none⟩ = false ∧ w.frozen? ⟨b, 5, none⟩ = false ∧ w.frozen? ⟨b, 6, none⟩ = false ∧ w.frozen? ⟨b, 7, none⟩ = false) :=
  ⟨⟨Lib.cell_of_heap h 0, Lib.cell_of_heap h 1, Lib.cell_of_heap h 2, Lib.cell_of_heap h 3, Lib.cell_of_heap h 4, Lib.cell_of_heap h 5, Lib.cell_of_heap h 6, Lib.cell_of_heap h 7⟩,
   by simp [World.frozen?, h], by simp [World.frozen?, h], by simp [World.frozen?, h], by simp [World.frozen?, h], by simp [World.frozen?, h], by simp [World.frozen?, h], by simp [World.frozen?, h], by simp [World.frozen?, h]⟩
def set8 (w : World) (b : Nat) (c0 c1 c2 c3 c4 c5 c6 c7 : Value) : World := (((((((w.setCell ⟨b, 0, none⟩ c0).setCell ⟨b, 1, none⟩ c1).setCell ⟨b, 2, none⟩ c2).setCell ⟨b, 3, none⟩ c3).setCell ⟨b, 4, none⟩ c4).setCell ⟨b, 5, none⟩ c5).setCell ⟨b, 6, none⟩ c6).setCell ⟨b, 7, none⟩ c7
theorem set8_heap {w : World} {b T : Nat} {a0 a1 a2 a3 a4 a5 a6 a7 : Value} (h : w.heap[b]? = some (.cells #[a0, a1, a2, a3, a4, a5, a6, a7] T (0, 0))) (c0 c1 c2 c3 c4 c5 c6 c7 : Value) : (set8 w b c0 c1 c2 c3 c4 c5 c6 c7).heap[b]? = some (.cells #[c0, c1, c2, c3, c4, c5, c6, c7] T (0, 0)) := by
  have h0 : (w.setCell ⟨b, 0, none⟩ c0).heap[b]? = some (.cells #[c0, a1, a2, a3, a4, a5, a6, a7] T (0, 0)) := heap_setCell_same _ b 0 _ _ c0 h
  have h1 : ((w.setCell ⟨b, 0, none⟩ c0).setCell ⟨b, 1, none⟩ c1).heap[b]? = some (.cells #[c0, c1, a2, a3, a4, a5, a6, a7] T (0, 0)) := heap_setCell_same _ b 1 _ _ c1 h0
  have h2 : (((w.setCell ⟨b, 0, none⟩ c0).setCell ⟨b, 1, none⟩ c1).setCell ⟨b, 2, none⟩ c2).heap[b]? = some (.cells #[c0, c1, c2, a3, a4, a5, a6, a7] T (0, 0)) := heap_setCell_same _ b 2 _ _ c2 h1
  have h3 : ((((w.setCell ⟨b, 0, none⟩ c0).setCell ⟨b, 1, none⟩ c1).setCell ⟨b, 2, none⟩ c2).setCell ⟨b, 3, none⟩ c3).heap[b]? = some (.cells #[c0, c1, c2, c3, a4, a5, a6, a7] T (0, 0)) := heap_setCell_same _ b 3 _ _ c3 h2
  have h4 : (((((w.setCell ⟨b, 0, none⟩ c0).setCell ⟨b, 1, none⟩ c1).setCell ⟨b, 2, none⟩ c2).setCell ⟨b, 3, none⟩ c3).setCell ⟨b, 4, none⟩ c4).heap[b]? = some (.cells #[c0, c1, c2, c3, c4, a5, a6, a7] T (0, 0)) := heap_setCell_same _ b 4 _ _ c4 h3
  have h5 : ((((((w.setCell ⟨b, 0, none⟩ c0).setCell ⟨b, 1, none⟩ c1).setCell ⟨b, 2, none⟩ c2).setCell ⟨b, 3, none⟩ c3).setCell ⟨b, 4, none⟩ c4).setCell ⟨b, 5, none⟩ c5).heap[b]? = some (.cells #[c0, c1, c2, c3, c4, c5, a6, a7] T (0, 0)) := heap_setCell_same _ b 5 _ _ c5 h4
  have h6 : (((((((w.setCell ⟨b, 0, none⟩ c0).setCell ⟨b, 1, none⟩ c1).setCell ⟨b, 2, none⟩ c2).setCell ⟨b, 3, none⟩ c3).setCell ⟨b, 4, none⟩ c4).setCell ⟨b, 5, none⟩ c5).setCell ⟨b, 6, none⟩ c6).heap[b]? = some (.cells #[c0, c1, c2, c3, c4, c5, c6, a7] T (0, 0)) := heap_setCell_same _ b 6 _ _ c6 h5
  have h7 : ((((((((w.setCell ⟨b, 0, none⟩ c0).setCell ⟨b, 1, none⟩ c1).setCell ⟨b, 2, none⟩ c2).setCell ⟨b, 3, none⟩ c3).setCell ⟨b, 4, none⟩ c4).setCell ⟨b, 5, none⟩ c5).setCell ⟨b, 6, none⟩ c6).setCell ⟨b, 7, none⟩ c7).heap[b]? = some (.cells #[c0, c1, c2, c3, c4, c5, c6, c7] T (0, 0)) := heap_setCell_same _ b 7 _ _ c7 h6
  exact h7
theorem set8_keep (w : World) (b : Nat) (c0 c1 c2 c3 c4 c5 c6 c7 : Value) : Keep (fun k => k = b) w (set8 w b c0 c1 c2 c3 c4 c5 c6 c7) :=
  ((((((((Keep.refl (fun k => k = b) w).setCell (p := ⟨b, 0, none⟩) (fun _ => rfl) _).setCell (p := ⟨b, 1, none⟩) (fun _ => rfl) _).setCell (p := ⟨b, 2, none⟩) (fun _ => rfl) _).setCell (p := ⟨b, 3, none⟩) (fun _ => rfl) _).setCell (p := ⟨b, 4, none⟩) (fun _ => rfl) _).setCell (p := ⟨b, 5, none⟩) (fun _ => rfl) _).setCell (p := ⟨b, 6, none⟩) (fun _ => rfl) _).setCell (p := ⟨b, 7, none⟩) (fun _ => rfl) _
theorem set8_below {w0 w : World} {b B : Nat} (h : Below B w0 w) (hb : B ≤ b) (c0 c1 c2 c3 c4 c5 c6 c7 : Value) : Below B w0 (set8 w b c0 c1 c2 c3 c4 c5 c6 c7) :=
  (((((((h.setCell (p := ⟨b, 0, none⟩) hb _).setCell (p := ⟨b, 1, none⟩) hb _).setCell (p := ⟨b, 2, none⟩) hb _).setCell (p := ⟨b, 3, none⟩) hb _).setCell (p := ⟨b, 4, none⟩) hb _).setCell (p := ⟨b, 5, none⟩) hb _).setCell (p := ⟨b, 6, none⟩) hb _).setCell (p := ⟨b, 7, none⟩) hb _
theorem vmeta_any (br : Nat) (w : World) :
    Calls Tryz.prog 108 #[.pointer (some ⟨br, 0, none⟩)] w fun e w' => e = .returned (.pointer (some ⟨w.heap.size, 0, none⟩)) ∧ w' = w.alloc (.cells #[.pointer (some ⟨br, 0, none⟩), .int .i64 4] 242) := by
  have HT := Hd (show ∀ u : World, Calls Tryz.prog 83 #[.pointer (some ⟨br, 0, none⟩), .int .i64 4] u fun e w' => e = .returned (.pointer (some ⟨u.heap.size, 0, none⟩)) ∧ u.alloc (.cells #[.pointer (some ⟨br, 0, none⟩), .int .i64 4] 242) = w' from fun u => (treeAt_any br 4 u).mono fun e w' ⟨a, b⟩ => ⟨a, b.symm⟩)
  go_enter Tryz.func108, Tryz.ntmps108
  go_wp2_with (go_at_call 83; refine (HT.out _).mono ?_; rintro e w1 ⟨rfl, rfl⟩)
  go_ret
  exact ⟨rfl, rfl⟩
section
variable {w : World} {sb : Nat} {s : Sto} {D : Dict} {nz : Nat} {b item : ByteArray}
set_option maxHeartbeats 4000000 in
theorem vkeep_st (h : StAt w sb s D nz) (hn : nz ≤ 1900 ∧ 8 * nz + 300 ≤ s.R.pages) (hb : bucketOk b = true) (hi : itemOk item = true) (mk : Bool) {id born size page : Nat} (h0 : id < 18446744073709551616) (h2 : born < 18446744073709551616) (h3 : size < 4294967296) (h4 : page < 4294967296) :
    Calls Tryz.prog 106 #[.pointer (some ⟨s.br, 0, none⟩), .agg (vC b item id false mk born size page)] w fun e w' => e = .returned (.int .i64 0) ∧ ∃ s', XStep w s D sb (nz + 1) w' s' ∧ s'.X.kvM = ins s.X.kvM (versionKey b item id) (verT (howN false mk) born size page) ∧ s'.X.vb = s.X.vb ∧ s'.X.next = s.X.next := by
  have hks := versionKey_size b item id
  have hns := (bucketOk_zero hb).2
  have his := (itemOk_zero hi).2
  unfold vC
  have hb0 : Below w.heap.size w (w.alloc (.cells #[.string b, .string item, .int .u64 id, .bool false, .bool mk, .int .u64 born, .int .i64 size, .int .i64 page] 38)) := (Below.refl _ _).alloc (Nat.le_refl _) _
  have hx0 := heap_alloc_new w (.cells #[.string b, .string item, .int .u64 id, .bool false, .bool mk, .int .u64 born, .int .i64 size, .int .i64 page] 38)
  have HB0 := Hd hb0
  have HX0 := Hd hx0
  have hhow : howN false mk < 256 := by unfold howN; cases mk <;> decide
  have HWr := Hd (fun (u : World) fb c hfs => pwrite_any (fields_vrs hhow h2 h3 h4) right_vrs (w := u) (fb := fb) (c := c) hfs)
  have hv : packed vrsK [(howN false mk, eS), (born, eS), (size, eS), (page, eS)] = verT (howN false mk) born size page := rfl
  rw [hv] at HWr
  have HK := Hd (versionKey_any b item hb hi id h0)
  have HM := Hd (vmeta_any s.br)
  have HP := Hd (fun (u : World) tb (hu : StAt u sb s D nz) (ht : TreeAt u tb s.br 4) (hf : ¬ s.foot tb) => hu.meta_put hn ht hf (key := versionKey b item id) (val := verT (howN false mk) born size page) (by omega) (by rw [verT_size]; decide))
  have HSt := Hd h
  have HAh := Hd h.ahead
  have p3 : IntKind.u64.wrap (size : Int) = (size : Int) := by rw [IntKind.wrap_u64]; omega
  have p4 : IntKind.u64.wrap (page : Int) = (page : Int) := by rw [IntKind.wrap_u64]; omega
  have o1 : bits .or .i64 0 1 = 1 := by decide
  have o2 : bits .or .i64 0 2 = 2 := by decide
  have o3 : bits .or .i64 1 2 = 3 := by decide
  have HN := Hd hn
  clear h hb0 hx0 hv hks hns his hb hi hhow hn
  obtain ⟨bk, hbk⟩ : ∃ bk, versionKey b item id = bk := ⟨_, rfl⟩
  obtain ⟨bt, hbt⟩ : ∃ bt, verT (howN false mk) born size page = bt := ⟨_, rfl⟩
  rw [hbk] at HK HP ⊢
  rw [hbt] at HWr HP ⊢
  clear hbk hbt
  have hw1 : ∀ u : World, FldsAt (u.alloc (.cells #[.int .u64 (howN false mk : Nat), .string ⟨#[]⟩, .int .u64 born, .string ⟨#[]⟩, .int .u64 size, .string ⟨#[]⟩, .int .u64 page, .string ⟨#[]⟩] 182)) u.heap.size [(howN false mk, eS), (born, eS), (size, eS), (page, eS)] := fun u => ⟨by simp, fun j hj => by
    match j, hj with
    | 0, _ => exact ⟨Lib.cell_of_heap (heap_alloc_new u _) 0, Lib.cell_of_heap (heap_alloc_new u _) 1⟩
    | 1, _ => exact ⟨Lib.cell_of_heap (heap_alloc_new u _) 2, Lib.cell_of_heap (heap_alloc_new u _) 3⟩
    | 2, _ => exact ⟨Lib.cell_of_heap (heap_alloc_new u _) 4, Lib.cell_of_heap (heap_alloc_new u _) 5⟩
    | 3, _ => exact ⟨Lib.cell_of_heap (heap_alloc_new u _) 6, Lib.cell_of_heap (heap_alloc_new u _) 7⟩⟩
  have HW1 := Hd (fun u : World => show Calls Tryz.prog 90 #[.string ⟨#[98, 110, 104, 104]⟩, .slice (some ⟨u.heap.size, 0, none⟩) 4 4] (u.alloc (.cells #[.int .u64 (howN false mk : Nat), .string ⟨#[]⟩, .int .u64 born, .string ⟨#[]⟩, .int .u64 size, .string ⟨#[]⟩, .int .u64 page, .string ⟨#[]⟩] 182)) _ from HWr.out _ u.heap.size 4 (hw1 u))
  clear HWr hw1
  obtain ⟨z, hz⟩ : ∃ z : Int, ((howN false mk : Nat) : Int) = z := ⟨_, rfl⟩
  rw [hz] at HW1
  cases mk with
  | true =>
    simp [howN] at hz
    subst hz
    go_enter Tryz.func106, Tryz.ntmps106
    go_wp2_with (fail)
    have hzx := World.size_alloc w (.cells #[.string b, .string item, .int .u64 id, .bool false, .bool true, .int .u64 born, .int .i64 size, .int .i64 page] 38)
    rw [← hzx]
    clear hzx
    generalize hwx : w.alloc (.cells #[.string b, .string item, .int .u64 id, .bool false, .bool true, .int .u64 born, .int .i64 size, .int .i64 page] 38) = wx at *
    clear hwx
    obtain ⟨xb, hxb⟩ : ∃ xb, w.heap.size = xb := ⟨_, rfl⟩
    have HXb := Hd hxb
    rw [hxb] at HX0 ⊢
    clear hxb
    have HXl := Hd (show xb < wx.heap.size from (Gl HX0.out))
    refine (HW1.out wx).mono ?_
    rintro e w4 ⟨rfl, hb4⟩
    have HB4 := Hd (show Below wx.heap.size wx w4 from ((Below.refl _ _).alloc (Nat.le_refl _) _).trans (hb4.mono (by simp)))
    clear hb4
    have HB5 := Hd (HB0.out.trans (HB4.out.mono HB0.out.size))
    have HX5 := Hd ((HB4.out.block xb HXl.out).trans HX0.out)
    have hnx : ¬ s.foot xb := fun e => by have := HAh.out.2.2.2 _ e; have := HXb.out; omega
    have HNx := Hd hnx
    clear hnx
    go_wp2_with (fail)
    obtain ⟨S, hS⟩ : ∃ S : World → Prop, ∀ u, S u ↔ Keep (fun g => s.foot g) (w4) u := ⟨fun u => Keep (fun g => s.foot g) (w4) u, fun _ => Iff.rfl⟩
    have HS := Hd hS
    clear hS
    refine wp_region_whole 12 [(0, true), (2, true), (3, true), (4, true), (5, true), (6, true), (7, true), (9, true), (1, false), (8, false), (10, false), (11, true)] S (by kernel_rfl) (by kernel_rfl) ((HS.out _).2 (Keep.refl _ _).drew) ?_
    iterate 8
      first
        | (refine wpH_passed rfl (by rfl) (fun K hK => ?_); go_simp; refine hK _ ?_; clear hK K)
        | (first
             | refine wpH_read rfl rfl (fun K hK => ?_)
             | refine wpH_readw rfl (by rfl) (fun K hK => ?_)
           apply Exists.intro
           refine ⟨fun u hu => ?_, ?_⟩
           · have hu := (HS.out u).1 hu
             obtain ⟨⟨d0, d1, d2, -⟩, -⟩ := box8 (hu.at HX5.out HNx.out)
             clear hu
             go_simp
             exact ⟨rfl, rfl⟩
           go_simp
           refine hK _ ?_
           clear hK K)
    first | refine wpH_do rfl rfl (fun K hK => ?_) | refine wpH_dow rfl (by rfl) (fun K hK => ?_)
    go_simp
    go_at_call 108
    refine (HM.out _).mono ?_
    rintro e w6 ⟨rfl, hw6⟩
    have hb6 : Below w4.heap.size w4 w6 := by rw [hw6]; exact (Below.refl w4.heap.size w4.drew |>.alloc (Nat.le_refl _) _) |> fun h => ⟨h.os, h.tape, h.output, h.size, h.block⟩
    have HT6 := Hd (show w6.heap[w4.heap.size]? = some (.cells #[.pointer (some ⟨s.br, 0, none⟩), .int .i64 4] 242 (0, 0)) by rw [hw6]; exact heap_alloc_new w4.drew _)
    have HB6 := Hd hb6
    refine hK _ _ ((HS.out _).2 (Keep.ofBelow hb6)) ?_
    clear hK K hw6 hb6
    first | refine wpH_do rfl rfl (fun K hK => ?_) | refine wpH_dow rfl (by rfl) (fun K hK => ?_)
    go_simp
    go_at_call 112
    refine (HK.out _).mono ?_
    rintro e w7 ⟨rfl, hb7⟩
    have hb7' := HB6.out.trans (hb7.mono HB6.out.size)
    have HT7 := Hd ((hb7.block w4.heap.size (Gl HT6.out)).trans HT6.out)
    have HB7 := Hd hb7'
    refine hK _ _ ((HS.out _).2 (Keep.ofBelow hb7')) ?_
    clear hK K hb7 hb7'
    first | refine wpH_do rfl rfl (fun K hK => ?_) | refine wpH_dow rfl (by rfl) (fun K hK => ?_)
    go_simp
    go_at_call 92
    have hb8 := HB5.out.trans (HB7.out.mono HB5.out.size)
    refine (HP.out w7 w4.heap.size (HSt.out.still hb8) ⟨HT7.out⟩ (fun e => by have := HAh.out.2.2.2 _ e; have := HB5.out.size; omega)).mono ?_
    rintro e w8 ⟨rfl, s', hx, hk1, hk2, hk3⟩
    have HX8 := Hd (hx.after hb8)
    have HK8 := Hd (And.intro hk1 (And.intro hk2 hk3))
    refine hK _ _ ((HS.out _).2 ((Keep.ofBelow HB7.out).trans hx.step.keep (fun _ _ e => e))) ?_
    clear hK K hb8 hx hk1 hk2 hk3
    iterate 1
      first
        | (refine wpH_passed rfl (by rfl) (fun K hK => ?_); go_simp; refine hK _ ?_; clear hK K)
        | (first
             | refine wpH_read rfl rfl (fun K hK => ?_)
             | refine wpH_readw rfl (by rfl) (fun K hK => ?_)
           apply Exists.intro
           refine ⟨fun u hu => ?_, ?_⟩
           · have hu := (HS.out u).1 hu
             obtain ⟨⟨d0, d1, d2, -⟩, -⟩ := box8 (hu.at HX5.out HNx.out)
             clear hu
             go_simp
             exact ⟨rfl, rfl⟩
           go_simp
           refine hK _ ?_
           clear hK K)
    refine wpH_nil ?_
    simp only [List.drop_succ_cons, List.drop_zero]
    clear S HS
    go_wp2
    go_ret
    exact ⟨rfl, s', HX8.out, HK8.out⟩
  | false =>
    simp [howN] at hz
    subst hz
    go_enter Tryz.func106, Tryz.ntmps106
    go_wp2_with (fail)
    have hzx := World.size_alloc w (.cells #[.string b, .string item, .int .u64 id, .bool false, .bool false, .int .u64 born, .int .i64 size, .int .i64 page] 38)
    rw [← hzx]
    clear hzx
    generalize hwx : w.alloc (.cells #[.string b, .string item, .int .u64 id, .bool false, .bool false, .int .u64 born, .int .i64 size, .int .i64 page] 38) = wx at *
    clear hwx
    obtain ⟨xb, hxb⟩ : ∃ xb, w.heap.size = xb := ⟨_, rfl⟩
    have HXb := Hd hxb
    rw [hxb] at HX0 ⊢
    clear hxb
    have HXl := Hd (show xb < wx.heap.size from (Gl HX0.out))
    refine (HW1.out wx).mono ?_
    rintro e w4 ⟨rfl, hb4⟩
    have HB4 := Hd (show Below wx.heap.size wx w4 from ((Below.refl _ _).alloc (Nat.le_refl _) _).trans (hb4.mono (by simp)))
    clear hb4
    have HB5 := Hd (HB0.out.trans (HB4.out.mono HB0.out.size))
    have HX5 := Hd ((HB4.out.block xb HXl.out).trans HX0.out)
    have hnx : ¬ s.foot xb := fun e => by have := HAh.out.2.2.2 _ e; have := HXb.out; omega
    have HNx := Hd hnx
    clear hnx
    go_wp2_with (fail)
    obtain ⟨S, hS⟩ : ∃ S : World → Prop, ∀ u, S u ↔ Keep (fun g => s.foot g) (w4) u := ⟨fun u => Keep (fun g => s.foot g) (w4) u, fun _ => Iff.rfl⟩
    have HS := Hd hS
    clear hS
    refine wp_region_whole 12 [(0, true), (2, true), (3, true), (4, true), (5, true), (6, true), (7, true), (9, true), (1, false), (8, false), (10, false), (11, true)] S (by kernel_rfl) (by kernel_rfl) ((HS.out _).2 (Keep.refl _ _).drew) ?_
    iterate 8
      first
        | (refine wpH_passed rfl (by rfl) (fun K hK => ?_); go_simp; refine hK _ ?_; clear hK K)
        | (first
             | refine wpH_read rfl rfl (fun K hK => ?_)
             | refine wpH_readw rfl (by rfl) (fun K hK => ?_)
           apply Exists.intro
           refine ⟨fun u hu => ?_, ?_⟩
           · have hu := (HS.out u).1 hu
             obtain ⟨⟨d0, d1, d2, -⟩, -⟩ := box8 (hu.at HX5.out HNx.out)
             clear hu
             go_simp
             exact ⟨rfl, rfl⟩
           go_simp
           refine hK _ ?_
           clear hK K)
    first | refine wpH_do rfl rfl (fun K hK => ?_) | refine wpH_dow rfl (by rfl) (fun K hK => ?_)
    go_simp
    go_at_call 108
    refine (HM.out _).mono ?_
    rintro e w6 ⟨rfl, hw6⟩
    have hb6 : Below w4.heap.size w4 w6 := by rw [hw6]; exact (Below.refl w4.heap.size w4.drew |>.alloc (Nat.le_refl _) _) |> fun h => ⟨h.os, h.tape, h.output, h.size, h.block⟩
    have HT6 := Hd (show w6.heap[w4.heap.size]? = some (.cells #[.pointer (some ⟨s.br, 0, none⟩), .int .i64 4] 242 (0, 0)) by rw [hw6]; exact heap_alloc_new w4.drew _)
    have HB6 := Hd hb6
    refine hK _ _ ((HS.out _).2 (Keep.ofBelow hb6)) ?_
    clear hK K hw6 hb6
    first | refine wpH_do rfl rfl (fun K hK => ?_) | refine wpH_dow rfl (by rfl) (fun K hK => ?_)
    go_simp
    go_at_call 112
    refine (HK.out _).mono ?_
    rintro e w7 ⟨rfl, hb7⟩
    have hb7' := HB6.out.trans (hb7.mono HB6.out.size)
    have HT7 := Hd ((hb7.block w4.heap.size (Gl HT6.out)).trans HT6.out)
    have HB7 := Hd hb7'
    refine hK _ _ ((HS.out _).2 (Keep.ofBelow hb7')) ?_
    clear hK K hb7 hb7'
    first | refine wpH_do rfl rfl (fun K hK => ?_) | refine wpH_dow rfl (by rfl) (fun K hK => ?_)
    go_simp
    go_at_call 92
    have hb8 := HB5.out.trans (HB7.out.mono HB5.out.size)
    refine (HP.out w7 w4.heap.size (HSt.out.still hb8) ⟨HT7.out⟩ (fun e => by have := HAh.out.2.2.2 _ e; have := HB5.out.size; omega)).mono ?_
    rintro e w8 ⟨rfl, s', hx, hk1, hk2, hk3⟩
    have HX8 := Hd (hx.after hb8)
    have HK8 := Hd (And.intro hk1 (And.intro hk2 hk3))
    refine hK _ _ ((HS.out _).2 ((Keep.ofBelow HB7.out).trans hx.step.keep (fun _ _ e => e))) ?_
    clear hK K hb8 hx hk1 hk2 hk3
    iterate 1
      first
        | (refine wpH_passed rfl (by rfl) (fun K hK => ?_); go_simp; refine hK _ ?_; clear hK K)
        | (first
             | refine wpH_read rfl rfl (fun K hK => ?_)
             | refine wpH_readw rfl (by rfl) (fun K hK => ?_)
           apply Exists.intro
           refine ⟨fun u hu => ?_, ?_⟩
           · have hu := (HS.out u).1 hu
             obtain ⟨⟨d0, d1, d2, -⟩, -⟩ := box8 (hu.at HX5.out HNx.out)
             clear hu
             go_simp
             exact ⟨rfl, rfl⟩
           go_simp
           refine hK _ ?_
           clear hK K)
    refine wpH_nil ?_
    simp only [List.drop_succ_cons, List.drop_zero]
    clear S HS
    go_wp2
    go_ret
    exact ⟨rfl, s', HX8.out, HK8.out⟩
end
end Go.Proofs.YtaokjeokpifjgaaGreatDoor

namespace Go.Proofs.YtaokjeokpifjgaaGreatDoor
open Go.RowKit Go.MapKept
attribute [local go_sem] gives givesH
set_option maxRecDepth 100000

def vB : ByteArray := ⟨#[118]⟩
theorem versionKey_eq (b item : ByteArray) (id : Nat) : versionKey b item id = vB ++ (b ++ zB ++ (item ++ zB ++ fallsS id)) := by
  apply ByteArray.ext
  apply Array.toList_inj.1
  unfold versionKey underS underL vB zB
  simp
theorem pre_take (r : ByteArray) : (vB ++ r).extract 1 (vB ++ r).size = r ∧ (vB ++ r).size = 1 + r.size ∧ Lib.hasPrefix (vB ++ r).data.toList vB.data.toList = true := by
  have hs : (vB ++ r).size = 1 + r.size := by rw [ByteArray.size_append]; rfl
  have hd : (vB ++ r).data.toList = 118 :: r.data.toList := by unfold vB; simp
  refine ⟨?_, hs, ?_⟩
  · apply ByteArray.ext
    apply Array.toList_inj.1
    have h2 : (vB ++ r).size - 1 = r.data.toList.length := by rw [hs]; simp
    rw [ByteArray.data_extract, Array.toList_extract, List.extract_eq_take_drop, hd, h2]
    simp [List.take_of_length_le]
  · rw [hd]
    unfold Lib.hasPrefix vB
    simp
theorem slcutp_any {s r : ByteArray} (h1 : s.extract 1 s.size = r) (h2 : 1 ≤ s.size) (h3 : Lib.hasPrefix s.data.toList vB.data.toList = true) (w : World) :
    Calls Tryz.prog 263 #[.string s, .string ⟨#[118]⟩] w fun e w' => e = .returned (.tuple #[.string r, .bool true]) ∧ w = w' := by
  have HP := Hd (show ∀ w : World, Calls Tryz.prog 284 #[.string s, .string ⟨#[118]⟩] w fun e w' => e = .returned (.bool (Lib.hasPrefix s.data.toList vB.data.toList)) ∧ w' = w from Tryz.stringslite_HasPrefix s vB)
  rw [h3] at HP
  have g1 : (1 : Int) ≤ (s.size : Int) := by omega
  clear h3
  go_enter Tryz.func263, Tryz.ntmps263
  go_wp2_with (go_at_call 284; refine (HP.out _).mono ?_; rintro e w1 ⟨rfl, rfl⟩)
  go_ret2
  exact ⟨rfl, rfl⟩
theorem strcutp_any {s r : ByteArray} (h1 : s.extract 1 s.size = r) (h2 : 1 ≤ s.size) (h3 : Lib.hasPrefix s.data.toList vB.data.toList = true) (w : World) :
    Calls Tryz.prog 229 #[.string s, .string ⟨#[118]⟩] w fun e w' => e = .returned (.tuple #[.string r, .bool true]) ∧ w = w' := by
  have HP := Hd (slcutp_any h1 h2 h3)
  clear h1 h2 h3
  go_enter Tryz.func229, Tryz.ntmps229
  go_wp2_with (go_at_call 263; refine (HP.out _).mono ?_; rintro e w1 ⟨rfl, rfl⟩)
  go_ret2
  exact ⟨rfl, rfl⟩
theorem results_tmp4 {fn : Func} {t u v x : Tmp} (h : fn.results = #[.tmp t, .tmp u, .tmp v, .tmp x]) (tmps : Array Value) (P : Program) (w : World) :
    (results fn tmps).run P w = .ok (.tuple #[tmps.getD t undef, tmps.getD u undef, tmps.getD v undef, tmps.getD x undef]) w := by
  simp [results, h]
theorem read_v {b item f : ByteArray} (hb : bucketOk b = true) (hi : itemOk item = true) (hf : f.size = 8) (w : World) :
    Calls Tryz.prog 185 #[.string ⟨#[118]⟩, .string (vB ++ (b ++ zB ++ (item ++ zB ++ f)))] w fun e w' => e = .returned (.tuple #[.string b, .string item, .string f, .bool true]) ∧ Below w.heap.size w w' := by
  obtain ⟨b0, b1⟩ := bucketOk_zero hb
  obtain ⟨i0, i1⟩ := itemOk_zero hi
  have hz1 : (item ++ zB ++ f).size = item.size + 9 := by rw [ByteArray.size_append, ByteArray.size_append, hf]; rfl
  obtain ⟨h1, h2, h3⟩ := pre_take (b ++ zB ++ (item ++ zB ++ f))
  have HP := Hd (strcutp_any h1 (by omega) h3)
  have HC1 := Hd (cut_any b0 (r := item ++ zB ++ f) (by omega))
  have HC2 := Hd (cut_any i0 (r := f) (by omega))
  have HB := Hd (bucket_any b)
  have HI := Hd (item_any item)
  rw [hb] at HB
  rw [hi] at HI
  have e1 : ((f.size : Int) == 8) = true := by rw [hf]; rfl
  have e2 : (f.size : Int) = 8 := by rw [hf]; rfl
  generalize vB ++ (b ++ zB ++ (item ++ zB ++ f)) = s at *
  generalize b ++ zB ++ (item ++ zB ++ f) = s1 at *
  generalize item ++ zB ++ f = s2 at *
  clear hb hi hf b0 b1 i0 i1 hz1 h1 h2 h3
  go_enter Tryz.func185, Tryz.ntmps185
  go_wp2_with (first
    | (go_at_call 229; refine (HP.out _).mono ?_; rintro e w1 ⟨rfl, rfl⟩)
    | (go_at_call 230; with_reducible refine (HC1.out _).mono ?_; rintro e w2 ⟨rfl, hb2⟩
       have HB2 := Hd hb2
       clear hb2)
    | (go_at_call 230; with_reducible refine (HC2.out _).mono ?_; rintro e w3 ⟨rfl, hb3⟩
       have HB3 := Hd (HB2.out.trans (hb3.mono HB2.out.size))
       clear hb3)
    | (go_at_call 85; refine (HB.out _).mono ?_; rintro e w4 ⟨rfl, hb4⟩
       have HB4 := Hd (HB3.out.trans (hb4.mono HB3.out.size))
       clear hb4)
    | (go_at_call 101; refine (HI.out _).mono ?_; rintro e w5 ⟨rfl, rfl⟩))
  refine bodyPost_ret (results_tmp4 rfl _ _ _) rfl ?_
  exact ⟨rfl, HB4.out⟩
theorem fallsS_back (id : Nat) (h : id < 18446744073709551616) : 18446744073709551615 - beN (fallsS id).data.toList = id := by
  show 18446744073709551615 - beN (beW 8 (18446744073709551615 - id) 8) = id
  rw [told_beW (w := 8) (by omega)]
  omega
theorem readVersion_any {b item : ByteArray} (hb : bucketOk b = true) (hi : itemOk item = true) {id : Nat} (hid : id < 18446744073709551616) (w : World) :
    Calls Tryz.prog 127 #[.string (versionKey b item id)] w fun e w' => e = .returned (.tuple #[.string b, .string item, .int .u64 id, .bool true]) ∧ Below w.heap.size w w' := by
  have HR := Hd (read_v hb hi (fallsS_size id))
  have HF := Hd (fell_any (fallsS id) (fallsS_size id))
  rw [fallsS_back id hid] at HF
  rw [versionKey_eq]
  generalize vB ++ (b ++ zB ++ (item ++ zB ++ fallsS id)) = s at *
  generalize fallsS id = f at *
  clear hb hi hid
  go_enter Tryz.func127, Tryz.ntmps127
  go_wp2_with (first
    | (go_at_call 185; refine (HR.out _).mono ?_; rintro e w1 ⟨rfl, hb1⟩
       have HB1 := Hd hb1
       clear hb1)
    | (go_at_call 186; refine (HF.out _).mono ?_; rintro e w2 ⟨rfl, hb2⟩
       have HB2 := Hd (HB1.out.trans (hb2.mono HB1.out.size))
       clear hb2))
  refine bodyPost_ret (results_tmp4 rfl _ _ _) rfl ?_
  exact ⟨rfl, HB2.out⟩
theorem one_last (t : ByteArray) (x : UInt8) : (t ++ ⟨#[x]⟩ : ByteArray).extract 0 t.size = t ∧ (t ++ ⟨#[x]⟩ : ByteArray).size = t.size + 1 ∧ byteN (t ++ ⟨#[x]⟩) t.size = x.toNat := by
  have hs : (t ++ ⟨#[x]⟩ : ByteArray).size = t.size + 1 := by rw [ByteArray.size_append]; rfl
  have hd : (t ++ ⟨#[x]⟩ : ByteArray).data.toList = t.data.toList ++ [x] := by simp
  have hpl : t.data.toList.length = t.size := by simp
  refine ⟨?_, hs, ?_⟩
  · apply ByteArray.ext
    apply Array.toList_inj.1
    rw [ByteArray.data_extract, Array.toList_extract, List.extract_eq_take_drop, hd, List.drop_zero, Nat.sub_zero, ← hpl, List.take_left]
  · unfold byteN
    rw [hd, List.getD_eq_getElem?_getD, ← hpl, List.getElem?_append_right (Nat.le_refl _)]
    simp
set_option maxHeartbeats 1000000 in
theorem behind_any (t : ByteArray) (ht : t.size ≤ 1000) (x : UInt8) (hx : x.toNat < 255) (w : World) :
    Calls Tryz.prog 110 #[.string (t ++ ⟨#[x]⟩)] w fun e w' => e = .returned (.string (t ++ ⟨#[UInt8.ofNat (x.toNat + 1)]⟩)) ∧ Below w.heap.size w w' := by
  obtain ⟨h1, h2, h3⟩ := one_last t x
  obtain ⟨s, hs⟩ : ∃ s, (t ++ ⟨#[x]⟩ : ByteArray) = s := ⟨_, rfl⟩
  rw [hs] at h1 h2 h3 ⊢
  obtain ⟨n, hn⟩ : ∃ n, t.size = n := ⟨_, rfl⟩
  rw [hn] at h1 h2 h3 ht
  have hkx := byteN_get s n (by omega)
  rw [h3] at hkx
  obtain ⟨xv, hxv⟩ : ∃ xv, x.toNat = xv := ⟨_, rfl⟩
  rw [hxv] at hkx hx ⊢
  obtain ⟨kb, hkb⟩ : ∃ kb : ByteArray, (⟨#[UInt8.ofNat (xv + 1)]⟩ : ByteArray) = kb := ⟨_, rfl⟩
  have hcat := fun u => run_string_add_sum (P := Tryz.prog) u t (⟨#[UInt8.ofNat (xv + 1)]⟩ : ByteArray) (by show t.size + 1 ≤ _; omega)
  have hby : ∀ u : World, ∀ k, u.heap[k]? = some (.cells #[.int .u8 ((xv : Int) + 1)] 5 (0, 0)) → Lib.Bytes u k 0 ⟨#[UInt8.ofNat (xv + 1)]⟩ := fun u k hk i hi => by
    have e1 : (⟨#[UInt8.ofNat (xv + 1)]⟩ : ByteArray).size = 1 := rfl
    obtain rfl : i = 0 := by omega
    rw [Lib.cell_of_heap hk (0 + 0)]
    show some (Value.int IntKind.u8 ((xv : Int) + 1)) = some (Value.int IntKind.u8 (((UInt8.ofNat (xv + 1)).toNat : Nat) : Int))
    simp
    omega
  have hl1 : ∀ (u : World) (k : Nat), u.heap[k]? = some (.cells #[.int .u8 ((xv : Int) + 1)] 5 (0, 0)) → ∀ c, (convert 121 9 (.slice (some ⟨k, 0, none⟩) 1 c)).run Tryz.prog u = .ok (.string ⟨#[UInt8.ofNat (xv + 1)]⟩) u := fun u k hk c =>
    Lib.run_convert_whole (P := Tryz.prog) _ 121 5 9 Tryz.underlying121 Tryz.underlying5 Tryz.underlying9 k 0 ⟨#[UInt8.ofNat (xv + 1)]⟩ (hby u k hk) c
  rw [hkb] at hcat hl1 ⊢
  have HL1 := Hd hl1
  have HCat := Hd hcat
  have hsz : s.size = n + 1 := h2
  have i1 : IntKind.i64.wrap ((n : Int) + 1 - 1) = (n : Int) := by rw [IntKind.wrap_i64]; omega
  have i2 : (n : Int) + 1 - 1 = (n : Int) := by omega
  have i3 : IntKind.i64.wrap (n : Int) = (n : Int) := by rw [IntKind.wrap_i64]; omega
  have g0 : (0 : Int) < (n : Int) + 1 := by omega
  have g1 : (n : Int) ≤ (n : Int) + 1 := by omega
  have g2 : (n : Int) < (n : Int) + 1 := by omega
  have g3 : n < s.size := by omega
  have u1 : IntKind.u8.wrap ((xv : Int) + 1) = (xv : Int) + 1 := by rw [IntKind.wrap_u8]; omega
  have q1 : ((xv : Int) == 255) = false := by simp; omega
  clear hby hs h3 hkb hl1 hcat hxv
  go_enter Tryz.func110, Tryz.ntmps110
  go_wp2
  refine wp_loop_rounds 1 ?_
  rw [rounds_succ]
  go_wp2
  obtain ⟨S, hS⟩ : ∃ S : World → Prop, ∀ u, S u ↔ Keep (fun _ => False) (w) u := ⟨fun u => Keep (fun _ => False) (w) u, fun _ => Iff.rfl⟩
  have HS := Hd hS
  clear hS
  refine wp_region_whole 13 [(0, true), (1, true), (2, true), (3, true), (4, true), (5, true), (6, true), (7, true), (8, true), (9, false), (10, false), (11, true), (12, true)] S (by kernel_rfl) (by kernel_rfl) ((HS.out _).2 (Keep.refl _ _).drew) ?_
  iterate 9
    first
      | (refine wpH_passed rfl (by rfl) (fun K hK => ?_); go_simp; refine hK _ ?_; clear hK K)
      | (first
           | refine wpH_read rfl rfl (fun K hK => ?_)
           | refine wpH_readw rfl (by rfl) (fun K hK => ?_)
         apply Exists.intro
         refine ⟨fun u hu => ?_, ?_⟩
         · have hu := (HS.out u).1 hu
           have hcat := HCat.out u
           clear hu
           go_simp
           exact ⟨rfl, rfl⟩
         go_simp
         refine hK _ ?_
         clear hK K)
  first | refine wpH_do rfl rfl (fun K hK => ?_) | refine wpH_dow rfl (by rfl) (fun K hK => ?_)
  go_simp
  have ka : Keep (fun _ => False) w (w.alloc (.cells #[.int .u8 ((xv : Int) + 1)] 5)).drew := ((Keep.refl _ w).alloc _).drew
  have HKa := Hd ka
  have HL2 := Hd (HL1.out (w.alloc (.cells #[.int .u8 ((xv : Int) + 1)] 5)).drew w.heap.size (heap_alloc_new w _))
  refine hK _ _ ((HS.out _).2 ka) ?_
  clear hK K ka
  first | refine wpH_do rfl rfl (fun K hK => ?_) | refine wpH_dow rfl (by rfl) (fun K hK => ?_)
  have l1 := HL2.out
  go_simp
  refine hK _ _ ((HS.out _).2 HKa.out) ?_
  clear hK K l1
  iterate 2
    first
      | (refine wpH_passed rfl (by rfl) (fun K hK => ?_); go_simp; refine hK _ ?_; clear hK K)
      | (first
           | refine wpH_read rfl rfl (fun K hK => ?_)
           | refine wpH_readw rfl (by rfl) (fun K hK => ?_)
         apply Exists.intro
         refine ⟨fun u hu => ?_, ?_⟩
         · have hu := (HS.out u).1 hu
           have hcat := HCat.out u
           clear hu
           go_simp
           exact ⟨rfl, rfl⟩
         go_simp
         refine hK _ ?_
         clear hK K)
  refine wpH_nil ?_
  simp only [List.drop_succ_cons, List.drop_zero]
  clear S HS
  go_wp2
  go_ret
  exact ⟨rfl, HKa.out.below (Nat.le_refl _) (fun _ _ e => e.elim)⟩
end Go.Proofs.YtaokjeokpifjgaaGreatDoor

namespace Go.Proofs.YtaokjeokpifjgaaGreatDoor
open Go.RowKit Go.MapKept
attribute [local go_sem] gives givesH
set_option maxRecDepth 100000

set_option maxHeartbeats 4000000 in
theorem vread_any {b item : ByteArray} (hb : bucketOk b = true) (hi : itemOk item = true) (mk : Bool) {id born size page : Nat} (h0 : id < 18446744073709551616) (h2 : born < 18446744073709551616) (h3 : size < 4294967296) (h4 : page < 4294967296) (w : World) :
    Calls Tryz.prog 111 #[.agg #[.string (versionKey b item id), .string (verT (howN false mk) born size page)]] w fun e w' => e = .returned (.tuple #[.agg (vC b item id false mk born size page), .int .i64 0]) ∧ Below w.heap.size w w' := by
  have HRv := Hd (readVersion_any hb hi h0)
  have hhow : howN false mk < 256 := by unfold howN; cases mk <;> decide
  have HRd := Hd (fun u => pread_any (fields_vrs hhow h2 h3 h4) right_vrs u)
  have hv : packed vrsK [(howN false mk, eS), (born, eS), (size, eS), (page, eS)] = verT (howN false mk) born size page := rfl
  rw [hv] at HRd
  obtain ⟨key, hkey⟩ : ∃ key, versionKey b item id = key := ⟨_, rfl⟩
  obtain ⟨val, hval⟩ : ∃ val, verT (howN false mk) born size page = val := ⟨_, rfl⟩
  rw [hkey] at HRv ⊢
  rw [hval] at HRd ⊢
  unfold vC
  have o1 : bits .and .u64 0 1 = 0 := by decide
  have o2 : bits .and .u64 0 2 = 0 := by decide
  have o3 : bits .and .u64 2 1 = 0 := by decide
  have o4 : bits .and .u64 2 2 = 2 := by decide
  have p3 : IntKind.i64.wrap (size : Int) = (size : Int) := wrapI (by omega) (by omega)
  have p4 : IntKind.i64.wrap (page : Int) = (page : Int) := wrapI (by omega) (by omega)
  obtain ⟨z, hz⟩ : ∃ z : Int, ((howN false mk : Nat) : Int) = z := ⟨_, rfl⟩
  have HZ := Hd hz
  clear hb hi hv hkey hval hhow hz
  have hbk0 : Below w.heap.size w (w.alloc (.cells #[.string key, .string val] 202)) := (Below.refl _ _).alloc (Nat.le_refl _) _
  have hpx0 := heap_alloc_new w (.cells #[.string key, .string val] 202)
  obtain ⟨wp, hwp⟩ : ∃ wp, w.alloc (.cells #[.string key, .string val] 202) = wp := ⟨_, rfl⟩
  have hps := World.size_alloc w (.cells #[.string key, .string val] 202)
  rw [hwp] at hbk0 hpx0 hps
  have hbv0 : Below w.heap.size w (wp.alloc (.cells #[.string ⟨#[]⟩, .string ⟨#[]⟩, .int .u64 0, .bool false, .bool false, .int .u64 0, .int .i64 0, .int .i64 0] 38)) := hbk0.alloc hbk0.size _
  have hvx0 := heap_alloc_new wp (.cells #[.string ⟨#[]⟩, .string ⟨#[]⟩, .int .u64 0, .bool false, .bool false, .int .u64 0, .int .i64 0, .int .i64 0] 38)
  have hpx1 : (wp.alloc (.cells #[.string ⟨#[]⟩, .string ⟨#[]⟩, .int .u64 0, .bool false, .bool false, .int .u64 0, .int .i64 0, .int .i64 0] 38)).heap[w.heap.size]? = some (.cells #[.string key, .string val] 202 (0, 0)) := by rw [Below.heap_alloc _ _ _ (by omega)]; exact hpx0
  rw [← hwp] at hbv0 hvx0 hpx1 hps
  rw [hps] at hvx0
  have HBV := Hd hbv0
  have HVX := Hd hvx0
  have HPX := Hd hpx1
  clear hbk0 hpx0 hwp hps hbv0 hvx0 hpx1
  cases mk with
  | true =>
    have hz : z = 2 := by rw [← HZ.out]; rfl
    go_enter Tryz.func111, Tryz.ntmps111
    go_wp2_with (fail)
    generalize (w.alloc (.cells #[.string key, .string val] 202)).alloc (.cells #[.string ⟨#[]⟩, .string ⟨#[]⟩, .int .u64 0, .bool false, .bool false, .int .u64 0, .int .i64 0, .int .i64 0] 38) = w1 at *
    refine (HRv.out _).mono ?_
    rintro e w2 ⟨rfl, hb2⟩
    have hpx2 := (hb2.block w.heap.size (Gl HPX.out)).trans HPX.out
    have hvx2 := (hb2.block (w.heap.size + 1) (Gl HVX.out)).trans HVX.out
    have d1 : w2.cell? ⟨w.heap.size, 1, none⟩ = some (.string val) := Lib.cell_of_heap hpx2 1
    have HVX2 := Hd hvx2
    have HB2 := Hd (HBV.out.trans (hb2.mono HBV.out.size))
    clear hb2 hpx2 hvx2
    go_wp2_with (fail)
    refine (HRd.out _).mono ?_
    rintro e w3 ⟨v, rfl, hrow, hb3⟩
    obtain ⟨g, c, rfl, hc1, hc2, hgB⟩ := row_posB hrow (by show 0 < 4; decide)
    have HRow := Hd hrow
    have HVX3 := Hd ((hb3.block (w.heap.size + 1) (Gl HVX2.out)).trans HVX2.out)
    have HB3 := Hd (HB2.out.trans (hb3.mono HB2.out.size))
    have HGl := Hd (show g < w3.heap.size from (hrow.lt g rfl).2)
    have hc0 : w3.cell? ⟨g, 0, none⟩ = some (.int .u64 z) := by rw [← HZ.out]; exact row_cells hrow 0 _ rfl
    rw [hz] at hc0
    have HC := Hd (show w3.cell? ⟨g, 0, none⟩ = some (.int .u64 2) ∧ w3.cell? ⟨g, 2, none⟩ = some (.int .u64 born) ∧ w3.cell? ⟨g, 4, none⟩ = some (.int .u64 size) ∧ w3.cell? ⟨g, 6, none⟩ = some (.int .u64 page) from
      ⟨hc0, row_cells HRow.out 2 _ rfl, row_cells HRow.out 4 _ rfl, row_cells HRow.out 6 _ rfl⟩)
    clear hrow hb3 d1 hz hc0
    obtain ⟨wb, hwb⟩ : ∃ wb, w.heap.size + 1 = wb := ⟨_, rfl⟩
    rw [hwb] at HVX3
    have HWb := Hd hwb
    go_wp2_with (fail)
    try rw [hwb]
    clear hwb
    obtain ⟨S, hS⟩ : ∃ S : World → Prop, ∀ u, S u ↔ Keep (fun _ => False) (w3) u := ⟨fun u => Keep (fun _ => False) (w3) u, fun _ => Iff.rfl⟩
    have HS := Hd hS
    clear hS
    refine wp_region_ord 30 [(0, true), (1, true), (2, true), (3, true), (4, true), (5, true), (6, true), (7, true), (8, true), (9, true), (10, true), (11, true), (12, true), (13, true), (14, true), (15, true), (16, true), (17, true), (18, true), (19, true), (20, true), (21, true), (22, true), (23, true), (24, true), (25, true), (26, true), (27, true), (28, true), (29, true)] S (by kernel_rfl) (by kernel_rfl) ((HS.out _).2 (Keep.refl _ _).drew) ?_
    iterate 30
      first
        | (refine wpH_passed rfl (by rfl) (fun K hK => ?_); go_simp; refine hK _ ?_; clear hK K)
        | (first
             | refine wpH_read rfl rfl (fun K hK => ?_)
             | refine wpH_readw rfl (by rfl) (fun K hK => ?_)
           apply Exists.intro
           refine ⟨fun u hu => ?_, ?_⟩
           · have hu := (HS.out u).1 hu
             have hr0 : u.cell? ⟨g, 0, none⟩ = some (.int .u64 2) := by rw [hu.cell (p := ⟨g, 0, none⟩) HGl.out (fun e => e)]; exact HC.out.1
             have hr1 : u.cell? ⟨g, 2, none⟩ = some (.int .u64 born) := by rw [hu.cell (p := ⟨g, 2, none⟩) HGl.out (fun e => e)]; exact HC.out.2.1
             have hr2 : u.cell? ⟨g, 4, none⟩ = some (.int .u64 size) := by rw [hu.cell (p := ⟨g, 4, none⟩) HGl.out (fun e => e)]; exact HC.out.2.2.1
             have hr3 : u.cell? ⟨g, 6, none⟩ = some (.int .u64 page) := by rw [hu.cell (p := ⟨g, 6, none⟩) HGl.out (fun e => e)]; exact HC.out.2.2.2
             clear hu
             go_simp
             exact ⟨rfl, rfl⟩
           go_simp
           refine hK _ ?_
           clear hK K)
    refine wpH_nil ?_
    simp only [List.drop_succ_cons, List.drop_zero]
    clear S HS
    have hx7 : w3.drew.heap[wb]? = some (.cells #[.string ⟨#[]⟩, .string ⟨#[]⟩, .int .u64 0, .bool false, .bool false, .int .u64 0, .int .i64 0, .int .i64 0] 38 (0, 0)) := HVX3.out
    generalize hw7 : w3.drew = w7 at *
    have HB7 := Hd (show Below w.heap.size w w7 by rw [← hw7]; exact HB3.out.trans ⟨rfl, rfl, rfl, Nat.le_refl _, fun _ _ => rfl⟩)
    clear hw7
    obtain ⟨⟨d0, d1, d2, d3, d4, d5, d6, d7⟩, y0, y1, y2, y3, y4, y5, y6, y7⟩ := box8 hx7
    have HX7 := Hd hx7
    clear hx7
    go_wp2
    refine bodyPost_ret (results_box2 rfl _ _ wb _ _ _ _ rfl (set8_heap HX7.out _ _ _ _ _ _ _ _) Tryz.underlying38 rfl (by kernel_rfl)) rfl ?_
    exact ⟨rfl, set8_below HB7.out (by have := HWb.out; omega) _ _ _ _ _ _ _ _⟩
  | false =>
    have hz : z = 0 := by rw [← HZ.out]; rfl
    go_enter Tryz.func111, Tryz.ntmps111
    go_wp2_with (fail)
    generalize (w.alloc (.cells #[.string key, .string val] 202)).alloc (.cells #[.string ⟨#[]⟩, .string ⟨#[]⟩, .int .u64 0, .bool false, .bool false, .int .u64 0, .int .i64 0, .int .i64 0] 38) = w1 at *
    refine (HRv.out _).mono ?_
    rintro e w2 ⟨rfl, hb2⟩
    have hpx2 := (hb2.block w.heap.size (Gl HPX.out)).trans HPX.out
    have hvx2 := (hb2.block (w.heap.size + 1) (Gl HVX.out)).trans HVX.out
    have d1 : w2.cell? ⟨w.heap.size, 1, none⟩ = some (.string val) := Lib.cell_of_heap hpx2 1
    have HVX2 := Hd hvx2
    have HB2 := Hd (HBV.out.trans (hb2.mono HBV.out.size))
    clear hb2 hpx2 hvx2
    go_wp2_with (fail)
    refine (HRd.out _).mono ?_
    rintro e w3 ⟨v, rfl, hrow, hb3⟩
    obtain ⟨g, c, rfl, hc1, hc2, hgB⟩ := row_posB hrow (by show 0 < 4; decide)
    have HRow := Hd hrow
    have HVX3 := Hd ((hb3.block (w.heap.size + 1) (Gl HVX2.out)).trans HVX2.out)
    have HB3 := Hd (HB2.out.trans (hb3.mono HB2.out.size))
    have HGl := Hd (show g < w3.heap.size from (hrow.lt g rfl).2)
    have hc0 : w3.cell? ⟨g, 0, none⟩ = some (.int .u64 z) := by rw [← HZ.out]; exact row_cells hrow 0 _ rfl
    rw [hz] at hc0
    have HC := Hd (show w3.cell? ⟨g, 0, none⟩ = some (.int .u64 0) ∧ w3.cell? ⟨g, 2, none⟩ = some (.int .u64 born) ∧ w3.cell? ⟨g, 4, none⟩ = some (.int .u64 size) ∧ w3.cell? ⟨g, 6, none⟩ = some (.int .u64 page) from
      ⟨hc0, row_cells HRow.out 2 _ rfl, row_cells HRow.out 4 _ rfl, row_cells HRow.out 6 _ rfl⟩)
    clear hrow hb3 d1 hz hc0
    obtain ⟨wb, hwb⟩ : ∃ wb, w.heap.size + 1 = wb := ⟨_, rfl⟩
    rw [hwb] at HVX3
    have HWb := Hd hwb
    go_wp2_with (fail)
    try rw [hwb]
    clear hwb
    obtain ⟨S, hS⟩ : ∃ S : World → Prop, ∀ u, S u ↔ Keep (fun _ => False) (w3) u := ⟨fun u => Keep (fun _ => False) (w3) u, fun _ => Iff.rfl⟩
    have HS := Hd hS
    clear hS
    refine wp_region_ord 30 [(0, true), (1, true), (2, true), (3, true), (4, true), (5, true), (6, true), (7, true), (8, true), (9, true), (10, true), (11, true), (12, true), (13, true), (14, true), (15, true), (16, true), (17, true), (18, true), (19, true), (20, true), (21, true), (22, true), (23, true), (24, true), (25, true), (26, true), (27, true), (28, true), (29, true)] S (by kernel_rfl) (by kernel_rfl) ((HS.out _).2 (Keep.refl _ _).drew) ?_
    iterate 30
      first
        | (refine wpH_passed rfl (by rfl) (fun K hK => ?_); go_simp; refine hK _ ?_; clear hK K)
        | (first
             | refine wpH_read rfl rfl (fun K hK => ?_)
             | refine wpH_readw rfl (by rfl) (fun K hK => ?_)
           apply Exists.intro
           refine ⟨fun u hu => ?_, ?_⟩
           · have hu := (HS.out u).1 hu
             have hr0 : u.cell? ⟨g, 0, none⟩ = some (.int .u64 0) := by rw [hu.cell (p := ⟨g, 0, none⟩) HGl.out (fun e => e)]; exact HC.out.1
             have hr1 : u.cell? ⟨g, 2, none⟩ = some (.int .u64 born) := by rw [hu.cell (p := ⟨g, 2, none⟩) HGl.out (fun e => e)]; exact HC.out.2.1
             have hr2 : u.cell? ⟨g, 4, none⟩ = some (.int .u64 size) := by rw [hu.cell (p := ⟨g, 4, none⟩) HGl.out (fun e => e)]; exact HC.out.2.2.1
             have hr3 : u.cell? ⟨g, 6, none⟩ = some (.int .u64 page) := by rw [hu.cell (p := ⟨g, 6, none⟩) HGl.out (fun e => e)]; exact HC.out.2.2.2
             clear hu
             go_simp
             exact ⟨rfl, rfl⟩
           go_simp
           refine hK _ ?_
           clear hK K)
    refine wpH_nil ?_
    simp only [List.drop_succ_cons, List.drop_zero]
    clear S HS
    have hx7 : w3.drew.heap[wb]? = some (.cells #[.string ⟨#[]⟩, .string ⟨#[]⟩, .int .u64 0, .bool false, .bool false, .int .u64 0, .int .i64 0, .int .i64 0] 38 (0, 0)) := HVX3.out
    generalize hw7 : w3.drew = w7 at *
    have HB7 := Hd (show Below w.heap.size w w7 by rw [← hw7]; exact HB3.out.trans ⟨rfl, rfl, rfl, Nat.le_refl _, fun _ _ => rfl⟩)
    clear hw7
    obtain ⟨⟨d0, d1, d2, d3, d4, d5, d6, d7⟩, y0, y1, y2, y3, y4, y5, y6, y7⟩ := box8 hx7
    have HX7 := Hd hx7
    clear hx7
    go_wp2
    refine bodyPost_ret (results_box2 rfl _ _ wb _ _ _ _ rfl (set8_heap HX7.out _ _ _ _ _ _ _ _) Tryz.underlying38 rfl (by kernel_rfl)) rfl ?_
    exact ⟨rfl, set8_below HB7.out (by have := HWb.out; omega) _ _ _ _ _ _ _ _⟩
end Go.Proofs.YtaokjeokpifjgaaGreatDoor

namespace Go.Proofs.YtaokjeokpifjgaaGreatDoor
open Go.RowKit Go.MapKept
attribute [local go_sem] gives givesH
set_option maxRecDepth 100000

section
variable {w : World} {sb : Nat} {s : Sto} {D : Dict} {nz : Nat} {b item : ByteArray}
set_option maxHeartbeats 2000000 in
theorem vget_some (h : StAt w sb s D nz) (hn : nz ≤ 1900) (hb : bucketOk b = true) (hi : itemOk item = true) (mk : Bool) {id born size page : Nat} (h0 : id < 18446744073709551616) (h2 : born < 18446744073709551616) (h3 : size < 4294967296) (h4 : page < 4294967296)
    (hl : look s.X.kvM (versionKey b item id) = some (verT (howN false mk) born size page)) :
    Calls Tryz.prog 48 #[.pointer (some ⟨s.br, 0, none⟩), .string b, .string item, .int .u64 id] w fun e w' => e = .returned (.tuple #[.agg (vC b item id false mk born size page), .bool true, .int .i64 0]) ∧ Below w.heap.size w w' := by
  have hb0 : Below w.heap.size w (w.alloc (.cells #[.string ⟨#[]⟩, .string ⟨#[]⟩, .int .u64 0, .bool false, .bool false, .int .u64 0, .int .i64 0, .int .i64 0] 38)) := (Below.refl _ _).alloc (Nat.le_refl _) _
  have hx0 := heap_alloc_new w (.cells #[.string ⟨#[]⟩, .string ⟨#[]⟩, .int .u64 0, .bool false, .bool false, .int .u64 0, .int .i64 0, .int .i64 0] 38)
  have HK := Hd (versionKey_any b item hb hi id h0)
  have HM := Hd (vmeta_any s.br)
  have HG := Hd (fun (u : World) tb (hu : Below w.heap.size w u) (ht : TreeAt u tb s.br 4) => tget_is (key := versionKey b item id) ht (h.room.still hu) (by decide) h.cont.out.tm h.sized.pages (by have := h.sized.m; omega))
  have HRd := Hd (vread_any hb hi mk h0 h2 h3 h4)
  rw [hl] at HG
  obtain ⟨key, hkey⟩ : ∃ key, versionKey b item id = key := ⟨_, rfl⟩
  obtain ⟨val, hval⟩ : ∃ val, verT (howN false mk) born size page = val := ⟨_, rfl⟩
  rw [hkey] at HK HG HRd
  rw [hval] at HG HRd
  unfold vC at *
  have HB0 := Hd hb0
  have HX0 := Hd hx0
  clear h hb hi hl hkey hval hb0 hx0
  go_enter Tryz.func48, Tryz.ntmps48
  go_wp2_with (first
    | (go_at_call 112; refine (HK.out _).mono ?_; rintro e w1 ⟨rfl, hb1⟩
       have HX1 := Hd ((hb1.block w.heap.size (by simp)).trans HX0.out)
       have HB1 := Hd (HB0.out.trans (hb1.mono HB0.out.size))
       clear hb1)
    | (go_at_call 108; refine (HM.out _).mono ?_; rintro e w2 ⟨rfl, hw2⟩
       have hb2 : Below w1.heap.size w1 w2 := by rw [hw2]; exact (Below.refl _ _).alloc (Nat.le_refl _) _
       have HT2 := Hd (show w2.heap[w1.heap.size]? = some (.cells #[.pointer (some ⟨s.br, 0, none⟩), .int .i64 4] 242 (0, 0)) by rw [hw2]; exact heap_alloc_new w1 _)
       have HX2 := Hd ((hb2.block w.heap.size (Gl HX1.out)).trans HX1.out)
       have HB2 := Hd (HB1.out.trans (hb2.mono HB1.out.size))
       clear hb2 hw2)
    | (go_at_call 87; refine (HG.out _ _ HB2.out ⟨HT2.out⟩).mono ?_; rintro e w3 ⟨rfl, hb3⟩
       have HX3 := Hd ((hb3.block w.heap.size (Gl HX2.out)).trans HX2.out)
       have HB3 := Hd (HB2.out.trans (hb3.mono HB2.out.size))
       clear hb3)
    | (go_at_call 111; refine (HRd.out _).mono ?_; rintro e w4 ⟨rfl, hb4⟩
       have hx4 := (hb4.block w.heap.size (Gl HX3.out)).trans HX3.out
       have hb4' := HB3.out.trans (hb4.mono HB3.out.size)
       have hb5 : Below w4.heap.size w4 (w4.alloc (.cells #[.string b, .string item, .int .u64 id, .bool false, .bool mk, .int .u64 born, .int .i64 size, .int .i64 page] 38)) := (Below.refl _ _).alloc (Nat.le_refl _) _
       have hx5 := (hb5.block w.heap.size (Gl hx4)).trans hx4
       have HX5 := Hd hx5
       have HB5 := Hd (hb4'.trans (hb5.mono hb4'.size))
       have HY5 := Hd (heap_alloc_new w4 (.cells #[.string b, .string item, .int .u64 id, .bool false, .bool mk, .int .u64 born, .int .i64 size, .int .i64 page] 38))
       obtain ⟨⟨d0, d1, d2, d3, d4, d5, d6, d7⟩, y0, y1, y2, y3, y4, y5, y6, y7⟩ := box8 hx5
       obtain ⟨⟨e0, e1, e2, e3, e4, e5, e6, e7⟩, -⟩ := box8 HY5.out
       clear hb4 hx4 hb4' hb5 hx5))
  refine bodyPost_ret (results_box3 rfl _ _ w.heap.size _ _ _ _ rfl (set8_heap HX5.out _ _ _ _ _ _ _ _) Tryz.underlying38 rfl (by kernel_rfl)) rfl ?_
  exact ⟨rfl, set8_below HB5.out (Nat.le_refl _) _ _ _ _ _ _ _ _⟩
end
end Go.Proofs.YtaokjeokpifjgaaGreatDoor

namespace Go.Proofs.YtaokjeokpifjgaaGreatDoor
open Go.RowKit Go.MapKept
attribute [local go_sem] gives givesH
set_option maxRecDepth 100000

section
variable {w : World} {sb : Nat} {s : Sto} {D : Dict} {nz : Nat} {b item : ByteArray}
set_option maxHeartbeats 2000000 in
theorem vfind_id (h : StAt w sb s D nz) (hn : nz ≤ 1900) (hb : bucketOk b = true) {st bo : Nat} (hlb : look s.X.kvM (bucketKey b) = some (bucketT st bo)) (hst : st < 256) (hbo : bo < 18446744073709551616) (hi : itemOk item = true) {id born size page : Nat} (h00 : 1 ≤ id) (h0 : id < 18446744073709551616) (h2 : born < 18446744073709551616) (h3 : size < 4294967296) (h4 : page < 4294967296)
    (hl : look s.X.kvM (versionKey b item id) = some (verT (howN false false) born size page)) :
    Calls Tryz.prog 15 #[.pointer (some ⟨s.br, 0, none⟩), .string b, .string item, .int .u64 id] w fun e w' => e = .returned (.tuple #[.agg (vC b item id false false born size page), .int .i64 0]) ∧ Below w.heap.size w w' := by
  have hb0 : Below w.heap.size w (w.alloc (.cells #[.string ⟨#[]⟩, .string ⟨#[]⟩, .int .u64 0, .bool false, .bool false, .int .u64 0, .int .i64 0, .int .i64 0] 38)) := (Below.refl _ _).alloc (Nat.le_refl _) _
  have hx0 := heap_alloc_new w (.cells #[.string ⟨#[]⟩, .string ⟨#[]⟩, .int .u64 0, .bool false, .bool false, .int .u64 0, .int .i64 0, .int .i64 0] 38)
  have HT := Hd (there_ok (h.still hb0) hn hb hlb hst hbo hi)
  have HG := Hd (fun (u : World) (hu : Below w.heap.size w u) => vget_some (h.still hu) hn hb hi false h0 h2 h3 h4 hl)
  unfold vC bkC at *
  have HB0 := Hd hb0
  have HX0 := Hd hx0
  have e0 : ((id : Int) == 0) = false := by simp; omega
  clear h hb hi hl hb0 hx0 hlb
  go_enter Tryz.func15, Tryz.ntmps15
  go_wp2_with (first
    | (go_at_call 41; refine (HT.out).mono ?_; rintro e w1 ⟨rfl, hb1⟩
       have hx1 := (hb1.block w.heap.size (by simp)).trans HX0.out
       have hb1' := HB0.out.trans (hb1.mono HB0.out.size)
       have hb2 : Below w1.heap.size w1 (w1.alloc (.cells #[.string b, .int .i64 st, .int .u64 bo, .bool false, .string ⟨#[]⟩, .int .u64 0] 89)) := (Below.refl _ _).alloc (Nat.le_refl _) _
       have HX2 := Hd ((hb2.block w.heap.size (Gl hx1)).trans hx1)
       have HB2 := Hd (hb1'.trans (hb2.mono hb1'.size))
       clear hb1 hx1 hb1' hb2)
    | (go_at_call 48; refine (HG.out _ HB2.out).mono ?_; rintro e w4 ⟨rfl, hb4⟩
       have hx4 := (hb4.block w.heap.size (Gl HX2.out)).trans HX2.out
       have hb4' := HB2.out.trans (hb4.mono HB2.out.size)
       have hb5 : Below w4.heap.size w4 (w4.alloc (.cells #[.string b, .string item, .int .u64 id, .bool false, .bool false, .int .u64 born, .int .i64 size, .int .i64 page] 38)) := (Below.refl _ _).alloc (Nat.le_refl _) _
       have hx5 := (hb5.block w.heap.size (Gl hx4)).trans hx4
       have HX5 := Hd hx5
       have HB5 := Hd (hb4'.trans (hb5.mono hb4'.size))
       have HY5 := Hd (heap_alloc_new w4 (.cells #[.string b, .string item, .int .u64 id, .bool false, .bool false, .int .u64 born, .int .i64 size, .int .i64 page] 38))
       obtain ⟨⟨d0, d1, d2, d3, d4, d5, d6, d7⟩, y0, y1, y2, y3, y4, y5, y6, y7⟩ := box8 hx5
       obtain ⟨⟨e0, e1, e2, e3, e4, e5, e6, e7⟩, -⟩ := box8 HY5.out
       clear hb4 hx4 hb4' hb5 hx5))
  refine bodyPost_ret (results_box2 rfl _ _ w.heap.size _ _ _ _ rfl (set8_heap HX5.out _ _ _ _ _ _ _ _) Tryz.underlying38 rfl (by kernel_rfl)) rfl ?_
  exact ⟨rfl, set8_below HB5.out (Nat.le_refl _) _ _ _ _ _ _ _ _⟩
set_option maxHeartbeats 1000000 in
theorem refs_v (h : StAt w sb s D nz) {id born size page : Nat} {l : RefL} {ps : List Nat} (hl : l.length ≤ 100) (hok : l.all okRef = true) (hv : (wrS l, ps) ∈ s.X.vb) (hp : ps.getD 0 0 = page) :
    Calls Tryz.prog 16 #[.pointer (some ⟨s.br, 0, none⟩), .agg (vC b item id false false born size page)] w fun e w' => ∃ v B, e = .returned (.tuple #[v, .int .i64 0]) ∧ w'.ownsRow B 98 2 v l.length (refV l) ∧ w.heap.size ≤ B ∧ Below w.heap.size w w' := by
  have hbl := h.cont.out.bl _ hv
  have hz := wrS_size l hok
  have hb0 : Below w.heap.size w (w.alloc (.cells (vC b item id false false born size page) 38)) := (Below.refl _ _).alloc (Nat.le_refl _) _
  have HG := Hd (get_ok (h.room.still hb0) hbl (show (wrS l).size ≤ 131072 by omega))
  rw [show (wrS l, ps).2 = ps from rfl, show (wrS l, ps).1 = wrS l from rfl, hp] at HG
  have HRd := Hd (rread_any hl hok)
  have HB0 := Hd hb0
  generalize wrS l = t at *
  unfold vC at *
  have HX0 := Hd (heap_alloc_new w (.cells #[.string b, .string item, .int .u64 id, .bool false, .bool false, .int .u64 born, .int .i64 size, .int .i64 page] 38))
  obtain ⟨⟨e0, e1, e2, e3, e4, e5, e6, e7⟩, -⟩ := box8 HX0.out
  clear h hbl hz hb0 hv
  go_enter Tryz.func16, Tryz.ntmps16
  go_wp2_with (first
    | (go_at_call 50; refine (HG.out).mono ?_; rintro e w1 ⟨rfl, hb1⟩
       have HB1 := Hd (HB0.out.trans (hb1.mono HB0.out.size))
       clear hb1)
    | (go_at_call 51; refine (HRd.out _).mono ?_; rintro e w2 ⟨v, rfl, hrow, hb2⟩
       have HB2 := Hd (HB1.out.trans (hb2.mono HB1.out.size))
       have HRow := Hd hrow
       obtain ⟨sa, sc, hsv⟩ := slice_formB hrow
       subst hsv
       clear hb2 hrow))
  go_ret2
  exact ⟨_, _, rfl, HRow.out, HB1.out.size, HB2.out⟩
end
end Go.Proofs.YtaokjeokpifjgaaGreatDoor

namespace Go.Proofs.YtaokjeokpifjgaaGreatDoor
open Go.RowKit Go.MapKept
attribute [local go_sem] gives givesH
set_option maxRecDepth 100000

section
variable {w : World} {sb : Nat} {s : Sto} {D : Dict} {nz : Nat} {b item : ByteArray}
theorem XStep.trans {w0 w1 w2 : World} {s0 s1 s2 : Sto} {n1 n2 : Nat} (h : XStep w0 s0 D sb n1 w1 s1) (k : XStep w1 s1 D sb n2 w2 s2) : XStep w0 s0 D sb n2 w2 s2 := ⟨k.st, h.step.trans k.step, k.kv.trans h.kv⟩
theorem XStep.aside {w0 w' w'' : World} {s' : Sto} {nz' rb : Nat} (h : XStep w0 s D sb nz' w' s') (hs : StAt w0 sb s D nz) (hk : Keep (fun k => k = rb) w' w'') (h0 : w0.heap.size ≤ rb) (hnf : ¬ s'.foot rb) : XStep w0 s D sb nz' w'' s' := by
  have ha := hs.ahead
  have h1 := h.step.ib
  have h2 := h.step.lb
  exact ⟨h.st.keep hk (by omega) (by omega) (by omega) (fun k hf e => hnf (e ▸ hf)), ⟨h.step.keep.trans hk (fun i hi e => by omega), h.step.foot, h1, h2, h.step.br, h.step.pg⟩, h.kv⟩
theorem XStep.still {u : World} (h : StAt w sb s D nz) (hb : Below w.heap.size w u) : XStep w s D sb nz u s := ⟨h.still hb, VStep.still hb, rfl⟩
set_option maxHeartbeats 4000000 in
theorem numbered_st (h : StAt w sb s D nz) (hn : nz + 1 ≤ 1900 ∧ 8 * (nz + 1) + 300 ≤ s.R.pages) (hb : bucketOk b = true) (hi : itemOk item = true) (mk : Bool) (hx : s.X.next + 1 < 18446744073709551616) {born size page : Nat} (h2 : born < 18446744073709551616) (h3 : size < 4294967296) (h4 : page < 4294967296) :
    Calls Tryz.prog 46 #[.pointer (some ⟨s.br, 0, none⟩), .agg (vC b item 0 false mk born size page)] w fun e w' => e = .returned (.tuple #[.agg (vC b item (s.X.next + 1) false mk born size page), .int .i64 0]) ∧ ∃ s', XStep w s D sb (nz + 2) w' s' ∧ s'.X.kvM = ins s.X.kvM (versionKey b item (s.X.next + 1)) (verT (howN false mk) born size page) ∧ s'.X.vb = s.X.vb ∧ s'.X.next = s.X.next + 1 := by
  have HN := Hd (fun (u : World) (hu : Below w.heap.size w u) => number_st (h.still hu) (by omega) hx)
  have HK := Hd (fun (u : World) (s1 : Sto) (hu : StAt u sb s1 D (nz + 1)) (hp : s1.R.pages = s.R.pages) => vkeep_st hu (by omega) hb hi mk (id := s.X.next + 1) hx h2 h3 h4)
  have HSt := Hd h
  have HAh := Hd h.ahead
  obtain ⟨y, hy⟩ : ∃ y, s.X.next + 1 = y := ⟨_, rfl⟩
  rw [hy] at HN HK ⊢
  have HY := Hd hy
  unfold vC at *
  clear h hb hi hx hy
  have hb1 : Below w.heap.size w (w.alloc (.cells #[.string b, .string item, .int .u64 0, .bool false, .bool mk, .int .u64 born, .int .i64 size, .int .i64 page] 38)) := (Below.refl _ _).alloc (Nat.le_refl _) _
  have hx1 := heap_alloc_new w (.cells #[.string b, .string item, .int .u64 0, .bool false, .bool mk, .int .u64 born, .int .i64 size, .int .i64 page] 38)
  have hs1 := World.size_alloc w (.cells #[.string b, .string item, .int .u64 0, .bool false, .bool mk, .int .u64 born, .int .i64 size, .int .i64 page] 38)
  have HB1 := Hd hb1
  have HX1 := Hd hx1
  have HS1 := Hd hs1
  clear hb1 hx1 hs1
  go_enter Tryz.func46, Tryz.ntmps46
  go_wp2_with (fail)
  obtain ⟨w1, hw1⟩ : ∃ w1, w.alloc (.cells #[.string b, .string item, .int .u64 0, .bool false, .bool mk, .int .u64 born, .int .i64 size, .int .i64 page] 38) = w1 := ⟨_, rfl⟩
  rw [hw1] at HB1 HX1 HS1 ⊢
  have hb2 := HB1.out.alloc HB1.out.size (.cells #[.string ⟨#[]⟩, .string ⟨#[]⟩, .int .u64 0, .bool false, .bool false, .int .u64 0, .int .i64 0, .int .i64 0] 38)
  have hx2 := heap_alloc_new w1 (.cells #[.string ⟨#[]⟩, .string ⟨#[]⟩, .int .u64 0, .bool false, .bool false, .int .u64 0, .int .i64 0, .int .i64 0] 38)
  rw [HS1.out] at hx2
  have hxv2 : (w1.alloc (.cells #[.string ⟨#[]⟩, .string ⟨#[]⟩, .int .u64 0, .bool false, .bool false, .int .u64 0, .int .i64 0, .int .i64 0] 38)).heap[w.heap.size]? = _ := (Below.heap_alloc _ _ _ (by have := HS1.out; omega)).trans HX1.out
  obtain ⟨w2, hw2⟩ : ∃ w2, w1.alloc (.cells #[.string ⟨#[]⟩, .string ⟨#[]⟩, .int .u64 0, .bool false, .bool false, .int .u64 0, .int .i64 0, .int .i64 0] 38) = w2 := ⟨_, rfl⟩
  rw [hw2] at hb2 hx2 hxv2 ⊢
  have HB2 := Hd hb2
  have HX2 := Hd hx2
  have HV2 := Hd hxv2
  clear hw1 hw2 hb2 hx2 hxv2
  refine (HN.out _ HB2.out).mono ?_
  rintro e w3 ⟨rfl, s1, hx3, hk31, hk32, hk33⟩
  obtain ⟨xb, hxb⟩ : ∃ xb, w.heap.size = xb := ⟨_, rfl⟩
  have HXb := Hd hxb
  rw [hxb] at HX2 HV2 ⊢
  clear hxb
  have hl2 : xb + 1 < w2.heap.size := (Gl HX2.out)
  have hnf0 : ∀ k, xb ≤ k → ¬ s.foot k := fun k hk e => by have := HAh.out.2.2.2 _ e; have := HXb.out; omega
  have hnf1 : ∀ k, xb ≤ k → k < w2.heap.size → ¬ s1.foot k := fun k hk hk2 e => (hx3.step.foot k e).elim (hnf0 k hk) (fun e2 => by omega)
  have hx3b := hx3.step.keep.at HX2.out (hnf0 _ (by omega))
  have hx3v := hx3.step.keep.at HV2.out (hnf0 _ (Nat.le_refl _))
  obtain ⟨⟨d0, d1, d2, d3, d4, d5, d6, d7⟩, y0, y1, y2, y3, y4, y5, y6, y7⟩ := box8 hx3v
  have hX3 := hx3.after HB2.out
  have HX3 := Hd hX3
  have HX3b := Hd hx3b
  have HX3v := Hd hx3v
  have HK3 := Hd (And.intro hk31 (And.intro hk32 hk33))
  have HNf1 := Hd hnf1
  have HL2 := Hd hl2
  have HPg := Hd hx3.step.pg
  have HBr := Hd hx3.step.br
  clear hx3 hk31 hk32 hk33 hnf0 hnf1 hx3b hx3v hX3 hl2
  go_wp2_with (fail)
  clear d0 d1 d2 d3 d4 d5 d6 d7 y0 y1 y2 y3 y4 y5 y6 y7
  have hk4 : Keep (fun k => k = xb) w3 (w3.setCell ⟨xb, 2, none⟩ (.int .u64 y)) := (Keep.refl (fun k => k = xb) w3).setCell (p := ⟨xb, 2, none⟩) (fun _ => rfl) _
  have hX4 := HX3.out.aside HSt.out hk4 (by have := HXb.out; omega) (HNf1.out xb (Nat.le_refl _) (by have := HL2.out; omega))
  have hv4 : (w3.setCell ⟨xb, 2, none⟩ (.int .u64 y)).heap[xb]? = some (.cells #[.string b, .string item, .int .u64 y, .bool false, .bool mk, .int .u64 born, .int .i64 size, .int .i64 page] 38 (0, 0)) := heap_setCell_same _ xb 2 _ _ _ HX3v.out
  have hr4 := hk4.at HX3b.out (fun e => by omega)
  obtain ⟨w4, hw4⟩ : ∃ w4, w3.setCell ⟨xb, 2, none⟩ (.int .u64 y) = w4 := ⟨_, rfl⟩
  rw [hw4] at hX4 hv4 hr4 ⊢
  have hdr : Below w4.heap.size w4 w4.drew := ⟨rfl, rfl, rfl, Nat.le_refl _, fun _ _ => rfl⟩
  have HDr := Hd hdr
  have HK4 := Hd (HK.out w4.drew s1 (hX4.st.still hdr) HPg.out)
  rw [HBr.out] at HK4
  have HX4 := Hd hX4
  have HV4 := Hd hv4
  have HR4 := Hd hr4
  have HVl := Hd (show xb < w4.heap.size from (Gl hv4))
  have HRl := Hd (show xb + 1 < w4.heap.size from (Gl hr4))
  clear hk4 hX4 hv4 hr4 hw4 hdr
  obtain ⟨S, hS⟩ : ∃ S : World → Prop, ∀ u, S u ↔ Keep (fun g => s1.foot g) (w4) u := ⟨fun u => Keep (fun g => s1.foot g) (w4) u, fun _ => Iff.rfl⟩
  have HS := Hd hS
  clear hS
  refine wp_region_ord 4 [(0, true), (1, true), (2, true), (3, false)] S (by kernel_rfl) (by kernel_rfl) ((HS.out _).2 (Keep.refl _ _).drew) ?_
  iterate 3
    first
      | (refine wpH_passed rfl (by rfl) (fun K hK => ?_); go_simp; refine hK _ ?_; clear hK K)
      | (first
           | refine wpH_read rfl rfl (fun K hK => ?_)
           | refine wpH_readw rfl (by rfl) (fun K hK => ?_)
         apply Exists.intro
         refine ⟨fun u hu => ?_, ?_⟩
         · have hu := (HS.out u).1 hu
           obtain ⟨⟨d0, d1, d2, d3, d4, d5, d6, d7⟩, -⟩ := box8 (hu.at HV4.out (HNf1.out xb (Nat.le_refl _) (by have := HL2.out; omega)))
           clear hu
           go_simp
           exact ⟨rfl, rfl⟩
         go_simp
         refine hK _ ?_
         clear hK K)
  first | refine wpH_do rfl rfl (fun K hK => ?_) | refine wpH_dow rfl (by rfl) (fun K hK => ?_)
  go_simp
  go_at_call 106
  refine (HK4.out).mono ?_
  rintro e w5 ⟨rfl, s2, hx5, k1, k2, k3⟩
  have hn1 : ¬ s1.foot (xb + 1) := HNf1.out (xb + 1) (by omega) HL2.out
  have HR5 := Hd (hx5.step.keep.at (show w4.drew.heap[xb + 1]? = _ from HR4.out) hn1)
  have HN2 := Hd (show ¬ s2.foot (xb + 1) from fun e => (hx5.step.foot _ e).elim hn1 (fun e2 => by have h9 : w4.drew.heap.size = w4.heap.size := rfl; have := HRl.out; omega))
  have HX5 := Hd (HX4.out.trans (hx5.after HDr.out))
  have HK5 := Hd (And.intro k1 (And.intro k2 k3))
  refine hK _ _ ((HS.out _).2 ((Keep.ofBelow HDr.out).trans hx5.step.keep (fun _ _ e => e))) ?_
  clear hK K hx5 k1 k2 k3 hn1
  refine wpH_nil ?_
  simp only [List.drop_succ_cons, List.drop_zero]
  clear S HS
  obtain ⟨⟨d0, d1, d2, d3, d4, d5, d6, d7⟩, y0, y1, y2, y3, y4, y5, y6, y7⟩ := box8 HR5.out
  go_wp2
  refine bodyPost_ret (results_box2 rfl _ _ (xb + 1) _ _ _ _ rfl (set8_heap HR5.out _ _ _ _ _ _ _ _) Tryz.underlying38 rfl (by kernel_rfl)) rfl ?_
  refine ⟨rfl, s2, HX5.out.aside HSt.out (set8_keep _ _ _ _ _ _ _ _ _ _) (by have := HXb.out; omega) HN2.out, ?_⟩
  obtain ⟨a1, a2, a3⟩ := HK3.out
  obtain ⟨b1, b2, b3⟩ := HK5.out
  exact ⟨by rw [b1, a1], b2.trans a2, b3.trans a3⟩
end
end Go.Proofs.YtaokjeokpifjgaaGreatDoor
