/-
  Texts of this claim, one behind the other: SealG1 SealG2 Ct1 Ct2 Ct3 Ct4 RcK RcB RcR SeR RcA RcC RcD StO RsP RsL Shell.
-/
import Derived.Test.YtankngomgjlfkaaGreatDoorM4
import Derived.Laws.FloatArith
import Derived.Laws.ComplexArith
import Derived.WalkLawsBesides
import Derived.Handy
import Derived.ScopeJumps
import Derived.Laws.BytesArg
import Derived.WalkMore
import Derived.Test.YtankngomgjlfkaaGreatDoorRows
import Derived.ProofKit
import Derived.OpenShut
namespace Go.Proofs.YtankngomgjlfkaaGreatDoor.crc

def poly : Nat := 3988292384
def stp (x : Nat) : Nat := if x % 2 = 1 then x / 2 ^^^ poly else x / 2
def it : Nat → Nat → Nat
  | 0, x => x
  | n + 1, x => it n (stp x)

theorem stp_zero : stp 0 = 0 := rfl
theorem it_zero (n : Nat) : it n 0 = 0 := by
  induction n with
  | zero => rfl
  | succ n ih => simp [it, stp_zero, ih]
theorem it_add (m n x : Nat) : it (m + n) x = it n (it m x) := by
  induction m generalizing x with
  | zero => simp [it]
  | succ m ih => rw [Nat.succ_add]; simp [it, ih]
theorem it_succ (n x : Nat) : it (n + 1) x = stp (it n x) := it_add n 1 x

theorem xor_mod (x y : Nat) : (x ^^^ y) % 2 = (x % 2 + y % 2) % 2 := by
  have h : ((x ^^^ y) % 2 ^ 1).testBit 0 = ((x % 2 ^ 1) ^^^ (y % 2 ^ 1)).testBit 0 := by simp
  have e : (x ^^^ y) % 2 ^ 1 = (x % 2 ^ 1) ^^^ (y % 2 ^ 1) := Nat.xor_mod_two_pow ..
  have hx := Nat.mod_two_eq_zero_or_one x
  have hy := Nat.mod_two_eq_zero_or_one y
  simp only [Nat.pow_one] at e
  rw [e]
  rcases hx with hx | hx <;> rcases hy with hy | hy <;> simp [hx, hy]

theorem stp_xor (x y : Nat) : stp (x ^^^ y) = stp x ^^^ stp y := by
  unfold stp
  have h := xor_mod x y
  have hd : (x ^^^ y) / 2 = x / 2 ^^^ y / 2 := by
    have := Nat.shiftRight_xor_distrib (a := x) (b := y) (i := 1)
    simpa [Nat.shiftRight_eq_div_pow] using this
  have hx := Nat.mod_two_eq_zero_or_one x
  have hy := Nat.mod_two_eq_zero_or_one y
  rcases hx with hx | hx <;> rcases hy with hy | hy <;> simp [h, hd, hx, hy]
  · ac_rfl
  · ac_rfl
  · have e : x / 2 ^^^ poly ^^^ (y / 2 ^^^ poly) = x / 2 ^^^ y / 2 ^^^ (poly ^^^ poly) := by ac_rfl
    rw [e, Nat.xor_self, Nat.xor_zero]

theorem it_xor (n x y : Nat) : it n (x ^^^ y) = it n x ^^^ it n y := by
  induction n generalizing x y with
  | zero => rfl
  | succ n ih => simp [it, stp_xor, ih]

theorem stp_lt (x : Nat) (h : x < 4294967296) : stp x < 4294967296 := by
  unfold stp
  split
  · exact Nat.xor_lt_two_pow (n := 32) (by omega) (by decide)
  · omega
theorem it_lt (n x : Nat) (h : x < 4294967296) : it n x < 4294967296 := by
  induction n generalizing x with
  | zero => exact h
  | succ n ih => exact ih _ (stp_lt x h)

theorem xor_eq_zero {x y : Nat} (h : x ^^^ y = 0) : x = y := by
  have := congrArg (· ^^^ y) h
  simpa [Nat.xor_assoc] using this

theorem stp_eq_zero (x : Nat) (h : x < 4294967296) (h0 : stp x = 0) : x = 0 := by
  unfold stp at h0
  split at h0
  · have := xor_eq_zero h0
    unfold poly at this
    omega
  · omega
theorem it_eq_zero (n x : Nat) (h : x < 4294967296) (h0 : it n x = 0) : x = 0 := by
  induction n generalizing x with
  | zero => exact h0
  | succ n ih => exact stp_eq_zero x h (ih _ (stp_lt x h) h0)
theorem it_inj (n x y : Nat) (hx : x < 4294967296) (hy : y < 4294967296) (h : it n x = it n y) : x = y := by
  apply xor_eq_zero
  apply it_eq_zero n _ (Nat.xor_lt_two_pow (n := 32) hx hy)
  rw [it_xor, h, Nat.xor_self]

theorem stp_double (x : Nat) : stp (2 * x) = x := by
  unfold stp
  rw [if_neg (by omega)]
  omega
theorem it_shift (n x : Nat) : it n (2 ^ n * x) = x := by
  induction n generalizing x with
  | zero => simp [it]
  | succ n ih =>
    show it n (stp (2 ^ (n + 1) * x)) = x
    rw [Nat.pow_succ, Nat.mul_comm (2 ^ n) 2, Nat.mul_assoc, stp_double, ih]

def upd (s : Nat) (c : Nat) : Nat := it 8 (s ^^^ c)
def run (s : Nat) (l : List Nat) : Nat := l.foldl upd s
def check (l : List Nat) : Nat := run 4294967295 l ^^^ 4294967295

theorem run_append (s : Nat) (l m : List Nat) : run s (l ++ m) = run (run s l) m := List.foldl_append ..
theorem run_xor (s d : Nat) (l : List Nat) : run (s ^^^ d) l = run s l ^^^ it (8 * l.length) d := by
  induction l generalizing s d with
  | nil => simp [run, it]
  | cons c l ih =>
    show run (upd (s ^^^ d) c) l = run (upd s c) l ^^^ _
    have e : upd (s ^^^ d) c = upd s c ^^^ it 8 d := by
      unfold upd
      rw [← it_xor]
      congr 1
      rw [Nat.xor_assoc, Nat.xor_comm d, Nat.xor_assoc]
    rw [e, ih]
    congr 1

theorem byte_lt {c : Nat} (h : c < 256) : c < 4294967296 := by omega
theorem upd_lt (s c : Nat) (hs : s < 4294967296) (hc : c < 256) : upd s c < 4294967296 :=
  it_lt 8 _ (Nat.xor_lt_two_pow (n := 32) hs (byte_lt hc))
theorem run_lt (s : Nat) (l : List Nat) (hs : s < 4294967296) (hl : ∀ c ∈ l, c < 256) : run s l < 4294967296 := by
  induction l generalizing s with
  | nil => exact hs
  | cons c l ih => exact ih _ (upd_lt s c hs (hl c (by simp))) fun x hx => hl x (by simp [hx])
theorem check_lt (l : List Nat) (hl : ∀ c ∈ l, c < 256) : check l < 4294967296 :=
  Nat.xor_lt_two_pow (n := 32) (run_lt _ _ (by decide) hl) (by decide)

theorem check_append (a b : List Nat) : check (a ++ b) = it (8 * b.length) (check a) ^^^ check b := by
  unfold check
  rw [run_append]
  have h := run_xor 4294967295 (run 4294967295 a ^^^ 4294967295) b
  have e : 4294967295 ^^^ (run 4294967295 a ^^^ 4294967295) = run 4294967295 a := by
    rw [Nat.xor_comm, Nat.xor_assoc, Nat.xor_self, Nat.xor_zero]
  rw [e] at h
  rw [h, Nat.xor_assoc, Nat.xor_comm (it _ _)]
  rw [← Nat.xor_assoc, Nat.xor_comm]

def tms (a : Nat) : Nat → Nat → Nat
  | 0, _ => 0
  | k + 1, b => tms a k b ^^^ (if a.testBit (31 - k) then it k b else 0)
def times (a b : Nat) : Nat := tms a 32 b

theorem tms_it (a k n b : Nat) : tms a k (it n b) = it n (tms a k b) := by
  induction k with
  | zero => simp [tms, it_zero]
  | succ k ih =>
    simp only [tms, it_xor, ih]
    congr 1
    split
    · rw [← it_add, ← it_add, Nat.add_comm]
    · rw [it_zero]
theorem tms_xor (a k x y : Nat) : tms a k (x ^^^ y) = tms a k x ^^^ tms a k y := by
  induction k with
  | zero => simp [tms]
  | succ k ih =>
    simp only [tms, ih]
    split
    · rw [it_xor]; ac_rfl
    · simp
theorem tms_zero (a k : Nat) : tms a k 0 = 0 := by
  induction k with
  | zero => rfl
  | succ k ih => simp [tms, ih, it_zero]
theorem tms_tms (a b j k c : Nat) : tms a j (tms b k c) = tms b k (tms a j c) := by
  induction k with
  | zero => simp [tms, tms_zero]
  | succ k ih =>
    simp only [tms, tms_xor, ih]
    congr 1
    split
    · rw [tms_it]
    · rw [tms_zero]
theorem tms_lt (a k b : Nat) (h : b < 4294967296) : tms a k b < 4294967296 := by
  induction k with
  | zero => exact Nat.zero_lt_succ _
  | succ k ih =>
    refine Nat.xor_lt_two_pow (n := 32) ih ?_
    split
    · exact it_lt _ _ h
    · decide
theorem times_lt (a b : Nat) (h : b < 4294967296) : times a b < 4294967296 := tms_lt a 32 b h

def one : Nat := 2147483648
theorem it_one (k : Nat) (h : k ≤ 31) : it k one = 2 ^ (31 - k) := by
  have e : one = 2 ^ k * 2 ^ (31 - k) := by
    rw [← Nat.pow_add, show k + (31 - k) = 31 by omega]; rfl
  rw [e, it_shift]
theorem tms_one_bit (a k : Nat) (h : k ≤ 32) (i : Nat) : (tms a k one).testBit i = (a.testBit i && decide (32 - k ≤ i ∧ i < 32)) := by
  induction k with
  | zero => simp [tms]
  | succ k ih =>
    simp only [tms, Nat.testBit_xor, ih (by omega)]
    rw [show (if a.testBit (31 - k) = true then it k one else 0) = if a.testBit (31 - k) = true then 2 ^ (31 - k) else 0 by rw [it_one k (by omega)]]
    by_cases hi : i = 31 - k
    · subst hi
      have h1 : ¬ (32 - k ≤ 31 - k) := by omega
      have h2 : 32 - (k + 1) ≤ 31 - k ∧ 31 - k < 32 := by omega
      cases hb : a.testBit (31 - k) <;> simp [h1, h2]
    · have e : (if a.testBit (31 - k) = true then 2 ^ (31 - k) else 0).testBit i = false := by
        split
        · rw [Nat.testBit_two_pow]; simp; omega
        · simp
      have e2 : (32 - k ≤ i ∧ i < 32) ↔ (32 - (k + 1) ≤ i ∧ i < 32) := by omega
      rw [e, Bool.xor_false]
      simp only [e2]
theorem times_one (a : Nat) (h : a < 4294967296) : times a one = a := by
  apply Nat.eq_of_testBit_eq
  intro i
  unfold times
  rw [tms_one_bit a 32 (by omega)]
  by_cases hi : i < 32
  · simp [hi]
  · have : a < 2 ^ i := Nat.lt_of_lt_of_le h (Nat.pow_le_pow_right (n := 2) (by decide) (by omega : 32 ≤ i))
    simp [Nat.testBit_lt_two_pow this]

theorem times_comm2 (a b c : Nat) : times a (times b c) = times b (times a c) := tms_tms a b 32 32 c
theorem one_lt : one < 4294967296 := by decide
theorem times_comm (a b : Nat) (ha : a < 4294967296) (hb : b < 4294967296) : times a b = times b a := by
  have h := times_comm2 a b one
  rwa [times_one b hb, times_one a ha] at h
theorem times_it (a n b : Nat) : times a (it n b) = it n (times a b) := tms_it a 32 n b
theorem it_times (n b : Nat) (hb : b < 4294967296) : times (it n one) b = it n b := by
  rw [times_comm _ _ (it_lt n _ one_lt) hb, times_it, times_one b hb]
theorem it_mul_one (m n : Nat) : times (it m one) (it n one) = it (m + n) one := by
  rw [it_times m _ (it_lt n _ one_lt), ← it_add, Nat.add_comm]

def sq : Nat → Nat
  | 0 => 1073741824
  | k + 1 => times (sq k) (sq k)
theorem sq_eq (k : Nat) : sq k = it (2 ^ k) one := by
  induction k with
  | zero => rfl
  | succ k ih => rw [sq, ih, it_mul_one]; congr 1; omega
theorem sq_round : sq 32 = 1073741824 := by decide +kernel
theorem it_round : it 4294967295 one = one := by
  obtain ⟨M, hM⟩ : ∃ M : Nat, M = 4294967295 := ⟨_, rfl⟩
  rw [← hM]
  have h := sq_eq 32
  have h2 : (2 : Nat) ^ 32 = M + 1 := by rw [hM]
  rw [sq_round, h2, it_succ] at h
  have e : (1073741824 : Nat) = it 1 one := by decide +kernel
  rw [e] at h
  exact (it_inj 1 _ _ one_lt (it_lt _ _ one_lt) h).symm
theorem it_round_any (n : Nat) (x : Nat) (hx : x < 4294967296) : it (4294967295 * n) x = x := by
  induction n with
  | zero => rfl
  | succ n ih =>
    rw [Nat.mul_succ, it_add, ih, ← it_times _ _ hx, it_round, times_comm _ _ one_lt hx, times_one x hx]

theorem check_cut (a b : List Nat) (m : Nat) (k : Nat) (hm : 8 * b.length + m = 4294967295 * k) (ha : ∀ c ∈ a, c < 256) :
    it m (check (a ++ b) ^^^ check b) = check a := by
  rw [check_append, Nat.xor_assoc, Nat.xor_self, Nat.xor_zero, ← it_add, hm, it_round_any _ _ (check_lt a ha)]
end Go.Proofs.YtankngomgjlfkaaGreatDoor.crc

namespace Go.Proofs.YtankngomgjlfkaaGreatDoor.flt
open Ieee
open Go.Op (negFloat)

theorem place_eq : double.leastPlace = -1074 := by decide
theorem binade_eq : double.binade = 4503599627370496 := by decide +kernel
theorem infRung_eq : double.infRung = 2047 * 4503599627370496 := by decide +kernel
theorem weight_eq : double.signWeight = 9223372036854775808 := by decide +kernel
theorem fraction_eq : double.fractionBits = 52 := rfl

def B : Nat := 1074
theorem B_eq : B = 1074 := rfl
def Rep (x : Nat) (n : Int) : Prop := ∃ s m e, double.read x = .number s m e ∧ -1074 ≤ e ∧ signed s m (e + 1074).toNat = n * 2 ^ B
def Fini (x : Nat) : Prop := ∃ s m e, double.read x = .number s m e
def Num (x : Nat) : Prop := Fini x ∨ ∃ s, double.read x = .infinity s

theorem Rep.fin {x : Nat} {n : Int} (h : Rep x n) : Fini x := let ⟨s, m, e, h, _⟩ := h; ⟨s, m, e, h⟩
theorem Fini.num {x : Nat} (h : Fini x) : Num x := .inl h

theorem read_word (s : Bool) (r : Nat) (h : r < 9223372036854775808) : double.read (double.word s r) =
    if r < 4503599627370496 then .number s r (-1074)
    else if r < 2047 * 4503599627370496 then .number s (4503599627370496 + r % 4503599627370496) (-1074 + (r / 4503599627370496 - 1 : Nat))
    else if r = 2047 * 4503599627370496 then .infinity s else .nan s (r - 2047 * 4503599627370496) := by
  unfold Format.read Format.word
  simp only [place_eq, binade_eq, infRung_eq, weight_eq]
  cases s
  · have h1 : r / 9223372036854775808 = 0 := Nat.div_eq_of_lt h
    have h2 : r % 9223372036854775808 = r := Nat.mod_eq_of_lt h
    simp [h1, h2]
  · have h1 : (9223372036854775808 + r) / 9223372036854775808 = 1 := by omega
    have h2 : (9223372036854775808 + r) % 9223372036854775808 = r := by omega
    simp [h1, h2]

theorem nearest_num (s : Bool) (m : Nat) (e : Int) : Num (double.nearest s m e) := by
  unfold Format.nearest
  split
  · left; rw [Fini, read_word _ _ (by decide)]; exact ⟨s, 0, -1074, rfl⟩
  · simp only [infRung_eq]
    generalize ((max (e + ↑m.log2 - ↑double.fractionBits) double.leastPlace - double.leastPlace).toNat * double.binade + _) = r
    have hlt : min r (2047 * 4503599627370496) < 9223372036854775808 := by omega
    unfold Num Fini
    rw [read_word _ _ hlt]
    by_cases h1 : min r (2047 * 4503599627370496) < 4503599627370496
    · rw [if_pos h1]; exact .inl ⟨_, _, _, rfl⟩
    · rw [if_neg h1]
      by_cases h2 : min r (2047 * 4503599627370496) < 2047 * 4503599627370496
      · rw [if_pos h2]; exact .inl ⟨_, _, _, rfl⟩
      · rw [if_neg h2, if_pos (by omega)]; exact .inr ⟨_, rfl⟩

theorem cut_exact (way : Toward) (s : Bool) (k t : Nat) : way.cut s (k * 2 ^ t) t = k := by
  unfold Toward.cut
  have h0 : 0 < 2 ^ t := Nat.two_pow_pos t
  by_cases hk : k = 0
  · subst hk
    have hp : 0 < 1 <<< min t (Nat.log2 (0 * 2 ^ t) + 2) := by rw [Nat.shiftLeft_eq, Nat.one_mul]; exact Nat.two_pow_pos _
    cases way <;> simp <;> omega
  · have hl : t ≤ (k * 2 ^ t).log2 := by
      rw [Nat.le_log2 (by exact Nat.mul_ne_zero hk (by omega))]
      exact Nat.le_mul_of_pos_left _ (by omega)
    have hm : min t ((k * 2 ^ t).log2 + 2) = t := by omega
    simp only [hm, Nat.shiftLeft_eq, Nat.one_mul, Nat.mul_mod_left, Nat.mul_div_cancel _ h0]
    cases way <;> simp <;> omega

theorem log2_two_pow {m : Nat} (hm : m ≠ 0) (p : Nat) : (m * 2 ^ p).log2 = m.log2 + p := by
  induction p with
  | zero => simp
  | succ p ih =>
    have h : m * 2 ^ p ≠ 0 := Nat.mul_ne_zero hm (by have := Nat.two_pow_pos p; omega)
    rw [Nat.pow_succ, ← Nat.mul_assoc, Nat.mul_comm _ 2, Nat.log2_two_mul h, ih, Nat.add_assoc]

theorem log2_scaled {m p N q : Nat} (hN : N ≠ 0) (h : m * 2 ^ p = N * 2 ^ q) : m ≠ 0 ∧ m.log2 + p = N.log2 + q := by
  have hm : m ≠ 0 := by
    intro hm
    subst hm
    have : 0 < N * 2 ^ q := Nat.mul_pos (by omega) (Nat.two_pow_pos _)
    omega
  refine ⟨hm, ?_⟩
  have h1 := congrArg Nat.log2 h
  rwa [log2_two_pow hm, log2_two_pow hN] at h1

theorem cancel_pow {a b k : Nat} (h : a * 2 ^ k = b * 2 ^ k) : a = b := Nat.eq_of_mul_eq_mul_right (Nat.two_pow_pos k) h

theorem min_rung (K kept : Nat) (hK : K ≤ 53) (h2 : kept < 9007199254740992) :
    min ((K + 1022) * 4503599627370496 + kept) (2047 * 4503599627370496) = (K + 1022) * 4503599627370496 + kept := Nat.min_eq_left (by omega)
theorem rung_mod (K kept : Nat) (h1 : 4503599627370496 ≤ kept) (h2 : kept < 9007199254740992) :
    4503599627370496 + ((K + 1022) * 4503599627370496 + kept) % 4503599627370496 = kept := by omega
theorem rung_div (K kept : Nat) (h1 : 4503599627370496 ≤ kept) (h2 : kept < 9007199254740992) :
    ((K + 1022) * 4503599627370496 + kept) / 4503599627370496 = K + 1023 := by omega
theorem read_rung (s : Bool) (K kept : Nat) (hK : K ≤ 53) (h1 : 4503599627370496 ≤ kept) (h2 : kept < 9007199254740992) :
    double.read (double.word s (min ((K + 1022) * double.binade + kept) double.infRung)) = .number s kept ((K : Int) - 52) := by
  rw [binade_eq, infRung_eq, min_rung K kept hK h2]
  rw [read_word _ _ (by omega), if_neg (by omega), if_pos (by omega), rung_mod K kept h1 h2, rung_div K kept h1 h2]
  rw [show (-1074 + ((K + 1023 - 1 : Nat) : Int)) = (K : Int) - 52 by omega]

theorem log2_le {N : Nat} (hN : N ≠ 0) (hN2 : N ≤ 9007199254740992) : N.log2 ≤ 53 := by
  have : N.log2 < 54 := (Nat.log2_lt hN).2 (Nat.lt_of_le_of_lt hN2 (by decide +kernel))
  omega
theorem log2_top {N : Nat} (hN : N ≠ 0) (hN2 : N ≤ 9007199254740992) (h : N.log2 = 53) : N = 2 ^ 53 := by
  have := Nat.log2_self_le hN
  rw [h] at this
  have e2 : (2 : Nat) ^ 53 = 9007199254740992 := by decide +kernel
  omega
theorem log2_52 {n : Nat} (hn : n ≠ 0) (h : n.log2 = 52) : 4503599627370496 ≤ n ∧ n < 9007199254740992 := by
  have h1 := Nat.log2_self_le hn
  have h2 := Nat.lt_log2_self (n := n)
  rw [h] at h1 h2
  have e1 : (2 : Nat) ^ 52 = 4503599627370496 := by decide +kernel
  have e2 : (2 : Nat) ^ (52 + 1) = 9007199254740992 := by decide +kernel
  omega

theorem kept_all (s : Bool) (m p N K : Nat) (hK : N.log2 = K) (hK53 : K ≤ 53) (hN3 : K = 53 → N = 2 ^ 53) (h : m * 2 ^ p = N * 2 ^ B) :
    ∃ kept, Toward.even.cut s (m <<< ((p : Int) - 1074 - ((K : Int) - 52)).toNat) ((K : Int) - 52 - ((p : Int) - 1074)).toNat = kept ∧ kept * 2 ^ (K + 1022) = N * 2 ^ B := by
  by_cases hc : K + 1022 ≤ p
  · have e1 : ((p : Int) - 1074 - ((K : Int) - 52)).toNat = p - (K + 1022) := by omega
    have e2 : ((K : Int) - 52 - ((p : Int) - 1074)).toNat = 0 := by omega
    rw [e1, e2]
    have := cut_exact .even s (m <<< (p - (K + 1022))) 0
    rw [Nat.pow_zero, Nat.mul_one] at this
    rw [this]
    refine ⟨_, rfl, ?_⟩
    rw [Nat.shiftLeft_eq, Nat.mul_assoc, ← Nat.pow_add, show p - (K + 1022) + (K + 1022) = p by omega, h]
  · have e1 : ((p : Int) - 1074 - ((K : Int) - 52)).toNat = 0 := by omega
    obtain ⟨t, ht⟩ : ∃ t, K + 1022 = p + t := ⟨K + 1022 - p, by omega⟩
    have e2 : ((K : Int) - 52 - ((p : Int) - 1074)).toNat = t := by omega
    rw [e1, e2, Nat.shiftLeft_zero]
    obtain ⟨k, hk⟩ : ∃ k, m = k * 2 ^ t := by
      by_cases h52 : K ≤ 52
      · refine ⟨N * 2 ^ (52 - K), cancel_pow (k := p) ?_⟩
        have e : 52 - K + (t + p) = B := by have := B_eq; omega
        rw [h, Nat.mul_assoc, Nat.mul_assoc, ← Nat.pow_add, ← Nat.pow_add, e]
      · refine ⟨2 ^ 52, cancel_pow (k := p) ?_⟩
        have e : 53 + B = 52 + (t + p) := by have := B_eq; omega
        rw [h, hN3 (by omega), Nat.mul_assoc, ← Nat.pow_add, ← Nat.pow_add, ← Nat.pow_add, e]
    rw [hk, cut_exact]
    refine ⟨_, rfl, ?_⟩
    rw [ht, Nat.pow_add, Nat.mul_comm (2 ^ p), ← Nat.mul_assoc, ← hk, h]

theorem read_nearest (s : Bool) (m : Nat) (e : Int) (N : Nat) (hN : N ≠ 0) (hN2 : N ≤ 9007199254740992) (he : -1074 ≤ e) (h : m * 2 ^ (e + 1074).toNat = N * 2 ^ B) :
    ∃ m' e', double.read (double.nearest s m e) = .number s m' e' ∧ -1074 ≤ e' ∧ m' * 2 ^ (e' + 1074).toNat = N * 2 ^ B := by
  obtain ⟨hm, hlog⟩ := log2_scaled hN h
  have hK := log2_le hN hN2
  have h53 := log2_top hN hN2
  obtain ⟨p, rfl⟩ : ∃ p : Nat, e = (p : Int) - 1074 := ⟨(e + 1074).toNat, by omega⟩
  have hp : ((p : Int) - 1074 + 1074).toNat = p := by omega
  rw [hp] at h hlog
  unfold Format.nearest
  rw [if_neg hm]
  simp only [place_eq, fraction_eq]
  have hlast : max ((p : Int) - 1074 + (m.log2 : Int) - ((52 : Nat) : Int)) (-1074) = (N.log2 : Int) - 52 := by have := B_eq; omega
  rw [hlast]
  obtain ⟨kept, hkept, hk⟩ := kept_all s m p N N.log2 rfl hK h53 h
  rw [hkept]
  obtain ⟨hkn, hk0⟩ := log2_scaled hN hk
  obtain ⟨hk1, hk2⟩ := log2_52 hkn (by have := B_eq; omega)
  have e3 : ((N.log2 : Int) - 52 - -1074).toNat = N.log2 + 1022 := by omega
  rw [e3, read_rung s _ kept hK hk1 hk2]
  refine ⟨_, _, rfl, by omega, ?_⟩
  have e6 : ((N.log2 : Int) - 52 + 1074).toNat = N.log2 + 1022 := by omega
  rw [e6, hk]

theorem signed_mul (s : Bool) (m a : Nat) : signed s m a = (if s then -1 else 1) * ((m * 2 ^ a : Nat) : Int) := by
  unfold signed
  rw [Nat.shiftLeft_eq]
  cases s <;> simp
theorem signed_add (s : Bool) (m a b : Nat) : signed s m (a + b) = signed s m a * 2 ^ b := by
  rw [signed_mul, signed_mul, Nat.pow_add, ← Nat.mul_assoc, Int.natCast_mul (m * 2 ^ a), Int.natCast_pow, Int.mul_assoc]
  rfl
theorem two_pow_pos' (b : Nat) : (0 : Int) < 2 ^ b := Int.pow_pos (by decide)
theorem two_pow_ne (b : Nat) : (2 : Int) ^ b ≠ 0 := by
  have := two_pow_pos' b
  omega

theorem rep_write (s : Bool) (m : Nat) (e : Int) (n : Int) (hn : n.natAbs ≤ 9007199254740992) (he : -1074 ≤ e) (h : signed s m (e + 1074).toNat = n * 2 ^ B) :
    Rep (double.write (.number s m e)) n := by
  show Rep (double.nearest s m e) n
  have hz : ∀ x : Int, (if s then (-1 : Int) else 1) * x = 0 → x = 0 := by
    intro x hx
    cases s <;> simp at hx <;> exact hx
  by_cases h0 : n = 0
  · subst h0
    have hm : m = 0 := by
      rw [signed_mul, Int.zero_mul] at h
      have h1 := hz _ h
      have h2 : m * 2 ^ (e + 1074).toNat = 0 := Int.ofNat_eq_zero.1 h1
      rcases Nat.mul_eq_zero.1 h2 with h3 | h3
      · exact h3
      · have := Nat.two_pow_pos (e + 1074).toNat
        omega
    subst hm
    unfold Format.nearest
    rw [if_pos rfl]
    refine ⟨s, 0, -1074, ?_, by omega, ?_⟩
    · rw [read_word _ _ (by decide), if_pos (by decide)]
    · rw [signed_mul, Nat.zero_mul, Int.zero_mul, Int.natCast_zero, Int.mul_zero]
  · rw [signed_mul] at h
    have hp := two_pow_pos' B
    have hs : s = decide (n < 0) := by
      cases s
      · simp only [Bool.false_eq_true, if_false, Int.one_mul] at h
        have h1 : 0 ≤ n * 2 ^ B := by rw [← h]; exact Int.natCast_nonneg _
        have := Int.nonneg_of_mul_nonneg_left h1 hp
        exact (decide_eq_false (by omega)).symm
      · simp only [if_true, Int.neg_mul, Int.one_mul] at h
        have h1 : 0 ≤ (-n) * 2 ^ B := by rw [Int.neg_mul, ← h, Int.neg_neg]; exact Int.natCast_nonneg _
        have := Int.nonneg_of_mul_nonneg_left h1 hp
        exact (decide_eq_true (by omega)).symm
    have hN : m * 2 ^ (e + 1074).toNat = n.natAbs * 2 ^ B := by
      have h2 := congrArg Int.natAbs h
      rw [Int.natAbs_mul, Int.natAbs_mul, Int.natAbs_natCast, Int.natAbs_pow] at h2
      cases s <;> simpa using h2
    obtain ⟨m', e', h1, h2, h3⟩ := read_nearest s m e n.natAbs (by omega) hn he hN
    refine ⟨s, m', e', h1, h2, ?_⟩
    rw [signed_mul, h3]
    rw [Int.natCast_mul, Int.natCast_pow, ← Int.mul_assoc]
    congr 1
    subst hs
    by_cases hneg : n < 0 <;> simp [hneg] <;> omega

theorem signed_sum (s : Bool) (m : Nat) (i base : Int) (hb : base ≤ i) (h0 : -1074 ≤ base) :
    signed s m (i - base).toNat * 2 ^ (base + 1074).toNat = signed s m (i + 1074).toNat := by
  rw [← signed_add]
  congr 1
  omega
theorem signed_natAbs (z : Bool) (total : Int) (a : Nat) : signed (if total = 0 then z else decide (total < 0)) total.natAbs a = total * 2 ^ a := by
  rw [signed_mul, Int.natCast_mul, Int.natCast_pow, ← Int.mul_assoc]
  congr 1
  by_cases h0 : total = 0
  · subst h0; simp
  · rw [if_neg h0]
    by_cases hneg : total < 0 <;> simp [hneg] <;> omega

theorem sum_rep (s t : Bool) (m n : Nat) (i j : Int) (a b : Int) (hi : -1074 ≤ i) (hj : -1074 ≤ j) (ha : signed s m (i + 1074).toNat = a * 2 ^ B) (hb : signed t n (j + 1074).toNat = b * 2 ^ B)
    (h : (a + b).natAbs ≤ 9007199254740992) : ∃ r, ((Datum.number s m i).sum (Datum.number t n j)).map double.write = some r ∧ Rep r (a + b) := by
  refine ⟨_, rfl, ?_⟩
  refine rep_write _ _ _ _ h (by omega) ?_
  rw [show (decide (signed s m (i - min i j).toNat + signed t n (j - min i j).toNat < 0)) = decide (signed s m (i - min i j).toNat + signed t n (j - min i j).toNat < 0) from rfl, signed_natAbs, Int.add_mul, signed_sum _ _ _ _ (by omega) (by omega), signed_sum _ _ _ _ (by omega) (by omega), ha, hb, Int.add_mul]

theorem rep_add {x y : Nat} {a b : Int} (hx : Rep x a) (hy : Rep y b) (h : (a + b).natAbs ≤ 9007199254740992) : ∃ r, double.add x y = some r ∧ Rep r (a + b) := by
  obtain ⟨s, m, i, h1, h2, h3⟩ := hx
  obtain ⟨t, n, j, h4, h5, h6⟩ := hy
  unfold Format.add
  rw [h1, h4]
  exact sum_rep s t m n i j a b h2 h5 h3 h6 h
theorem signed_not (s : Bool) (m a : Nat) : signed (!s) m a = - signed s m a := by
  rw [signed_mul, signed_mul]
  cases s <;> simp
theorem rep_sub {x y : Nat} {a b : Int} (hx : Rep x a) (hy : Rep y b) (h : (a - b).natAbs ≤ 9007199254740992) : ∃ r, double.sub x y = some r ∧ Rep r (a - b) := by
  obtain ⟨s, m, i, h1, h2, h3⟩ := hx
  obtain ⟨t, n, j, h4, h5, h6⟩ := hy
  unfold Format.sub
  rw [h1, h4]
  exact sum_rep s (!t) m n i j a (-b) h2 h5 h3 (by rw [signed_not, h6, Int.neg_mul]) h

theorem neg_div (x : Nat) : (x ^^^ 9223372036854775808) / 9223372036854775808 = x / 9223372036854775808 ^^^ 1 := by
  have h := Nat.shiftRight_xor_distrib (a := x) (b := 9223372036854775808) (i := 63)
  rw [Nat.shiftRight_eq_div_pow, Nat.shiftRight_eq_div_pow, Nat.shiftRight_eq_div_pow] at h
  simpa using h
theorem neg_mod (x : Nat) : (x ^^^ 9223372036854775808) % 9223372036854775808 = x % 9223372036854775808 := by
  have h := Nat.xor_mod_two_pow (a := x) (b := 9223372036854775808) (n := 63)
  simpa using h
theorem xor_one_mod (x : Nat) : (x ^^^ 1) % 2 = 1 - x % 2 := by
  have h := Nat.xor_mod_two_pow (a := x) (b := 1) (n := 1)
  simp only [Nat.pow_one] at h
  rw [h]
  rcases Nat.mod_two_eq_zero_or_one x with hx | hx <;> simp [hx]
theorem read_neg (x : Nat) : double.read (negFloat .f64 x) = (double.read x).opposite := by
  unfold negFloat
  have e : (2 : Nat) ^ (FloatKind.f64.format.exponentBits + FloatKind.f64.format.fractionBits) = 9223372036854775808 := by decide +kernel
  rw [e]
  unfold Format.read
  simp only [weight_eq, neg_div, neg_mod, xor_one_mod]
  have hs : (1 - x / 9223372036854775808 % 2 == 1) = !(x / 9223372036854775808 % 2 == 1) := by
    rcases Nat.mod_two_eq_zero_or_one (x / 9223372036854775808) with hx | hx <;> simp [hx]
  rw [hs]
  split
  · rfl
  · split
    · rfl
    · split <;> rfl
theorem rep_neg {x : Nat} {a : Int} (hx : Rep x a) : Rep (negFloat .f64 x) (-a) := by
  obtain ⟨s, m, i, h1, h2, h3⟩ := hx
  refine ⟨!s, m, i, ?_, h2, ?_⟩
  · rw [read_neg, h1]; rfl
  · rw [signed_not, h3, Int.neg_mul]
theorem rep_int (n : Int) (h : n.natAbs ≤ 9007199254740992) : Rep (floatOfInt .f64 n) n := by
  refine rep_write _ _ _ _ h (by omega) ?_
  have := signed_natAbs false n (0 + 1074 : Int).toNat
  by_cases h0 : n = 0
  · subst h0
    rw [signed_mul, Int.natAbs_zero, Nat.zero_mul, Int.natCast_zero, Int.mul_zero, Int.zero_mul]
  · rw [if_neg h0] at this; exact this
theorem rep_zero : Rep 0 0 := by
  refine ⟨false, 0, -1074, ?_, by omega, ?_⟩
  · decide +kernel
  · rw [signed_mul, Nat.zero_mul, Int.natCast_zero, Int.mul_zero, Int.zero_mul]

theorem fin_neg {x : Nat} (h : Fini x) : Fini (negFloat .f64 x) := by
  obtain ⟨s, m, e, h⟩ := h
  exact ⟨!s, m, e, by rw [read_neg, h]; rfl⟩
theorem num_neg {x : Nat} (h : Num x) : Num (negFloat .f64 x) := by
  rcases h with h | ⟨s, h⟩
  · exact .inl (fin_neg h)
  · exact .inr ⟨!s, by rw [read_neg, h]; rfl⟩
theorem num_word_inf (s : Bool) : Num (double.word s double.infRung) := by
  right
  refine ⟨s, ?_⟩
  rw [infRung_eq, read_word _ _ (by omega), if_neg (by omega), if_neg (by omega), if_pos rfl]
theorem num_write {d : Datum} (h : (∃ s m e, d = .number s m e) ∨ ∃ s, d = .infinity s) : Num (double.write d) := by
  rcases h with ⟨s, m, e, rfl⟩ | ⟨s, rfl⟩
  · exact nearest_num s m e
  · exact num_word_inf s
theorem num_add {x y : Nat} (hx : Num x) (hy : Fini y) : ∃ r, double.add x y = some r ∧ Num r := by
  obtain ⟨t, n, j, h4⟩ := hy
  unfold Format.add
  rw [h4]
  rcases hx with ⟨s, m, i, h1⟩ | ⟨s, h1⟩
  · rw [h1]; exact ⟨_, rfl, num_write (.inl ⟨_, _, _, rfl⟩)⟩
  · rw [h1]; exact ⟨_, rfl, num_write (.inr ⟨_, rfl⟩)⟩
theorem num_sub {x y : Nat} (hx : Num x) (hy : Fini y) : ∃ r, double.sub x y = some r ∧ Num r := by
  obtain ⟨t, n, j, h4⟩ := hy
  unfold Format.sub
  rw [h4]
  rcases hx with ⟨s, m, i, h1⟩ | ⟨s, h1⟩
  · rw [h1]; exact ⟨_, rfl, num_write (.inl ⟨_, _, _, rfl⟩)⟩
  · rw [h1]; exact ⟨_, rfl, num_write (.inr ⟨_, rfl⟩)⟩

theorem cut_le (way : Toward) (s : Bool) (n t : Nat) : way.cut s n t ≤ n / (1 <<< min t (n.log2 + 2)) + 1 := by
  unfold Toward.cut
  have (b : Bool) : b.toNat ≤ 1 := Bool.toNat_le b
  exact Nat.add_le_add_left (this _) _

theorem div_pow_lt {n K : Nat} (hK : n < 2 ^ (K + 1)) (h : 52 ≤ K) : n / 2 ^ (K - 52) < 9007199254740992 := by
  rw [Nat.div_lt_iff_lt_mul (Nat.two_pow_pos _)]
  have e : 9007199254740992 * 2 ^ (K - 52) = 2 ^ (K + 1) := by
    rw [show (9007199254740992 : Nat) = 2 ^ 53 by decide +kernel, ← Nat.pow_add]
    congr 1
    omega
  rw [e]; exact hK
theorem read_fin {s : Bool} {r : Nat} (h : r < 2047 * 4503599627370496) : Fini (double.word s r) := by
  rw [Fini, read_word _ _ (by omega)]
  by_cases h1 : r < 4503599627370496
  · rw [if_pos h1]; exact ⟨_, _, _, rfl⟩
  · rw [if_neg h1, if_pos h]; exact ⟨_, _, _, rfl⟩
theorem fin_int (n : Int) (h : n.natAbs < 18446744073709551616) : Fini (floatOfInt .f64 n) := by
  show Fini (double.nearest (decide (n < 0)) n.natAbs 0)
  generalize decide (n < 0) = s
  generalize hN : n.natAbs = N at h
  unfold Format.nearest
  split
  · exact read_fin (by omega)
  · rename_i h0
    have hK : N.log2 < 64 := (Nat.log2_lt h0).2 (Nat.lt_of_lt_of_le h (by decide +kernel))
    simp only [place_eq, fraction_eq, binade_eq, infRung_eq]
    have hlast : max ((0 : Int) + (N.log2 : Int) - ((52 : Nat) : Int)) (-1074) = (N.log2 : Int) - 52 := by omega
    rw [hlast]
    have h1 := Nat.lt_log2_self (n := N)
    have e3 : ((N.log2 : Int) - 52 - -1074).toNat = N.log2 + 1022 := by omega
    rw [e3]
    have hk : Toward.even.cut s (N <<< ((0 : Int) - ((N.log2 : Int) - 52)).toNat) ((N.log2 : Int) - 52 - 0).toNat ≤ 9007199254740992 := by
      generalize N.log2 = K at *
      by_cases hc : 52 ≤ K
      · have e1 : ((0 : Int) - ((K : Int) - 52)).toNat = 0 := by omega
        have e2 : ((K : Int) - 52 - 0).toNat = K - 52 := by omega
        rw [e1, e2, Nat.shiftLeft_zero]
        have h2 := cut_le .even s N (K - 52)
        have hlog : K - 52 ≤ N.log2 + 2 ∨ N.log2 + 2 < K - 52 := by omega
        rcases hlog with hlog | hlog
        · rw [Nat.min_eq_left hlog, Nat.shiftLeft_eq, Nat.one_mul] at h2
          have := div_pow_lt h1 hc
          omega
        · rw [Nat.min_eq_right (by omega), Nat.shiftLeft_eq, Nat.one_mul] at h2
          have h3 := Nat.lt_log2_self (n := N)
          have h4 : N / 2 ^ (N.log2 + 2) = 0 := Nat.div_eq_of_lt (Nat.lt_of_lt_of_le h3 (Nat.pow_le_pow_right (by decide) (by omega)))
          omega
      · have e1 : ((0 : Int) - ((K : Int) - 52)).toNat = 52 - K := by omega
        have e2 : ((K : Int) - 52 - 0).toNat = 0 := by omega
        rw [e1, e2]
        have h2 := cut_exact .even s (N <<< (52 - K)) 0
        rw [Nat.pow_zero, Nat.mul_one] at h2
        rw [h2, Nat.shiftLeft_eq]
        have h3 : N * 2 ^ (52 - K) < 2 ^ (K + 1) * 2 ^ (52 - K) := Nat.mul_lt_mul_of_pos_right h1 (Nat.two_pow_pos _)
        rw [← Nat.pow_add, show K + 1 + (52 - K) = 53 by omega] at h3
        have : (2 : Nat) ^ 53 = 9007199254740992 := by decide +kernel
        omega
    generalize Toward.even.cut s (N <<< ((0 : Int) - ((N.log2 : Int) - 52)).toNat) ((N.log2 : Int) - 52 - 0).toNat = kept at *
    exact read_fin (Nat.lt_of_le_of_lt (Nat.min_le_left _ _) (by omega))

theorem compare_mul (a b k : Int) (hk : 0 < k) : compare (a * k) (b * k) = compare a b := by
  rcases Int.lt_trichotomy a b with h | h | h
  · have : a * k < b * k := Int.mul_lt_mul_of_pos_right h hk
    rw [Int.compare_eq_lt.2 this, Int.compare_eq_lt.2 h]
  · subst h
    rw [Int.compare_eq_eq.2 rfl, Int.compare_eq_eq.2 rfl]
  · have : b * k < a * k := Int.mul_lt_mul_of_pos_right h hk
    rw [Int.compare_eq_gt.2 this, Int.compare_eq_gt.2 h]
theorem order_rep {x y : Nat} {a b : Int} (hx : Rep x a) (hy : Rep y b) : double.order x y = some (compare a b) := by
  obtain ⟨s, m, i, h1, h2, h3⟩ := hx
  obtain ⟨t, n, j, h4, h5, h6⟩ := hy
  unfold Format.order
  rw [h1, h4]
  show some (compare (signed s m (i - min i j).toNat) (signed t n (j - min i j).toNat)) = _
  rw [← compare_mul _ _ (2 ^ (min i j + 1074).toNat) (two_pow_pos' _), signed_sum _ _ _ _ (by omega) (by omega), signed_sum _ _ _ _ (by omega) (by omega), h3, h6, compare_mul _ _ _ (two_pow_pos' _)]

theorem cut_zero (s : Bool) (n t : Nat) : Toward.zero.cut s n t = n / 2 ^ t := by
  unfold Toward.cut
  simp only [Bool.toNat_false, Nat.add_zero, Nat.shiftLeft_eq, Nat.one_mul]
  by_cases h : t ≤ n.log2 + 2
  · rw [Nat.min_eq_left h]
  · have h3 := Nat.lt_log2_self (n := n)
    rw [Nat.min_eq_right (by omega)]
    rw [Nat.div_eq_of_lt (Nat.lt_of_lt_of_le h3 (Nat.pow_le_pow_right (by decide) (by omega)))]
    rw [Nat.div_eq_of_lt (Nat.lt_of_lt_of_le h3 (Nat.pow_le_pow_right (by decide) (by omega)))]

theorem toInt_number (s : Bool) (m : Nat) (e : Int) : (Datum.number s m e).toInt .zero = some (signed s (m * 2 ^ e.toNat / 2 ^ (-e).toNat) 0) := by
  show some (signed s (Toward.zero.cut s (m <<< e.toNat) (-e).toNat) 0) = _
  rw [cut_zero, Nat.shiftLeft_eq]

theorem min_i64 : IntKind.i64.min = -9223372036854775808 := by decide +kernel
theorem max_i64 : IntKind.i64.max = 9223372036854775807 := by decide +kernel
theorem cut_rep (m N : Nat) (e : Int) (he : -1074 ≤ e) (h : m * 2 ^ (e + 1074).toNat = N * 2 ^ B) : m * 2 ^ e.toNat / 2 ^ (-e).toNat = N := by
  have hB := B_eq
  by_cases h0 : 0 ≤ e
  · have e1 : (-e).toNat = 0 := by omega
    rw [e1, Nat.pow_zero, Nat.div_one]
    have e2 : (e + 1074).toNat = e.toNat + B := by omega
    rw [e2, Nat.pow_add, ← Nat.mul_assoc] at h
    exact cancel_pow h
  · have e1 : e.toNat = 0 := by omega
    rw [e1, Nat.pow_zero, Nat.mul_one]
    have e2 : B = (-e).toNat + (e + 1074).toNat := by omega
    rw [e2, Nat.pow_add, ← Nat.mul_assoc] at h
    rw [cancel_pow h]
    exact Nat.mul_div_cancel _ (Nat.two_pow_pos _)
theorem natAbs_of_signed {s : Bool} {m a : Nat} {n : Int} (h : signed s m a = n * 2 ^ B) : m * 2 ^ a = n.natAbs * 2 ^ B := by
  rw [signed_mul] at h
  have h2 := congrArg Int.natAbs h
  rw [Int.natAbs_mul, Int.natAbs_mul, Int.natAbs_natCast, Int.natAbs_pow] at h2
  cases s <;> simpa using h2
theorem toInt_rep {x : Nat} {n : Int} (h : Rep x n) (hn : n.natAbs ≤ 9007199254740992) : floatToIntVal .f64 x .i64 = some n := by
  obtain ⟨s, m, e, h1, h2, h3⟩ := h
  have hN := natAbs_of_signed h3
  have hc := cut_rep m n.natAbs e h2 hN
  unfold floatToIntVal
  rw [show FloatKind.f64.decode x = .number s m e from h1, toInt_number, hc]
  have hs : signed s n.natAbs 0 = n := by
    rw [signed_mul, hN] at h3
    rw [signed_mul, Nat.pow_zero, Nat.mul_one]
    rw [Int.natCast_mul, Int.natCast_pow, ← Int.mul_assoc] at h3
    exact Int.eq_of_mul_eq_mul_right (two_pow_ne B) h3
  rw [hs]
  simp only [min_i64, max_i64]
  rw [if_pos (by omega)]

def lo : Nat := 14069245235905429504
def hi : Nat := 4845873199050653696
theorem read_hi : double.read hi = .number false 4503599627370496 1 := by decide +kernel
theorem read_lo : double.read lo = .number true 4503599627370496 1 := by decide +kernel
theorem rep_pow : ((4503599627370496 : Nat) : Int) * 2 ^ (1 + B) = 9007199254740992 * 2 ^ B := by
  rw [Int.pow_add, ← Int.mul_assoc]
  congr 1
theorem rep_hi : Rep hi 9007199254740992 := by
  refine ⟨_, _, _, read_hi, by omega, ?_⟩
  have e : ((1 : Int) + 1074).toNat = 1 + B := by have := B_eq; omega
  rw [e, signed_mul, Int.natCast_mul, Int.natCast_pow]
  simp only [Bool.false_eq_true, if_false, Int.one_mul]
  exact rep_pow
theorem rep_lo : Rep lo (-9007199254740992) := by
  refine ⟨_, _, _, read_lo, by omega, ?_⟩
  have e : ((1 : Int) + 1074).toNat = 1 + B := by have := B_eq; omega
  rw [e, signed_mul, Int.natCast_mul, Int.natCast_pow]
  simp only [if_true, Int.neg_mul, Int.one_mul]
  exact congrArg Neg.neg rep_pow

theorem abs_lt_pow (s : Bool) (m : Nat) (a C : Nat) (h1 : -(C : Int) < signed s m a) (h2 : signed s m a < (C : Int)) : m * 2 ^ a < C := by
  rw [signed_mul] at h1 h2
  cases s
  · simp only [Bool.false_eq_true, if_false, Int.one_mul] at h2; omega
  · simp only [if_true, Int.neg_mul, Int.one_mul] at h1; omega
theorem toInt_some {x : Nat} (h1 : double.order x lo = some .gt) (h2 : double.order x hi = some .lt) : ∃ n, floatToIntVal .f64 x .i64 = some n ∧ -9007199254740992 < n ∧ n < 9007199254740992 := by
  unfold Format.order at h1 h2
  rw [read_lo] at h1
  rw [read_hi] at h2
  unfold floatToIntVal
  cases hr : double.read x with
  | nan s f => rw [hr] at h1; cases h1
  | infinity s =>
    rw [hr] at h1 h2
    cases s
    · cases h2
    · cases h1
  | number s m e =>
    rw [hr] at h1 h2
    rw [show FloatKind.f64.decode x = .number s m e from hr, toInt_number]
    have g1 := Option.some.inj h1
    have g2 := Option.some.inj h2
    rw [Int.compare_eq_gt] at g1
    rw [Int.compare_eq_lt] at g2
    rw [signed_mul true] at g1
    rw [signed_mul false] at g2
    simp only [if_true, Bool.false_eq_true, if_false, Int.neg_mul, Int.one_mul] at g1 g2
    have hm := abs_lt_pow s m _ _ g1 g2
    have hq : m * 2 ^ e.toNat / 2 ^ (-e).toNat < 9007199254740992 := by
      rw [Nat.div_lt_iff_lt_mul (Nat.two_pow_pos _)]
      by_cases he : 1 ≤ e
      · have e1 : (e - min e 1).toNat + 1 = e.toNat := by omega
        have e2 : (1 - min e 1).toNat = 0 := by omega
        have e3 : (-e).toNat = 0 := by omega
        rw [e3, ← e1, Nat.pow_succ, ← Nat.mul_assoc, Nat.pow_zero]
        rw [e2, Nat.pow_zero] at hm
        omega
      · have e1 : (e - min e 1).toNat = 0 := by omega
        have e2 : (1 - min e 1).toNat = (-e).toNat + 1 := by omega
        have e3 : e.toNat = 0 := by omega
        rw [e3, Nat.pow_zero, Nat.mul_one]
        rw [e1, e2, Nat.pow_zero, Nat.mul_one, Nat.pow_succ] at hm
        omega
    generalize m * 2 ^ e.toNat / 2 ^ (-e).toNat = q at *
    have hb : -9007199254740992 < signed s q 0 ∧ signed s q 0 < 9007199254740992 := by
      rw [signed_mul, Nat.pow_zero, Nat.mul_one]
      cases s
      · simp only [Bool.false_eq_true, if_false]; omega
      · simp only [if_true]; omega
    refine ⟨signed s q 0, ?_, hb.1, hb.2⟩
    simp only [min_i64, max_i64]
    rw [if_pos (by omega)]

def inside (x : Nat) : Bool := (double.order x lo == some .gt) && (double.order x hi == some .lt)
def wholeF (x : Nat) : Int := if inside x = true then (floatToIntVal .f64 x .i64).getD 0 else 0
theorem inside_some {x : Nat} (h : inside x = true) : floatToIntVal .f64 x .i64 = some (wholeF x) := by
  unfold wholeF
  rw [if_pos h]
  unfold inside at h
  rw [Bool.and_eq_true, beq_iff_eq, beq_iff_eq] at h
  obtain ⟨n, hn, _⟩ := toInt_some h.1 h.2
  rw [hn]; rfl
theorem wholeF_rep {x : Nat} {n : Int} (h : Rep x n) (h1 : -9007199254740992 < n) (h2 : n < 9007199254740992) : wholeF x = n := by
  have hi : inside x = true := by
    unfold inside
    rw [order_rep h rep_lo, order_rep h rep_hi, Int.compare_eq_gt.2 h1, Int.compare_eq_lt.2 h2]
    rfl
  unfold wholeF
  rw [if_pos hi, toInt_rep h (by omega)]
  rfl
end Go.Proofs.YtankngomgjlfkaaGreatDoor.flt

namespace Go.Proofs.YtankngomgjlfkaaGreatDoor.SealG

theorem ret_int {k : IntKind} {a b : Int} (h : a = b) : Ending.returned (.int k a) = .returned (.int k b) := by rw [h]

theorem wraps_u32 (n : Int) (h₀ : 0 ≤ n) (h₁ : n < 2 ^ 32) : IntKind.u32.wrap n = n := by rw [IntKind.wrap_u32]; omega
theorem wraps_i64 (n : Int) (h₀ : 0 ≤ n) (h₁ : n < 2 ^ 63) : IntKind.i64.wrap n = n := by rw [IntKind.wrap_i64]; omega
theorem bits_and_u32 (a b : Nat) (ha : a < 4294967296) (hb : b < 4294967296) : bits .and .u32 a b = ((a &&& b : Nat) : Int) :=
  (bits_nat .u32 32 (by decide) wraps_u32 a b ha hb).1
theorem bits_xor_u32 (a b : Nat) (ha : a < 4294967296) (hb : b < 4294967296) : bits .xor .u32 a b = ((a ^^^ b : Nat) : Int) := by
  have ha' : a % 2 ^ IntKind.u32.bits = a := Nat.mod_eq_of_lt ha
  have hb' : b % 2 ^ IntKind.u32.bits = b := Nat.mod_eq_of_lt hb
  have hx : a ^^^ b < 4294967296 := Nat.xor_lt_two_pow (n := 32) ha hb
  simp only [bits, BitVec.ofInt_natCast, BitVec.toNat_xor, BitVec.toNat_ofNat, ha', hb']
  exact wraps_u32 _ (Int.natCast_nonneg _) (by omega)
theorem bits_xor_u64 (a b : Nat) (ha : a < 18446744073709551616) (hb : b < 18446744073709551616) : bits .xor .u64 a b = ((a ^^^ b : Nat) : Int) := bits_xor_u64_nat a b ha hb

theorem and_two_pow (a j : Nat) : (a &&& 2 ^ j != 0) = a.testBit j := by
  cases h : a.testBit j
  · have : a &&& 2 ^ j = 0 := by
      apply Nat.eq_of_testBit_eq
      intro i
      rw [Nat.testBit_and, Nat.testBit_two_pow, Nat.zero_testBit]
      by_cases hi : j = i
      · subst hi; simp [h]
      · simp [hi]
    rw [this]; rfl
  · have : a &&& 2 ^ j ≠ 0 := by
      intro h0
      have h1 : (a &&& 2 ^ j).testBit j = true := by rw [Nat.testBit_and, Nat.testBit_two_pow, h]; simp
      rw [h0, Nat.zero_testBit] at h1
      cases h1
    exact bne_iff_ne.2 this
theorem and_bit_u32 (a k : Nat) (ha : a < 4294967296) (hk : k < 32) : (bits .and .u32 (a : Int) ((2147483648 : Int) / 2 ^ k) != 0) = a.testBit (31 - k) := by
  have e : ((2147483648 : Int) / 2 ^ k) = ((2 ^ (31 - k) : Nat) : Int) := by
    have h1 : (2147483648 : Nat) = 2 ^ (31 - k) * 2 ^ k := by rw [← Nat.pow_add, show 31 - k + k = 31 by omega]
    have h2 : (2147483648 : Nat) / 2 ^ k = 2 ^ (31 - k) := by rw [h1]; exact Nat.mul_div_cancel _ (Nat.two_pow_pos _)
    rw [← h2]; simp
  have h3 : 2 ^ (31 - k) < 4294967296 := Nat.lt_of_le_of_lt (Nat.pow_le_pow_right (by decide) (by omega : 31 - k ≤ 31)) (by decide)
  rw [e, bits_and_u32 a _ ha h3, ← and_two_pow]
  generalize a &&& 2 ^ (31 - k) = x
  cases x
  · rfl
  · simp; omega
theorem and_one_u32 (x : Nat) (hx : x < 4294967296) : (bits .and .u32 (x : Int) 1 != 0) = decide (x % 2 = 1) := by
  have h := bits_and_u32 x 1 hx (by decide)
  rw [show (1 : Int) = ((1 : Nat) : Int) from rfl, h, Nat.and_one_is_mod]
  rcases Nat.mod_two_eq_zero_or_one x with h | h <;> rw [h] <;> rfl
end Go.Proofs.YtankngomgjlfkaaGreatDoor.SealG

namespace Go.Proofs.YtankngomgjlfkaaGreatDoor.SealG
open Go.RowKit

theorem times_one_odd (a k b : Nat) (h : a.testBit (31 - k) = true) : crc.tms a (k + 1) b = crc.tms a k b ^^^ crc.it k b := by
  simp [crc.tms, h]
theorem times_one_even (a k b : Nat) (h : a.testBit (31 - k) = false) : crc.tms a (k + 1) b = crc.tms a k b := by
  simp [crc.tms, h]
theorem it_odd (k b : Nat) (h : crc.it k b % 2 = 1) : crc.it (k + 1) b = crc.it k b / 2 ^^^ 3988292384 := by
  rw [crc.it_succ, crc.stp, if_pos h]; rfl
theorem it_even (k b : Nat) (h : ¬ crc.it k b % 2 = 1) : crc.it (k + 1) b = crc.it k b / 2 := by
  rw [crc.it_succ, crc.stp, if_neg h]

set_option maxHeartbeats 400000 in
theorem times_any (a b : Nat) (ha : a < 4294967296) (hb : b < 4294967296) (w : World) :
    Calls Tryz.prog 102 #[.int .u32 a, .int .u32 b] w fun e w' => e = .returned (.int .u32 (crc.times a b : Nat)) ∧ w = w' := by
  go_enter Tryz.func102, Tryz.ntmps102
  go_wp2
  go_loop [1, 5, 6] (fun y p m => ∃ k : Nat, k ≤ 32 ∧ y = .int .u32 (crc.it k b : Nat) ∧ p = .int .u32 (crc.tms a k b : Nat) ∧ m = .int .u32 ((2147483648 / 2 ^ k : Nat) : Int)) (fun _ _ m => (intOf m).toNat)
  case atStart => exact ⟨0, by omega, rfl, rfl, rfl⟩
  case round =>
    obtain ⟨k, hk, rfl, rfl, rfl⟩ := hrel
    by_cases hlt : k < 32
    · have hit := crc.it_lt k b hb
      have htm := crc.tms_lt a k b hb
      have h1 := and_bit_u32 a k ha hlt
      have h2 := and_one_u32 _ hit
      have hxp := bits_xor_u32 _ _ htm hit
      have hxq := bits_xor_u32 (crc.it k b / 2) 3988292384 (by omega) (by decide)
      have hm : (2147483648 / 2 ^ k : Nat) = 2 ^ (31 - k) := by
        have h1 : (2147483648 : Nat) = 2 ^ (31 - k) * 2 ^ k := by rw [← Nat.pow_add, show 31 - k + k = 31 by omega]
        rw [h1]; exact Nat.mul_div_cancel _ (Nat.two_pow_pos _)
      have hpos : (0 : Int) < (2147483648 : Int) / 2 ^ k := by
        have h1 : 0 < (2147483648 / 2 ^ k : Nat) := by rw [hm]; exact Nat.two_pow_pos _
        have h2 : ((2147483648 / 2 ^ k : Nat) : Int) = (2147483648 : Int) / 2 ^ k := by simp
        omega
      have hdd : (2147483648 : Int) / 2 ^ k / 2 = ((2147483648 / 2 ^ (k + 1) : Nat) : Int) := by
        have h2 : ((2147483648 / 2 ^ k / 2 : Nat) : Int) = (2147483648 : Int) / 2 ^ k / 2 := by simp
        rw [← h2, Nat.div_div_eq_div_mul, Nat.pow_succ]
      have hless : (intOf (Value.int IntKind.u32 ((2147483648 : Int) / 2 ^ k / 2))).toNat < (intOf (Value.int IntKind.u32 ((2147483648 / 2 ^ k : Nat) : Int))).toNat := by
        have h2 : ((2147483648 / 2 ^ k : Nat) : Int) = (2147483648 : Int) / 2 ^ k := by simp
        rw [h2]; simp only [intOf]; omega
      have HLESS := Lib.hid hless
      have HDD := Lib.hid hdd
      have HXP := Lib.hid hxp
      have HXQ := Lib.hid hxq
      clear hdd hm hxp hxq hless
      by_cases hb2 : crc.it k b % 2 = 1
      all_goals cases hb1 : a.testBit (31 - k)
      all_goals rw [hb1] at h1
      all_goals simp only [hb2, decide_true, decide_false] at h2
      all_goals have HB1 := Lib.hid hb1
      all_goals have HB2 := Lib.hid hb2
      all_goals clear hb1 hb2
      all_goals go_wp2
      · exact ⟨⟨k + 1, by omega, by rw [it_odd k b HB2.out, ← HXQ.out]; rfl, by rw [times_one_even a k b HB1.out], by rw [HDD.out]⟩, HLESS.out⟩
      · exact ⟨⟨k + 1, by omega, by rw [it_odd k b HB2.out, ← HXQ.out]; rfl, by rw [times_one_odd a k b HB1.out, HXP.out], by rw [HDD.out]⟩, HLESS.out⟩
      · exact ⟨⟨k + 1, by omega, by rw [it_even k b HB2.out]; rfl, by rw [times_one_even a k b HB1.out], by rw [HDD.out]⟩, HLESS.out⟩
      · exact ⟨⟨k + 1, by omega, by rw [it_even k b HB2.out]; rfl, by rw [times_one_odd a k b HB1.out, HXP.out], by rw [HDD.out]⟩, HLESS.out⟩
    · obtain rfl : k = 32 := by omega
      go_wp2
      go_ret
      exact ⟨rfl, rfl⟩
end Go.Proofs.YtankngomgjlfkaaGreatDoor.SealG

namespace Go.Proofs.YtankngomgjlfkaaGreatDoor.SealG
open Go.RowKit

theorem and_one_i64 (x : Nat) (hx : x < 9223372036854775808) : (bits .and .i64 (x : Int) 1 != 0) = decide (x % 2 = 1) := by
  have h := (bits_nat .i64 63 (by decide) wraps_i64 x 1 hx (by decide)).1
  rw [show (1 : Int) = ((1 : Nat) : Int) from rfl, h, Nat.and_one_is_mod]
  rcases Nat.mod_two_eq_zero_or_one x with h | h <;> rw [h] <;> rfl

theorem exp_odd {N j e n : Nat} (h : N * 2 ^ j + e = n) (ho : N % 2 = 1) : N / 2 * 2 ^ (j + 1) + (e + 2 ^ j) = n := by
  have : N = N / 2 * 2 + 1 := by omega
  rw [← h, Nat.pow_succ]
  conv => rhs; rw [this]
  rw [Nat.add_mul, Nat.mul_assoc, Nat.mul_comm 2 (2 ^ j)]
  omega
theorem exp_even {N j e n : Nat} (h : N * 2 ^ j + e = n) (ho : ¬ N % 2 = 1) : N / 2 * 2 ^ (j + 1) + e = n := by
  have : N = N / 2 * 2 := by omega
  rw [← h, Nat.pow_succ]
  conv => rhs; rw [this]
  rw [Nat.mul_assoc, Nat.mul_comm 2 (2 ^ j)]
theorem p_odd (e j : Nat) : crc.times (crc.it (8 * e) crc.one) (crc.it (8 * 2 ^ j) crc.one) = crc.it (8 * (e + 2 ^ j)) crc.one := by
  rw [crc.it_mul_one, Nat.mul_add]
theorem q_next (j : Nat) : crc.times (crc.it (8 * 2 ^ j) crc.one) (crc.it (8 * 2 ^ j) crc.one) = crc.it (8 * 2 ^ (j + 1)) crc.one := by
  rw [crc.it_mul_one, Nat.pow_succ]; congr 1; omega

set_option maxHeartbeats 400000 in
theorem power_nat (n : Nat) (hn : n < 9223372036854775808) (w : World) :
    Calls Tryz.prog 103 #[.int .i64 n] w fun e w' => e = .returned (.int .u32 (crc.it (8 * n) crc.one : Nat)) ∧ w = w' := by
  go_enter Tryz.func103, Tryz.ntmps103
  go_wp2
  go_loop [0, 3, 4] (fun x p q => ∃ N j e : Nat, N < 9223372036854775808 ∧ N * 2 ^ j + e = n ∧ x = .int .i64 N ∧ p = .int .u32 (crc.it (8 * e) crc.one : Nat) ∧ q = .int .u32 (crc.it (8 * 2 ^ j) crc.one : Nat)) (fun x _ _ => (intOf x).toNat)
  case atStart => exact ⟨n, 0, 0, hn, by omega, rfl, rfl, rfl⟩
  case round =>
    obtain ⟨N, j, e, hN, hne, rfl, rfl, rfl⟩ := hrel
    have HNE := Lib.hid hne
    clear hne
    have hp := crc.it_lt (8 * e) _ crc.one_lt
    have hq := crc.it_lt (8 * 2 ^ j) _ crc.one_lt
    have h1 := and_one_i64 N hN
    have HP := Lib.hid (p_odd e j)
    have HQ := Lib.hid (q_next j)
    generalize hP : crc.it (8 * e) crc.one = P at *
    have HPP := Lib.hid hP
    clear hP
    generalize crc.it (8 * 2 ^ j) crc.one = Q at *
    by_cases h0 : N = 0
    · subst h0
      have e0 : e = n := by have := HNE.out; omega
      subst e0
      go_wp2
      go_ret
      exact ⟨by rw [HPP.out]; rfl, rfl⟩
    · by_cases ho : N % 2 = 1
      · simp only [ho, decide_true] at h1
        have HO := Lib.hid ho
        clear ho
        go_wp2_with (go_at_call 102; refine (times_any _ _ (by assumption) (by assumption) _).mono ?_; rintro e w' ⟨rfl, rfl⟩)
        go_round
        case rel => exact ⟨N / 2, j + 1, e + 2 ^ j, by omega, exp_odd HNE.out HO.out, by go_num, by rw [HP.out], by rw [HQ.out]⟩
        case measure => simp [intOf]; omega
      · simp only [ho, decide_false] at h1
        have HO := Lib.hid ho
        clear ho
        go_wp2_with (go_at_call 102; refine (times_any _ _ (by assumption) (by assumption) _).mono ?_; rintro e w' ⟨rfl, rfl⟩)
        go_round
        case rel => exact ⟨N / 2, j + 1, e, by omega, exp_even HNE.out HO.out, by go_num, by rw [HPP.out], by rw [HQ.out]⟩
        case measure => simp [intOf]; omega

set_option maxHeartbeats 400000 in
theorem power_neg (n : Int) (hn : n < 0) (w : World) :
    Calls Tryz.prog 103 #[.int .i64 n] w fun e w' => e = .returned (.int .u32 (crc.one : Nat)) ∧ w = w' := by
  go_enter Tryz.func103, Tryz.ntmps103
  go_wp2
  go_loop [0, 3, 4] (fun x p _ => x = .int .i64 n ∧ p = .int .u32 (crc.one : Nat)) (fun _ _ _ => 0)
  case atStart => exact ⟨rfl, rfl⟩
  case round =>
    obtain ⟨rfl, rfl⟩ := hrel
    go_wp2
    go_ret
    exact ⟨rfl, rfl⟩
def powN (n : Int) : Nat := crc.it (8 * n.toNat) crc.one
theorem powN_lt (n : Int) : powN n < 4294967296 := crc.it_lt _ _ crc.one_lt
theorem power_any (n : Int) (hn : n < 9223372036854775808) (w : World) :
    Calls Tryz.prog 103 #[.int .i64 n] w fun e w' => e = .returned (.int .u32 (powN n : Nat)) ∧ w = w' := by
  by_cases h : 0 ≤ n
  · obtain ⟨N, rfl⟩ := Int.eq_ofNat_of_zero_le h
    exact power_nat N (by omega) w
  · have e : powN n = crc.one := by unfold powN; rw [show n.toNat = 0 by omega]; rfl
    rw [e]
    exact power_neg n (by omega) w

theorem times_x2 (e j : Nat) : crc.times (crc.it e crc.one) (crc.it (2 ^ j) crc.one) = crc.it (e + 2 ^ j) crc.one := crc.it_mul_one _ _
theorem sq_next (j : Nat) : crc.times (crc.it (2 ^ j) crc.one) (crc.it (2 ^ j) crc.one) = crc.it (2 ^ (j + 1)) crc.one := by
  rw [crc.it_mul_one, Nat.pow_succ]; congr 1; omega
def backN (n : Nat) : Nat := (4294967295 - 8 * (n % 4294967295) % 4294967295) % 4294967295
theorem backN_lt (n : Nat) : backN n < 4294967295 := Nat.mod_lt _ (by omega)
theorem backN_eq (n : Nat) : ∃ k, 8 * n + backN n = 4294967295 * k := by
  refine ⟨(8 * n + backN n) / 4294967295, ?_⟩
  unfold backN
  omega

set_option maxHeartbeats 400000 in
theorem back_nat (n : Nat) (hn : n < 9223372036854775808) (w : World) :
    Calls Tryz.prog 105 #[.int .i64 n] w fun e w' => e = .returned (.int .u32 (crc.it (backN n) crc.one : Nat)) ∧ w = w' := by
  have hb := backN_lt n
  have hdef : (4294967295 - 8 * ((n : Int) % 4294967295) % 4294967295) % 4294967295 = (backN n : Int) := by
    unfold backN
    omega
  have hz : (4294967295 - 8 * ((n : Int) % 4294967295) % 4294967295) % 4294967295 = -(8 * ((n : Int) % 4294967295) % 4294967295) % 4294967295 := by omega
  generalize backN n = M at *
  rw [hz] at hdef
  have HZ := Lib.hid hz
  clear hz
  have HD := Lib.hid hdef
  clear hdef
  go_enter Tryz.func105, Tryz.ntmps105
  go_wp2
  rw [HZ.out]
  go_loop [3, 4, 5] (fun x p q => ∃ N j e : Nat, N < 4294967295 ∧ N * 2 ^ j + e = M ∧ x = .int .i64 N ∧ p = .int .u32 (crc.it e crc.one : Nat) ∧ q = .int .u32 (crc.it (2 ^ j) crc.one : Nat)) (fun x _ _ => (intOf x).toNat)
  case atStart => exact ⟨M, 0, 0, hb, by omega, by rw [← HD.out], rfl, rfl⟩
  case round =>
    obtain ⟨N, j, e, hN, hne, rfl, rfl, rfl⟩ := hrel
    have HNE := Lib.hid hne
    clear hne
    have hp := crc.it_lt e _ crc.one_lt
    have hq := crc.it_lt (2 ^ j) _ crc.one_lt
    have h1 := and_one_i64 N (by omega)
    have HP := Lib.hid (times_x2 e j)
    have HQ := Lib.hid (sq_next j)
    generalize hP : crc.it e crc.one = P at *
    have HPP := Lib.hid hP
    clear hP
    generalize crc.it (2 ^ j) crc.one = Q at *
    by_cases h0 : N = 0
    · subst h0
      have e0 : e = M := by have := HNE.out; omega
      subst e0
      go_wp2
      go_ret
      exact ⟨by rw [HPP.out]; rfl, rfl⟩
    · by_cases ho : N % 2 = 1
      · simp only [ho, decide_true] at h1
        have HO := Lib.hid ho
        clear ho
        go_wp2_with (go_at_call 102; refine (times_any _ _ (by assumption) (by assumption) _).mono ?_; rintro e w' ⟨rfl, rfl⟩)
        go_round
        case rel => exact ⟨N / 2, j + 1, e + 2 ^ j, by omega, exp_odd HNE.out HO.out, by go_num, by rw [HP.out], by rw [HQ.out]⟩
        case measure => simp [intOf]; omega
      · simp only [ho, decide_false] at h1
        have HO := Lib.hid ho
        clear ho
        go_wp2_with (go_at_call 102; refine (times_any _ _ (by assumption) (by assumption) _).mono ?_; rintro e w' ⟨rfl, rfl⟩)
        go_round
        case rel => exact ⟨N / 2, j + 1, e, by omega, exp_even HNE.out HO.out, by go_num, by rw [HPP.out], by rw [HQ.out]⟩
        case measure => simp [intOf]; omega
end Go.Proofs.YtankngomgjlfkaaGreatDoor.SealG

namespace Go.Proofs.YtankngomgjlfkaaGreatDoor.SealG
open Go.RowKit
open Go.Op (negFloat)
open flt

def fadd (x y : Nat) : Nat := (Ieee.double.add x y).getD 0
def fsub (x y : Nat) : Nat := (Ieee.double.sub x y).getD 0
theorem fadd_run {x y : Nat} (hx : Num x) (hy : Fini y) : floatBits .add .f64 x y = some (fadd x y) := by
  obtain ⟨r, h, _⟩ := num_add hx hy
  show Ieee.double.add x y = _
  rw [h, fadd, h]; rfl
theorem fadd_num {x y : Nat} (hx : Num x) (hy : Fini y) : Num (fadd x y) := by
  obtain ⟨r, h, hr⟩ := num_add hx hy
  rw [fadd, h]; exact hr
theorem fsub_run {x y : Nat} (hx : Num x) (hy : Fini y) : floatBits .sub .f64 x y = some (fsub x y) := by
  obtain ⟨r, h, _⟩ := num_sub hx hy
  show Ieee.double.sub x y = _
  rw [h, fsub, h]; rfl
theorem fsub_num {x y : Nat} (hx : Num x) (hy : Fini y) : Num (fsub x y) := by
  obtain ⟨r, h, hr⟩ := num_sub hx hy
  rw [fsub, h]; exact hr
theorem fin_zero : Fini 0 := rep_zero.fin

theorem run_unary_neg_float (P : Program) (w : World) (k : FloatKind) (b : Nat) : Sem.run P (Op.unary .neg (.float k b)) w = .ok (.float k (negFloat k b)) w := rfl
attribute [local go_sem] run_unary_neg_float

theorem turned_any (re im : Nat) (w : World) :
    Calls Tryz.prog 165 #[.complex .f64 re im] w fun e w' => e = .returned (.complex .f64 (negFloat .f64 im) re) ∧ w = w' := by
  go_enter Tryz.func165, Tryz.ntmps165
  go_wp2
  go_ret
  exact ⟨rfl, rfl⟩

theorem plain_any (re im : Nat) (hr : Num re) (hi : Num im) (w : World) :
    Calls Tryz.prog 166 #[.complex .f64 re im] w fun e w' => e = .returned (.complex .f64 (fadd re 0) (fadd im 0)) ∧ w = w' := by
  have h1 := fun w => run_float_arith (P := Tryz.prog) w .add 268 .f64 re 0 _ (fadd_run hr fin_zero)
  have h2 := fun w => run_float_arith (P := Tryz.prog) w .add 268 .f64 im 0 _ (fadd_run hi fin_zero)
  go_enter Tryz.func166, Tryz.ntmps166
  go_wp2
  go_ret
  exact ⟨rfl, rfl⟩

theorem whole_in (x : Nat) (h : inside x = true) (w : World) :
    Calls Tryz.prog 164 #[.float .f64 x] w fun e w' => e = .returned (.int .i64 (wholeF x)) ∧ w = w' := by
  have h0 := inside_some h
  have h1 : (Ieee.double.order x 14069245235905429504 == some .gt) = true := by
    unfold inside at h; rw [Bool.and_eq_true] at h; exact h.1
  have h2 : (Ieee.double.order x 4845873199050653696 == some .lt) = true := by
    unfold inside at h; rw [Bool.and_eq_true] at h; exact h.2
  have hc := fun w => run_convert_float_int (P := Tryz.prog) w 268 3 .f64 .i64 x _ (by kernel_rfl) (by kernel_rfl) h0
  clear h0 h
  generalize wholeF x = n at *
  have e64 : FloatKind.f64.format = Ieee.double := rfl
  go_enter Tryz.func164, Tryz.ntmps164
  go_wp2
  go_ret
  exact ⟨rfl, rfl⟩
theorem whole_out (x : Nat) (h : inside x = false) (w : World) :
    Calls Tryz.prog 164 #[.float .f64 x] w fun e w' => e = .returned (.int .i64 (wholeF x)) ∧ w = w' := by
  have h0 : wholeF x = 0 := by unfold wholeF; rw [h]; rfl
  rw [h0]
  have e64 : FloatKind.f64.format = Ieee.double := rfl
  unfold inside at h
  rw [Bool.and_eq_false_iff] at h
  by_cases h1 : (Ieee.double.order x lo == some .gt) = true
  · have h1' : (Ieee.double.order x 14069245235905429504 == some .gt) = true := h1
    have h2 : (Ieee.double.order x 4845873199050653696 == some .lt) = false := by
      rcases h with h | h
      · rw [h] at h1; cases h1
      · exact h
    clear h h1 h0
    go_enter Tryz.func164, Tryz.ntmps164
    go_wp2
    go_ret
    exact ⟨rfl, rfl⟩
  · have h1' : (Ieee.double.order x 14069245235905429504 == some .gt) = false := eq_false_of_ne_true h1
    clear h h1 h0
    go_enter Tryz.func164, Tryz.ntmps164
    go_wp2
    go_ret
    exact ⟨rfl, rfl⟩
theorem whole_any (x : Nat) (w : World) :
    Calls Tryz.prog 164 #[.float .f64 x] w fun e w' => e = .returned (.int .i64 (wholeF x)) ∧ w = w' := by
  cases h : inside x
  · exact whole_out x h w
  · exact whole_in x h w

def manyF : Nat → Nat × Nat → Nat × Nat
  | 0, z => z
  | n + 1, z => manyF n (negFloat .f64 z.2, z.1)
theorem manyF_succ (n : Nat) (z : Nat × Nat) : manyF (n + 1) z = (negFloat .f64 (manyF n z).2, (manyF n z).1) := by
  induction n generalizing z with
  | zero => rfl
  | succ n ih =>
    show manyF (n + 1) (negFloat .f64 z.2, z.1) = _
    rw [ih]; rfl
theorem manyF_num (n : Nat) (z : Nat × Nat) (h1 : Num z.1) (h2 : Num z.2) : Num (manyF n z).1 ∧ Num (manyF n z).2 := by
  induction n generalizing z with
  | zero => exact ⟨h1, h2⟩
  | succ n ih => exact ih _ (num_neg h2) h1
theorem manyF_fin (n : Nat) (z : Nat × Nat) (h1 : Fini z.1) (h2 : Fini z.2) : Fini (manyF n z).1 ∧ Fini (manyF n z).2 := by
  induction n generalizing z with
  | zero => exact ⟨h1, h2⟩
  | succ n ih => exact ih _ (fin_neg h2) h1

theorem and3 (n : Int) : bits .and .i64 n 3 = n % 4 := by
  have h : (BitVec.ofInt 64 n &&& BitVec.ofInt 64 3) = BitVec.ofInt 64 (n % 4) := by
    apply BitVec.eq_of_toNat_eq
    have e3 : (BitVec.ofInt 64 3).toNat = 2 ^ 2 - 1 := by decide
    rw [BitVec.toNat_and, e3, Nat.and_two_pow_sub_one_eq_mod, BitVec.toNat_ofInt, BitVec.toNat_ofInt]
    omega
  have hb : bits .and .i64 n 3 = IntKind.i64.wrap ((BitVec.ofInt 64 n &&& BitVec.ofInt 64 3).toNat : Int) := rfl
  rw [hb, h, BitVec.toNat_ofInt, IntKind.wrap_i64]
  omega
theorem n4 (n : Int) : ∃ k : Nat, k < 4 ∧ n % 4 = (k : Int) ∧ (n % 4).toNat = k := ⟨(n % 4).toNat, by omega, by omega, rfl⟩

set_option maxHeartbeats 400000 in
theorem many_any (re im : Nat) (n : Int) (w : World) :
    Calls Tryz.prog 167 #[.complex .f64 re im, .int .i64 n] w fun e w' => e = .returned (.complex .f64 (manyF (n % 4).toNat (re, im)).1 (manyF (n % 4).toNat (re, im)).2) ∧ w = w' := by
  have h3 := and3 n
  obtain ⟨m, hm4, hm, hm'⟩ := n4 n
  rw [hm'] 
  rw [hm] at h3
  have HM := Lib.hid hm
  clear hm hm'
  go_enter Tryz.func167, Tryz.ntmps167
  go_wp2
  go_loop [0, 7] (fun z i => ∃ k : Nat, k ≤ m ∧ i = .int .i64 k ∧ z = .complex .f64 (manyF k (re, im)).1 (manyF k (re, im)).2) (fun _ i => m - (intOf i).toNat)
  case atStart => exact ⟨0, by omega, rfl, rfl⟩
  case round =>
    obtain ⟨k, hk, rfl, rfl⟩ := hrel
    have HS := Lib.hid (manyF_succ k (re, im))
    generalize hz : manyF k (re, im) = z at *
    have HZ := Lib.hid hz
    clear hz
    by_cases hlt : k < m
    · go_wp2_with (go_at_call 165; refine (turned_any _ _ _).mono ?_; rintro e w' ⟨rfl, rfl⟩)
      go_round
      case rel => exact ⟨k + 1, by omega, by go_num, by rw [HS.out]⟩
      case measure => simp [intOf]; omega
    · obtain rfl : k = m := by omega
      go_wp2
      go_ret
      exact ⟨by rw [HZ.out]; rfl, rfl⟩

def joinF (a b : Nat × Nat) (n : Int) : Nat × Nat := (fadd (fadd (manyF (n % 4).toNat a).1 b.1) 0, fadd (fadd (manyF (n % 4).toNat a).2 b.2) 0)
def lessF (z b : Nat × Nat) (n : Int) : Nat × Nat :=
  (fadd (manyF (wrap64 (-n) % 4).toNat (fsub z.1 b.1, fsub z.2 b.2)).1 0, fadd (manyF (wrap64 (-n) % 4).toNat (fsub z.1 b.1, fsub z.2 b.2)).2 0)

theorem cadd_run {x y c d : Nat} (hx : Num x) (hy : Num y) (hc : Fini c) (hd : Fini d) (t : TypeId) (w : World) :
    (binOp .add t (.complex .f64 x y) (.complex .f64 c d)).run Tryz.prog w = .ok (.complex .f64 (fadd x c) (fadd y d)) w :=
  run_complex_sum w .add (.inl rfl) t .f64 x y c d _ _ (by simp [cSumBits, fadd_run hx hc, fadd_run hy hd])
theorem csub_run {x y c d : Nat} (hx : Num x) (hy : Num y) (hc : Fini c) (hd : Fini d) (t : TypeId) (w : World) :
    (binOp .sub t (.complex .f64 x y) (.complex .f64 c d)).run Tryz.prog w = .ok (.complex .f64 (fsub x c) (fsub y d)) w :=
  run_complex_sum w .sub (.inr rfl) t .f64 x y c d _ _ (by simp [cSumBits, fsub_run hx hc, fsub_run hy hd])

theorem turnJoin_any (a b c d : Nat) (n : Int) (ha : Fini a) (hb : Fini b) (hc : Fini c) (hd : Fini d) (w : World) :
    Calls Tryz.prog 100 #[.complex .f64 a b, .complex .f64 c d, .int .i64 n] w fun e w' =>
      e = .returned (.complex .f64 (joinF (a, b) (c, d) n).1 (joinF (a, b) (c, d) n).2) ∧ w = w' := by
  obtain ⟨g1, g2⟩ := manyF_fin (n % 4).toNat (a, b) ha hb
  have hx := fadd_num g1.num hc
  have hy := fadd_num g2.num hd
  have hadd := fun w => cadd_run g1.num g2.num hc hd 202 w
  unfold joinF
  have hmany := many_any a b n
  generalize manyF (n % 4).toNat (a, b) = z at *
  have HM := Lib.hid hmany
  clear hmany
  go_enter Tryz.func100, Tryz.ntmps100
  go_wp2_with (first
    | (go_at_call 167; refine (HM.out _).mono ?_; rintro e w' ⟨rfl, rfl⟩)
    | (go_at_call 166; refine (plain_any _ _ (by assumption) (by assumption) _).mono ?_; rintro e w' ⟨rfl, rfl⟩))
  go_ret
  exact ⟨rfl, rfl⟩
theorem turnLess_any (a b c d : Nat) (n : Int) (ha : Fini a) (hb : Fini b) (hc : Fini c) (hd : Fini d) (w : World) :
    Calls Tryz.prog 104 #[.complex .f64 a b, .complex .f64 c d, .int .i64 n] w fun e w' =>
      e = .returned (.complex .f64 (lessF (a, b) (c, d) n).1 (lessF (a, b) (c, d) n).2) ∧ w = w' := by
  have hsub := fun w => csub_run ha.num hb.num hc hd 202 w
  obtain ⟨g1, g2⟩ := manyF_num (wrap64 (-n) % 4).toNat (fsub a c, fsub b d) (fsub_num ha.num hc) (fsub_num hb.num hd)
  unfold lessF
  have hmany := many_any (fsub a c) (fsub b d) (wrap64 (-n))
  generalize manyF (wrap64 (-n) % 4).toNat (fsub a c, fsub b d) = z at *
  have HM := Lib.hid hmany
  clear hmany
  go_enter Tryz.func104, Tryz.ntmps104
  go_wp2_with (first
    | (go_at_call 167; refine (HM.out _).mono ?_; rintro e w' ⟨rfl, rfl⟩)
    | (go_at_call 166; refine (plain_any _ _ (by assumption) (by assumption) _).mono ?_; rintro e w' ⟨rfl, rfl⟩))
  go_ret
  exact ⟨rfl, rfl⟩

def sumF (re im : Int) : Nat × Nat := (floatOfInt .f64 re, floatOfInt .f64 im)
theorem sealSum_any (re im c n : Int) (w : World) :
    Calls Tryz.prog 101 #[.agg #[.int .i64 re, .int .i64 im, .int .u32 c, .int .i64 n]] w fun e w' =>
      e = .returned (.complex .f64 (sumF re im).1 (sumF re im).2) ∧ Below w.heap.size w w' := by
  go_enter Tryz.func101, Tryz.ntmps101
  go_wp2
  go_ret
  exact ⟨rfl, (Below.refl _ _).alloc (Nat.le_refl _) _⟩
theorem told_any (re im : Nat) (c n : Int) (w : World) :
    Calls Tryz.prog 97 #[.complex .f64 re im, .int .u32 c, .int .i64 n] w fun e w' =>
      e = .returned (.agg #[.int .i64 (wholeF re), .int .i64 (wholeF im), .int .u32 c, .int .i64 n]) ∧ Below w.heap.size w w' := by
  go_enter Tryz.func97, Tryz.ntmps97
  go_wp2_with (go_at_call 164; refine (whole_any _ _).mono ?_; rintro e w' ⟨rfl, rfl⟩)
  refine bodyPost_ret (v := .agg #[.int .i64 (wholeF re), .int .i64 (wholeF im), .int .u32 c, .int .i64 n]) (by simp [results, Tryz.results97, go_sem]) rfl ⟨rfl, (Below.refl _ _).alloc (Nat.le_refl _) _⟩
end Go.Proofs.YtankngomgjlfkaaGreatDoor.SealG

namespace Go.Proofs.YtankngomgjlfkaaGreatDoor.SealG
open Go.RowKit

def bl (s : ByteArray) : List Nat := s.data.toList.map UInt8.toNat
theorem bl_length (s : ByteArray) : (bl s).length = s.size := by simp [bl]
theorem bl_lt (s : ByteArray) : ∀ c ∈ bl s, c < 256 := by
  intro c hc
  simp only [bl, List.mem_map] at hc
  obtain ⟨x, _, rfl⟩ := hc
  exact x.toNat_lt
theorem bl_take (s : ByteArray) (k : Nat) (h : k < s.size) : (bl s).take (k + 1) = (bl s).take k ++ [s[k].toNat] := by
  rw [List.take_succ_eq_append_getElem (by rw [bl_length]; exact h)]
  congr 1
  simp [bl]; rfl
theorem take_lt (s : ByteArray) (k : Nat) : ∀ c ∈ (bl s).take k, c < 256 := fun c hc => bl_lt s c (List.mem_of_mem_take hc)
theorem run_take (s : ByteArray) (k : Nat) (h : k < s.size) : crc.run 4294967295 ((bl s).take (k + 1)) = crc.it 8 (crc.run 4294967295 ((bl s).take k) ^^^ s[k].toNat) := by
  rw [bl_take s k h, crc.run_append]; rfl
theorem run_take_lt (s : ByteArray) (k : Nat) : crc.run 4294967295 ((bl s).take k) < 4294967296 := crc.run_lt _ _ (by decide) (take_lt s k)

theorem step_odd (j y : Nat) (h : crc.it j y % 2 = 1) : crc.it (j + 1) y = crc.it j y / 2 ^^^ 3988292384 := by
  rw [crc.it_succ, crc.stp, if_pos h]; rfl
theorem step_even (j y : Nat) (h : ¬ crc.it j y % 2 = 1) : crc.it (j + 1) y = crc.it j y / 2 := by
  rw [crc.it_succ, crc.stp, if_neg h]
theorem and_one_u32' (x : Nat) (hx : x < 4294967296) : bits .and .u32 (x : Int) 1 = ((x % 2 : Nat) : Int) := by
  have h := bits_and_u32 x 1 hx (by decide)
  rw [show (1 : Int) = ((1 : Nat) : Int) from rfl, h, Nat.and_one_is_mod]
theorem not_u32 (x : Nat) (h : x < 4294967296) : bits .xor .u32 IntKind.u32.max (x : Int) = ((x ^^^ 4294967295 : Nat) : Int) := by
  have e : IntKind.u32.max = ((4294967295 : Nat) : Int) := by decide
  rw [e, bits_xor_u32 4294967295 x (by decide) h, Nat.xor_comm]
theorem check_done (s : ByteArray) : crc.check (bl s) = crc.run 4294967295 ((bl s).take s.size) ^^^ 4294967295 := by
  unfold crc.check
  rw [List.take_of_length_le (by rw [bl_length]; exact Nat.le_refl _)]

set_option maxHeartbeats 400000 in
theorem check_any (s : ByteArray) (hs : s.size ≤ maxLen) (w : World) :
    Calls Tryz.prog 99 #[.string s] w fun e w' => e = .returned (.int .u32 (crc.check (bl s) : Nat)) ∧ w = w' := by
  unfold maxLen at hs
  go_enter Tryz.func99, Tryz.ntmps99
  go_wp2
  go_loop [3, 7] (fun x i => ∃ k : Nat, k ≤ s.size ∧ i = .int .i64 k ∧ x = .int .u32 (crc.run 4294967295 ((bl s).take k) : Nat)) (fun _ i => s.size - (intOf i).toNat)
  case atStart => exact ⟨0, by omega, rfl, rfl⟩
  case round =>
    obtain ⟨k, hk, rfl, rfl⟩ := hrel
    have hlt0 := run_take_lt s k
    by_cases hlt : k < s.size
    · have HR := Lib.hid (run_take s k hlt)
      generalize crc.run 4294967295 ((bl s).take k) = x at *
      have hb : s[k].toNat < 4294967296 := Nat.lt_trans s[k].toNat_lt (by decide)
      have hxor := bits_xor_u32 x _ hlt0 hb
      have hy : x ^^^ s[k].toNat < 4294967296 := Nat.xor_lt_two_pow (n := 32) hlt0 hb
      go_wp2
      clear hxor
      generalize hyy : x ^^^ s[k].toNat = y at *
      have HY := Lib.hid hyy
      clear hyy
      go_loop [3, 16] (fun x i => ∃ j : Nat, j ≤ 8 ∧ i = .int .i64 j ∧ x = .int .u32 (crc.it j y : Nat)) (fun _ i => 8 - (intOf i).toNat)
      case atStart => exact ⟨0, by omega, rfl, rfl⟩
      case round =>
        obtain ⟨j, hj, rfl, rfl⟩ := hrel
        have hit := crc.it_lt j y hy
        by_cases hj8 : j < 8
        · have ha := and_one_u32' _ hit
          by_cases ho : crc.it j y % 2 = 1
          · have HS := Lib.hid (step_odd j y ho)
            rw [ho] at ha
            have hxo := bits_xor_u32 (crc.it j y / 2) 3988292384 (by omega) (by decide)
            clear ho
            generalize crc.it j y = z at *
            have HXO := Lib.hid hxo
            clear hxo
            go_wp2
            go_round
            case rel => exact ⟨j + 1, by omega, by go_num, by rw [HS.out, ← HXO.out]; rfl⟩
            case measure => simp [intOf]; omega
          · have HS := Lib.hid (step_even j y ho)
            have h0 : crc.it j y % 2 = 0 := by omega
            rw [h0] at ha
            have hxo := bits_xor_u32 (crc.it j y / 2) 0 (by omega) (by decide)
            rw [Nat.xor_zero] at hxo
            clear ho h0
            generalize crc.it j y = z at *
            have HXO := Lib.hid hxo
            clear hxo
            go_wp2
            go_round
            case rel => exact ⟨j + 1, by omega, by go_num, by rw [HS.out, ← HXO.out]; rfl⟩
            case measure => simp [intOf]; omega
        · obtain rfl : j = 8 := by omega
          generalize crc.it 8 y = z at *
          go_wp2
          exact ⟨⟨k + 1, by omega, by go_num, by rw [HR.out]⟩, by simp only [intOf]; omega⟩
    · obtain rfl : k = s.size := by omega
      have hd := check_done s
      generalize crc.run 4294967295 ((bl s).take s.size) = x at *
      have HX := Lib.hid (not_u32 x hlt0)
      have HD := Lib.hid hd
      clear hd
      go_wp2
      go_ret
      exact ⟨ret_int (by rw [HD.out, HX.out]), rfl⟩

theorem sub_u64 (x : Nat) (h : x < 4294967296) : (4294967295 : Int) - (x : Int) = ((x ^^^ 4294967295 : Nat) : Int) := by
  have h2 : x ^^^ 4294967295 = 4294967295 - x := by
    have e := BitVec.toNat_not (x := BitVec.ofNat 32 x)
    have hx : (BitVec.ofNat 32 x).toNat = x := by rw [BitVec.toNat_ofNat]; exact Nat.mod_eq_of_lt h
    rw [BitVec.not_def, BitVec.toNat_xor, BitVec.toNat_allOnes, hx] at e
    rw [Nat.xor_comm]
    simpa using e
  rw [h2]; omega

set_option maxHeartbeats 400000 in
theorem refCheck_any (s : ByteArray) (hs : s.size ≤ maxLen) (w : World) :
    Calls Tryz.prog 51 #[.string s] w fun e w' => e = .returned (.int .u32 (crc.check (bl s) : Nat)) ∧ w = w' := by
  unfold maxLen at hs
  go_enter Tryz.func51, Tryz.ntmps51
  go_wp2
  go_loop [3, 4] (fun x i => ∃ k : Nat, k ≤ s.size ∧ i = .int .i64 k ∧ x = .int .u64 (crc.run 4294967295 ((bl s).take k) : Nat)) (fun _ i => s.size - (intOf i).toNat)
  case atStart => exact ⟨0, by omega, rfl, rfl⟩
  case round =>
    obtain ⟨k, hk, rfl, rfl⟩ := hrel
    have hlt0 := run_take_lt s k
    by_cases hlt : k < s.size
    · have HR := Lib.hid (run_take s k hlt)
      generalize crc.run 4294967295 ((bl s).take k) = x at *
      have hb : s[k].toNat < 4294967296 := Nat.lt_trans s[k].toNat_lt (by decide)
      have hxor := bits_xor_u64 x _ (Nat.lt_trans hlt0 (by decide)) (Nat.lt_trans hb (by decide))
      have hy : x ^^^ s[k].toNat < 4294967296 := Nat.xor_lt_two_pow (n := 32) hlt0 hb
      go_wp2
      clear hxor
      generalize hyy : x ^^^ s[k].toNat = y at *
      have HY := Lib.hid hyy
      clear hyy
      go_loop [3, 5] (fun x i => ∃ j : Nat, j ≤ 8 ∧ i = .int .i64 j ∧ x = .int .u64 (crc.it j y : Nat)) (fun _ i => 8 - (intOf i).toNat)
      case atStart => exact ⟨0, by omega, rfl, rfl⟩
      case round =>
        obtain ⟨j, hj, rfl, rfl⟩ := hrel
        have hit := crc.it_lt j y hy
        by_cases hj8 : j < 8
        · by_cases ho : crc.it j y % 2 = 1
          · have HS := Lib.hid (step_odd j y ho)
            have hxo := bits_xor_u64 (crc.it j y / 2) 3988292384 (by omega) (by decide)
            have h1 : ((crc.it j y : Nat) : Int) % 2 = 1 := by omega
            clear ho
            generalize crc.it j y = z at *
            have HXO := Lib.hid hxo
            clear hxo
            go_wp2
            go_round
            case rel => exact ⟨j + 1, by omega, by go_num, by rw [HS.out, ← HXO.out]; rfl⟩
            case measure => simp [intOf]; omega
          · have HS := Lib.hid (step_even j y ho)
            have h1 : ((crc.it j y : Nat) : Int) % 2 = 0 := by omega
            clear ho
            generalize crc.it j y = z at *
            go_wp2
            go_round
            case rel => exact ⟨j + 1, by omega, by go_num, by rw [HS.out]; rfl⟩
            case measure => simp [intOf]; omega
        · obtain rfl : j = 8 := by omega
          generalize crc.it 8 y = z at *
          go_wp2
          exact ⟨⟨k + 1, by omega, by go_num, by rw [HR.out]⟩, by simp only [intOf]; omega⟩
    · obtain rfl : k = s.size := by omega
      have hd := check_done s
      generalize crc.run 4294967295 ((bl s).take s.size) = x at *
      have HX := Lib.hid (sub_u64 x hlt0)
      have HD := Lib.hid hd
      clear hd
      go_wp2
      go_ret
      exact ⟨ret_int (by rw [HD.out, ← HX.out]), rfl⟩
end Go.Proofs.YtankngomgjlfkaaGreatDoor.SealG

namespace Go.Proofs.YtankngomgjlfkaaGreatDoor.SealG
open Go.RowKit
open Go.Op (negFloat)
open flt

def stepB (z : Nat × Nat) (c : Nat) : Nat × Nat := (fadd (negFloat .f64 z.2) (floatOfInt .f64 c), fadd z.1 0)
def sumB (l : List Nat) : Nat × Nat := l.foldl stepB (0, 0)
theorem byte_fin (c : UInt8) : Fini (floatOfInt .f64 (c.toNat : Int)) := fin_int _ (by have := c.toNat_lt; omega)
theorem stepB_num (z : Nat × Nat) (c : UInt8) (h1 : Num z.1) (h2 : Num z.2) : Num (stepB z c.toNat).1 ∧ Num (stepB z c.toNat).2 :=
  ⟨fadd_num (num_neg h2) (byte_fin c), fadd_num h1 fin_zero⟩
theorem sumB_snoc (l : List Nat) (c : Nat) : sumB (l ++ [c]) = stepB (sumB l) c := by simp [sumB, List.foldl_append]
theorem sumB_num (l : List UInt8) : Num (sumB (l.map UInt8.toNat)).1 ∧ Num (sumB (l.map UInt8.toNat)).2 := by
  have h : ∀ (l : List UInt8) (z : Nat × Nat), Num z.1 → Num z.2 → Num ((l.map UInt8.toNat).foldl stepB z).1 ∧ Num ((l.map UInt8.toNat).foldl stepB z).2 := by
    intro l
    induction l with
    | nil => intro z h1 h2; exact ⟨h1, h2⟩
    | cons c l ih =>
      intro z h1 h2
      obtain ⟨g1, g2⟩ := stepB_num z c h1 h2
      exact ih _ g1 g2
  exact h l (0, 0) fin_zero.num fin_zero.num
theorem sumB_take_num (s : ByteArray) (k : Nat) : Num (sumB ((bl s).take k)).1 ∧ Num (sumB ((bl s).take k)).2 := by
  have := sumB_num (s.data.toList.take k)
  rwa [List.map_take] at this
theorem sumB_take (s : ByteArray) (k : Nat) (h : k < s.size) : sumB ((bl s).take (k + 1)) = stepB (sumB ((bl s).take k)) s[k].toNat := by
  rw [bl_take s k h, sumB_snoc]
def turnSumF (l : List Nat) : Nat × Nat := (fadd (sumB l).1 0, fadd (sumB l).2 0)

theorem below_drewN' {B : Nat} {a w : World} (h : Below B a w) (n : Nat) : Below B a (w.drewN n) := ⟨h.os, h.tape, h.output, h.size, h.block⟩

set_option maxHeartbeats 800000 in
theorem turnSum_any (s : ByteArray) (hs : s.size ≤ maxLen) (w : World) :
    Calls Tryz.prog 98 #[.string s] w fun e w' => e = .returned (.complex .f64 (turnSumF (bl s)).1 (turnSumF (bl s)).2) ∧ Below w.heap.size w w' := by
  unfold maxLen at hs
  go_enter Tryz.func98, Tryz.ntmps98
  go_wp2
  go_loopw [3, 7] (fun z i wr => (∃ k : Nat, k ≤ s.size ∧ i = .int .i64 k ∧ z = .complex .f64 (sumB ((bl s).take k)).1 (sumB ((bl s).take k)).2) ∧ Below w.heap.size w wr) (fun _ i _ => s.size - (intOf i).toNat)
  case atStart => exact ⟨⟨0, by omega, rfl, rfl⟩, Below.refl _ _⟩
  case round =>
    obtain ⟨⟨k, hk, rfl, rfl⟩, hbl⟩ := hrel
    obtain ⟨hn1, hn2⟩ := sumB_take_num s k
    by_cases hlt : k < s.size
    · have HS := Lib.hid (sumB_take s k hlt)
      generalize sumB ((bl s).take k) = z at *
      have hbf := byte_fin s[k]
      have hcadd := fun w => cadd_run (num_neg hn2) hn1 hbf fin_zero 202 w
      have hq := fun w => (turned_any z.1 z.2 w).mono (fun e w' (h : e = _ ∧ w = w') => (⟨h.1, h.2.symm⟩ : e = _ ∧ w' = w))
      have HQ := Lib.hid hq
      clear hq
      have hi0 : (0 : Int) ≤ (k : Int) := by omega
      have hi1 : (k : Int) < (s.size : Int) := by omega
      go_wp2
      go_quiet ((go_at_call 165; exact Calls.quiet_of_same (HQ.out _)))
      go_wp2
      exact ⟨⟨⟨k + 1, by omega, by go_num, by rw [HS.out]; rfl⟩, below_drewN' hbl _⟩, by simp only [intOf]; omega⟩
    · obtain rfl : k = s.size := by omega
      have hsz : sumB ((bl s).take s.size) = sumB (bl s) := by rw [List.take_of_length_le (by rw [bl_length]; exact Nat.le_refl _)]
      rw [hsz] at hn1 hn2
      rw [hsz]
      clear hsz
      have HT := Lib.hid (show turnSumF (bl s) = (fadd (sumB (bl s)).1 0, fadd (sumB (bl s)).2 0) from rfl)
      generalize sumB (bl s) = z at *
      go_wp2_with (go_at_call 166; refine (plain_any _ _ (by assumption) (by assumption) _).mono ?_; rintro e w' ⟨rfl, rfl⟩)
      go_ret
      exact ⟨by rw [HT.out]; rfl, hbl⟩

def ipow (n : Int) : Int × Int := if n % 4 = 0 then (1, 0) else if n % 4 = 1 then (0, 1) else if n % 4 = 2 then (-1, 0) else (0, -1)
theorem power2_any (n : Int) (h0 : 0 ≤ n) (h1 : n < 4611686018427387904) (w : World) :
    Calls Tryz.prog 116 #[.int .i64 n] w fun e w' => e = .returned (.agg #[.int .i64 (ipow n).1, .int .i64 (ipow n).2]) ∧ Below w.heap.size w w' := by
  have h4 : n % 4 = 0 ∨ n % 4 = 1 ∨ n % 4 = 2 ∨ n % 4 = 3 := by omega
  have hp : ipow n = if n % 4 = 0 then (1, 0) else if n % 4 = 1 then (0, 1) else if n % 4 = 2 then (-1, 0) else (0, -1) := rfl
  rcases h4 with h | h | h | h
  all_goals rw [hp, h]; clear hp
  all_goals go_enter Tryz.func116, Tryz.ntmps116
  all_goals go_wp2
  · exact bodyPost_ret (v := .agg #[.int .i64 1, .int .i64 0]) (by simp [results, Tryz.results116, go_sem]) rfl ⟨rfl, (Below.refl _ _).alloc (Nat.le_refl _) _⟩
  · exact bodyPost_ret (v := .agg #[.int .i64 0, .int .i64 1]) (by simp [results, Tryz.results116, go_sem]) rfl ⟨rfl, (Below.refl _ _).alloc (Nat.le_refl _) _⟩
  · exact bodyPost_ret (v := .agg #[.int .i64 (-1), .int .i64 0]) (by simp [results, Tryz.results116, go_sem]) rfl ⟨rfl, (Below.refl _ _).alloc (Nat.le_refl _) _⟩
  · exact bodyPost_ret (v := .agg #[.int .i64 0, .int .i64 (-1)]) (by simp [results, Tryz.results116, go_sem]) rfl ⟨rfl, (Below.refl _ _).alloc (Nat.le_refl _) _⟩

def rs (l : List Nat) (n : Nat) : Nat → Int × Int
  | 0 => (0, 0)
  | k + 1 => ((rs l n k).1 + (l.getD k 0 : Nat) * (ipow ((n : Int) - 1 - k)).1, (rs l n k).2 + (l.getD k 0 : Nat) * (ipow ((n : Int) - 1 - k)).2)
theorem ipow_bd (n : Int) : -1 ≤ (ipow n).1 ∧ (ipow n).1 ≤ 1 ∧ -1 ≤ (ipow n).2 ∧ (ipow n).2 ≤ 1 := by
  unfold ipow
  split
  · decide
  · split
    · decide
    · split <;> decide
theorem mul_bd {c : Nat} {x : Int} (hc : c < 256) (h1 : -1 ≤ x) (h2 : x ≤ 1) : -255 ≤ (c : Int) * x ∧ (c : Int) * x ≤ 255 := by
  have : x = -1 ∨ x = 0 ∨ x = 1 := by omega
  rcases this with rfl | rfl | rfl <;> omega
theorem getD_lt (s : ByteArray) (k : Nat) : (bl s).getD k 0 < 256 := by
  by_cases h : k < (bl s).length
  · rw [List.getD_eq_getElem?_getD, List.getElem?_eq_getElem h]; exact bl_lt s _ (List.getElem_mem h)
  · rw [List.getD_eq_getElem?_getD, List.getElem?_eq_none (by omega)]; exact Nat.zero_lt_succ _
theorem rs_bd (s : ByteArray) (n k : Nat) : -(255 * (k : Int)) ≤ (rs (bl s) n k).1 ∧ (rs (bl s) n k).1 ≤ 255 * (k : Int) ∧ -(255 * (k : Int)) ≤ (rs (bl s) n k).2 ∧ (rs (bl s) n k).2 ≤ 255 * (k : Int) := by
  induction k with
  | zero => simp [rs]
  | succ k ih =>
    obtain ⟨p1, p2, p3, p4⟩ := ipow_bd ((n : Int) - 1 - k)
    have m1 := mul_bd (getD_lt s k) p1 p2
    have m2 := mul_bd (getD_lt s k) p3 p4
    simp only [rs]
    omega
theorem getD_byte (s : ByteArray) (k : Nat) (h : k < s.size) : (bl s).getD k 0 = s[k].toNat := by
  rw [List.getD_eq_getElem?_getD, List.getElem?_eq_getElem (by rw [bl_length]; exact h)]
  simp [bl]; rfl

theorem cellsOf {w : World} {b : Nat} {x y : Value} {t : TypeId} (h : w.heap[b]? = some (.cells #[x, y] t (0, 0))) :
    w.cell? ⟨b, 0, none⟩ = some x ∧ w.cell? ⟨b, 1, none⟩ = some y ∧ w.frozen? ⟨b, 0, none⟩ = false ∧ w.frozen? ⟨b, 1, none⟩ = false := by
  simp [World.cell?, World.frozen?, h]

theorem heap_set0 {w : World} {b : Nat} {x y : Value} {t : TypeId} (h : w.heap[b]? = some (.cells #[x, y] t (0, 0))) (v : Value) :
    (w.setCell ⟨b, 0, none⟩ v).heap[b]? = some (.cells #[v, y] t (0, 0)) := by
  simp [World.setCell, Array.getElem?_modify, h]
theorem heap_set1 {w : World} {b : Nat} {x y : Value} {t : TypeId} (h : w.heap[b]? = some (.cells #[x, y] t (0, 0))) (v : Value) :
    (w.setCell ⟨b, 1, none⟩ v).heap[b]? = some (.cells #[x, v] t (0, 0)) := by
  simp [World.setCell, Array.getElem?_modify, h]

set_option maxHeartbeats 1600000 in
theorem refSum_any (s : ByteArray) (hs : s.size ≤ 1099511627776) (w : World) :
    Calls Tryz.prog 50 #[.string s] w fun e w' => e = .returned (.agg #[.int .i64 (rs (bl s) s.size s.size).1, .int .i64 (rs (bl s) s.size s.size).2]) ∧ Below w.heap.size w w' := by
  go_enter Tryz.func50, Tryz.ntmps50
  go_wp2_with fail
  go_loopw [5] (fun i wr => ∃ k : Nat, k ≤ s.size ∧ i = .int .i64 k ∧ wr.heap[w.heap.size]? = some (.cells #[.int .i64 0, .int .i64 0] 112 (0, 0)) ∧
    wr.heap[w.heap.size + 1]? = some (.cells #[.int .i64 (rs (bl s) s.size k).1, .int .i64 (rs (bl s) s.size k).2] 112 (0, 0)) ∧ Below w.heap.size w wr) (fun i _ => s.size - (intOf i).toNat)
  case atStart =>
    refine ⟨0, by omega, rfl, ?_, ?_, ?_⟩
    · rw [Below.heap_alloc _ _ _ (by simp), heap_alloc_new]
    · have := heap_alloc_new (w.alloc (Obj.cells #[.int .i64 0, .int .i64 0] 112)) (Obj.cells #[.int .i64 0, .int .i64 0] 112)
      rwa [World.size_alloc] at this
    · exact ((Below.refl _ _).alloc (Nat.le_refl _) _).alloc (by simp) _
  case round =>
    obtain ⟨k, hk, rfl, hb1, hb2, hbl⟩ := hrel
    by_cases hlt : k < s.size
    · obtain ⟨r1, r2, r3, r4⟩ := rs_bd s s.size k
      obtain ⟨p1, p2, p3, p4⟩ := ipow_bd ((s.size : Int) - 1 - k)
      have hbyte := getD_byte s k hlt
      have m1 := mul_bd (getD_lt s k) p1 p2
      have m2 := mul_bd (getD_lt s k) p3 p4
      rw [hbyte] at m1 m2
      have HS := Lib.hid (show rs (bl s) s.size (k + 1) = ((rs (bl s) s.size k).1 + (s[k].toNat : Int) * (ipow ((s.size : Int) - 1 - k)).1, (rs (bl s) s.size k).2 + (s[k].toNat : Int) * (ipow ((s.size : Int) - 1 - k)).2) by rw [← hbyte]; rfl)
      clear hbyte
      have hpow := power2_any ((s.size : Int) - 1 - k) (by omega) (by omega)
      generalize rs (bl s) s.size k = z at *
      generalize ipow ((s.size : Int) - 1 - k) = q at *
      have HP := Lib.hid hpow
      clear hpow
      obtain ⟨c1, c2, c3, c4⟩ := cellsOf hb2
      have HB1 := Lib.hid hb1
      have HB2 := Lib.hid hb2
      clear hb1 hb2 c1 c2 c3 c4
      go_wp2_with (go_at_call 116; refine (HP.out _).mono ?_; rintro e w1 ⟨rfl, hw1⟩)
      have hB := hbl.size
      have hlt1 : w.heap.size + 1 < wr.heap.size := (Array.getElem?_eq_some_iff.1 HB2.out).1
      have hlt2 := hw1.size
      have g1 : (w1.alloc (Obj.cells #[.int .i64 q.1, .int .i64 q.2] 112)).heap[w.heap.size]? = some (Obj.cells #[.int .i64 0, .int .i64 0] 112 (0, 0)) := by
        rw [Below.heap_alloc _ _ _ (by omega), hw1.block _ (by omega)]; exact HB1.out
      have g2 : (w1.alloc (Obj.cells #[.int .i64 q.1, .int .i64 q.2] 112)).heap[w.heap.size + 1]? = some (Obj.cells #[.int .i64 z.1, .int .i64 z.2] 112 (0, 0)) := by
        rw [Below.heap_alloc _ _ _ (by omega), hw1.block _ (by omega)]; exact HB2.out
      have g3 := heap_alloc_new w1 (Obj.cells #[.int .i64 q.1, .int .i64 q.2] 112)
      have g4 : Below w.heap.size w (w1.alloc (Obj.cells #[.int .i64 q.1, .int .i64 q.2] 112)) := (hbl.trans (hw1.mono hbl.size)).alloc (by omega) _
      have hne : w.heap.size + 1 ≠ w1.heap.size := by omega
      have hpb : w.heap.size + 1 < w1.heap.size := by omega
      clear hlt1 hlt2 hB hw1 HB1 HB2 hbl
      generalize w1.alloc (Obj.cells #[.int .i64 q.1, .int .i64 q.2] 112) = W at *
      generalize w1.heap.size = pb at *
      obtain ⟨c1, c2, c3, c4⟩ := cellsOf g2
      obtain ⟨d1, d2, d3, d4⟩ := cellsOf g3
      have G1 := Lib.hid g1
      have G2 := Lib.hid g2
      have G3 := Lib.hid g3
      clear g1 g2 g3
      obtain ⟨m11, m12⟩ := m1
      obtain ⟨m21, m22⟩ := m2
      have hk0 : (0 : Int) ≤ (k : Int) := by omega
      have hk1 : (k : Int) < (s.size : Int) := by omega
      have hc0 : (0 : Int) ≤ (s[k].toNat : Int) := by omega
      have hc1 : (s[k].toNat : Int) < 256 := by have := s[k].toNat_lt; omega
      have E2 := Lib.hid (IntWalk.wrap64_in ((s[k].toNat : Int) * q.1) (by omega))
      have E3 := Lib.hid (IntWalk.wrap64_in (z.1 + (s[k].toNat : Int) * q.1) (by omega))
      have E4 := Lib.hid (IntWalk.wrap64_in ((s[k].toNat : Int) * q.2) (by omega))
      have E5 := Lib.hid (IntWalk.wrap64_in (z.2 + (s[k].toNat : Int) * q.2) (by omega))
      clear m11 m12 m21 m22 r1 r2 r3 r4 p1 p2 p3 p4
      go_region
      go_wp2
      rw [E2.out, E3.out]
      generalize z.1 + (s[k].toNat : Int) * q.1 = y1 at *
      have g5 : (W.setCell ⟨w.heap.size + 1, 0, none⟩ (.int .i64 y1)).drew.heap[w.heap.size + 1]? = some (Obj.cells #[.int .i64 y1, .int .i64 z.2] 112 (0, 0)) := heap_set0 G2.out _
      have g6 : (W.setCell ⟨w.heap.size + 1, 0, none⟩ (.int .i64 y1)).drew.heap[pb]? = some (Obj.cells #[.int .i64 q.1, .int .i64 q.2] 112 (0, 0)) := (Below.heap_setCell _ _ _ _ (by simp; omega)).trans G3.out
      have g7 : (W.setCell ⟨w.heap.size + 1, 0, none⟩ (.int .i64 y1)).drew.heap[w.heap.size]? = some (Obj.cells #[.int .i64 0, .int .i64 0] 112 (0, 0)) := (Below.heap_setCell _ _ _ _ (by simp)).trans G1.out
      have g8 : Below w.heap.size w (W.setCell ⟨w.heap.size + 1, 0, none⟩ (.int .i64 y1)).drew := (g4.setCell (by simp) _).drew
      clear c1 c2 c3 c4 d1 d2 d3 d4 g4 G1 G2 G3
      generalize (W.setCell ⟨w.heap.size + 1, 0, none⟩ (.int .i64 y1)).drew = W2 at *
      obtain ⟨c1, c2, c3, c4⟩ := cellsOf g5
      obtain ⟨d1, d2, d3, d4⟩ := cellsOf g6
      have G5 := Lib.hid g5
      have G7 := Lib.hid g7
      clear g5 g6 g7
      go_region
      go_wp2
      rw [E4.out, E5.out]
      exact ⟨⟨k + 1, by omega, by go_num, (Below.heap_setCell _ _ _ _ (by simp)).trans G7.out, by rw [HS.out]; exact heap_set1 G5.out _, (g8.setCell (by simp) _).drew⟩, by simp only [intOf]; omega⟩
    · obtain rfl : k = s.size := by omega
      obtain ⟨c1, c2, c3, c4⟩ := cellsOf hb2
      obtain ⟨d1, d2, d3, d4⟩ := cellsOf hb1
      generalize hz : rs (bl s) s.size s.size = z at *
      have HZ := Lib.hid hz
      clear hz
      go_wp2
      refine bodyPost_ret (v := .agg #[.int .i64 z.1, .int .i64 z.2]) ?_ rfl ⟨by rw [HZ.out], (hbl.setCell (by simp) _).setCell (by simp) _⟩
      have g1 := heap_set1 (heap_set0 hb1 (.int .i64 z.1)) (.int .i64 z.2)
      obtain ⟨f1, f2, _, _⟩ := cellsOf g1
      simp [results, Tryz.results50, go_sem, f1, f2]
end Go.Proofs.YtankngomgjlfkaaGreatDoor.SealG

namespace Go.Proofs.YtankngomgjlfkaaGreatDoor.SealG
set_option maxRecDepth 100000
open Go.RowKit
open flt

def sealV (re im c n : Int) : Value := .agg #[.int .i64 re, .int .i64 im, .int .u32 c, .int .i64 n]

theorem cells4Of {w : World} {b : Nat} {x y z u : Value} {t : TypeId} (h : w.heap[b]? = some (.cells #[x, y, z, u] t (0, 0))) :
    (w.cell? ⟨b, 0, none⟩ = some x ∧ w.cell? ⟨b, 1, none⟩ = some y ∧ w.cell? ⟨b, 2, none⟩ = some z ∧ w.cell? ⟨b, 3, none⟩ = some u) ∧
    (w.frozen? ⟨b, 0, none⟩ = false ∧ w.frozen? ⟨b, 1, none⟩ = false ∧ w.frozen? ⟨b, 2, none⟩ = false ∧ w.frozen? ⟨b, 3, none⟩ = false) := by
  simp [World.cell?, World.frozen?, h]
theorem set4 {w : World} {b : Nat} {x y z u : Value} {t : TypeId} (h : w.heap[b]? = some (.cells #[x, y, z, u] t (0, 0))) (x' y' z' u' : Value) :
    ((((w.setCell ⟨b, 0, none⟩ x').setCell ⟨b, 1, none⟩ y').setCell ⟨b, 2, none⟩ z').setCell ⟨b, 3, none⟩ u').heap[b]? = some (.cells #[x', y', z', u'] t (0, 0)) := by
  simp [World.setCell, Array.getElem?_modify, h]
theorem below_set4 {B : Nat} {a w : World} (h : Below B a w) {b : Nat} (hb : B ≤ b) (x' y' z' u' : Value) :
    Below B a ((((w.setCell ⟨b, 0, none⟩ x').setCell ⟨b, 1, none⟩ y').setCell ⟨b, 2, none⟩ z').setCell ⟨b, 3, none⟩ u') :=
  (((h.setCell hb _).setCell hb _).setCell hb _).setCell hb _

theorem of_any (s : ByteArray) (hs : s.size ≤ maxLen) (w : World) :
    Calls Tryz.prog 36 #[.string s] w fun e w' =>
      e = .returned (sealV (wholeF (turnSumF (bl s)).1) (wholeF (turnSumF (bl s)).2) (crc.check (bl s) : Nat) (s.size : Nat)) ∧ Below w.heap.size w w' := by
  have hsum := turnSum_any s hs
  have hchk := check_any s hs
  have htold := told_any (turnSumF (bl s)).1 (turnSumF (bl s)).2 (crc.check (bl s) : Nat) (s.size : Nat)
  generalize turnSumF (bl s) = z at *
  generalize crc.check (bl s) = c at *
  have H1 := Lib.hid hsum
  have H2 := Lib.hid hchk
  have H3 := Lib.hid htold
  clear hsum hchk htold
  go_enter Tryz.func36, Tryz.ntmps36
  go_wp2_with (first
    | (go_at_call 98; refine (H1.out _).mono ?_; rintro e w1 ⟨rfl, hb1⟩)
    | (go_at_call 99; refine (H2.out _).mono ?_; rintro e w' ⟨rfl, rfl⟩)
    | (go_at_call 97; refine (H3.out _).mono ?_; rintro e w2 ⟨rfl, hb2⟩
       have g : w2.heap[w.heap.size]? = some (.cells #[.int .i64 0, .int .i64 0, .int .u32 0, .int .i64 0] 33 (0, 0)) := by
         rw [hb2.block _ (by have := hb1.size; simp at this; omega), hb1.block _ (by simp)]; exact heap_alloc_new _ _
       have hb : Below w.heap.size w w2 := (((Below.refl _ _).alloc (Nat.le_refl _) _).trans (hb1.mono (by simp))).trans (hb2.mono (by have := hb1.size; simp at this; omega))
       clear hb1 hb2
       obtain ⟨⟨c1, c2, c3, c4⟩, d1, d2, d3, d4⟩ := cells4Of g
       have G := Lib.hid g
       clear g))
  obtain ⟨⟨f1, f2, f3, f4⟩, _⟩ := cells4Of (set4 G.out (.int .i64 (wholeF z.1)) (.int .i64 (wholeF z.2)) (.int .u32 (c : Nat)) (.int .i64 (s.size : Nat)))
  exact bodyPost_ret (v := sealV (wholeF z.1) (wholeF z.2) (c : Nat) (s.size : Nat)) (by simp [results, Tryz.results36, go_sem, f1, f2, f3, f4, sealV]) rfl ⟨rfl, below_set4 hb (Nat.le_refl _) _ _ _ _⟩

theorem new3 (w : World) (o1 o2 o3 : Obj) : (((w.alloc o1).alloc o2).alloc o3).heap[w.heap.size]? = some o1 ∧ (((w.alloc o1).alloc o2).alloc o3).heap[w.heap.size + 1]? = some o2 ∧
    (((w.alloc o1).alloc o2).alloc o3).heap[w.heap.size + 1 + 1]? = some o3 ∧ Below w.heap.size w (((w.alloc o1).alloc o2).alloc o3) := by
  refine ⟨?_, ?_, ?_, ?_⟩
  · rw [Below.heap_alloc _ _ _ (by simp; omega), Below.heap_alloc _ _ _ (by simp), heap_alloc_new]
  · rw [Below.heap_alloc _ _ _ (by simp)]
    have := heap_alloc_new (w.alloc o1) o2
    rwa [World.size_alloc] at this
  · have := heap_alloc_new ((w.alloc o1).alloc o2) o3
    rwa [World.size_alloc, World.size_alloc] at this
  · exact (((Below.refl _ _).alloc (Nat.le_refl _) _).alloc (by simp) _).alloc (by simp; omega) _
attribute [local go_sem] gives

set_option maxHeartbeats 800000 in
theorem join_any (a1 a2 ac an b1 b2 bc bn : Int) (w : World) (ha1 : a1.natAbs < 18446744073709551616) (ha2 : a2.natAbs < 18446744073709551616)
    (hb1 : b1.natAbs < 18446744073709551616) (hb2 : b2.natAbs < 18446744073709551616) (hac : 0 ≤ ac ∧ ac < 4294967296) (hbc : 0 ≤ bc ∧ bc < 4294967296)
    (hbn : bn < 9223372036854775808) :
    Calls Tryz.prog 37 #[sealV a1 a2 ac an, sealV b1 b2 bc bn] w fun e w' =>
      e = .returned (sealV (wholeF (joinF (sumF a1 a2) (sumF b1 b2) bn).1) (wholeF (joinF (sumF a1 a2) (sumF b1 b2) bn).2)
        (crc.times ac.toNat (powN bn) ^^^ bc.toNat : Nat) (IntKind.i64.wrap (an + bn))) ∧ Below w.heap.size w w' := by
  obtain ⟨A, rfl⟩ := Int.eq_ofNat_of_zero_le hac.1
  obtain ⟨Bc, rfl⟩ := Int.eq_ofNat_of_zero_le hbc.1
  have hA : A < 4294967296 := by omega
  have hBc : Bc < 4294967296 := by omega
  rw [Int.toNat_natCast, Int.toNat_natCast]
  have g1 := sealSum_any a1 a2 (A : Nat) an
  have g2 := sealSum_any b1 b2 (Bc : Nat) bn
  have g3 := turnJoin_any (sumF a1 a2).1 (sumF a1 a2).2 (sumF b1 b2).1 (sumF b1 b2).2 bn (fin_int _ ha1) (fin_int _ ha2) (fin_int _ hb1) (fin_int _ hb2)
  have g4 := power_any bn hbn
  have g5 := times_any A (powN bn) hA (powN_lt bn)
  have g6 := told_any (joinF (sumF a1 a2) (sumF b1 b2) bn).1 (joinF (sumF a1 a2) (sumF b1 b2) bn).2 (crc.times A (powN bn) ^^^ Bc : Nat) (IntKind.i64.wrap (an + bn))
  have hx := bits_xor_u32 (crc.times A (powN bn)) Bc (crc.times_lt _ _ (powN_lt bn)) hBc
  clear hac hbc
  generalize joinF (sumF a1 a2) (sumF b1 b2) bn = j at *
  generalize crc.times A (powN bn) = m at *
  generalize powN bn = pw at *
  generalize sumF a1 a2 = sa at *
  generalize sumF b1 b2 = sb at *
  generalize hnn : IntKind.i64.wrap (an + bn) = nn at *
  have G1 := Lib.hid g1
  have G2 := Lib.hid g2
  have G3 := Lib.hid g3
  have G4 := Lib.hid g4
  have G5 := Lib.hid g5
  have G6 := Lib.hid g6
  clear g1 g2 g3 g4 g5 g6 ha1 ha2 hb1 hb2 hA hBc hbn
  unfold sealV at *
  go_enter Tryz.func37, Tryz.ntmps37
  go_wp2
  have e1 : ((w.alloc (Obj.cells #[.int .i64 a1, .int .i64 a2, .int .u32 (A : Nat), .int .i64 an] 33)).alloc (Obj.cells #[.int .i64 b1, .int .i64 b2, .int .u32 (Bc : Nat), .int .i64 bn] 33)).heap.size = w.heap.size + 1 + 1 := by simp
  have h1 := new3 w (Obj.cells #[.int .i64 a1, .int .i64 a2, .int .u32 (A : Nat), .int .i64 an] 33) (Obj.cells #[.int .i64 b1, .int .i64 b2, .int .u32 (Bc : Nat), .int .i64 bn] 33) (Obj.cells #[.int .i64 0, .int .i64 0, .int .u32 0, .int .i64 0] 33)
  clear e1
  generalize (((w.alloc (Obj.cells #[.int .i64 a1, .int .i64 a2, .int .u32 (A : Nat), .int .i64 an] 33)).alloc (Obj.cells #[.int .i64 b1, .int .i64 b2, .int .u32 (Bc : Nat), .int .i64 bn] 33)).alloc (Obj.cells #[.int .i64 0, .int .i64 0, .int .u32 0, .int .i64 0] 33)) = W at *
  obtain ⟨h1, h2, h3, hbel⟩ := h1
  obtain ⟨C, hC⟩ : ∃ C : World → Prop, ∀ u, C u ↔ Below W.heap.size W u := ⟨fun u => Below W.heap.size W u, fun _ => Iff.rfl⟩
  have l3 : w.heap.size + 1 + 1 < W.heap.size := (Array.getElem?_eq_some_iff.1 h3).1
  have F : ∀ u, C u → u.heap[w.heap.size]? = some (Obj.cells #[.int .i64 a1, .int .i64 a2, .int .u32 (A : Nat), .int .i64 an] 33) ∧ u.heap[w.heap.size + 1]? = some (Obj.cells #[.int .i64 b1, .int .i64 b2, .int .u32 (Bc : Nat), .int .i64 bn] 33) ∧
      u.heap[w.heap.size + 1 + 1]? = some (Obj.cells #[.int .i64 0, .int .i64 0, .int .u32 0, .int .i64 0] 33) := fun u hu => by
    have hu := (hC u).1 hu
    exact ⟨(hu.block _ (by omega)).trans h1, (hu.block _ (by omega)).trans h2, (hu.block _ l3).trans h3⟩
  have step : ∀ u u', C u → Below u.heap.size u u' → C u' := fun u u' hu hb => (hC u').2 (((hC u).1 hu).trans (hb.mono ((hC u).1 hu).size))
  have HC := Lib.hid hC
  have FF := Lib.hid F
  have HH3 := Lib.hid h3
  clear hC F h1 h2 h3
  refine wp_region_inv 22 C (by kernel_rfl) (by kernel_rfl) ((HC.out _).2 (Below.refl _ _).drew) ?_
  simp only [List.take_succ_cons, List.take_zero, List.drop_succ_cons, List.drop_zero]
  repeat
    (refine wpInv_plain rfl (fun K hK => ?_)
     apply Exists.intro
     refine ⟨fun u hu => ?_, ?_⟩
     · have HU := Lib.hid hu
       obtain ⟨f1, f2, f3⟩ := FF.out u hu
       clear hu
       obtain ⟨⟨c1, c2, c3, c4⟩, d1, d2, d3, d4⟩ := cells4Of f1
       obtain ⟨⟨k1, k2, k3, k4⟩, o1, o2, o3, o4⟩ := cells4Of f2
       clear f1 f2 f3 d1 d2 d3 d4 o1 o2 o3 o4
       go_simp
       first
         | exact ⟨HU.out, rfl⟩
         | (go_at_call 100; with_reducible refine (G3.out _).mono ?_; rintro e w' ⟨rfl, rfl⟩; exact ⟨rfl, HU.out⟩)
         | (go_at_call 103; with_reducible refine (G4.out _).mono ?_; rintro e w' ⟨rfl, rfl⟩; exact ⟨rfl, HU.out⟩)
         | (go_at_call 102; with_reducible refine (G5.out _).mono ?_; rintro e w' ⟨rfl, rfl⟩; exact ⟨rfl, HU.out⟩)
         | (go_at_call 97; with_reducible refine (G6.out _).mono ?_; rintro e w' ⟨rfl, hb⟩; exact ⟨rfl, step _ _ HU.out hb⟩)
         | (go_at_call 101; with_reducible refine (G1.out _).mono ?_; rintro e w' ⟨rfl, hb⟩; exact ⟨rfl, step _ _ HU.out hb⟩)
         | (go_at_call 101; with_reducible refine (G2.out _).mono ?_; rintro e w' ⟨rfl, hb⟩; exact ⟨rfl, step _ _ HU.out hb⟩)
     go_simp
     refine hK _ ?_
     clear hK K)
  refine wpInv_nil ?_
  intro w' hw'
  obtain ⟨f1, f2, f3⟩ := FF.out w' hw'
  clear f1 f2
  have hb := hbel.trans (((HC.out _).1 hw').mono hbel.size)
  obtain ⟨⟨c1, c2, c3, c4⟩, d1, d2, d3, d4⟩ := cells4Of f3
  have F3 := Lib.hid f3
  clear f3
  go_wp2
  obtain ⟨⟨f1, f2, f3, f4⟩, _⟩ := cells4Of (set4 F3.out (.int .i64 (wholeF j.1)) (.int .i64 (wholeF j.2)) (.int .u32 (m ^^^ Bc : Nat)) (.int .i64 nn))
  exact bodyPost_ret (v := sealV (wholeF j.1) (wholeF j.2) (m ^^^ Bc : Nat) nn) (by simp [results, Tryz.results37, go_sem, f1, f2, f3, f4, sealV]) rfl ⟨rfl, below_set4 hb (by omega) _ _ _ _⟩
end Go.Proofs.YtankngomgjlfkaaGreatDoor.SealG

namespace Go.Proofs.YtankngomgjlfkaaGreatDoor.SealG
set_option maxRecDepth 100000
open Go.RowKit
open flt
attribute [local go_sem] gives
theorem back_pos (n : Int) (h : 0 ≤ n) (hn : n < 9223372036854775808) (w : World) :
    Calls Tryz.prog 105 #[.int .i64 n] w fun e w' => e = .returned (.int .u32 (crc.it (backN n.toNat) crc.one : Nat)) ∧ w = w' := by
  obtain ⟨N, rfl⟩ := Int.eq_ofNat_of_zero_le h
  exact back_nat N (by omega) w
theorem back_neg (n : Int) (h : n < 0) (w : World) :
    Calls Tryz.prog 105 #[.int .i64 0] w fun e w' => e = .returned (.int .u32 (crc.it (backN n.toNat) crc.one : Nat)) ∧ w = w' := by
  rw [show n.toNat = 0 by omega]
  exact back_nat 0 (by omega) w

set_option maxHeartbeats 1600000 in
theorem cut_any (a1 a2 ac an b1 b2 bc bn : Int) (w : World) (ha1 : a1.natAbs < 18446744073709551616) (ha2 : a2.natAbs < 18446744073709551616)
    (hb1 : b1.natAbs < 18446744073709551616) (hb2 : b2.natAbs < 18446744073709551616) (hac : 0 ≤ ac ∧ ac < 4294967296) (hbc : 0 ≤ bc ∧ bc < 4294967296)
    (hbn : bn < 9223372036854775808) :
    Calls Tryz.prog 38 #[sealV a1 a2 ac an, sealV b1 b2 bc bn] w fun e w' =>
      e = .returned (sealV (wholeF (lessF (sumF a1 a2) (sumF b1 b2) bn).1) (wholeF (lessF (sumF a1 a2) (sumF b1 b2) bn).2)
        (crc.times (ac.toNat ^^^ bc.toNat) (crc.it (backN bn.toNat) crc.one) : Nat) (IntKind.i64.wrap (an - bn))) ∧ Below w.heap.size w w' := by
  obtain ⟨A, rfl⟩ := Int.eq_ofNat_of_zero_le hac.1
  obtain ⟨Bc, rfl⟩ := Int.eq_ofNat_of_zero_le hbc.1
  have hA : A < 4294967296 := by omega
  have hBc : Bc < 4294967296 := by omega
  rw [Int.toNat_natCast, Int.toNat_natCast]
  have g1 := sealSum_any a1 a2 (A : Nat) an
  have g2 := sealSum_any b1 b2 (Bc : Nat) bn
  have g3 := turnLess_any (sumF a1 a2).1 (sumF a1 a2).2 (sumF b1 b2).1 (sumF b1 b2).2 bn (fin_int _ ha1) (fin_int _ ha2) (fin_int _ hb1) (fin_int _ hb2)
  have hxl : A ^^^ Bc < 4294967296 := Nat.xor_lt_two_pow (n := 32) hA hBc
  have g5 := times_any (A ^^^ Bc) (crc.it (backN bn.toNat) crc.one) hxl (crc.it_lt _ _ crc.one_lt)
  have g6 := told_any (lessF (sumF a1 a2) (sumF b1 b2) bn).1 (lessF (sumF a1 a2) (sumF b1 b2) bn).2 (crc.times (A ^^^ Bc) (crc.it (backN bn.toNat) crc.one) : Nat) (IntKind.i64.wrap (an - bn))
  have hx := bits_xor_u32 A Bc hA hBc
  clear hac hbc
  generalize lessF (sumF a1 a2) (sumF b1 b2) bn = j at *
  generalize sumF a1 a2 = sa at *
  generalize sumF b1 b2 = sb at *
  generalize hnn : IntKind.i64.wrap (an - bn) = nn at *
  rcases Int.lt_or_le bn 0 with hneg | hpos
  case' inl => have g4 := back_neg bn hneg; have hmx : max bn 0 = 0 := Int.max_eq_right (by omega)
  case' inr => have g4 := back_pos bn hpos hbn; have hmx : max bn 0 = bn := Int.max_eq_left hpos
  all_goals
    generalize crc.times (A ^^^ Bc) (crc.it (backN bn.toNat) crc.one) = m at *
    generalize crc.it (backN bn.toNat) crc.one = pw at *
    generalize A ^^^ Bc = ab at *
    have G1 := Lib.hid g1
    have G2 := Lib.hid g2
    have G3 := Lib.hid g3
    have G4 := Lib.hid g4
    have G5 := Lib.hid g5
    have G6 := Lib.hid g6
    clear g1 g2 g3 g4 g5 g6 ha1 ha2 hb1 hb2 hA hBc hbn hxl
    unfold sealV at *
    go_enter Tryz.func38, Tryz.ntmps38
    go_wp2
    have e1 : ((w.alloc (Obj.cells #[.int .i64 a1, .int .i64 a2, .int .u32 (A : Nat), .int .i64 an] 33)).alloc (Obj.cells #[.int .i64 b1, .int .i64 b2, .int .u32 (Bc : Nat), .int .i64 bn] 33)).heap.size = w.heap.size + 1 + 1 := by simp
    have h1 := new3 w (Obj.cells #[.int .i64 a1, .int .i64 a2, .int .u32 (A : Nat), .int .i64 an] 33) (Obj.cells #[.int .i64 b1, .int .i64 b2, .int .u32 (Bc : Nat), .int .i64 bn] 33) (Obj.cells #[.int .i64 0, .int .i64 0, .int .u32 0, .int .i64 0] 33)
    clear e1
    generalize (((w.alloc (Obj.cells #[.int .i64 a1, .int .i64 a2, .int .u32 (A : Nat), .int .i64 an] 33)).alloc (Obj.cells #[.int .i64 b1, .int .i64 b2, .int .u32 (Bc : Nat), .int .i64 bn] 33)).alloc (Obj.cells #[.int .i64 0, .int .i64 0, .int .u32 0, .int .i64 0] 33)) = W at *
    obtain ⟨h1, h2, h3, hbel⟩ := h1
    obtain ⟨C, hC⟩ : ∃ C : World → Prop, ∀ u, C u ↔ Below W.heap.size W u := ⟨fun u => Below W.heap.size W u, fun _ => Iff.rfl⟩
    have l3 : w.heap.size + 1 + 1 < W.heap.size := (Array.getElem?_eq_some_iff.1 h3).1
    have F : ∀ u, C u → u.heap[w.heap.size]? = some (Obj.cells #[.int .i64 a1, .int .i64 a2, .int .u32 (A : Nat), .int .i64 an] 33) ∧ u.heap[w.heap.size + 1]? = some (Obj.cells #[.int .i64 b1, .int .i64 b2, .int .u32 (Bc : Nat), .int .i64 bn] 33) ∧
        u.heap[w.heap.size + 1 + 1]? = some (Obj.cells #[.int .i64 0, .int .i64 0, .int .u32 0, .int .i64 0] 33) := fun u hu => by
      have hu := (hC u).1 hu
      exact ⟨(hu.block _ (by omega)).trans h1, (hu.block _ (by omega)).trans h2, (hu.block _ l3).trans h3⟩
    have step : ∀ u u', C u → Below u.heap.size u u' → C u' := fun u u' hu hb => (hC u').2 (((hC u).1 hu).trans (hb.mono ((hC u).1 hu).size))
    have HC := Lib.hid hC
    have FF := Lib.hid F
    have HH3 := Lib.hid h3
    clear hC F h1 h2 h3
    refine wp_region_inv 21 C (by kernel_rfl) (by kernel_rfl) ((HC.out _).2 (Below.refl _ _).drew) ?_
    simp only [List.take_succ_cons, List.take_zero, List.drop_succ_cons, List.drop_zero]
    repeat
      (refine wpInv_plain rfl (fun K hK => ?_)
       apply Exists.intro
       refine ⟨fun u hu => ?_, ?_⟩
       · have HU := Lib.hid hu
         obtain ⟨f1, f2, f3⟩ := FF.out u hu
         clear hu
         obtain ⟨⟨c1, c2, c3, c4⟩, d1, d2, d3, d4⟩ := cells4Of f1
         obtain ⟨⟨k1, k2, k3, k4⟩, o1, o2, o3, o4⟩ := cells4Of f2
         clear f1 f2 f3 d1 d2 d3 d4 o1 o2 o3 o4
         go_simp
         first
           | exact ⟨HU.out, rfl⟩
           | (go_at_call 104; with_reducible refine (G3.out _).mono ?_; rintro e w' ⟨rfl, rfl⟩; exact ⟨rfl, HU.out⟩)
           | (go_at_call 105; with_reducible refine (G4.out _).mono ?_; rintro e w' ⟨rfl, rfl⟩; exact ⟨rfl, HU.out⟩)
           | (go_at_call 102; with_reducible refine (G5.out _).mono ?_; rintro e w' ⟨rfl, rfl⟩; exact ⟨rfl, HU.out⟩)
           | (go_at_call 97; with_reducible refine (G6.out _).mono ?_; rintro e w' ⟨rfl, hb⟩; exact ⟨rfl, step _ _ HU.out hb⟩)
           | (go_at_call 101; with_reducible refine (G1.out _).mono ?_; rintro e w' ⟨rfl, hb⟩; exact ⟨rfl, step _ _ HU.out hb⟩)
           | (go_at_call 101; with_reducible refine (G2.out _).mono ?_; rintro e w' ⟨rfl, hb⟩; exact ⟨rfl, step _ _ HU.out hb⟩)
       go_simp
       refine hK _ ?_
       clear hK K)
    refine wpInv_nil ?_
    intro w' hw'
    obtain ⟨f1, f2, f3⟩ := FF.out w' hw'
    clear f1 f2
    have hb := hbel.trans (((HC.out _).1 hw').mono hbel.size)
    obtain ⟨⟨c1, c2, c3, c4⟩, d1, d2, d3, d4⟩ := cells4Of f3
    have F3 := Lib.hid f3
    clear f3
    go_wp2
    obtain ⟨⟨f1, f2, f3, f4⟩, _⟩ := cells4Of (set4 F3.out (.int .i64 (wholeF j.1)) (.int .i64 (wholeF j.2)) (.int .u32 (m : Nat)) (.int .i64 nn))
    exact bodyPost_ret (v := sealV (wholeF j.1) (wholeF j.2) (m : Nat) nn) (by simp [results, Tryz.results38, go_sem, f1, f2, f3, f4, sealV]) rfl ⟨rfl, below_set4 hb (by omega) _ _ _ _⟩

theorem cells2Of {w : World} {b : Nat} {x y : Value} {t : TypeId} (h : w.heap[b]? = some (.cells #[x, y] t (0, 0))) :
    w.cell? ⟨b, 0, none⟩ = some x ∧ w.cell? ⟨b, 1, none⟩ = some y := by
  simp [World.cell?, h]

set_option maxHeartbeats 1600000 in
theorem refOf_any (s : ByteArray) (hs : s.size ≤ 1099511627776) (w : World) :
    Calls Tryz.prog 13 #[.string s] w fun e w' =>
      e = .returned (sealV (rs (bl s) s.size s.size).1 (rs (bl s) s.size s.size).2 (crc.check (bl s) : Nat) (s.size : Nat)) ∧ Below w.heap.size w w' := by
  have g1 := refSum_any s hs
  have g2 := refCheck_any s (by unfold maxLen; omega)
  generalize rs (bl s) s.size s.size = z at *
  generalize crc.check (bl s) = c at *
  have G1 := Lib.hid g1
  have G2 := Lib.hid g2
  clear g1 g2
  go_enter Tryz.func13, Tryz.ntmps13
  go_wp2_with (go_at_call 50; refine (G1.out _).mono ?_; rintro e w1 ⟨rfl, hb1⟩)
  have hsz := hb1.size
  simp only [World.size_alloc] at hsz
  have h1 : (w1.alloc (Obj.cells #[.int .i64 z.1, .int .i64 z.2] 112)).heap[w.heap.size]? = some (.cells #[.int .i64 0, .int .i64 0, .int .u32 0, .int .i64 0] 33 (0, 0)) := by
    rw [Below.heap_alloc _ _ _ (by omega), hb1.block _ (by simp)]; exact heap_alloc_new _ _
  have h2 := heap_alloc_new w1 (Obj.cells #[.int .i64 z.1, .int .i64 z.2] 112)
  have hbel : Below w.heap.size w (w1.alloc (Obj.cells #[.int .i64 z.1, .int .i64 z.2] 112)) := ((((Below.refl _ _).alloc (Nat.le_refl _) _).trans (hb1.mono (by simp)))).alloc (by omega) _
  clear hb1
  have hl : w1.heap.size < (w1.alloc (Obj.cells #[.int .i64 z.1, .int .i64 z.2] 112)).heap.size := by simp
  generalize w1.alloc (Obj.cells #[.int .i64 z.1, .int .i64 z.2] 112) = W at *
  generalize w1.heap.size = zb at *
  obtain ⟨C, hC⟩ : ∃ C : World → Prop, ∀ u, C u ↔ Below W.heap.size W u := ⟨fun u => Below W.heap.size W u, fun _ => Iff.rfl⟩
  have F : ∀ u, C u → u.heap[w.heap.size]? = some (.cells #[.int .i64 0, .int .i64 0, .int .u32 0, .int .i64 0] 33 (0, 0)) ∧ u.heap[zb]? = some (Obj.cells #[.int .i64 z.1, .int .i64 z.2] 112) := fun u hu => by
    have hu := (hC u).1 hu
    exact ⟨(hu.block _ (by omega)).trans h1, (hu.block _ hl).trans h2⟩
  have HC := Lib.hid hC
  have FF := Lib.hid F
  clear hC F h1 h2
  refine wp_region_inv 9 C (by kernel_rfl) (by kernel_rfl) ((HC.out _).2 (Below.refl _ _).drew) ?_
  simp only [List.take_succ_cons, List.take_zero, List.drop_succ_cons, List.drop_zero]
  repeat
    (refine wpInv_plain rfl (fun K hK => ?_)
     apply Exists.intro
     refine ⟨fun u hu => ?_, ?_⟩
     · have HU := Lib.hid hu
       obtain ⟨f1, f2⟩ := FF.out u hu
       clear hu
       obtain ⟨c1, c2⟩ := cells2Of f2
       clear f1 f2
       go_simp
       first
         | exact ⟨HU.out, rfl⟩
         | (go_at_call 51; with_reducible refine (G2.out _).mono ?_; rintro e w' ⟨rfl, rfl⟩; exact ⟨rfl, HU.out⟩)
     go_simp
     refine hK _ ?_
     clear hK K)
  refine wpInv_nil ?_
  intro w' hw'
  obtain ⟨f1, f2⟩ := FF.out w' hw'
  clear f2
  have hb := hbel.trans (((HC.out _).1 hw').mono hbel.size)
  obtain ⟨⟨c1, c2, c3, c4⟩, d1, d2, d3, d4⟩ := cells4Of f1
  have F3 := Lib.hid f1
  clear f1
  go_wp2
  obtain ⟨⟨f1, f2, f3, f4⟩, _⟩ := cells4Of (set4 F3.out (.int .i64 z.1) (.int .i64 z.2) (.int .u32 (c : Nat)) (.int .i64 (s.size : Nat)))
  exact bodyPost_ret (v := sealV z.1 z.2 (c : Nat) (s.size : Nat)) (by simp [results, Tryz.results13, go_sem, f1, f2, f3, f4, sealV]) rfl ⟨rfl, below_set4 hb (by omega) _ _ _ _⟩
end Go.Proofs.YtankngomgjlfkaaGreatDoor.SealG

namespace Go.Proofs.YtankngomgjlfkaaGreatDoor.SealG
set_option maxRecDepth 100000
open Go.RowKit
open Go.Op (negFloat)
open flt

def gs (l : List Nat) : Int × Int := l.foldl (fun (z : Int × Int) (c : Nat) => (-z.2 + (c : Int), z.1)) (0, 0)
def rot : Nat → Int × Int → Int × Int
  | 0, z => z
  | n + 1, z => rot n (-z.2, z.1)
theorem rot_succ (n : Nat) (z : Int × Int) : rot (n + 1) z = (-(rot n z).2, (rot n z).1) := by
  induction n generalizing z with
  | zero => rfl
  | succ n ih =>
    show rot (n + 1) (-z.2, z.1) = _
    rw [ih]; rfl
theorem rot_add (m n : Nat) (z : Int × Int) : rot (m + n) z = rot m (rot n z) := by
  induction m with
  | zero => simp [rot]
  | succ m ih => rw [Nat.succ_add, rot_succ, rot_succ, ih]
theorem rot_four (z : Int × Int) : rot 4 z = z := by
  simp [rot]
theorem rot_mul (k : Nat) (z : Int × Int) : rot (4 * k) z = z := by
  induction k with
  | zero => rfl
  | succ k ih => rw [Nat.mul_succ, rot_add, rot_four, ih]
theorem rot_mod (n : Nat) (z : Int × Int) : rot (n % 4) z = rot n z := by
  have h : n = n % 4 + 4 * (n / 4) := by omega
  conv => rhs; rw [h, rot_add, rot_mul]
theorem rot_plus (n : Nat) (x y : Int × Int) : rot n (x.1 + y.1, x.2 + y.2) = ((rot n x).1 + (rot n y).1, (rot n x).2 + (rot n y).2) := by
  induction n with
  | zero => rfl
  | succ n ih =>
    rw [rot_succ, rot_succ, rot_succ, ih]
    ext <;> simp <;> omega
theorem gs_snoc (l : List Nat) (c : Nat) : gs (l ++ [c]) = (-(gs l).2 + (c : Int), (gs l).1) := by simp [gs, List.foldl_append]
theorem snocInd {α : Type} {P : List α → Prop} (h0 : P []) (h1 : ∀ l c, P l → P (l ++ [c])) : ∀ l, P l := by
  have h : ∀ r : List α, P r.reverse := by
    intro r
    induction r with
    | nil => exact h0
    | cons c r ih => rw [List.reverse_cons]; exact h1 _ _ ih
  intro l
  have := h l.reverse
  rwa [List.reverse_reverse] at this
theorem gs_append (a b : List Nat) : gs (a ++ b) = ((rot b.length (gs a)).1 + (gs b).1, (rot b.length (gs a)).2 + (gs b).2) := by
  refine snocInd (P := fun b => gs (a ++ b) = ((rot b.length (gs a)).1 + (gs b).1, (rot b.length (gs a)).2 + (gs b).2)) ?_ ?_ b
  · simp [gs, rot]
  · intro b c ih
    rw [← List.append_assoc, gs_snoc, ih, gs_snoc, List.length_append, List.length_singleton, rot_succ]
    ext <;> simp <;> omega
theorem gs_bd (l : List Nat) : (∀ c ∈ l, c < 256) → -(255 * (l.length : Int)) ≤ (gs l).1 ∧ (gs l).1 ≤ 255 * (l.length : Int) ∧ -(255 * (l.length : Int)) ≤ (gs l).2 ∧ (gs l).2 ≤ 255 * (l.length : Int) := by
  refine snocInd (P := fun l => (∀ c ∈ l, c < 256) → -(255 * (l.length : Int)) ≤ (gs l).1 ∧ (gs l).1 ≤ 255 * (l.length : Int) ∧ -(255 * (l.length : Int)) ≤ (gs l).2 ∧ (gs l).2 ≤ 255 * (l.length : Int)) ?_ ?_ l
  · simp [gs]
  · intro l c ih h
    have h1 := ih fun x hx => h x (by simp [hx])
    have h2 := h c (by simp)
    rw [gs_snoc, List.length_append, List.length_singleton]
    simp only
    omega

theorem fadd_rep {x y : Nat} {a b : Int} (hx : Rep x a) (hy : Rep y b) (h : (a + b).natAbs ≤ 9007199254740992) : Rep (fadd x y) (a + b) := by
  obtain ⟨r, h1, h2⟩ := rep_add hx hy h
  rw [fadd, h1]; exact h2
theorem fsub_rep {x y : Nat} {a b : Int} (hx : Rep x a) (hy : Rep y b) (h : (a - b).natAbs ≤ 9007199254740992) : Rep (fsub x y) (a - b) := by
  obtain ⟨r, h1, h2⟩ := rep_sub hx hy h
  rw [fsub, h1]; exact h2
theorem sumB_rep (l : List Nat) : (∀ c ∈ l, c < 256) → l.length ≤ 1099511627776 → Rep (sumB l).1 (gs l).1 ∧ Rep (sumB l).2 (gs l).2 := by
  refine snocInd (P := fun l => (∀ c ∈ l, c < 256) → l.length ≤ 1099511627776 → Rep (sumB l).1 (gs l).1 ∧ Rep (sumB l).2 (gs l).2) ?_ ?_ l
  · intro _ _; exact ⟨rep_zero, rep_zero⟩
  · intro l c ih h hl
    rw [List.length_append, List.length_singleton] at hl
    have h' : ∀ x ∈ l, x < 256 := fun x hx => h x (by simp [hx])
    obtain ⟨h1, h2⟩ := ih h' (by omega)
    have h3 := h c (by simp)
    obtain ⟨b1, b2, b3, b4⟩ := gs_bd l h'
    rw [sumB_snoc, gs_snoc]
    refine ⟨fadd_rep (rep_neg h2) (rep_int _ (by omega)) (by omega), ?_⟩
    have := fadd_rep h1 rep_zero (by omega)
    rwa [Int.add_zero] at this
theorem turnSum_rep (l : List Nat) (h : ∀ c ∈ l, c < 256) (hl : l.length ≤ 1099511627776) : wholeF (turnSumF l).1 = (gs l).1 ∧ wholeF (turnSumF l).2 = (gs l).2 := by
  obtain ⟨h1, h2⟩ := sumB_rep l h hl
  obtain ⟨b1, b2, b3, b4⟩ := gs_bd l h
  have g1 := fadd_rep h1 rep_zero (by omega)
  have g2 := fadd_rep h2 rep_zero (by omega)
  rw [Int.add_zero] at g1 g2
  exact ⟨wholeF_rep g1 (by omega) (by omega), wholeF_rep g2 (by omega) (by omega)⟩

theorem manyF_rep (n : Nat) (z : Nat × Nat) (x : Int × Int) (h1 : Rep z.1 x.1) (h2 : Rep z.2 x.2) : Rep (manyF n z).1 (rot n x).1 ∧ Rep (manyF n z).2 (rot n x).2 := by
  induction n generalizing z x with
  | zero => exact ⟨h1, h2⟩
  | succ n ih => exact ih _ _ (rep_neg h2) h1
theorem rot_bd (n : Nat) (x : Int × Int) (B : Int) (h : -B ≤ x.1 ∧ x.1 ≤ B ∧ -B ≤ x.2 ∧ x.2 ≤ B) : -B ≤ (rot n x).1 ∧ (rot n x).1 ≤ B ∧ -B ≤ (rot n x).2 ∧ (rot n x).2 ≤ B := by
  induction n generalizing x with
  | zero => exact h
  | succ n ih => exact ih _ (by simp only; omega)
theorem sumF_rep (a : Int × Int) (h1 : a.1.natAbs ≤ 9007199254740992) (h2 : a.2.natAbs ≤ 9007199254740992) : Rep (sumF a.1 a.2).1 a.1 ∧ Rep (sumF a.1 a.2).2 a.2 := ⟨rep_int _ h1, rep_int _ h2⟩

theorem joinF_rep (la lb : List Nat) (ha : ∀ c ∈ la, c < 256) (hb : ∀ c ∈ lb, c < 256) (hla : la.length ≤ 1099511627776) (hlb : lb.length ≤ 1099511627776) :
    wholeF (joinF (sumF (gs la).1 (gs la).2) (sumF (gs lb).1 (gs lb).2) (lb.length : Int)).1 = (gs (la ++ lb)).1 ∧
    wholeF (joinF (sumF (gs la).1 (gs la).2) (sumF (gs lb).1 (gs lb).2) (lb.length : Int)).2 = (gs (la ++ lb)).2 := by
  obtain ⟨a1, a2, a3, a4⟩ := gs_bd la ha
  obtain ⟨b1, b2, b3, b4⟩ := gs_bd lb hb
  obtain ⟨s1, s2⟩ := sumF_rep (gs la) (by omega) (by omega)
  obtain ⟨t1, t2⟩ := sumF_rep (gs lb) (by omega) (by omega)
  have en : ((lb.length : Int) % 4).toNat = lb.length % 4 := by omega
  unfold joinF
  rw [en]
  obtain ⟨m1, m2⟩ := manyF_rep (lb.length % 4) _ _ s1 s2
  rw [rot_mod] at m1 m2
  obtain ⟨r1, r2, r3, r4⟩ := rot_bd lb.length (gs la) (255 * (la.length : Int)) ⟨a1, a2, a3, a4⟩
  have g1 := fadd_rep (fadd_rep m1 t1 (by omega)) rep_zero (by omega)
  have g2 := fadd_rep (fadd_rep m2 t2 (by omega)) rep_zero (by omega)
  rw [Int.add_zero] at g1 g2
  rw [gs_append]
  exact ⟨wholeF_rep g1 (by omega) (by omega), wholeF_rep g2 (by omega) (by omega)⟩
theorem lessF_rep (la lb : List Nat) (ha : ∀ c ∈ la, c < 256) (hb : ∀ c ∈ lb, c < 256) (hla : la.length ≤ 1099511627776) (hlb : lb.length ≤ 1099511627776) :
    wholeF (lessF (sumF (gs (la ++ lb)).1 (gs (la ++ lb)).2) (sumF (gs lb).1 (gs lb).2) (lb.length : Int)).1 = (gs la).1 ∧
    wholeF (lessF (sumF (gs (la ++ lb)).1 (gs (la ++ lb)).2) (sumF (gs lb).1 (gs lb).2) (lb.length : Int)).2 = (gs la).2 := by
  obtain ⟨a1, a2, a3, a4⟩ := gs_bd la ha
  obtain ⟨b1, b2, b3, b4⟩ := gs_bd lb hb
  obtain ⟨c1, c2, c3, c4⟩ := gs_bd (la ++ lb) (fun c hc => by rcases List.mem_append.1 hc with h | h; exact ha c h; exact hb c h)
  rw [List.length_append] at c1 c2 c3 c4
  obtain ⟨s1, s2⟩ := sumF_rep (gs (la ++ lb)) (by omega) (by omega)
  obtain ⟨t1, t2⟩ := sumF_rep (gs lb) (by omega) (by omega)
  have en : (wrap64 (-(lb.length : Int)) % 4).toNat = (4 - lb.length % 4) % 4 := by
    rw [IntWalk.wrap64_in _ (by omega)]; omega
  unfold lessF
  rw [en]
  have d1 := fsub_rep s1 t1 (by omega)
  have d2 := fsub_rep s2 t2 (by omega)
  obtain ⟨m1, m2⟩ := manyF_rep ((4 - lb.length % 4) % 4) (fsub (sumF (gs (la ++ lb)).1 (gs (la ++ lb)).2).1 (sumF (gs lb).1 (gs lb).2).1, fsub (sumF (gs (la ++ lb)).1 (gs (la ++ lb)).2).2 (sumF (gs lb).1 (gs lb).2).2) ((gs (la ++ lb)).1 - (gs lb).1, (gs (la ++ lb)).2 - (gs lb).2) d1 d2
  have er : rot ((4 - lb.length % 4) % 4) ((gs (la ++ lb)).1 - (gs lb).1, (gs (la ++ lb)).2 - (gs lb).2) = gs la := by
    rw [gs_append]
    simp only [Int.add_sub_cancel]
    show rot ((4 - lb.length % 4) % 4) (rot lb.length (gs la)) = gs la
    rw [← rot_add, ← rot_mod]
    rw [show ((4 - lb.length % 4) % 4 + lb.length) % 4 = 0 by omega]
    rfl
  rw [er] at m1 m2
  have g1 := fadd_rep m1 rep_zero (by omega)
  have g2 := fadd_rep m2 rep_zero (by omega)
  rw [Int.add_zero] at g1 g2
  exact ⟨wholeF_rep g1 (by omega) (by omega), wholeF_rep g2 (by omega) (by omega)⟩

theorem ipow_succ (m : Nat) : ipow ((m : Int) + 1) = (-(ipow m).2, (ipow m).1) := by
  have h : (m : Int) % 4 = 0 ∨ (m : Int) % 4 = 1 ∨ (m : Int) % 4 = 2 ∨ (m : Int) % 4 = 3 := by omega
  unfold ipow
  rcases h with h | h | h | h
  · rw [h, show ((m : Int) + 1) % 4 = 1 by omega]; decide
  · rw [h, show ((m : Int) + 1) % 4 = 2 by omega]; decide
  · rw [h, show ((m : Int) + 1) % 4 = 3 by omega]; decide
  · rw [h, show ((m : Int) + 1) % 4 = 0 by omega]; decide
theorem rot_byte (m : Nat) (c : Int) : rot m (c, 0) = (c * (ipow m).1, c * (ipow m).2) := by
  induction m with
  | zero => simp [rot, ipow]
  | succ m ih =>
    rw [rot_succ, ih, Int.natCast_succ, ipow_succ]
    ext
    · simp [Int.mul_neg]
    · simp
theorem rs_rot (l : List Nat) (n k : Nat) (hk : k ≤ n) (hn : n = l.length) : rs l n k = rot (n - k) (gs (l.take k)) := by
  induction k with
  | zero =>
    have : rot n (0, 0) = (0, 0) := by
      clear hk hn
      induction n with
      | zero => rfl
      | succ n ih => rw [rot_succ, ih]; rfl
    simp [rs, gs, this]
  | succ k ih =>
    have hlt : k < l.length := by omega
    rw [rs, ih (by omega), List.take_succ_eq_append_getElem hlt, gs_snoc]
    have e1 : n - k = (n - (k + 1)) + 1 := by omega
    have e2 : (n : Int) - 1 - k = ((n - (k + 1) : Nat) : Int) := by omega
    have e3 : l.getD k 0 = l[k] := by rw [List.getD_eq_getElem?_getD, List.getElem?_eq_getElem hlt]; rfl
    rw [e2, e3, e1]
    have h := rot_plus (n - (k + 1)) (-(gs (l.take k)).2, (gs (l.take k)).1) ((l[k] : Nat), 0)
    rw [rot_byte, Int.add_zero] at h
    rw [h]
    rfl
theorem rs_gs (l : List Nat) : rs l l.length l.length = gs l := by
  rw [rs_rot l _ _ (Nat.le_refl _) rfl, Nat.sub_self, List.take_length]
  rfl

def sealL (l : List Nat) : Value := sealV (gs l).1 (gs l).2 (crc.check l : Nat) (l.length : Nat)

theorem of_seal (s : ByteArray) (hs : s.size ≤ 1099511627776) (w : World) :
    Calls Tryz.prog 36 #[.string s] w fun e w' => e = .returned (sealL (bl s)) ∧ Below w.heap.size w w' := by
  obtain ⟨h1, h2⟩ := turnSum_rep (bl s) (bl_lt s) (by rw [bl_length]; exact hs)
  have := of_any s (by unfold maxLen; omega) w
  rw [h1, h2, ← bl_length] at this
  exact this
theorem refOf_seal (s : ByteArray) (hs : s.size ≤ 1099511627776) (w : World) :
    Calls Tryz.prog 13 #[.string s] w fun e w' => e = .returned (sealL (bl s)) ∧ Below w.heap.size w w' := by
  have := refOf_any s hs w
  rw [← bl_length, rs_gs] at this
  exact this
theorem join_seal (a b : List Nat) (ha : ∀ c ∈ a, c < 256) (hb : ∀ c ∈ b, c < 256) (hla : a.length ≤ 1099511627776) (hlb : b.length ≤ 1099511627776) (w : World) :
    Calls Tryz.prog 37 #[sealL a, sealL b] w fun e w' => e = .returned (sealL (a ++ b)) ∧ Below w.heap.size w w' := by
  obtain ⟨a1, a2, a3, a4⟩ := gs_bd a ha
  obtain ⟨b1, b2, b3, b4⟩ := gs_bd b hb
  have ca := crc.check_lt a ha
  have cb := crc.check_lt b hb
  have h := join_any (gs a).1 (gs a).2 (crc.check a : Nat) (a.length : Nat) (gs b).1 (gs b).2 (crc.check b : Nat) (b.length : Nat) w (by omega) (by omega) (by omega) (by omega) (by omega) (by omega) (by omega)
  obtain ⟨j1, j2⟩ := joinF_rep a b ha hb hla hlb
  have ew : IntKind.i64.wrap ((a.length : Int) + (b.length : Int)) = (((a ++ b).length : Nat) : Int) := by
    rw [IntWalk.i64_in _ (by omega), List.length_append]; omega
  have ec : crc.times (crc.check a) (powN (b.length : Nat)) ^^^ crc.check b = crc.check (a ++ b) := by
    rw [crc.check_append, powN, Int.toNat_natCast, crc.times_comm _ _ ca (crc.it_lt _ _ crc.one_lt), crc.it_times _ _ ca]
  rw [Int.toNat_natCast, Int.toNat_natCast, ec, ew, j1, j2] at h
  exact h
theorem cut_seal (a b : List Nat) (ha : ∀ c ∈ a, c < 256) (hb : ∀ c ∈ b, c < 256) (hla : a.length ≤ 1099511627776) (hlb : b.length ≤ 1099511627776) (w : World) :
    Calls Tryz.prog 38 #[sealL (a ++ b), sealL b] w fun e w' => e = .returned (sealL a) ∧ Below w.heap.size w w' := by
  have hab : ∀ c ∈ a ++ b, c < 256 := fun c hc => by rcases List.mem_append.1 hc with h | h; exact ha c h; exact hb c h
  obtain ⟨a1, a2, a3, a4⟩ := gs_bd (a ++ b) hab
  obtain ⟨b1, b2, b3, b4⟩ := gs_bd b hb
  have hlab : (a ++ b).length = a.length + b.length := List.length_append
  have ca := crc.check_lt (a ++ b) hab
  have cb := crc.check_lt b hb
  have h := cut_any (gs (a ++ b)).1 (gs (a ++ b)).2 (crc.check (a ++ b) : Nat) ((a ++ b).length : Nat) (gs b).1 (gs b).2 (crc.check b : Nat) (b.length : Nat) w (by omega) (by omega) (by omega) (by omega) (by omega) (by omega) (by omega)
  obtain ⟨j1, j2⟩ := lessF_rep a b ha hb hla hlb
  have ew : IntKind.i64.wrap (((a ++ b).length : Int) - (b.length : Int)) = ((a.length : Nat) : Int) := by
    rw [IntWalk.i64_in _ (by omega)]; omega
  have hx : crc.check (a ++ b) ^^^ crc.check b < 4294967296 := Nat.xor_lt_two_pow (n := 32) ca cb
  obtain ⟨k, hk⟩ := backN_eq b.length
  have ec : crc.times (crc.check (a ++ b) ^^^ crc.check b) (crc.it (backN b.length) crc.one) = crc.check a := by
    rw [crc.times_comm _ _ hx (crc.it_lt _ _ crc.one_lt), crc.it_times _ _ hx, crc.check_cut a b _ k hk ha]
  rw [Int.toNat_natCast, Int.toNat_natCast, Int.toNat_natCast, ec, ew, j1, j2] at h
  exact h
end Go.Proofs.YtankngomgjlfkaaGreatDoor.SealG

namespace Go.Proofs.YtankngomgjlfkaaGreatDoor.SealG
set_option maxRecDepth 100000
open Go.RowKit
attribute [local go_sem] gives

theorem awake_facts : ∃ c ca cb : Int,
    (∀ w, Calls Tryz.prog 36 #[.string ⟨#[97, 98]⟩] w fun e w' => e = .returned (.agg #[.int .i64 98, .int .i64 97, .int .u32 c, .int .i64 2]) ∧ Below w.heap.size w w') ∧
    (∀ w, Calls Tryz.prog 13 #[.string ⟨#[97, 98]⟩] w fun e w' => e = .returned (.agg #[.int .i64 98, .int .i64 97, .int .u32 c, .int .i64 2]) ∧ Below w.heap.size w w') ∧
    (∀ w, Calls Tryz.prog 36 #[.string ⟨#[97]⟩] w fun e w' => e = .returned (.agg #[.int .i64 97, .int .i64 0, .int .u32 ca, .int .i64 1]) ∧ Below w.heap.size w w') ∧
    (∀ w, Calls Tryz.prog 36 #[.string ⟨#[98]⟩] w fun e w' => e = .returned (.agg #[.int .i64 98, .int .i64 0, .int .u32 cb, .int .i64 1]) ∧ Below w.heap.size w w') ∧
    (∀ w, Calls Tryz.prog 37 #[.agg #[.int .i64 97, .int .i64 0, .int .u32 ca, .int .i64 1], .agg #[.int .i64 98, .int .i64 0, .int .u32 cb, .int .i64 1]] w fun e w' => e = .returned (.agg #[.int .i64 98, .int .i64 97, .int .u32 c, .int .i64 2]) ∧ Below w.heap.size w w') ∧
    (∀ w, Calls Tryz.prog 38 #[.agg #[.int .i64 98, .int .i64 97, .int .u32 c, .int .i64 2], .agg #[.int .i64 98, .int .i64 0, .int .u32 cb, .int .i64 1]] w fun e w' => e = .returned (.agg #[.int .i64 97, .int .i64 0, .int .u32 ca, .int .i64 1]) ∧ Below w.heap.size w w') :=
  have lt1 : ∀ c ∈ [97], c < 256 := by decide
  have lt2 : ∀ c ∈ [98], c < 256 := by decide
  ⟨(crc.check [97, 98] : Nat), (crc.check [97] : Nat), (crc.check [98] : Nat), of_seal ⟨#[97, 98]⟩ (by decide), refOf_seal ⟨#[97, 98]⟩ (by decide), of_seal ⟨#[97]⟩ (by decide), of_seal ⟨#[98]⟩ (by decide),
    join_seal [97] [98] lt1 lt2 (by decide) (by decide), cut_seal [97] [98] lt1 lt2 (by decide) (by decide)⟩

set_option maxHeartbeats 1600000 in
theorem awake_any (w : World) : Calls Tryz.prog 9 #[] w fun e w' => e = .returned (.bool true) ∧ Below w.heap.size w w' := by
  obtain ⟨c, ca, cb, h1, h2, h3, h4, h5, h6⟩ := awake_facts
  have H1 := Lib.hid h1
  have H2 := Lib.hid h2
  have H3 := Lib.hid h3
  have H4 := Lib.hid h4
  have H5 := Lib.hid h5
  have H6 := Lib.hid h6
  clear h1 h2 h3 h4 h5 h6
  go_enter Tryz.func9, Tryz.ntmps9
  go_wp2_with (go_at_call 36; refine (H1.out _).mono ?_; rintro e w1 ⟨rfl, hb1⟩)
  have hbel : Below w.heap.size w (w1.alloc (Obj.cells #[.int .i64 98, .int .i64 97, .int .u32 c, .int .i64 2] 33)) := hb1.alloc hb1.size _
  have h1 := heap_alloc_new w1 (Obj.cells #[.int .i64 98, .int .i64 97, .int .u32 c, .int .i64 2] 33)
  have hl : w1.heap.size < (w1.alloc (Obj.cells #[.int .i64 98, .int .i64 97, .int .u32 c, .int .i64 2] 33)).heap.size := by simp
  clear hb1
  generalize w1.alloc (Obj.cells #[.int .i64 98, .int .i64 97, .int .u32 c, .int .i64 2] 33) = W at *
  generalize w1.heap.size = zb at *
  obtain ⟨C, hC⟩ : ∃ C : World → Prop, ∀ u, C u ↔ Below W.heap.size W u := ⟨fun u => Below W.heap.size W u, fun _ => Iff.rfl⟩
  have F : ∀ u, C u → u.heap[zb]? = some (Obj.cells #[.int .i64 98, .int .i64 97, .int .u32 c, .int .i64 2] 33) := fun u hu => (((hC u).1 hu).block _ hl).trans h1
  have step : ∀ u u', C u → Below u.heap.size u u' → C u' := fun u u' hu hb => (hC u').2 (((hC u).1 hu).trans (hb.mono ((hC u).1 hu).size))
  have HC := Lib.hid hC
  have FF := Lib.hid F
  clear hC F h1
  refine wp_region_inv 27 C (by kernel_rfl) (by kernel_rfl) ((HC.out _).2 (Below.refl _ _).drew) ?_
  simp only [List.take_succ_cons, List.take_zero, List.drop_succ_cons, List.drop_zero]
  repeat
    (first | refine wpInv_plain rfl (fun K hK => ?_) | refine wpInv_wanted (by rfl) (fun K hK => ?_)
     apply Exists.intro
     refine ⟨fun u hu => ?_, ?_⟩
     · have HU := Lib.hid hu
       have f1 := FF.out u hu
       clear hu
       obtain ⟨⟨c1, c2, c3, c4⟩, d1, d2, d3, d4⟩ := cells4Of f1
       clear f1 d1 d2 d3 d4
       go_simp
       first
         | exact ⟨HU.out, rfl⟩
         | (go_at_call 36; with_reducible refine (H3.out _).mono ?_; rintro e w' ⟨rfl, hb⟩; exact ⟨rfl, step _ _ HU.out hb⟩)
         | (go_at_call 36; with_reducible refine (H4.out _).mono ?_; rintro e w' ⟨rfl, hb⟩; exact ⟨rfl, step _ _ HU.out hb⟩)
         | (go_at_call 13; with_reducible refine (H2.out _).mono ?_; rintro e w' ⟨rfl, hb⟩; exact ⟨rfl, step _ _ HU.out hb⟩)
         | (go_at_call 37; with_reducible refine (H5.out _).mono ?_; rintro e w' ⟨rfl, hb⟩; exact ⟨rfl, step _ _ HU.out hb⟩)
         | (go_at_call 38; with_reducible refine (H6.out _).mono ?_; rintro e w' ⟨rfl, hb⟩; exact ⟨rfl, step _ _ HU.out hb⟩)
     go_simp
     refine hK _ ?_
     clear hK K)
  refine wpInv_nil ?_
  intro w' hw'
  have hb := hbel.trans (((HC.out _).1 hw').mono hbel.size)
  go_wp2
  go_ret
  exact ⟨rfl, hb⟩
end Go.Proofs.YtankngomgjlfkaaGreatDoor.SealG

namespace Go.Proofs.YtankngomgjlfkaaGreatDoor
open Go.RowKit Go.MapKept
open SealG flt
attribute [local go_sem] gives givesH
set_option maxRecDepth 100000

def Whl (a b : Nat) (m : Nat) : Prop := ∃ x y : Int, Rep a x ∧ Rep b y ∧ x.natAbs ≤ m ∧ y.natAbs ≤ m
theorem Whl.mono {a b m m' : Nat} (h : Whl a b m) (hm : m ≤ m') : Whl a b m' := by
  obtain ⟨x, y, h1, h2, h3, h4⟩ := h
  exact ⟨x, y, h1, h2, by omega, by omega⟩
theorem whl_zero : Whl 0 0 0 := ⟨0, 0, rep_zero, rep_zero, by decide, by decide⟩
theorem rep_byte (c : Nat) (hc : c < 256) : Rep (floatOfInt .f64 (c : Int)) (c : Int) := rep_int _ (by omega)
theorem tjoin1_any (a b m : Nat) (h : Whl a b m) (hm : m ≤ 1000000000) (c : Nat) (hc : c < 256) : ∃ a' b', Whl a' b' (m + 256) ∧ ∀ w : World,
    Calls Tryz.prog 100 #[.complex .f64 a b, .complex .f64 (floatOfInt .f64 (c : Int)) 0, .int .i64 1] w fun e w' => e = .returned (.complex .f64 a' b') ∧ w = w' := by
  obtain ⟨x, y, h1, h2, h3, h4⟩ := h
  have hj := turnJoin_any a b (floatOfInt .f64 (c : Int)) 0 1 h1.fin h2.fin (rep_byte c hc).fin rep_zero.fin
  refine ⟨_, _, ?_, hj⟩
  have hn := rep_neg h2
  have r1 := fadd_rep hn (rep_byte c hc) (by omega)
  have r2 := fadd_rep h1 rep_zero (by omega)
  have r3 := fadd_rep r1 rep_zero (by omega)
  have r4 := fadd_rep r2 rep_zero (by omega)
  exact ⟨_, _, r3, r4, by omega, by omega⟩
theorem troll_any (a b m : Nat) (h : Whl a b m) (hm : m ≤ 1000000000) (o c : Nat) (ho : o < 256) (hc : c < 256) : ∃ a' b', Whl a' b' (m + 512) ∧ ∀ w : World,
    Calls Tryz.prog 228 #[.complex .f64 a b, .int .i64 8, .int .u8 o, .int .u8 c] w fun e w' => e = .returned (.complex .f64 a' b') ∧ w = w' := by
  obtain ⟨x, y, h1, h2, h3, h4⟩ := h
  have hn := rep_neg h2
  have ro := rep_byte o ho
  have rc := rep_byte c hc
  have r1 := fadd_rep hn rc (by omega)
  have r2 := fadd_rep h1 rep_zero (by omega)
  have s1 := fsub_rep r1 ro (by omega)
  have s2 := fsub_rep r2 rep_zero (by omega)
  have t1 := fadd_rep s1 rep_zero (by omega)
  have t2 := fadd_rep s2 rep_zero (by omega)
  refine ⟨_, _, ⟨_, _, t1, t2, by omega, by omega⟩, fun w => ?_⟩
  clear t1 t2
  have hadd := fun w => cadd_run hn.fin.num h1.fin.num rc.fin rep_zero.fin 202 w
  have hsub := fun w => csub_run r1.fin.num r2.fin.num ro.fin rep_zero.fin 202 w
  have hmany := many_any (floatOfInt .f64 (o : Int)) 0 8
  have e8 : manyF (((8 : Int) % 4).toNat) (floatOfInt .f64 (o : Int), 0) = (floatOfInt .f64 (o : Int), 0) := rfl
  rw [e8] at hmany
  have hpl := plain_any _ _ s1.fin.num s2.fin.num
  have HM := Lib.hid hmany
  have HP := Lib.hid hpl
  clear hmany hpl e8 r1 r2 s1 s2 hn ro rc h1 h2
  go_enter Tryz.func228, Tryz.ntmps228
  go_wp2_with (first
    | (go_at_call 165; refine (turned_any _ _ _).mono ?_; rintro e w' ⟨rfl, rfl⟩)
    | (go_at_call 167; refine (HM.out _).mono ?_; rintro e w' ⟨rfl, rfl⟩)
    | (go_at_call 166; refine (HP.out _).mono ?_; rintro e w' ⟨rfl, rfl⟩))
  go_ret
  exact ⟨rfl, rfl⟩
theorem rep_p50 : Rep 4832362400168542208 1125899906842624 := by
  have h := rep_int 1125899906842624 (by decide)
  have e : floatOfInt .f64 1125899906842624 = 4832362400168542208 := by decide +kernel
  rwa [e] at h
theorem rep_m50 : Rep 14055734437023318016 (-1125899906842624) := by
  have h := rep_int (-1125899906842624) (by decide)
  have e : floatOfInt .f64 (-1125899906842624) = 14055734437023318016 := by decide +kernel
  rwa [e] at h
theorem tcell_any (a b m : Nat) (h : Whl a b m) (hm : m ≤ 1000000000) (w : World) :
    Calls Tryz.prog 176 #[.complex .f64 a b, .int .i64 16] w fun e w' => (∃ k : Int, e = .returned (.int .i64 k)) ∧ w = w' := by
  obtain ⟨x, y, h1, h2, h3, h4⟩ := h
  have e64 : FloatKind.f64.format = Ieee.double := rfl
  have o1 : (Ieee.double.order a 14055734437023318016 == some .gt) = true := by
    rw [order_rep h1 rep_m50, show compare x (-1125899906842624) = .gt from by rw [Int.compare_eq_gt]; omega]; rfl
  have o2 : (Ieee.double.order a 4832362400168542208 == some .lt) = true := by
    rw [order_rep h1 rep_p50, show compare x 1125899906842624 = .lt from by rw [Int.compare_eq_lt]; omega]; rfl
  have o3 : (Ieee.double.order b 14055734437023318016 == some .gt) = true := by
    rw [order_rep h2 rep_m50, show compare y (-1125899906842624) = .gt from by rw [Int.compare_eq_gt]; omega]; rfl
  have o4 : (Ieee.double.order b 4832362400168542208 == some .lt) = true := by
    rw [order_rep h2 rep_p50, show compare y 1125899906842624 = .lt from by rw [Int.compare_eq_lt]; omega]; rfl
  have c1 := fun w => run_convert_float_int (P := Tryz.prog) w 268 3 .f64 .i64 a _ (by kernel_rfl) (by kernel_rfl) (toInt_rep h1 (by omega))
  have c2 := fun w => run_convert_float_int (P := Tryz.prog) w 268 3 .f64 .i64 b _ (by kernel_rfl) (by kernel_rfl) (toInt_rep h2 (by omega))
  have w1 : IntKind.i64.wrap (3 * y) = 3 * y := wrapI (by omega) (by omega)
  have w2 : IntKind.i64.wrap (x + 3 * y) = x + 3 * y := wrapI (by omega) (by omega)
  clear h1 h2
  obtain ⟨k, hk⟩ : ∃ k, (x + 3 * y).tmod 16 = k := ⟨_, rfl⟩
  by_cases hneg : k < 0
  · have g1 : decide (k < 0) = true := by simpa using hneg
    go_enter Tryz.func176, Tryz.ntmps176
    go_wp2
    go_ret
    exact ⟨⟨_, rfl⟩, rfl⟩
  · have g1 : decide (k < 0) = false := by simpa using hneg
    go_enter Tryz.func176, Tryz.ntmps176
    go_wp2
    go_ret
    exact ⟨⟨_, rfl⟩, rfl⟩
end Go.Proofs.YtankngomgjlfkaaGreatDoor

namespace Go.Proofs.YtankngomgjlfkaaGreatDoor
open Go.RowKit Go.MapKept
open SealG flt
attribute [local go_sem] gives givesH
set_option maxRecDepth 100000

def jumpsTo (J : Nat → Act → World → Prop) (Q : Exit → Act → World → Prop) : Exit → Act → World → Prop
  | .goto l, a, w => J l a w
  | e, a, w => Q e a w
theorem jumpsTo_ret {J : Nat → Act → World → Prop} {Q : Exit → Act → World → Prop} {a : Act} {w : World} : jumpsTo J Q .ret a w = Q .ret a w := rfl
theorem wp_scope_labels {P : Program} {a : Act} {w : World} {Q : Exit → Act → World → Prop} {c : Code} (J : Nat → Act → World → Prop) (μ : Nat → Act → World → Nat)
    (first : c.wp P (jumpsTo J Q) a w)
    (pass : ∀ l a w, J l a w → ∃ rest, findLabel c l = some rest ∧ rest.wp P (jumpsTo (fun l' a' w' => J l' a' w' ∧ μ l' a' w' < μ l a w) Q) a w) : (Code.scope c).wp P Q a w := by
  intro b k cs
  have key : ∀ n l a w, μ l a w = n → J l a w → ∃ e a' w' rest, findLabel c l = some rest ∧ Q e a' w' ∧ Arrives P (lone (b.at a (.code rest :: .inScope c :: k)) cs w) b k cs e a' w' := by
    intro n
    induction n using Nat.strongRecOn with
    | _ n ih =>
      intro l a w hn hJ
      obtain ⟨rest, hf, hp⟩ := pass l a w hJ
      obtain ⟨e, a₁, w₁, hq, harr⟩ := hp b (.inScope c :: k) cs
      cases e with
      | normal => exact ⟨.normal, a₁, w₁, rest, hf, hq, Steps.trans harr (.one step_inScope)⟩
      | exit id => exact ⟨.exit id, a₁, w₁, rest, hf, hq, fun k' hk => harr k' (by simp [exitTo, hk])⟩
      | goto l' =>
        obtain ⟨hJ', hlt⟩ := hq
        obtain ⟨e₂, a₂, w₂, rest', hf', hq₂, harr₂⟩ := ih _ (by omega) l' a₁ w₁ rfl hJ'
        have hg : gotoIn l' (.inScope c :: k) = some (.code rest' :: .inScope c :: k) := by simp [gotoIn, hf']
        exact ⟨e₂, a₂, w₂, rest, hf, hq₂, .of_steps (harr _ hg) harr₂⟩
      | ret => exact ⟨_, a₁, w₁, rest, hf, hq, harr⟩
      | panic ch => exact ⟨_, a₁, w₁, rest, hf, hq, harr⟩
      | outgrown => exact ⟨_, a₁, w₁, rest, hf, hq, harr⟩
  obtain ⟨e, a₁, w₁, hq, harr⟩ := first b (.inScope c :: k) cs
  cases e with
  | normal => exact ⟨.normal, a₁, w₁, hq, .head step_scope (Steps.trans harr (.one step_inScope))⟩
  | exit id => exact ⟨.exit id, a₁, w₁, hq, fun k' hk => .head step_scope (harr k' (by simp [exitTo, hk]))⟩
  | goto l' =>
    obtain ⟨e₂, a₂, w₂, rest', hf', hq₂, harr₂⟩ := key _ l' a₁ w₁ rfl hq
    have hg : gotoIn l' (.inScope c :: k) = some (.code rest' :: .inScope c :: k) := by simp [gotoIn, hf']
    exact ⟨e₂, a₂, w₂, hq₂, .of_steps (.head step_scope (harr _ hg)) harr₂⟩
  | ret => exact ⟨_, a₁, w₁, hq, .of_steps (.one step_scope) harr⟩
  | panic ch => exact ⟨_, a₁, w₁, hq, .of_steps (.one step_scope) harr⟩
  | outgrown => exact ⟨_, a₁, w₁, hq, .of_steps (.one step_scope) harr⟩

theorem run_store_complex {P : Program} {w : World} {a : Addr} {m : Mode} (k : FloatKind) (x y : Nat) : (store a (.complex k x y) m).run P w = stored P w a (.complex k x y) m := run_store P w a _ m rfl
attribute [local go_sem] run_store_complex
structure CutAt (w : World) (B cb : Nat) (l : List UInt8) : Prop where
  ex : ∃ v a b, w.heap[cb]? = some (.cells #[v, .complex .f64 a b] 282 (0, 0)) ∧ w.ownsRow B 5 1 v l.length (Lib.byteCells l) ∧ Whl a b (512 * l.length) ∧ B ≤ cb
def cutTurns (B cb : Nat) (w : World) (k : Nat) : Prop := B ≤ k ∧ (k = cb ∨ ∃ c fz, w.heap[k]? = some (.cells c 5 fz))
theorem CutAt.fresh {w : World} {B cb : Nat} (h : w.heap[cb]? = some (.cells #[.slice none 0 0, .complex .f64 0 0] 282 (0, 0)) ∧ B ≤ cb) : CutAt w B cb [] := ⟨_, _, _, h.1, World.ownsRow_nil _ _ _ _, whl_zero, h.2⟩
theorem cutNew_any (w : World) : Calls Tryz.prog 111 #[] w fun e w' => e = .returned (.pointer (some ⟨w.heap.size, 0, none⟩)) ∧ CutAt w' w.heap.size w.heap.size [] ∧ Below w.heap.size w w' ∧ w'.heap.size = w.heap.size + 1 := by
  go_enter Tryz.func111, Tryz.ntmps111
  go_wp2
  go_ret
  exact ⟨rfl, ⟨_, _, _, heap_alloc_new w _, World.ownsRow_nil _ _ _ _, whl_zero, Nat.le_refl _⟩, (Below.refl _ _).alloc (Nat.le_refl _) _, by simp⟩
set_option maxHeartbeats 2000000 in
theorem cutEnd_any {w : World} {B cb : Nat} {l : List UInt8} (h : CutAt w B cb l) :
    Calls Tryz.prog 113 #[.pointer (some ⟨cb, 0, none⟩)] w fun e w' => e = .returned (.string ⟨l.toArray⟩) ∧ (w'.heap[cb]? = some (.cells #[.slice none 0 0, .complex .f64 0 0] 282 (0, 0)) ∧ B ≤ cb) ∧ Keep (fun k => k = cb) w w' := by
  obtain ⟨v, a, b, h1, h2, h3, h4⟩ := h.ex
  have c0 : w.cell? ⟨cb, 0, none⟩ = some v := Lib.cell_of_heap h1 0
  have c1 : w.cell? ⟨cb, 1, none⟩ = some (.complex .f64 a b) := Lib.cell_of_heap h1 1
  have f0 : w.frozen? ⟨cb, 0, none⟩ = false := by simp [World.frozen?, h1]
  have f1 : w.frozen? ⟨cb, 1, none⟩ = false := by simp [World.frozen?, h1]
  have l1 : (convert 116 9 v).run Tryz.prog w = .ok (.string ⟨l.toArray⟩) w := by
    have hz : (⟨l.toArray⟩ : ByteArray).size = l.length := by show l.toArray.size = _; simp
    rcases h2.2 with ⟨e1, e2⟩ | ⟨g, cap, cur, e1, _⟩
    · have hl : l = [] := List.length_eq_zero_iff.1 e2
      subst hl
      rw [e1]
      exact run_convert_bytes_nil (P := Tryz.prog) (w := w) 116 5 Tryz.underlying116 Tryz.underlying5 0 0 9 Tryz.underlying9
    · have hby : Lib.Bytes w g 0 ⟨l.toArray⟩ := by
        intro i hi
        rw [hz] at hi
        rw [e1] at h2
        have := row_cells h2 i (.int .u8 (l[i].toNat : Int)) (by simp [Lib.byteCells, hi])
        rw [Nat.zero_add]
        exact this
      have := Lib.run_convert_whole (P := Tryz.prog) w 116 5 9 Tryz.underlying116 Tryz.underlying5 Tryz.underlying9 g 0 _ hby cap
      rw [hz] at this
      rw [e1]
      exact this
  have H1 := Lib.hid h1
  have H2 := Lib.hid h2
  obtain ⟨va, vc, hv⟩ := slice_formB h2
  subst hv
  clear h h1 h2 h3
  go_enter Tryz.func113, Tryz.ntmps113
  go_wp2
  go_ret
  have k1 := heap_setCell_same w cb 0 _ _ (.slice none 0 0) H1.out
  have k2 := heap_setCell_same _ cb 1 _ _ (.complex .f64 0 0) k1
  exact ⟨rfl, ⟨k2, h4⟩, ((Keep.refl (fun k => k = cb) w).setCell (p := ⟨cb, 0, none⟩) (fun _ => rfl) _).setCell (p := ⟨cb, 1, none⟩) (fun _ => rfl) _⟩
theorem infoU8' : (Tryz.prog.info? 5).map (fun i => (i.zero, i.size, i.bytes)) = some (some (.int .u8 0), 1, 1) := by kernel_rfl
set_option maxHeartbeats 4000000 in
theorem cutRoll_any {w : World} {B cb : Nat} {l : List UInt8} (h : CutAt w B cb l) (hB : B ≤ w.heap.size) (hl : l.length < 128) (c : UInt8) :
    Calls Tryz.prog 175 #[.pointer (some ⟨cb, 0, none⟩), .int .u8 (c.toNat : Int)] w fun e w' => e = .returned (.tuple #[]) ∧ CutAt w' B cb (l ++ [c]) ∧ Keep (cutTurns B cb w) w w' := by
  obtain ⟨v, a, b, h1, h2, h3, h4⟩ := h.ex
  have c0 : w.cell? ⟨cb, 0, none⟩ = some v := Lib.cell_of_heap h1 0
  have c1 : w.cell? ⟨cb, 1, none⟩ = some (.complex .f64 a b) := Lib.cell_of_heap h1 1
  have f0 : w.frozen? ⟨cb, 0, none⟩ = false := by simp [World.frozen?, h1]
  have f1 : w.frozen? ⟨cb, 1, none⟩ = false := by simp [World.frozen?, h1]
  have hc := c.toNat_lt
  obtain ⟨i0, hi, hz0, hz1, hz2⟩ := info_parts infoU8'
  have HI := Lib.hid hi
  have Hz0 := Lib.hid hz0
  have Hz1 := Lib.hid hz1
  have Hz2 := Lib.hid hz2
  have H1 := Lib.hid h1
  have H2 := Lib.hid h2
  have HS0 := Lib.hid (byteCells_snoc l c)
  obtain ⟨n, hn⟩ : ∃ n, l.length = n := ⟨_, rfl⟩
  obtain ⟨cn, hcn⟩ : ∃ cn, c.toNat = cn := ⟨_, rfl⟩
  rw [hcn] at hc HS0 ⊢
  rw [hn] at H2 h3 hl
  have HN := Lib.hid hn
  obtain ⟨va, vc, hv⟩ := slice_formB H2.out
  subst hv
  have HLt := Lib.hid (show cb < w.heap.size from (Array.getElem?_eq_some_iff.1 h1).1)
  clear h h1 h2 hi hz0 hz1 hz2 hn hcn
  have HNe := Lib.hid (show ∀ k, (Value.slice va n vc).ownBlock = some k → k ≠ cb from fun k e e2 => by
    obtain ⟨c, fz, hc⟩ := row_formE H2.out k e
    rw [e2, H1.out] at hc
    cases hc)
  have HNe3 := Lib.hid (show ∀ (w3 : World) {v : Value} {m : Nat} {xs : List Value} {cs : Array Value} (k : Nat), w3.ownsRow B 5 1 v m xs → w3.heap[cb]? = some (.cells cs 282 (0, 0)) → v.ownBlock = some k → k ≠ cb from fun w3 v m xs cs k hr hc e e2 => by
    obtain ⟨c, fz, hc2⟩ := row_formE hr k e
    rw [e2, hc] at hc2
    cases hc2)
  by_cases h8 : n < 8
  · obtain ⟨a', b', hw', hj⟩ := tjoin1_any a b _ h3 (by omega) cn (by omega)
    have g1 : decide ((n : Int) < 8) = true := by simp; omega
    have g1' : decide (n < 8) = true := by simpa using h8
    have HJ := Lib.hid hj
    have HW' := Lib.hid (hw'.mono (show 512 * n + 256 ≤ 512 * n + 512 by omega))
    have HHc := Lib.hid H1.out
    have HKw := Lib.hid (Keep.refl (fun k => k = cb) w)
    clear hj hw' h3
    have k1 := heap_setCell_same w cb 1 _ _ (.complex .f64 a' b') HHc.out
    have hkp : Keep (fun k => k = cb) w (w.setCell ⟨cb, 1, none⟩ (.complex .f64 a' b')) := HKw.out.setCell (p := ⟨cb, 1, none⟩) (fun _ => rfl) _
    have hrj : (w.setCell ⟨cb, 1, none⟩ (.complex .f64 a' b')).ownsRow B 5 1 (.slice va n vc) n (Lib.byteCells l) := hkp.ownsRow H2.out (fun k e e2 => HNe.out k e e2)
    obtain ⟨wj, hwj⟩ : ∃ wj, w.setCell ⟨cb, 1, none⟩ (.complex .f64 a' b') = wj := ⟨_, rfl⟩
    rw [hwj] at k1 hkp hrj
    have HJr := Lib.hid hrj
    have HJk := Lib.hid hkp
    have HJc := Lib.hid k1
    have cj0 : wj.cell? ⟨cb, 0, none⟩ = some (.slice va n vc) := Lib.cell_of_heap k1 0
    clear k1 hkp hrj
    go_enter Tryz.func175, Tryz.ntmps175
    go_wp2_with (first
    | (go_at_call 100; refine (HJ.out _).mono ?_; rintro e w3 ⟨rfl, rfl⟩)
    | (at_builtin
       refine wpList_append_own_at _ (by rfl) _ _ 116 (by rfl) B 5 i0 (.int .u8 0) 1 1 Tryz.underlying116 HI.out Hz0.out Hz1.out Hz2.out (by rfl) (by decide) (.slice va n vc) _ _ (by rfl) (HJr.out.alloc _) ⟨wj.heap.size, 0, none⟩ 1 1 [.int .u8 cn] (by rfl) (by rfl) (cell_one_new _ _ _) (by simp [Value.oneCell']) (by unfold maxLen; omega) (by omega) ?_ ?_
       · have := HJk.out.size; simp; omega
       intro v' w3 hown3 hg3 hnil hloc
       have HO3 := Lib.hid hown3
       have hc3 : w3.heap[cb]? = some (.cells #[.slice va n vc, .complex .f64 a' b'] 282 (0, 0)) := by
         rw [hg3.block cb (by have := HLt.out; have := HJk.out.size; simp; omega) (fun e => HNe.out cb e.symm rfl)]
         exact (((Below.refl wj.heap.size wj).alloc (Nat.le_refl _) _).block cb (by have := HLt.out; have := HJk.out.size; omega)).trans HJc.out
       have HC3 := Lib.hid hc3
       have HK3 := Lib.hid (show Keep (cutTurns B cb w) w w3 from (HJk.out.mono (fun i _ e => ⟨by rw [show i = cb from e]; exact h4, .inl e⟩)).trans (((Keep.refl (fun k => (Value.slice va n vc).ownBlock = some k) wj).alloc _).grown hg3 (fun k _ e => e)) (fun i _ e => ⟨(H2.out.lt i e).1, .inr (row_formE H2.out i e)⟩))
       have c3 : w3.cell? ⟨cb, 0, none⟩ = some (.slice va n vc) := Lib.cell_of_heap hc3 0
       have f3 : w3.frozen? ⟨cb, 0, none⟩ = false := by simp [World.frozen?, hc3]
       obtain ⟨p3, q3, hv3⟩ := slice_formB hown3
       subst hv3
       clear hown3 hg3 hnil hloc hc3))
    go_end0
    have k4 := heap_setCell_same w3 cb 0 _ _ (.slice p3 (n + 1) q3) HC3.out
    refine ⟨rfl, ⟨_, _, _, k4, ?_, by rw [List.length_append, HN.out]; exact HW'.out.mono (by simp; omega), h4⟩, HK3.out.setCell (p := ⟨cb, 0, none⟩) (fun _ => ⟨h4, .inl rfl⟩) _⟩
    have hr4 := ((Keep.refl (fun k => k = cb) w3).setCell (p := ⟨cb, 0, none⟩) (fun _ => rfl) (.slice p3 (n + 1) q3)).ownsRow HO3.out (fun k e e2 => HNe3.out w3 k HO3.out HC3.out e e2)
    rw [HS0.out, List.length_append, HN.out]
    exact hr4
  · obtain ⟨g, cap, rfl, hc1, hc2, hgB⟩ : ∃ g, ∃ cap : Nat, va = some ⟨g, 0, none⟩ ∧ n ≤ vc ∧ vc ≤ maxLen ∧ B ≤ g := by
      obtain ⟨g, c', e1, e2, e3, e4⟩ := row_posB H2.out (by omega)
      cases e1
      exact ⟨g, 0, rfl, e2, e3, e4⟩
    have hm : n - 8 < l.length := by rw [HN.out]; omega
    obtain ⟨o, ho⟩ : ∃ o, (l[n - 8]'hm).toNat = o := ⟨_, rfl⟩
    have ho2 : o < 256 := by rw [← ho]; exact UInt8.toNat_lt _
    have q0 : w.cell? ⟨g, n - 8, none⟩ = some (.int .u8 o) := row_cells H2.out (n - 8) _ (by rw [← ho]; simp [Lib.byteCells, hm])
    have HQ0 := Lib.hid q0
    have HGl := Lib.hid (show g < w.heap.size from (H2.out.lt g rfl).2)
    obtain ⟨a', b', hw', hj⟩ := troll_any a b _ h3 (by omega) o cn ho2 (by omega)
    have g1 : decide ((n : Int) < 8) = false := by simp; omega
    have g1' : decide (n < 8) = false := by simpa using h8
    have hn8 : (n : Int) - 8 = ((n - 8 : Nat) : Int) := by omega
    have hn8t : ((n : Int) - 8).toNat = n - 8 := by omega
    have hn80 : (0 : Int) ≤ (n : Int) - 8 := by omega
    have hn81 : (n : Int) - 8 < (n : Int) := by omega
    have hn128 : (n : Int) < 128 := by omega
    have hn88 : (8 : Int) ≤ (n : Int) := by omega
    have hwn : IntKind.i64.wrap ((n : Int) - 8) = (n : Int) - 8 := wrapI (by omega) (by omega)
    have HJ := Lib.hid hj
    have HW' := Lib.hid hw'
    have HHc := Lib.hid (show w.drew.heap[cb]? = _ from H1.out)
    have HKw := Lib.hid (show Keep (fun k => k = cb) w w.drew from (Keep.refl _ _).drew)
    clear hj hw' h3 ho q0 hn8
    go_enter Tryz.func175, Tryz.ntmps175
    go_wp2
    obtain ⟨S, hS⟩ : ∃ S : World → Prop, ∀ u, S u ↔ Keep (fun _ => False) (w) u := ⟨fun u => Keep (fun _ => False) (w) u, fun _ => Iff.rfl⟩
    have HS := Lib.hid hS
    clear hS
    refine wp_region_ord 15 [(0, true), (1, true), (2, true), (3, true), (4, true), (5, true), (6, true), (7, true), (8, true), (9, true), (10, true), (11, true), (12, true), (13, true), (14, false)] S (by kernel_rfl) (by kernel_rfl) ((HS.out _).2 (Keep.refl _ _).drew) ?_
    iterate 14
      first
        | (refine wpH_passed rfl (by rfl) (fun K hK => ?_); go_simp; refine hK _ ?_; clear hK K)
        | (first
             | refine wpH_read rfl rfl (fun K hK => ?_)
             | refine wpH_readw rfl (by rfl) (fun K hK => ?_)
           apply Exists.intro
           refine ⟨fun u hu => ?_, ?_⟩
           · have hu := (HS.out u).1 hu
             have c0 : u.cell? ⟨cb, 0, none⟩ = some (.slice (some ⟨g, 0, none⟩) n vc) := by rw [hu.cell (p := ⟨cb, 0, none⟩) HLt.out (fun e => e)]; exact Lib.cell_of_heap H1.out 0
             have c1 : u.cell? ⟨cb, 1, none⟩ = some (.complex .f64 a b) := by rw [hu.cell (p := ⟨cb, 1, none⟩) HLt.out (fun e => e)]; exact Lib.cell_of_heap H1.out 1
             have q0 : u.cell? ⟨g, n - 8, none⟩ = some (.int .u8 o) := by rw [hu.cell (p := ⟨g, n - 8, none⟩) HGl.out (fun e => e)]; exact HQ0.out
             clear hu
             go_simp
             exact ⟨rfl, rfl⟩
           go_simp
           refine hK _ ?_
           clear hK K)
    first | refine wpH_do rfl rfl (fun K hK => ?_) | refine wpH_dow rfl (by rfl) (fun K hK => ?_)
    go_simp
    go_at_call 228
    refine (HJ.out _).mono ?_
    rintro e w4 ⟨rfl, rfl⟩
    refine hK _ _ ((HS.out _).2 (Keep.refl _ _).drew) ?_
    clear hK K
    refine wpH_nil ?_
    simp only [List.drop_succ_cons, List.drop_zero]
    clear S HS
    have cd1 : w.drew.cell? ⟨cb, 1, none⟩ = some (.complex .f64 a b) := Lib.cell_of_heap HHc.out 1
    have cd0 : w.drew.frozen? ⟨cb, 1, none⟩ = false := f1
    generalize w.drew = WW at *
    have k1 := heap_setCell_same WW cb 1 _ _ (.complex .f64 a' b') HHc.out
    have hkp : Keep (fun k => k = cb) w (WW.setCell ⟨cb, 1, none⟩ (.complex .f64 a' b')) := HKw.out.setCell (p := ⟨cb, 1, none⟩) (fun _ => rfl) _
    have hrj : (WW.setCell ⟨cb, 1, none⟩ (.complex .f64 a' b')).ownsRow B 5 1 (.slice (some ⟨g, 0, none⟩) n vc) n (Lib.byteCells l) := hkp.ownsRow H2.out (fun k e e2 => HNe.out k e e2)
    obtain ⟨wj, hwj⟩ : ∃ wj, WW.setCell ⟨cb, 1, none⟩ (.complex .f64 a' b') = wj := ⟨_, rfl⟩
    rw [hwj] at k1 hkp hrj
    have HJr := Lib.hid hrj
    have HJk := Lib.hid hkp
    have HJc := Lib.hid k1
    have cj0 : wj.cell? ⟨cb, 0, none⟩ = some (.slice (some ⟨g, 0, none⟩) n vc) := Lib.cell_of_heap k1 0
    clear k1 hkp hrj
    go_wp2_with (first
    | (at_builtin
       refine wpList_append_own_at _ (by rfl) _ _ 116 (by rfl) B 5 i0 (.int .u8 0) 1 1 Tryz.underlying116 HI.out Hz0.out Hz1.out Hz2.out (by rfl) (by decide) (.slice (some ⟨g, 0, none⟩) n vc) _ _ (by rfl) (HJr.out.alloc _) ⟨wj.heap.size, 0, none⟩ 1 1 [.int .u8 cn] (by rfl) (by rfl) (cell_one_new _ _ _) (by simp [Value.oneCell']) (by unfold maxLen; omega) (by omega) ?_ ?_
       · have := HJk.out.size; simp; omega
       intro v' w3 hown3 hg3 hnil hloc
       have HO3 := Lib.hid hown3
       have hc3 : w3.heap[cb]? = some (.cells #[.slice (some ⟨g, 0, none⟩) n vc, .complex .f64 a' b'] 282 (0, 0)) := by
         rw [hg3.block cb (by have := HLt.out; have := HJk.out.size; simp; omega) (fun e => HNe.out cb e.symm rfl)]
         exact (((Below.refl wj.heap.size wj).alloc (Nat.le_refl _) _).block cb (by have := HLt.out; have := HJk.out.size; omega)).trans HJc.out
       have HC3 := Lib.hid hc3
       have HK3 := Lib.hid (show Keep (cutTurns B cb w) w w3 from (HJk.out.mono (fun i _ e => ⟨by rw [show i = cb from e]; exact h4, .inl e⟩)).trans (((Keep.refl (fun k => (Value.slice (some ⟨g, 0, none⟩) n vc).ownBlock = some k) wj).alloc _).grown hg3 (fun k _ e => e)) (fun i _ e => ⟨(H2.out.lt i e).1, .inr (row_formE H2.out i e)⟩))
       have c3 : w3.cell? ⟨cb, 0, none⟩ = some (.slice (some ⟨g, 0, none⟩) n vc) := Lib.cell_of_heap hc3 0
       have f3 : w3.frozen? ⟨cb, 0, none⟩ = false := by simp [World.frozen?, hc3]
       obtain ⟨p3, q3, hv3⟩ := slice_formB hown3
       subst hv3
       clear hown3 hg3 hnil hloc hc3))
    go_end0
    have k4 := heap_setCell_same w3 cb 0 _ _ (.slice p3 (n + 1) q3) HC3.out
    refine ⟨rfl, ⟨_, _, _, k4, ?_, by rw [List.length_append, HN.out]; exact HW'.out.mono (by simp; omega), h4⟩, HK3.out.setCell (p := ⟨cb, 0, none⟩) (fun _ => ⟨h4, .inl rfl⟩) _⟩
    have hr4 := ((Keep.refl (fun k => k = cb) w3).setCell (p := ⟨cb, 0, none⟩) (fun _ => rfl) (.slice p3 (n + 1) q3)).ownsRow HO3.out (fun k e e2 => HNe3.out w3 k HO3.out HC3.out e e2)
    rw [HS0.out, List.length_append, HN.out]
    exact hr4
end Go.Proofs.YtankngomgjlfkaaGreatDoor

namespace Go.Proofs.YtankngomgjlfkaaGreatDoor
open Go.RowKit Go.MapKept
open SealG flt
attribute [local go_sem] gives givesH
set_option maxRecDepth 100000

def txtV (l : List ByteArray) : List Value := l.map Value.string
theorem infoStr' : (Tryz.prog.info? 9).map (fun i => (i.zero, i.size, i.bytes)) = some (some (.string ⟨#[]⟩), 1, 16) := by kernel_rfl
structure FeedRel (w : World) (B cb : Nat) (s : ByteArray) (wr : World) (v : Value) (k lo hi : Nat) (ls : List ByteArray) (o : List UInt8) : Prop where
  row : wr.ownsRow B 9 1 v ls.length (txtV ls)
  cut : CutAt wr B cb o
  cat : ls.flatMap (fun x => x.data.toList) ++ o = s.data.toList.take k
  part : ∀ x ∈ ls, 16 ≤ x.size ∧ x.size ≤ 128
  lo : lo ≤ o.length
  hi : o.length ≤ hi
  below : Below B w wr
theorem FeedRel.few {w : World} {B cb : Nat} {s : ByteArray} {wr : World} {v : Value} {k lo hi : Nat} {ls : List ByteArray} {o : List UInt8} (h : FeedRel w B cb s wr v k lo hi ls o) (hk : k ≤ s.size) : 16 * ls.length + o.length ≤ s.size := by
  have h1 := congrArg List.length h.cat
  rw [List.length_append, List.length_take] at h1
  have h7 : s.data.toList.length = s.size := by rw [Array.length_toList]; rfl
  have h2 : ∀ l : List ByteArray, (∀ x ∈ l, 16 ≤ x.size ∧ x.size ≤ 128) → 16 * l.length ≤ (l.flatMap (fun x => x.data.toList)).length := by
    intro l
    induction l with
    | nil => intro _; exact Nat.le_refl _
    | cons x t ih =>
      intro hx
      have h3 := ih (fun y hy => hx y (List.mem_cons_of_mem _ hy))
      have h4 := (hx x (by simp)).1
      have h8 : x.data.toList.length = x.size := by rw [Array.length_toList]; rfl
      rw [List.flatMap_cons, List.length_append, List.length_cons, h8]
      omega
  have h3 := h2 ls h.part
  omega
theorem strRow_keep {w w' : World} {B cb n : Nat} {v : Value} {xs : List Value} {cs : Array Value} (h : w.ownsRow B 9 1 v n xs) (hc : w.heap[cb]? = some (.cells cs 282 (0, 0))) (hk : Keep (cutTurns B cb w) w w') : w'.ownsRow B 9 1 v n xs :=
  hk.ownsRow h (fun k e e2 => by
    obtain ⟨c, fz, h1⟩ := row_formE h k e
    rcases e2.2 with e3 | ⟨c2, fz2, h2⟩
    · rw [e3, hc] at h1; cases h1
    · rw [h2] at h1; cases h1)
theorem CutAt.cell {w : World} {B cb : Nat} {l : List UInt8} (h : CutAt w B cb l) : ∃ cs, w.heap[cb]? = some (.cells cs 282 (0, 0)) := by
  obtain ⟨v, a, b, h1, _⟩ := h.ex
  exact ⟨_, h1⟩
def FeedOut (w : World) (B cb : Nat) (s : ByteArray) (e : Ending) (w' : World) : Prop := ∃ v ls o, e = .returned v ∧ FeedRel w B cb s w' v s.size 0 127 ls o
def feedJ (w : World) (B cb : Nat) (s : ByteArray) (l : Nat) (a : Act) (wr : World) : Prop :=
  ∃ (k : Nat) (v : Value) (ls : List ByteArray) (o : List UInt8) (u2 u3 u4 u7 u8 u9 u10 u11 u12 u13 u14 u15 u16 u17 u18 u19 u20 u21 u22 u23 u24 u25 u26 u27 u28 u29 u30 u31 u32 u33 u34 u35 u36 u37 u38 u39 u40 u41 u42 u43 u44 u45 : Value), k ≤ s.size ∧ a = { tmps := #[.pointer (some ⟨cb, 0, none⟩), .string s, u2, u3, u4, v, .int .i64 (k : Nat), u7, u8, u9, u10, u11, u12, u13, u14, u15, u16, u17, u18, u19, u20, u21, u22, u23, u24, u25, u26, u27, u28, u29, u30, u31, u32, u33, u34, u35, u36, u37, u38, u39, u40, u41, u42, u43, u44, u45], defers := [] } ∧
    ((l = 0 ∧ FeedRel w B cb s wr v k 0 127 ls o) ∨ (l = 1 ∧ FeedRel w B cb s wr v k 16 128 ls o))
def feedM (n : Nat) (l : Nat) (a : Act) (_ : World) : Nat := 2 * (n - (intOf (a.tmps.getD 6 undef)).toNat) + 1 + l
set_option maxHeartbeats 8000000 in
theorem feed_any {w : World} {B cb : Nat} {s : ByteArray} (h : CutAt w B cb []) (hB : B ≤ w.heap.size) (hs : s.size ≤ 100000) :
    Calls Tryz.prog 112 #[.pointer (some ⟨cb, 0, none⟩), .string s] w (FeedOut w B cb s) := by
  have H := Lib.hid h
  have HB := Lib.hid hB
  clear h hB
  obtain ⟨i0, hi0, hz0, hz1, hz2⟩ := info_parts infoStr'
  have HI := Lib.hid hi0
  have Hz0 := Lib.hid hz0
  have Hz1 := Lib.hid hz1
  have Hz2 := Lib.hid hz2
  clear hi0 hz0 hz1 hz2
  go_enter Tryz.func112, Tryz.ntmps112
  go_wp2
  refine wp_scope_labels (feedJ w B cb s) (feedM s.size) ?_ ?_
  · have hrel : FeedRel w B cb s w (.slice none 0 0) 0 0 127 ([] : List ByteArray) ([] : List UInt8) := ⟨World.ownsRow_nil _ _ _ _, H.out, by simp, fun x hx => (by cases hx), by simp, by simp, Below.refl _ _⟩
    go_wp2
    apply wp_label
    by_cases hlt : 0 < s.size
    · have HR := Lib.hid hrel
      have hB1 : B ≤ w.heap.size := Nat.le_trans HB.out hrel.below.size
      have HRo := Lib.hid (cutRoll_any hrel.cut hB1 (by have := hrel.hi; omega) s[0])
      obtain ⟨cs, hcs⟩ := hrel.cut.cell
      have HCs := Lib.hid hcs
      have g1 : ((0 : Int) == (s.size : Int)) = false := by simp; omega
      have g2 : (0 : Int) < (s.size : Int) := by omega
      have hsz : (s.size : Int) ≤ 100000 := by omega
      have hcat : ([] : List ByteArray).flatMap (fun x => x.data.toList) ++ (([] : List UInt8) ++ [s[0]]) = s.data.toList.take (0 + 1) := by
        rw [← List.append_assoc, hrel.cat, List.take_add_one]
        congr 1
        rw [Array.getElem?_toList]
        exact (congrArg Option.toList (Array.getElem?_eq_getElem hlt)).symm
      have HCat := Lib.hid hcat
      clear hcs hcat hrel
      obtain ⟨c, hc⟩ : ∃ c, s[0] = c := ⟨_, rfl⟩
      rw [hc] at HRo HCat
      have hx := byteN_get s 0 hlt
      rw [hc] at hx
      rw [hx] at HRo
      go_wp2_with (first
      | (go_at_call 175; refine (HRo.out).mono ?_; rintro e w3 ⟨rfl, hc3, hk3⟩
         have HR1 := Lib.hid (show FeedRel w B cb s w3 (.slice none 0 0) (0 + 1) 1 128 ([] : List ByteArray) (([] : List UInt8) ++ [c]) from ⟨strRow_keep HR.out.row HCs.out hk3, hc3, HCat.out, HR.out.part, by rw [List.length_append]; simp, by rw [List.length_append]; have := HR.out.hi; simp <;> omega, HR.out.below.trans (hk3.below hB1 (fun i hi e => by have := e.1; omega))⟩)
         obtain ⟨v3, za, zb, q1, q2, q3, q4⟩ := hc3.ex
         obtain ⟨va, vc, hv3⟩ := slice_formB q2
         subst hv3
         obtain ⟨m, hm⟩ : ∃ m, (([] : List UInt8) ++ [c]).length = m := ⟨_, rfl⟩
         rw [hm] at q1
         have c0 : w3.cell? ⟨cb, 0, none⟩ = some (.slice va m vc) := Lib.cell_of_heap q1 0
         have c1 : w3.cell? ⟨cb, 1, none⟩ = some (.complex .f64 za zb) := Lib.cell_of_heap q1 1
         have HM := Lib.hid hm
         have hm128 : m ≤ 128 := by rw [← hm]; exact HR1.out.hi
         have HCe := Lib.hid (fun u => tcell_any za zb _ q3 (by rw [hm]; omega) u)
         clear hc3 hk3 q1 q2 q3 q4 hm
         have hm3 : (((m : Int) == 128) = false ∧ decide ((m : Int) < 16) = true) ∨ (((m : Int) == 128) = true ∧ m = 128) ∨ (((m : Int) == 128) = false ∧ decide ((m : Int) < 16) = false ∧ 16 ≤ m) := by
           rcases Nat.lt_or_ge m 16 with hm1 | hm1
           · exact .inl ⟨by simp; omega, by simp; omega⟩
           · by_cases hm2 : m = 128
             · exact .inr (.inl ⟨by simp; omega, hm2⟩)
             · exact .inr (.inr ⟨by simp; omega, by simp; omega, hm1⟩)
         rcases hm3 with ⟨f1, f2⟩ | ⟨f1, hm2⟩ | ⟨f1, f2, hm1⟩)
      | (go_at_call 176; refine (HCe.out _).mono ?_; rintro e w4 ⟨⟨kk, rfl⟩, rfl⟩
         by_cases hkk : kk = 0))
      · have hrel9 : FeedRel w B cb s w3 (.slice none 0 0) (0 + 1) 0 127 ([] : List ByteArray) (([] : List UInt8) ++ [c]) := ⟨HR1.out.row, HR1.out.cut, HR1.out.cat, HR1.out.part, by simp, by rw [HM.out]; have := of_decide_eq_true f2; omega, HR1.out.below⟩
        apply wp_goto
        show feedJ w B cb s 0 _ _
        exact ⟨0 + 1, _, ([] : List ByteArray), ([] : List UInt8) ++ [c], _, _, _, _, _, _, _, _, _, _, _, _, _, _, _, _, _, _, _, _, _, _, _, _, _, _, _, _, _, _, _, _, _, _, _, _, _, _, _, _, _, _, by omega, rfl, .inl ⟨rfl, hrel9⟩⟩
      · have hrel9 : FeedRel w B cb s w3 (.slice none 0 0) (0 + 1) 16 128 ([] : List ByteArray) (([] : List UInt8) ++ [c]) := ⟨HR1.out.row, HR1.out.cut, HR1.out.cat, HR1.out.part, by rw [HM.out]; omega, HR1.out.hi, HR1.out.below⟩
        apply wp_goto
        show feedJ w B cb s 1 _ _
        exact ⟨0 + 1, _, ([] : List ByteArray), ([] : List UInt8) ++ [c], _, _, _, _, _, _, _, _, _, _, _, _, _, _, _, _, _, _, _, _, _, _, _, _, _, _, _, _, _, _, _, _, _, _, _, _, _, _, _, _, _, _, by omega, rfl, .inr ⟨rfl, hrel9⟩⟩
      · have hrel9 : FeedRel w B cb s w3 (.slice none 0 0) (0 + 1) 16 128 ([] : List ByteArray) (([] : List UInt8) ++ [c]) := ⟨HR1.out.row, HR1.out.cut, HR1.out.cat, HR1.out.part, by rw [HM.out]; omega, HR1.out.hi, HR1.out.below⟩
        clear HR1
        have HR1 := Lib.hid hrel9
        clear hrel9
        apply wp_label
        have HEn := Lib.hid (cutEnd_any HR1.out.cut)
        have HN1 := Lib.hid (show 16 ≤ (([] : List UInt8) ++ [c]).length ∧ (([] : List UInt8) ++ [c]).length ≤ 128 from ⟨HR1.out.lo, HR1.out.hi⟩)
        have HF1 := Lib.hid (HR1.out.few (by omega))
        go_wp2_with (first
          | (go_at_call 113; refine (HEn.out).mono ?_; rintro e w5 ⟨rfl, hc5, hk5⟩
             have HC5 := Lib.hid hc5
             have HK5 := Lib.hid hk5
             have hne5 : ∀ q, (Value.slice none 0 0).ownBlock = some q → q ≠ cb := fun q e e2 => by
               obtain ⟨c, fz, h1⟩ := row_formE HR1.out.row q e
               obtain ⟨cs, h2⟩ := HR1.out.cut.cell
               rw [e2, h2] at h1; cases h1
             have HNe5 := Lib.hid hne5
             have HRow5 := Lib.hid (hk5.ownsRow HR1.out.row (fun q e e2 => hne5 q e e2))
             have HB5 := Lib.hid (show Below B w w5 from HR1.out.below.trans (hk5.below (Nat.le_trans HB.out HR1.out.below.size) (fun i hi e => by have := hc5.2; omega)))
             clear hc5 hk5 hne5)
          | (at_builtin
             refine wpList_append_own_at _ (by rfl) _ _ 40 (by rfl) B 9 i0 (.string ⟨#[]⟩) 1 16 Tryz.underlying40 HI.out Hz0.out Hz1.out Hz2.out (by rfl) (by decide) (.slice none 0 0) _ _ (by rfl) (HRow5.out.alloc _) ⟨w5.heap.size, 0, none⟩ 1 1 [.string ⟨(([] : List UInt8) ++ [c]).toArray⟩] (by rfl) (by rfl) (cell_one_new _ _ _) (by simp [Value.oneCell']) (by have := HF1.out; unfold maxLen; omega) (by have := HF1.out; omega) ?_ ?_
             · have h1 := HB5.out.size; have h2 := HB.out; simp; omega
             intro v8 w8 hown8 hg8 hnil8 hloc8
             have HO8 := Lib.hid hown8
             have HK8 := Lib.hid (((Keep.refl (fun q => (Value.slice none 0 0).ownBlock = some q) w5).alloc (.cells #[.string ⟨(([] : List UInt8) ++ [c]).toArray⟩] 9)).grown hg8 (fun q _ e => e))
             clear hown8 hg8 hnil8 hloc8))
        have hb8 : Below B w w8 := HB5.out.trans (HK8.out.below (Nat.le_trans HB.out HB5.out.size) (fun i hi e => by have := (HRow5.out.lt i e).1; omega))
        have hc8 : CutAt w8 B cb [] := CutAt.fresh ⟨HK8.out.at HC5.out.1 (fun e => HNe5.out _ e rfl), HC5.out.2⟩
        have hr8 : w8.ownsRow B 9 1 v8 (([] : List ByteArray) ++ [(⟨(([] : List UInt8) ++ [c]).toArray⟩ : ByteArray)]).length (txtV (([] : List ByteArray) ++ [(⟨(([] : List UInt8) ++ [c]).toArray⟩ : ByteArray)])) := by
          have := HO8.out
          unfold txtV
          rw [List.length_append, List.map_append]
          exact this
        have hrel8 : FeedRel w B cb s w8 v8 (0 + 1) 0 127 (([] : List ByteArray) ++ [(⟨(([] : List UInt8) ++ [c]).toArray⟩ : ByteArray)]) [] := by
          refine ⟨hr8, hc8, ?_, fun x hx => ?_, by simp, by simp, hb8⟩
          · rw [List.append_nil, List.flatMap_append, ← HR1.out.cat]
            simp
          · rcases List.mem_append.1 hx with e | e
            · exact HR1.out.part x e
            · rw [List.mem_singleton.1 e]
              have h1 := HN1.out
              have h2 : (⟨(([] : List UInt8) ++ [c]).toArray⟩ : ByteArray).size = (([] : List UInt8) ++ [c]).length := by show (([] : List UInt8) ++ [c]).toArray.size = _; exact List.size_toArray
              omega
        go_wp2
        apply wp_goto
        show feedJ w B cb s 0 _ _
        exact ⟨0 + 1, v8, ([] : List ByteArray) ++ [(⟨(([] : List UInt8) ++ [c]).toArray⟩ : ByteArray)], [], _, _, _, _, _, _, _, _, _, _, _, _, _, _, _, _, _, _, _, _, _, _, _, _, _, _, _, _, _, _, _, _, _, _, _, _, _, _, _, _, _, _, by omega, rfl, .inl ⟨rfl, hrel8⟩⟩
      · have hrel9 : FeedRel w B cb s w3 (.slice none 0 0) (0 + 1) 0 127 ([] : List ByteArray) (([] : List UInt8) ++ [c]) := ⟨HR1.out.row, HR1.out.cut, HR1.out.cat, HR1.out.part, by simp, by rw [HM.out]; have : m ≠ 128 := (fun e => by rw [e] at f1; simp at f1); omega, HR1.out.below⟩
        apply wp_goto
        show feedJ w B cb s 0 _ _
        exact ⟨0 + 1, _, ([] : List ByteArray), ([] : List UInt8) ++ [c], _, _, _, _, _, _, _, _, _, _, _, _, _, _, _, _, _, _, _, _, _, _, _, _, _, _, _, _, _, _, _, _, _, _, _, _, _, _, _, _, _, _, by omega, rfl, .inl ⟨rfl, hrel9⟩⟩
    · have hkn : 0 = s.size := by omega
      have g1 : ((0 : Int) == (s.size : Int)) = true := by simp; omega
      go_wp2
      rw [jumpsTo_ret]
      go_ret
      exact ⟨_, ([] : List ByteArray), ([] : List UInt8), rfl, by rw [← hkn]; exact hrel⟩
  · intro l a wr hJ
    obtain ⟨k, v, ls, o, u2, u3, u4, u7, u8, u9, u10, u11, u12, u13, u14, u15, u16, u17, u18, u19, u20, u21, u22, u23, u24, u25, u26, u27, u28, u29, u30, u31, u32, u33, u34, u35, u36, u37, u38, u39, u40, u41, u42, u43, u44, u45, hk, rfl, hrel⟩ := hJ
    rcases hrel with ⟨rfl, hrel⟩ | ⟨rfl, hrel⟩
    · refine ⟨_, rfl, ?_⟩
      obtain ⟨sa, sc, rfl⟩ := slice_formB hrel.row
      by_cases hlt : k < s.size
      · have HR := Lib.hid hrel
        have hB1 : B ≤ wr.heap.size := Nat.le_trans HB.out hrel.below.size
        have HRo := Lib.hid (cutRoll_any hrel.cut hB1 (by have := hrel.hi; omega) s[k])
        obtain ⟨cs, hcs⟩ := hrel.cut.cell
        have HCs := Lib.hid hcs
        have g1 : (((k : Nat) : Int) == (s.size : Int)) = false := by simp; omega
        have g2 : ((k : Nat) : Int) < (s.size : Int) := by omega
        have hsz : (s.size : Int) ≤ 100000 := by omega
        have hcat : ls.flatMap (fun x => x.data.toList) ++ (o ++ [s[k]]) = s.data.toList.take (k + 1) := by
          rw [← List.append_assoc, hrel.cat, List.take_add_one]
          congr 1
          rw [Array.getElem?_toList]
          exact (congrArg Option.toList (Array.getElem?_eq_getElem hlt)).symm
        have HCat := Lib.hid hcat
        clear hcs hcat hrel
        obtain ⟨c, hc⟩ : ∃ c, s[k] = c := ⟨_, rfl⟩
        rw [hc] at HRo HCat
        have hx := byteN_get s k hlt
        rw [hc] at hx
        rw [hx] at HRo
        go_wp2_with (first
        | (go_at_call 175; refine (HRo.out).mono ?_; rintro e w3 ⟨rfl, hc3, hk3⟩
           have HR1 := Lib.hid (show FeedRel w B cb s w3 (.slice sa ls.length sc) (k + 1) 1 128 ls (o ++ [c]) from ⟨strRow_keep HR.out.row HCs.out hk3, hc3, HCat.out, HR.out.part, by rw [List.length_append]; simp, by rw [List.length_append]; have := HR.out.hi; simp <;> omega, HR.out.below.trans (hk3.below hB1 (fun i hi e => by have := e.1; omega))⟩)
           obtain ⟨v3, za, zb, q1, q2, q3, q4⟩ := hc3.ex
           obtain ⟨va, vc, hv3⟩ := slice_formB q2
           subst hv3
           obtain ⟨m, hm⟩ : ∃ m, (o ++ [c]).length = m := ⟨_, rfl⟩
           rw [hm] at q1
           have c0 : w3.cell? ⟨cb, 0, none⟩ = some (.slice va m vc) := Lib.cell_of_heap q1 0
           have c1 : w3.cell? ⟨cb, 1, none⟩ = some (.complex .f64 za zb) := Lib.cell_of_heap q1 1
           have HM := Lib.hid hm
           have hm128 : m ≤ 128 := by rw [← hm]; exact HR1.out.hi
           have HCe := Lib.hid (fun u => tcell_any za zb _ q3 (by rw [hm]; omega) u)
           clear hc3 hk3 q1 q2 q3 q4 hm
           have hm3 : (((m : Int) == 128) = false ∧ decide ((m : Int) < 16) = true) ∨ (((m : Int) == 128) = true ∧ m = 128) ∨ (((m : Int) == 128) = false ∧ decide ((m : Int) < 16) = false ∧ 16 ≤ m) := by
             rcases Nat.lt_or_ge m 16 with hm1 | hm1
             · exact .inl ⟨by simp; omega, by simp; omega⟩
             · by_cases hm2 : m = 128
               · exact .inr (.inl ⟨by simp; omega, hm2⟩)
               · exact .inr (.inr ⟨by simp; omega, by simp; omega, hm1⟩)
           rcases hm3 with ⟨f1, f2⟩ | ⟨f1, hm2⟩ | ⟨f1, f2, hm1⟩)
        | (go_at_call 176; refine (HCe.out _).mono ?_; rintro e w4 ⟨⟨kk, rfl⟩, rfl⟩
           by_cases hkk : kk = 0))
        · have hrel9 : FeedRel w B cb s w3 (.slice sa ls.length sc) (k + 1) 0 127 ls (o ++ [c]) := ⟨HR1.out.row, HR1.out.cut, HR1.out.cat, HR1.out.part, by simp, by rw [HM.out]; have := of_decide_eq_true f2; omega, HR1.out.below⟩
          apply wp_goto
          show feedJ w B cb s 0 _ _ ∧ feedM s.size 0 _ _ < feedM s.size _ _ _
          exact ⟨⟨k + 1, _, ls, o ++ [c], _, _, _, _, _, _, _, _, _, _, _, _, _, _, _, _, _, _, _, _, _, _, _, _, _, _, _, _, _, _, _, _, _, _, _, _, _, _, _, _, _, _, by omega, rfl, .inl ⟨rfl, hrel9⟩⟩, by unfold feedM; simp [intOf] <;> omega⟩
        · have hrel9 : FeedRel w B cb s w3 (.slice sa ls.length sc) (k + 1) 16 128 ls (o ++ [c]) := ⟨HR1.out.row, HR1.out.cut, HR1.out.cat, HR1.out.part, by rw [HM.out]; omega, HR1.out.hi, HR1.out.below⟩
          apply wp_goto
          show feedJ w B cb s 1 _ _ ∧ feedM s.size 1 _ _ < feedM s.size _ _ _
          exact ⟨⟨k + 1, _, ls, o ++ [c], _, _, _, _, _, _, _, _, _, _, _, _, _, _, _, _, _, _, _, _, _, _, _, _, _, _, _, _, _, _, _, _, _, _, _, _, _, _, _, _, _, _, by omega, rfl, .inr ⟨rfl, hrel9⟩⟩, by unfold feedM; simp [intOf] <;> omega⟩
        · have hrel9 : FeedRel w B cb s w3 (.slice sa ls.length sc) (k + 1) 16 128 ls (o ++ [c]) := ⟨HR1.out.row, HR1.out.cut, HR1.out.cat, HR1.out.part, by rw [HM.out]; omega, HR1.out.hi, HR1.out.below⟩
          clear HR1
          have HR1 := Lib.hid hrel9
          clear hrel9
          apply wp_label
          have HEn := Lib.hid (cutEnd_any HR1.out.cut)
          have HN1 := Lib.hid (show 16 ≤ (o ++ [c]).length ∧ (o ++ [c]).length ≤ 128 from ⟨HR1.out.lo, HR1.out.hi⟩)
          have HF1 := Lib.hid (HR1.out.few (by omega))
          go_wp2_with (first
            | (go_at_call 113; refine (HEn.out).mono ?_; rintro e w5 ⟨rfl, hc5, hk5⟩
               have HC5 := Lib.hid hc5
               have HK5 := Lib.hid hk5
               have hne5 : ∀ q, (Value.slice sa ls.length sc).ownBlock = some q → q ≠ cb := fun q e e2 => by
                 obtain ⟨c, fz, h1⟩ := row_formE HR1.out.row q e
                 obtain ⟨cs, h2⟩ := HR1.out.cut.cell
                 rw [e2, h2] at h1; cases h1
               have HNe5 := Lib.hid hne5
               have HRow5 := Lib.hid (hk5.ownsRow HR1.out.row (fun q e e2 => hne5 q e e2))
               have HB5 := Lib.hid (show Below B w w5 from HR1.out.below.trans (hk5.below (Nat.le_trans HB.out HR1.out.below.size) (fun i hi e => by have := hc5.2; omega)))
               clear hc5 hk5 hne5)
            | (at_builtin
               refine wpList_append_own_at _ (by rfl) _ _ 40 (by rfl) B 9 i0 (.string ⟨#[]⟩) 1 16 Tryz.underlying40 HI.out Hz0.out Hz1.out Hz2.out (by rfl) (by decide) (.slice sa ls.length sc) _ _ (by rfl) (HRow5.out.alloc _) ⟨w5.heap.size, 0, none⟩ 1 1 [.string ⟨(o ++ [c]).toArray⟩] (by rfl) (by rfl) (cell_one_new _ _ _) (by simp [Value.oneCell']) (by have := HF1.out; unfold maxLen; omega) (by have := HF1.out; omega) ?_ ?_
               · have h1 := HB5.out.size; have h2 := HB.out; simp; omega
               intro v8 w8 hown8 hg8 hnil8 hloc8
               have HO8 := Lib.hid hown8
               have HK8 := Lib.hid (((Keep.refl (fun q => (Value.slice sa ls.length sc).ownBlock = some q) w5).alloc (.cells #[.string ⟨(o ++ [c]).toArray⟩] 9)).grown hg8 (fun q _ e => e))
               clear hown8 hg8 hnil8 hloc8))
          have hb8 : Below B w w8 := HB5.out.trans (HK8.out.below (Nat.le_trans HB.out HB5.out.size) (fun i hi e => by have := (HRow5.out.lt i e).1; omega))
          have hc8 : CutAt w8 B cb [] := CutAt.fresh ⟨HK8.out.at HC5.out.1 (fun e => HNe5.out _ e rfl), HC5.out.2⟩
          have hr8 : w8.ownsRow B 9 1 v8 (ls ++ [(⟨(o ++ [c]).toArray⟩ : ByteArray)]).length (txtV (ls ++ [(⟨(o ++ [c]).toArray⟩ : ByteArray)])) := by
            have := HO8.out
            unfold txtV
            rw [List.length_append, List.map_append]
            exact this
          have hrel8 : FeedRel w B cb s w8 v8 (k + 1) 0 127 (ls ++ [(⟨(o ++ [c]).toArray⟩ : ByteArray)]) [] := by
            refine ⟨hr8, hc8, ?_, fun x hx => ?_, by simp, by simp, hb8⟩
            · rw [List.append_nil, List.flatMap_append, ← HR1.out.cat]
              simp
            · rcases List.mem_append.1 hx with e | e
              · exact HR1.out.part x e
              · rw [List.mem_singleton.1 e]
                have h1 := HN1.out
                have h2 : (⟨(o ++ [c]).toArray⟩ : ByteArray).size = (o ++ [c]).length := by show (o ++ [c]).toArray.size = _; exact List.size_toArray
                omega
          go_wp2
          apply wp_goto
          show feedJ w B cb s 0 _ _ ∧ feedM s.size 0 _ _ < feedM s.size _ _ _
          exact ⟨⟨k + 1, v8, ls ++ [(⟨(o ++ [c]).toArray⟩ : ByteArray)], [], _, _, _, _, _, _, _, _, _, _, _, _, _, _, _, _, _, _, _, _, _, _, _, _, _, _, _, _, _, _, _, _, _, _, _, _, _, _, _, _, _, _, by omega, rfl, .inl ⟨rfl, hrel8⟩⟩, by unfold feedM; simp [intOf] <;> omega⟩
        · have hrel9 : FeedRel w B cb s w3 (.slice sa ls.length sc) (k + 1) 0 127 ls (o ++ [c]) := ⟨HR1.out.row, HR1.out.cut, HR1.out.cat, HR1.out.part, by simp, by rw [HM.out]; have : m ≠ 128 := (fun e => by rw [e] at f1; simp at f1); omega, HR1.out.below⟩
          apply wp_goto
          show feedJ w B cb s 0 _ _ ∧ feedM s.size 0 _ _ < feedM s.size _ _ _
          exact ⟨⟨k + 1, _, ls, o ++ [c], _, _, _, _, _, _, _, _, _, _, _, _, _, _, _, _, _, _, _, _, _, _, _, _, _, _, _, _, _, _, _, _, _, _, _, _, _, _, _, _, _, _, by omega, rfl, .inl ⟨rfl, hrel9⟩⟩, by unfold feedM; simp [intOf] <;> omega⟩
      · have hkn : k = s.size := by omega
        have g1 : (((k : Nat) : Int) == (s.size : Int)) = true := by simp; omega
        go_wp2
        rw [jumpsTo_ret]
        go_ret
        exact ⟨_, ls, o, rfl, by rw [← hkn]; exact hrel⟩
    · refine ⟨_, rfl, ?_⟩
      obtain ⟨sa, sc, rfl⟩ := slice_formB hrel.row
      have HR1 := Lib.hid hrel
      clear hrel
      have HEn := Lib.hid (cutEnd_any HR1.out.cut)
      have HN1 := Lib.hid (show 16 ≤ (o).length ∧ (o).length ≤ 128 from ⟨HR1.out.lo, HR1.out.hi⟩)
      have HF1 := Lib.hid (HR1.out.few (by omega))
      go_wp2_with (first
        | (go_at_call 113; refine (HEn.out).mono ?_; rintro e w5 ⟨rfl, hc5, hk5⟩
           have HC5 := Lib.hid hc5
           have HK5 := Lib.hid hk5
           have hne5 : ∀ q, (Value.slice sa ls.length sc).ownBlock = some q → q ≠ cb := fun q e e2 => by
             obtain ⟨c, fz, h1⟩ := row_formE HR1.out.row q e
             obtain ⟨cs, h2⟩ := HR1.out.cut.cell
             rw [e2, h2] at h1; cases h1
           have HNe5 := Lib.hid hne5
           have HRow5 := Lib.hid (hk5.ownsRow HR1.out.row (fun q e e2 => hne5 q e e2))
           have HB5 := Lib.hid (show Below B w w5 from HR1.out.below.trans (hk5.below (Nat.le_trans HB.out HR1.out.below.size) (fun i hi e => by have := hc5.2; omega)))
           clear hc5 hk5 hne5)
        | (at_builtin
           refine wpList_append_own_at _ (by rfl) _ _ 40 (by rfl) B 9 i0 (.string ⟨#[]⟩) 1 16 Tryz.underlying40 HI.out Hz0.out Hz1.out Hz2.out (by rfl) (by decide) (.slice sa ls.length sc) _ _ (by rfl) (HRow5.out.alloc _) ⟨w5.heap.size, 0, none⟩ 1 1 [.string ⟨(o).toArray⟩] (by rfl) (by rfl) (cell_one_new _ _ _) (by simp [Value.oneCell']) (by have := HF1.out; unfold maxLen; omega) (by have := HF1.out; omega) ?_ ?_
           · have h1 := HB5.out.size; have h2 := HB.out; simp; omega
           intro v8 w8 hown8 hg8 hnil8 hloc8
           have HO8 := Lib.hid hown8
           have HK8 := Lib.hid (((Keep.refl (fun q => (Value.slice sa ls.length sc).ownBlock = some q) w5).alloc (.cells #[.string ⟨(o).toArray⟩] 9)).grown hg8 (fun q _ e => e))
           clear hown8 hg8 hnil8 hloc8))
      have hb8 : Below B w w8 := HB5.out.trans (HK8.out.below (Nat.le_trans HB.out HB5.out.size) (fun i hi e => by have := (HRow5.out.lt i e).1; omega))
      have hc8 : CutAt w8 B cb [] := CutAt.fresh ⟨HK8.out.at HC5.out.1 (fun e => HNe5.out _ e rfl), HC5.out.2⟩
      have hr8 : w8.ownsRow B 9 1 v8 (ls ++ [(⟨(o).toArray⟩ : ByteArray)]).length (txtV (ls ++ [(⟨(o).toArray⟩ : ByteArray)])) := by
        have := HO8.out
        unfold txtV
        rw [List.length_append, List.map_append]
        exact this
      have hrel8 : FeedRel w B cb s w8 v8 (k) 0 127 (ls ++ [(⟨(o).toArray⟩ : ByteArray)]) [] := by
        refine ⟨hr8, hc8, ?_, fun x hx => ?_, by simp, by simp, hb8⟩
        · rw [List.append_nil, List.flatMap_append, ← HR1.out.cat]
          simp
        · rcases List.mem_append.1 hx with e | e
          · exact HR1.out.part x e
          · rw [List.mem_singleton.1 e]
            have h1 := HN1.out
            have h2 : (⟨(o).toArray⟩ : ByteArray).size = (o).length := by show (o).toArray.size = _; exact List.size_toArray
            omega
      go_wp2
      apply wp_goto
      show feedJ w B cb s 0 _ _ ∧ feedM s.size 0 _ _ < feedM s.size _ _ _
      exact ⟨⟨k, v8, ls ++ [(⟨(o).toArray⟩ : ByteArray)], [], _, _, _, _, _, _, _, _, _, _, _, _, _, _, _, _, _, _, _, _, _, _, _, _, _, _, _, _, _, _, _, _, _, _, _, _, _, _, _, _, _, _, by omega, rfl, .inl ⟨rfl, hrel8⟩⟩, by unfold feedM; simp [intOf] <;> omega⟩
end Go.Proofs.YtankngomgjlfkaaGreatDoor

namespace Go.Proofs.YtankngomgjlfkaaGreatDoor
open Go.RowKit Go.MapKept
open SealG flt
attribute [local go_sem] gives givesH
set_option maxRecDepth 100000

structure PartsOf (s : ByteArray) (ls : List ByteArray) : Prop where
  cat : ls.flatMap (fun x => x.data.toList) = s.data.toList
  part : ∀ x ∈ ls, 1 ≤ x.size ∧ x.size ≤ 128
  few : 16 * ls.length ≤ s.size + 15
set_option maxHeartbeats 4000000 in
theorem cut_parts (s : ByteArray) (hs : s.size ≤ 100000) (w : World) :
    Calls Tryz.prog 43 #[.string s] w fun e w' => ∃ v ls, e = .returned v ∧ w'.ownsRow w.heap.size 9 1 v ls.length (txtV ls) ∧ PartsOf s ls ∧ Below w.heap.size w w' := by
  have HN := Lib.hid (cutNew_any w)
  have HF := Lib.hid (fun (u : World) (hc : CutAt u w.heap.size w.heap.size []) (hb : w.heap.size ≤ u.heap.size) => feed_any hc hb hs)
  obtain ⟨i0, hi0, hz0, hz1, hz2⟩ := info_parts infoStr'
  have HI := Lib.hid hi0
  have Hz0 := Lib.hid hz0
  have Hz1 := Lib.hid hz1
  have Hz2 := Lib.hid hz2
  clear hi0 hz0 hz1 hz2
  go_enter Tryz.func43, Tryz.ntmps43
  go_wp2_with (first
    | (go_at_call 111; refine (HN.out).mono ?_; rintro e w1 ⟨rfl, hc1, hb1, hz1⟩
       have HB1 := Lib.hid hb1
       have HFe := Lib.hid (HF.out w1 hc1 hb1.size)
       clear hc1 hb1 hz1)
    | (go_at_call 112; refine (HFe.out).mono ?_; rintro e w2 ⟨v, ls, o, rfl, hrel⟩
       obtain ⟨sa, sc, hv⟩ := slice_formB hrel.row
       subst hv
       have HR := Lib.hid hrel
       have hen := cutEnd_any hrel.cut
       obtain ⟨x, hx⟩ : ∃ x : ByteArray, (⟨o.toArray⟩ : ByteArray) = x := ⟨_, rfl⟩
       rw [hx] at hen
       have HEn := Lib.hid hen
       have HX := Lib.hid hx
       have hxl : x.toList = o := by rw [← hx, Lib.toList_data]
       have hcase : (x.toList.isEmpty = true ∧ o = []) ∨ (x.toList.isEmpty = false ∧ ¬ (x.toList = []) ∧ o ≠ []) := by
         rw [hxl]
         cases o with
         | nil => exact .inl ⟨rfl, rfl⟩
         | cons c t => exact .inr ⟨rfl, by simp, by simp⟩
       clear hrel hen hx hxl
       rcases hcase with ⟨x1, ho⟩ | ⟨x1, x2, ho⟩)
    | (go_at_call 113; refine (HEn.out).mono ?_; rintro e w3 ⟨rfl, hc3, hk3⟩
       have hne5 : ∀ q, (Value.slice sa ls.length sc).ownBlock = some q → q ≠ w.heap.size := fun q e e2 => by
         obtain ⟨c, fz, h1⟩ := row_formE HR.out.row q e
         obtain ⟨cs, h2⟩ := HR.out.cut.cell
         rw [e2, h2] at h1; cases h1
       have HRow := Lib.hid (hk3.ownsRow HR.out.row (fun q e e2 => hne5 q e e2))
       have HB3 := Lib.hid (show Below w.heap.size w w3 from HB1.out.trans (HR.out.below.trans (hk3.below (Nat.le_trans HB1.out.size HR.out.below.size) (fun i hi e => by omega))))
       clear hc3 hk3 hne5)
    | (at_builtin
       refine wpList_append_own_at _ (by rfl) _ _ 40 (by rfl) w.heap.size 9 i0 (.string ⟨#[]⟩) 1 16 Tryz.underlying40 HI.out Hz0.out Hz1.out Hz2.out (by rfl) (by decide) (.slice sa ls.length sc) _ _ (by rfl) (HRow.out.alloc _) ⟨w3.heap.size, 0, none⟩ 1 1 [.string x] (by rfl) (by rfl) (cell_one_new _ _ _) (by simp [Value.oneCell']) (by have := HR.out.few (Nat.le_refl _); unfold maxLen; omega) (by have := HR.out.few (Nat.le_refl _); omega) ?_ ?_
       · have h1 := HB3.out.size; simp; omega
       intro v8 w8 hown8 hg8 hnil8 hloc8
       have HO8 := Lib.hid hown8
       have HK8 := Lib.hid (((Keep.refl (fun q => (Value.slice sa ls.length sc).ownBlock = some q) w3).alloc (.cells #[.string x] 9)).grown hg8 (fun q _ e => e))
       clear hown8 hg8 hnil8 hloc8))
  · go_ret
    have hc := HR.out.cat
    rw [ho, List.append_nil, List.take_of_length_le (by rw [Array.length_toList]; exact Nat.le_refl _)] at hc
    exact ⟨_, ls, rfl, HRow.out, ⟨hc, fun y hy => by have := HR.out.part y hy; omega, by have := HR.out.few (Nat.le_refl _); omega⟩, HB3.out⟩
  · go_ret
    have hc := HR.out.cat
    rw [List.take_of_length_le (by rw [Array.length_toList]; exact Nat.le_refl _)] at hc
    have hxs : x.size = o.length := by rw [← HX.out]; show o.toArray.size = _; exact List.size_toArray
    have hol : 1 ≤ o.length := by cases o with
      | nil => exact absurd rfl ho
      | cons c t => simp
    refine ⟨_, ls ++ [x], rfl, ?_, ⟨?_, fun y hy => ?_, ?_⟩, HB3.out.trans (HK8.out.below HB3.out.size (fun i hi e => by have := (HRow.out.lt i e).1; omega))⟩
    · have := HO8.out
      unfold txtV
      rw [List.length_append, List.map_append]
      exact this
    · rw [List.flatMap_append, ← hc, ← HX.out]
      simp
    · rcases List.mem_append.1 hy with e | e
      · have := HR.out.part y e; omega
      · rw [List.mem_singleton.1 e, hxs]
        have := HR.out.hi; omega
    · have := HR.out.few (Nat.le_refl _)
      rw [List.length_append, List.length_singleton]
      omega
end Go.Proofs.YtankngomgjlfkaaGreatDoor

namespace Go.Proofs.YtankngomgjlfkaaGreatDoor
open Go.RowKit Go.MapKept
attribute [local go_sem] gives givesH
set_option maxRecDepth 100000

theorem results_box2 {P : Program} {fn : Func} {p u : Tmp} {ty : TypeId} (h : fn.results = #[.cell p ty, .tmp u]) (tmps : Array Value) (w : World) (g : Nat) (t : TypeId) (cs : Array Value) (fr : Nat × Nat) (d : TypeDesc)
    (hp : tmps.getD p undef = .pointer (some ⟨g, 0, none⟩)) (hg : w.heap[g]? = some (.cells cs t fr))
    (hu : P.underlying ty = some d) (hd : (match d with | .struct _ | .array _ _ => true | _ => false) = true) (hi : (P.info? ty).map (·.size) = some cs.size) :
    (results fn tmps).run P w = .ok (.tuple #[.agg cs, tmps.getD u undef]) w := by
  have hp' : tmps[p]?.getD undef = .pointer (some ⟨g, 0, none⟩) := by simpa using hp
  have e : (results fn tmps).run P w = ((asAddr (tmps.getD p undef)).run P w).andThen fun a w₁ => ((loadVar ty a).run P w₁).andThen fun x w₂ => .ok (.tuple #[x, tmps.getD u undef]) w₂ := by
    simp only [results, h]
    simp [Sem.run_bind, Result.andThen]
  rw [e]
  simp [hp', asAddr, run_loadVar_row w g t ty cs fr d hg hu hd hi, Result.andThen]
section
variable {w : World} {sb : Nat} {s : Sto} {D : Dict} {ni nl : Nat}
set_option maxHeartbeats 4000000 in
theorem rkeep_st (h : StAt w sb s D ni nl) (hn : ni ≤ 37 ∧ nl ≤ 37) {t : ByteArray} (h1 : 1 ≤ t.size) (h2 : t.size ≤ 128) :
    Calls Tryz.prog 46 #[.pointer (some ⟨sb, 0, none⟩), .string t] w fun e w' => ∃ id s' D', e = .returned (.tuple #[.agg #[.string id, .int .i64 t.size], .int .i64 0]) ∧ id.size = 33 ∧ StAt w' sb s' D' (ni + 1) (nl + 1) ∧ StStep w s w' s' ∧ D' id = some t ∧ D.le D' := by
  have hb0 : Below w.heap.size w (w.alloc (.cells #[.string ⟨#[]⟩, .int .i64 0] 25)) := (Below.refl _ _).alloc (Nat.le_refl _) _
  have HM := Lib.hid (stMark_any (h.still hb0))
  have HP := Lib.hid (sput_st (h.still hb0) hn h1 h2)
  have HSt := Lib.hid h
  have HB0 := Lib.hid hb0
  have HE0 := Lib.hid (heap_alloc_new w (.cells #[.string ⟨#[]⟩, .int .i64 0] 25))
  have ht9 : t.size ≤ 9223372036854775807 := by omega
  clear h hb0
  go_enter Tryz.func46, Tryz.ntmps46
  go_wp2_with (first
    | (go_at_call 45; refine (HM.out).mono ?_; rintro e _ ⟨rfl, rfl⟩)
    | (go_at_call 114; refine (HP.out).mono ?_; rintro e w1 ⟨id, fresh, s1, D1, rfl, hid, hs1, hss1, hD1, hle1⟩
       have HA := Lib.hid (add_st hs1 (by omega) (by have := hs1.sized.puts; omega) (id := id) (by omega) hD1)
       have HSS1 := Lib.hid hss1
       have HS1 := Lib.hid hs1
       have HD1 := Lib.hid (show id.size = 33 ∧ D1 id = some t ∧ D.le D1 from ⟨hid, hD1, hle1⟩)
       clear hid hs1 hss1 hD1 hle1)
    | (go_at_call 115; refine (HA.out).mono ?_; rintro e w2 ⟨rfl, s2, hs2, hss2⟩
       have HS2 := Lib.hid hs2
       have hah := HSt.out.ahead
       have hnf0 : ¬ s.foot w.heap.size := fun e => by have := hah.2.2.2 _ e; omega
       have hz0 : w.heap.size < (w.alloc (.cells #[.string ⟨#[]⟩, .int .i64 0] 25)).heap.size := by simp
       have hnf1 : ¬ s1.foot w.heap.size := fun e => (HSS1.out.foot _ e).elim hnf0 (fun e2 => by omega)
       have hz1 : w.heap.size < w1.heap.size := Nat.lt_of_lt_of_le hz0 HSS1.out.keep.size
       have hnf2 : ¬ s2.foot w.heap.size := fun e => (hss2.foot _ e).elim hnf1 (fun e2 => by omega)
       have hx1 := HSS1.out.keep.at HE0.out hnf0
       have hx2 := hss2.keep.at hx1 hnf1
       have d0 : w2.cell? ⟨w.heap.size, 0, none⟩ = some (.string ⟨#[]⟩) := Lib.cell_of_heap hx2 0
       have d1 : w2.cell? ⟨w.heap.size, 1, none⟩ = some (.int .i64 0) := Lib.cell_of_heap hx2 1
       have y0 : w2.frozen? ⟨w.heap.size, 0, none⟩ = false := by simp [World.frozen?, hx2]
       have y1 : w2.frozen? ⟨w.heap.size, 1, none⟩ = false := by simp [World.frozen?, hx2]
       have HX2 := Lib.hid hx2
       have HNf2 := Lib.hid hnf2
       have HSS2 := Lib.hid ((StStep.still (s := s) HB0.out).trans (HSS1.out.trans hss2))
       clear hs2 hss2 hah hnf0 hz0 hnf1 hz1 hnf2 hx1 hx2))
  have hx3 := heap_setCell_same w2 w.heap.size 0 _ _ (.string id) HX2.out
  have hx4 := heap_setCell_same _ w.heap.size 1 _ _ (.int .i64 t.size) hx3
  have hk := ((Keep.refl (fun k => k = w.heap.size) w2).setCell (p := ⟨w.heap.size, 0, none⟩) (fun _ => rfl) (.string id)).setCell (p := ⟨w.heap.size, 1, none⟩) (fun _ => rfl) (.int .i64 t.size)
  have hah := HSt.out.ahead
  have hib := HSS2.out.ib
  have hlb := HSS2.out.lb
  refine bodyPost_ret (results_box2 rfl _ _ w.heap.size _ _ _ _ rfl hx4 Tryz.underlying25 rfl (by kernel_rfl)) rfl ?_
  exact ⟨id, s2, D1, rfl, HD1.out.1, HS2.out.aside hk (by omega) (by omega) (by omega) HNf2.out, ⟨HSS2.out.keep.trans hk (fun i hi e => by omega), HSS2.out.foot, hib, hlb⟩, HD1.out.2.1, HD1.out.2.2⟩
end
end Go.Proofs.YtankngomgjlfkaaGreatDoor

namespace Go.Proofs.YtankngomgjlfkaaGreatDoor
open Go.RowKit Go.MapKept
attribute [local go_sem] gives givesH
set_option maxRecDepth 100000

abbrev RefL := List (ByteArray × Int)
def refV (l : RefL) : List Value := l.flatMap (fun r => [Value.string r.1, Value.int .i64 r.2])
theorem refV_snoc (l : RefL) (r : ByteArray × Int) : refV (l ++ [r]) = refV l ++ [Value.string r.1, Value.int .i64 r.2] := by unfold refV; rw [List.flatMap_append]; simp
theorem infoRef : (Tryz.prog.info? 25).map (fun i => (i.zero, i.size, i.bytes)) = some (some (.agg #[.string ⟨#[]⟩, .int .i64 0]), 2, 24) := by kernel_rfl
structure Met (D : Dict) (l : RefL) (ls : List ByteArray) : Prop where
  len : l.length = ls.length
  one : ∀ (j : Nat) r p, l[j]? = some r → ls[j]? = some p → r.1.size = 33 ∧ r.2 = (p.size : Int) ∧ D r.1 = some p
theorem Met.nil (D : Dict) : Met D [] [] := ⟨rfl, fun j r p h => by simp at h⟩
theorem Met.snoc {D D' : Dict} {l : RefL} {ls : List ByteArray} (h : Met D l ls) (hle : D.le D') {id p : ByteArray} (hid : id.size = 33) (hD : D' id = some p) : Met D' (l ++ [(id, (p.size : Int))]) (ls ++ [p]) := by
  refine ⟨by rw [List.length_append, List.length_append, h.len]; rfl, fun j r q h1 h2 => ?_⟩
  by_cases hj : j < l.length
  · rw [List.getElem?_append_left hj] at h1
    rw [List.getElem?_append_left (by rw [← h.len]; exact hj)] at h2
    obtain ⟨a, b, c⟩ := h.one j r q h1 h2
    exact ⟨a, b, hle _ _ c⟩
  · rw [List.getElem?_append_right (by omega)] at h1
    rw [List.getElem?_append_right (by rw [← h.len]; omega), ← h.len] at h2
    by_cases e : j - l.length = 0
    · rw [e] at h1 h2
      simp at h1 h2
      rw [← h1, ← h2]
      exact ⟨hid, rfl, hD⟩
    · rw [List.getElem?_eq_none (by simp; omega)] at h1
      cases h1
structure Built (w2 : World) (B sb : Nat) (s : Sto) (D : Dict) (ls : List ByteArray) (wr : World) (v : Value) (k : Nat) (s' : Sto) (D' : Dict) (l : RefL) : Prop where
  st : StAt wr sb s' D' k k
  step : StStep w2 s wr s'
  le : D.le D'
  met : Met D' l (ls.take k)
  row : wr.ownsRow B 25 2 v k (refV l)
  apart : ∀ g, v.ownBlock = some g → ¬ s'.foot g ∧ w2.heap.size ≤ g
set_option maxHeartbeats 8000000 in
theorem build_st {w : World} {sb : Nat} {s : Sto} {D : Dict} (h : StAt w sb s D 0 0) (text : ByteArray) (ht : text.size ≤ 600) :
    Calls Tryz.prog 11 #[.pointer (some ⟨sb, 0, none⟩), .string text] w fun e w' => ∃ v l ls s' D' k, e = .returned (.tuple #[v, .int .i64 0]) ∧ PartsOf text ls ∧ Met D' l ls ∧ w'.ownsRow w.heap.size 25 2 v l.length (refV l) ∧ (∀ g, v.ownBlock = some g → ¬ s'.foot g) ∧ StAt w' sb s' D' k k ∧ k ≤ 38 ∧ StStep w s w' s' := by
  have HC := Lib.hid (cut_parts text (by omega) w)
  have HSt := Lib.hid h
  obtain ⟨i0, hi0, hz0, hz1, hz2⟩ := info_parts infoRef
  have HI := Lib.hid hi0
  have Hz0 := Lib.hid hz0
  have Hz1 := Lib.hid hz1
  have Hz2 := Lib.hid hz2
  clear h hi0 hz0 hz1 hz2
  go_enter Tryz.func11, Tryz.ntmps11
  go_wp2_with (go_at_call 43; refine (HC.out).mono ?_; rintro e w1 ⟨v, ls, rfl, hrow, hpt, hb1⟩
               obtain ⟨sa, sc, hv⟩ := slice_formB hrow
               subst hv
               have HRow := Lib.hid hrow
               have HPt := Lib.hid hpt
               have HB1 := Lib.hid hb1
               have HM := Lib.hid (stMark_any (HSt.out.still hb1))
               have HW := Lib.hid (waits_any (HSt.out.still hb1) (by decide))
               obtain ⟨n, hnn⟩ : ∃ n, ls.length = n := ⟨_, rfl⟩
               have hn38 : n ≤ 38 := by have := hpt.few; omega
               rw [hnn] at HRow
               have HN := Lib.hid hnn
               have g0 : decide ((4000 : Int) < (n : Int)) = false := by simp; omega
               have hcase : (((n : Int) == 0) = true ∧ n = 0) ∨ (((n : Int) == 0) = false ∧ 1 ≤ n) := by
                 by_cases e : n = 0
                 · exact .inl ⟨by simp [e], e⟩
                 · exact .inr ⟨by simp; omega, by omega⟩
               rw [hnn]
               clear hrow hpt hb1 hnn
               rcases hcase with ⟨g1, hn0⟩ | ⟨g1, hn1⟩)
  · subst hn0
    go_wp2_with (go_at_call 44; refine (HW.out).mono ?_; rintro e w2 ⟨⟨m, rfl⟩, hb2⟩)
    go_ret2
    have hls : ls = [] := List.length_eq_zero_iff.1 HN.out
    have hb : Below w.heap.size w w2 := HB1.out.trans (hb2.mono HB1.out.size)
    exact ⟨_, [], ls, s, D, 0, rfl, HPt.out, by rw [hls]; exact Met.nil D, World.ownsRow_nil _ _ _ _, fun g e => (by cases e), HSt.out.still hb, by omega, StStep.still hb⟩
  · have hst1 := HSt.out.still HB1.out
    have HS1 := Lib.hid hst1
    have HAh := Lib.hid hst1.ahead
    have HAh0 := Lib.hid HSt.out.ahead
    have HSz := Lib.hid HB1.out.size
    clear hst1
    go_wp2_with (go_at_call 45; refine (HM.out).mono ?_; rintro e _ ⟨rfl, rfl⟩)
    go_loopw [12, 14, 15, 16, 43] (fun v _ _ _ i wr => ∃ (k : Nat) (s' : Sto) (D' : Dict) (l : RefL), k ≤ n ∧ i = .int .i64 k ∧ Built w1 w.heap.size sb s D ls wr v k s' D' l) (fun _ _ _ _ i _ => n - (intOf i).toNat)
    case atStart => exact ⟨0, s, D, [], by omega, rfl, HS1.out, StStep.refl _ _, Dict.le_refl D, by rw [List.take_zero]; exact Met.nil D, World.ownsRow_nil _ _ _ _, fun g e => (by cases e)⟩
    case round =>
      obtain ⟨k, s', D', l, hk, rfl, hbt⟩ := hrel
      obtain ⟨oa, oc, hov⟩ := slice_formB hbt.row
      subst hov
      have HBt := Lib.hid hbt
      by_cases hlt : k < n
      · have g2 : decide ((k : Int) < (n : Int)) = true := by simp; omega
        have g2' : decide (k < n) = true := by simpa using hlt
        have hkl : k < ls.length := by rw [HN.out]; exact hlt
        obtain ⟨gs, cs, hs, hc1, hc2, hgB⟩ := row_posB HRow.out (by omega)
        obtain ⟨e1, e2, e3⟩ := Value.slice.inj hs
        subst e1
        have hgl := (HRow.out.lt gs rfl)
        have q1 : w1.cell? ⟨gs, k, none⟩ = some (.string ls[k]) := row_cells HRow.out k _ (by unfold txtV; rw [List.getElem?_map, List.getElem?_eq_getElem hkl]; rfl)
        have hgf : ¬ s.foot gs := fun e => by have := HAh0.out.2.2.2 _ e; omega
        have q0 : wr.cell? ⟨gs, k, none⟩ = some (.string ls[k]) := by rw [hbt.step.keep.cell (p := ⟨gs, k, none⟩) hgl.2 hgf]; exact q1
        have hp := HPt.out.part _ (List.getElem_mem hkl)
        have HK := Lib.hid (rkeep_st hbt.st (by omega) hp.1 hp.2)
        have htk : ls.take (k + 1) = ls.take k ++ [ls[k]] := List.take_succ_eq_append_getElem hkl
        obtain ⟨p, hpe⟩ : ∃ p, ls[k] = p := ⟨_, rfl⟩
        rw [hpe] at q0 HK htk
        have HTk := Lib.hid htk
        have hk0 : (k : Int) < (n : Int) := by omega
        have hnl : (n : Int) ≤ 38 := by omega
        clear hs e2 e3 q1 hgf hp htk hpe hbt
        go_wp2_with (first
          | (go_at_call 46; refine (HK.out).mono ?_; rintro e w3 ⟨id, s3, D3, rfl, hid, hs3, hss3, hD3, hle3⟩
             have HS3 := Lib.hid hs3
             have HSS3 := Lib.hid hss3
             have HD3 := Lib.hid (show id.size = 33 ∧ D3 id = some p ∧ D'.le D3 from ⟨hid, hD3, hle3⟩)
             have HRow3 := Lib.hid (hss3.keep.ownsRow HBt.out.row (fun g e => (HBt.out.apart g e).1))
             have hx4 := heap_alloc_new w3 (.cells #[.string id, .int .i64 p.size] 25)
             have d0 : (w3.alloc (.cells #[.string id, .int .i64 p.size] 25)).cell? ⟨w3.heap.size, 0, none⟩ = some (.string id) := Lib.cell_of_heap hx4 0
             have d1 : (w3.alloc (.cells #[.string id, .int .i64 p.size] 25)).cell? ⟨w3.heap.size, 1, none⟩ = some (.int .i64 p.size) := Lib.cell_of_heap hx4 1
             have hx5 := heap_alloc_new (w3.alloc (.cells #[.string id, .int .i64 p.size] 25)) (.cells #[.string id, .int .i64 p.size] 25)
             rw [World.size_alloc] at hx5
             have HX5 := Lib.hid hx5
             clear hid hs3 hss3 hD3 hle3 hx4 hx5)
          | (at_builtin
             refine wpList_append_own_at _ (by rfl) _ _ 22 (by rfl) w.heap.size 25 i0 (.agg #[.string ⟨#[]⟩, .int .i64 0]) 2 24 Tryz.underlying22 HI.out Hz0.out Hz1.out Hz2.out (by rfl) (by decide) (.slice oa k oc) _ _ (by rfl) ((HRow3.out.alloc _).alloc _) ⟨w3.heap.size + 1, 0, none⟩ 1 1 [.string id, .int .i64 p.size] (by rfl) (by rfl) (World.news_of_block (cs := #[.string id, .int .i64 p.size]) (t := 25) (fr := (0, 0)) HX5.out) (by simp [Value.oneCell']) (by unfold maxLen; omega) (by omega) ?_ ?_
             · have h1 := HBt.out.step.keep.size; have h2 := HSS3.out.keep.size; have h3 := HSz.out; simp; omega
             intro v8 w8 hown8 hg8 hnil8 hloc8
             have HO8 := Lib.hid hown8
             have HK8 := Lib.hid ((((Keep.refl (fun q => (Value.slice oa k oc).ownBlock = some q) w3).alloc (.cells #[.string id, .int .i64 p.size] 25)).alloc (.cells #[.string id, .int .i64 p.size] 25)).grown hg8 (fun q _ e => e))
             have HLoc := Lib.hid (show ∀ g, v8.ownBlock = some g → (Value.slice oa k oc).ownBlock = some g ∨ w3.heap.size ≤ g from fun g e => hloc8.imp (fun e2 => by rw [← e2]; exact e) (fun e2 => by
               rw [e2] at e
               have e3 := Option.some.inj e
               simp at e3
               omega))
             obtain ⟨p8, c8, hv8⟩ := slice_formB hown8
             subst hv8
             clear hown8 hg8 hnil8 hloc8))
        go_roundw
        case rel =>
          have hapt := HBt.out.apart
          have hk8 := HK8.out
          have hd := HD3.out
          have hz3 := HSS3.out.keep.size
          have hz1 := HBt.out.step.keep.size
          have hnf3 : ∀ g, (Value.slice oa k oc).ownBlock = some g → ¬ s3.foot g := fun g e e2 => (HSS3.out.foot g e2).elim (hapt g e).1 (fun e3 => by have := (HBt.out.row.lt g e).2; omega)
          have hlb := HBt.out.step.lb
          have hib := HBt.out.step.ib
          have hlb3 := HSS3.out.lb
          have hib3 := HSS3.out.ib
          have hah := HAh.out
          refine ⟨k + 1, s3, D3, l ++ [(id, (p.size : Int))], by omega, by go_num, HS3.out.keep hk8 (fun e => by have := (hapt _ e).2; omega) (fun e => by have := (hapt _ e).2; omega) (fun e => by have := (hapt _ e).2; omega) (fun g e e2 => hnf3 g e2 e), ?_, Dict.le_trans HBt.out.le hd.2.2, by rw [HTk.out]; exact HBt.out.met.snoc hd.2.2 hd.1 hd.2.1, by rw [refV_snoc]; exact HO8.out, fun g e => ?_⟩
          · have h1 := HBt.out.step.trans HSS3.out
            exact ⟨h1.keep.trans hk8 (fun i hi e => absurd hi (by have := (hapt _ e).2; omega)), h1.foot, h1.ib, h1.lb⟩
          · rcases HLoc.out g e with e2 | e2
            · exact ⟨hnf3 g e2, (hapt g e2).2⟩
            · exact ⟨fun e3 => by have := HS3.out.ahead.2.2.2 _ e3; omega, by omega⟩
        case measure => simp [intOf]; omega
      · obtain rfl : k = n := by omega
        have g2 : decide ((k : Int) < (k : Int)) = false := by simp
        clear hbt
        go_wp2
        go_ret2
        have hm := HBt.out.met
        have htk : ls.take k = ls := by rw [← HN.out, List.take_length]
        rw [htk] at hm
        refine ⟨_, l, ls, s', D', k, rfl, HPt.out, hm, by rw [hm.len, HN.out]; exact HBt.out.row, fun g e => (HBt.out.apart g e).1, HBt.out.st, hn38, (StStep.still (s := s) HB1.out).trans HBt.out.step⟩
end Go.Proofs.YtankngomgjlfkaaGreatDoor

namespace Go.Proofs.YtankngomgjlfkaaGreatDoor
open Go.RowKit Go.MapKept
attribute [local go_sem] gives givesH
set_option maxRecDepth 100000

def okRef (r : ByteArray × Int) : Bool := r.1.size == 33 && (decide (1 ≤ r.2) && decide (r.2 ≤ 128))
theorem okRef_iff (r : ByteArray × Int) : okRef r = true ↔ r.1.size = 33 ∧ 1 ≤ r.2 ∧ r.2 ≤ 128 := by unfold okRef; simp
theorem refV_get (l : RefL) (k : Nat) (r : ByteArray × Int) (h : l[k]? = some r) : (refV l)[k * 2]? = some (.string r.1) ∧ (refV l)[k * 2 + 1]? = some (.int .i64 r.2) := by
  induction l generalizing k with
  | nil => simp at h
  | cons x l ih =>
    cases k with
    | zero => simp at h; subst h; exact ⟨rfl, rfl⟩
    | succ k =>
      have h' : l[k]? = some r := by simpa using h
      have := ih k h'
      have e1 : (k + 1) * 2 = k * 2 + 2 := by omega
      have e : refV (x :: l) = Value.string x.1 :: Value.int .i64 x.2 :: refV l := rfl
      rw [e1, e]
      simpa using this
theorem all_take_snoc (l : RefL) (k : Nat) (h : k < l.length) (h1 : (l.take k).all okRef = true) (h2 : okRef l[k] = true) : (l.take (k + 1)).all okRef = true := by
  rw [List.take_succ_eq_append_getElem h, List.all_append, h1]
  simp [h2]
theorem all_bad (l : RefL) (k : Nat) (h : k < l.length) (h2 : okRef l[k] = false) : l.all okRef = false := by
  cases e : l.all okRef with
  | false => rfl
  | true => rw [List.all_eq_true] at e; rw [e _ (List.getElem_mem h)] at h2; cases h2
set_option maxHeartbeats 4000000 in
theorem rright_any {w : World} {B : Nat} {v : Value} {l : RefL} (hrow : w.ownsRow B 25 2 v l.length (refV l)) (hl : l.length ≤ 100) :
    Calls Tryz.prog 48 #[v] w fun e w' => e = .returned (.bool (l.all okRef)) ∧ Below w.heap.size w w' := by
  obtain ⟨sa, sc, hv⟩ := slice_formB hrow
  subst hv
  have HRow := Lib.hid hrow
  obtain ⟨n, hn⟩ : ∃ n, l.length = n := ⟨_, rfl⟩
  have HN := Lib.hid hn
  rw [hn] at HRow hl ⊢
  have g4 : decide ((n : Int) ≤ 4000) = true := by simp; omega
  clear hrow hn
  go_enter Tryz.func48, Tryz.ntmps48
  go_wp2
  go_loopw [4, 7] (fun _ i wr => ∃ k, k ≤ n ∧ i = .int .i64 (k : Int) ∧ Below w.heap.size w wr ∧ (l.take k).all okRef = true) (fun _ i _ => n - (intOf i).toNat)
  case atStart => exact ⟨0, by omega, rfl, Below.refl _ _, by simp⟩
  case round =>
    obtain ⟨k, hk, rfl, hb, hall⟩ := hrel
    have HB := Lib.hid hb
    have HAll := Lib.hid hall
    clear hb hall
    by_cases hlt : k < n
    · have g2 : decide ((k : Int) < (n : Int)) = true := by simp; omega
      have g2' : decide (k < n) = true := by simpa using hlt
      have hkl : k < l.length := by rw [HN.out]; exact hlt
      obtain ⟨gs, cs, hs, hc1, hc2, hgB⟩ := row_posB HRow.out (by omega)
      obtain ⟨e1, e2, e3⟩ := Value.slice.inj hs
      subst e1
      have hgl := (HRow.out.lt gs rfl).2
      obtain ⟨q1, q2⟩ := refV_get l k l[k] (List.getElem?_eq_getElem hkl)
      have q1' : wr.cell? ⟨gs, k * 2, none⟩ = some (.string l[k].1) := by rw [HB.out.cell (p := ⟨gs, k * 2, none⟩) hgl]; exact row_cells HRow.out _ _ q1
      have q2' : wr.cell? ⟨gs, k * 2 + 1, none⟩ = some (.int .i64 l[k].2) := by rw [HB.out.cell (p := ⟨gs, k * 2 + 1, none⟩) hgl]; exact row_cells HRow.out _ _ q2
      have HG := Lib.hid (all_take_snoc l k hkl HAll.out)
      have HBd := Lib.hid (all_bad l k hkl)
      obtain ⟨⟨id, len⟩, hr⟩ : ∃ r, l[k] = r := ⟨_, rfl⟩
      rw [hr] at q1' q2' HG HBd
      have hbx := Lib.hid (HB.out.alloc HB.out.size (.cells #[.string id, .int .i64 len] 25))
      clear hs e2 e3 q1 q2 hr
      have hcase : okRef (id, len) = true ∧ ((id.size : Int) != 33) = false ∧ decide (len < 1) = false ∧ decide (len > 128) = false ∨
          okRef (id, len) = false ∧ (((id.size : Int) != 33) = true ∨ ((id.size : Int) != 33) = false ∧ decide (len < 1) = true ∨ ((id.size : Int) != 33) = false ∧ decide (len < 1) = false ∧ decide (len > 128) = true) := by
        unfold okRef
        by_cases a1 : id.size = 33 <;> by_cases a2 : len < 1 <;> by_cases a3 : 128 < len <;> simp [a1, a2, a3] <;> omega
      rcases hcase with ⟨h0, a1, a2, a3⟩ | ⟨h0, ⟨a1⟩ | ⟨a1, a2⟩ | ⟨a1, a2, a3⟩⟩
      · have h1 := Lib.hid (HG.out h0)
        go_wp2
        go_roundw
        case rel => exact ⟨k + 1, by omega, by go_num, hbx.out, h1.out⟩
        case measure => simp [intOf]; omega
      all_goals
        have h1 := Lib.hid (HBd.out h0)
        go_wp2
        go_ret
        exact ⟨by rw [h1.out]; rfl, hbx.out⟩
    · obtain rfl : k = n := by omega
      have g2 : decide ((k : Int) < (k : Int)) = false := by simp
      go_wp2
      go_ret
      have h := HAll.out
      rw [← HN.out, List.take_length] at h
      exact ⟨by rw [h]; rfl, HB.out⟩
def tot : RefL → Int
  | [] => 0
  | r :: l => r.2 + tot l
theorem tot_snoc (l : RefL) (r : ByteArray × Int) : tot (l ++ [r]) = tot l + r.2 := by
  induction l with
  | nil => simp [tot]
  | cons x l ih => simp [tot, ih]; omega
theorem tot_take (l : RefL) (k : Nat) (h : k < l.length) : tot (l.take (k + 1)) = tot (l.take k) + l[k].2 := by rw [List.take_succ_eq_append_getElem h, tot_snoc]
theorem tot_bd (l : RefL) (h : l.all okRef = true) : 0 ≤ tot l ∧ tot l ≤ 128 * l.length := by
  induction l with
  | nil => simp [tot]
  | cons x l ih =>
    rw [List.all_cons, Bool.and_eq_true, okRef_iff] at h
    have := ih h.2
    simp only [tot, List.length_cons]
    omega
theorem all_take (l : RefL) (k : Nat) (h : l.all okRef = true) : (l.take k).all okRef = true := by
  rw [List.all_eq_true] at *
  exact fun x hx => h x (List.mem_of_mem_take hx)
set_option maxHeartbeats 4000000 in
theorem rsize_any {w : World} {B : Nat} {v : Value} {l : RefL} (hrow : w.ownsRow B 25 2 v l.length (refV l)) (hl : l.length ≤ 100) (hok : l.all okRef = true) :
    Calls Tryz.prog 62 #[v] w fun e w' => e = .returned (.int .i64 (tot l)) ∧ Below w.heap.size w w' := by
  have HR := Lib.hid (rright_any hrow hl)
  obtain ⟨sa, sc, hv⟩ := slice_formB hrow
  subst hv
  have HRow := Lib.hid hrow
  obtain ⟨n, hn⟩ : ∃ n, l.length = n := ⟨_, rfl⟩
  have HN := Lib.hid hn
  have HOk := Lib.hid hok
  rw [hn] at HRow HR hl ⊢
  clear hrow hn hok
  go_enter Tryz.func62, Tryz.ntmps62
  go_wp2_with (go_at_call 48; refine (HR.out).mono ?_; rintro e w1 ⟨rfl, hb1⟩
               rw [HOk.out]
               have HB1 := Lib.hid hb1
               clear hb1)
  go_loopw [3, 5, 11] (fun s _ i wr => ∃ k, k ≤ n ∧ i = .int .i64 (k : Int) ∧ s = .int .i64 (tot (l.take k)) ∧ Below w.heap.size w wr) (fun _ _ i _ => n - (intOf i).toNat)
  case atStart => exact ⟨0, by omega, rfl, by simp [tot], HB1.out⟩
  case round =>
    obtain ⟨k, hk, rfl, rfl, hb⟩ := hrel
    have HB := Lib.hid hb
    clear hb
    by_cases hlt : k < n
    · have g2 : decide ((k : Int) < (n : Int)) = true := by simp; omega
      have g2' : decide (k < n) = true := by simpa using hlt
      have hkl : k < l.length := by rw [HN.out]; exact hlt
      obtain ⟨gs, cs, hs, hc1, hc2, hgB⟩ := row_posB HRow.out (by omega)
      obtain ⟨e1, e2, e3⟩ := Value.slice.inj hs
      subst e1
      have hgl := (HRow.out.lt gs rfl).2
      obtain ⟨q1, q2⟩ := refV_get l k l[k] (List.getElem?_eq_getElem hkl)
      have q1' : wr.cell? ⟨gs, k * 2, none⟩ = some (.string l[k].1) := by rw [HB.out.cell (p := ⟨gs, k * 2, none⟩) hgl]; exact row_cells HRow.out _ _ q1
      have q2' : wr.cell? ⟨gs, k * 2 + 1, none⟩ = some (.int .i64 l[k].2) := by rw [HB.out.cell (p := ⟨gs, k * 2 + 1, none⟩) hgl]; exact row_cells HRow.out _ _ q2
      have HT := Lib.hid (tot_take l k hkl)
      have hx1 := tot_bd _ (all_take l k HOk.out)
      have hx2 := tot_bd _ (all_take l (k + 1) HOk.out)
      rw [List.length_take] at hx1 hx2
      rw [HT.out] at hx2
      have hx1' : 0 ≤ tot (l.take k) ∧ tot (l.take k) ≤ 12800 := by omega
      have hx2' : 0 ≤ tot (l.take k) + l[k].2 ∧ tot (l.take k) + l[k].2 ≤ 12800 := by omega
      clear hx1 hx2
      obtain ⟨⟨id, len⟩, hr⟩ : ∃ r, l[k] = r := ⟨_, rfl⟩
      rw [hr] at q1' q2' HT hx2'
      obtain ⟨T, hT⟩ : ∃ T, tot (l.take k) = T := ⟨_, rfl⟩
      rw [hT] at HT hx1' hx2' ⊢
      replace hx2' : 0 ≤ T + len ∧ T + len ≤ 12800 := hx2'
      obtain ⟨y1, y2⟩ := hx1'
      obtain ⟨y3, y4⟩ := hx2'
      have hbx := Lib.hid (HB.out.alloc HB.out.size (.cells #[.string id, .int .i64 len] 25))
      clear hs e2 e3 q1 q2 hr hT
      go_wp2
      go_roundw
      case rel => exact ⟨k + 1, by omega, by go_num, by rw [HT.out], hbx.out⟩
      case measure => simp [intOf]; omega
    · obtain rfl : k = n := by omega
      have g2 : decide ((k : Int) < (k : Int)) = false := by simp
      have hT : l.take k = l := by rw [← HN.out, List.take_length]
      rw [hT]
      clear hT
      go_wp2
      go_ret
      exact ⟨rfl, HB.out⟩
set_option maxHeartbeats 1000000 in
theorem ends_any {T : Int} (h0 : 0 ≤ T) (h1 : T ≤ 12800) (w : World) :
    Calls Tryz.prog 117 #[.int .i64 T, .int .i64 0, .int .i64 1073741824] w fun e w' => e = .returned (.tuple #[.int .i64 0, .int .i64 T]) ∧ w' = w := by
  have hcase : T = 0 ∨ decide ((0 : Int) ≥ T) = false ∧ decide ((1073741824 : Int) ≥ T - 0) = true := by
    by_cases e : T = 0
    · exact .inl e
    · exact .inr ⟨by simp; omega, by simp; omega⟩
  rcases hcase with rfl | ⟨g1, g2⟩
  · go_enter Tryz.func117, Tryz.ntmps117
    go_wp2
    go_ret2
    exact ⟨rfl, rfl⟩
  · go_enter Tryz.func117, Tryz.ntmps117
    go_wp2
    go_ret2
    exact ⟨rfl, rfl⟩
end Go.Proofs.YtankngomgjlfkaaGreatDoor

namespace Go.Proofs.YtankngomgjlfkaaGreatDoor
open Go.RowKit Go.MapKept
attribute [local go_sem] gives givesH
set_option maxRecDepth 100000

def got (D : Dict) (r : ByteArray × Int) : Option ByteArray := match D r.1 with
  | some t => if (t.size : Int) = r.2 then some t else none
  | none => none
def texts (D : Dict) : RefL → Option (List ByteArray)
  | [] => some []
  | r :: l => match got D r with
    | some t => (texts D l).map (t :: ·)
    | none => none
theorem texts_snoc (D : Dict) (l : RefL) (r : ByteArray × Int) (t : ByteArray) (ts : List ByteArray) (h : texts D l = some ts) (ht : got D r = some t) : texts D (l ++ [r]) = some (ts ++ [t]) := by
  induction l generalizing ts with
  | nil => simp [texts] at h; subst h; simp [texts, ht]
  | cons x l ih =>
    rw [texts] at h
    rw [List.cons_append, texts]
    cases hx : got D x with
    | none => rw [hx] at h; cases h
    | some u =>
      rw [hx] at h
      simp only at h
      cases hl : texts D l with
      | none => rw [hl] at h; cases h
      | some ts' =>
        rw [hl] at h
        have h' : u :: ts' = ts := Option.some.inj h
        subst h'
        rw [ih ts' hl]
        rfl
theorem texts_none (D : Dict) (l : RefL) (k : Nat) (r : ByteArray × Int) (h : l[k]? = some r) (hr : got D r = none) : texts D l = none := by
  induction l generalizing k with
  | nil => simp at h
  | cons x l ih =>
    rw [texts]
    cases k with
    | zero => simp at h; subst h; rw [hr]
    | succ k =>
      have h' : l[k]? = some r := by simpa using h
      cases got D x with
      | none => rfl
      | some u => simp only; rw [ih k h']; rfl
theorem texts_len (D : Dict) (l : RefL) (hok : l.all okRef = true) (ts : List ByteArray) (h : texts D l = some ts) : (ts.flatMap SealG.bl).length ≤ 128 * l.length := by
  induction l generalizing ts with
  | nil => simp [texts] at h; subst h; simp
  | cons x l ih =>
    rw [List.all_cons, Bool.and_eq_true, okRef_iff] at hok
    rw [texts] at h
    unfold got at h
    cases hx : D x.1 with
    | none => rw [hx] at h; cases h
    | some u =>
      rw [hx] at h
      by_cases e : (u.size : Int) = x.2
      · simp only [if_pos e] at h
        cases hl : texts D l with
        | none => rw [hl] at h; cases h
        | some ts' =>
          rw [hl] at h
          have h' : u :: ts' = ts := Option.some.inj h
          subst h'
          have := ih hok.2 ts' hl
          rw [List.flatMap_cons, List.length_append, SealG.bl_length, List.length_cons]
          omega
      · simp only [if_neg e] at h; cases h
theorem flat_lt (ts : List ByteArray) : ∀ c ∈ ts.flatMap SealG.bl, c < 256 := by
  intro c hc
  rw [List.mem_flatMap] at hc
  obtain ⟨t, -, h⟩ := hc
  exact SealG.bl_lt t c h
def sealC (l : List Nat) : Array Value := #[.int .i64 (SealG.gs l).1, .int .i64 (SealG.gs l).2, .int .u32 (crc.check l : Nat), .int .i64 (l.length : Nat)]
theorem sealL_agg (l : List Nat) : SealG.sealL l = .agg (sealC l) := rfl
theorem sealC_nil : sealC [] = #[.int .i64 0, .int .i64 0, .int .u32 0, .int .i64 0] := by rfl
theorem got_ok {D : Dict} {id t : ByteArray} {len : Int} (h : D id = some t) (e : (t.size : Int) = len) : got D (id, len) = some t := by unfold got; simp only [h, if_pos e]
theorem got_len {D : Dict} {id t : ByteArray} {len : Int} (h : D id = some t) (e : (t.size : Int) ≠ len) : got D (id, len) = none := by unfold got; simp only [h, if_neg e]
theorem got_no {D : Dict} {id : ByteArray} {len : Int} (h : D id = none) : got D (id, len) = none := by unfold got; simp only [h]
def sealOut (D : Dict) (l : RefL) : Value × Int := if l.all okRef then (match texts D l with | some ts => (SealG.sealL (ts.flatMap SealG.bl), 0) | none => (SealG.sealL [], 6)) else (SealG.sealL [], 1)
set_option maxHeartbeats 8000000 in
theorem recipe_seal {w : World} {sb : Nat} {s : Sto} {D : Dict} {ni nl : Nat} (h : StAt w sb s D ni nl) (hn : ni ≤ 40 ∧ nl ≤ 40) {B : Nat} {v : Value} {l : RefL} (hrow : w.ownsRow B 25 2 v l.length (refV l)) (hl : l.length ≤ 100) :
    Calls Tryz.prog 12 #[.pointer (some ⟨sb, 0, none⟩), v] w fun e w' => e = .returned (.tuple #[(sealOut D l).1, .int .i64 (sealOut D l).2]) ∧ Below w.heap.size w w' := by
  have HW := Lib.hid (fun u (hb : Below w.heap.size w u) => waits_any (h.still hb) hn)
  have HR := Lib.hid (fun u (hb : Below w.heap.size w u) => rright_any ((Keep.still hb).ownsRow hrow (fun g _ e => e)) hl)
  obtain ⟨sa, sc, hv⟩ := slice_formB hrow
  subst hv
  have HRow := Lib.hid hrow
  have HSt := Lib.hid h
  obtain ⟨n, hn2⟩ : ∃ n, l.length = n := ⟨_, rfl⟩
  have HN := Lib.hid hn2
  rw [hn2] at HRow HR hl ⊢
  have hb0 : Below w.heap.size w (w.alloc (.cells #[.int .i64 0, .int .i64 0, .int .u32 0, .int .i64 0] 33)) := (Below.refl _ _).alloc (Nat.le_refl _) _
  have HB0 := Lib.hid hb0
  have HE0 := Lib.hid (heap_alloc_new w (.cells #[.int .i64 0, .int .i64 0, .int .u32 0, .int .i64 0] 33))
  have hcase : l.all okRef = true ∨ l.all okRef = false := by cases l.all okRef <;> simp
  clear h hrow hn2 hb0
  go_enter Tryz.func12, Tryz.ntmps12
  go_wp2_with (first
    | (go_at_call 44; refine (HW.out _ HB0.out).mono ?_; rintro e w1 ⟨⟨m, rfl⟩, hb1⟩
       have HB1 := Lib.hid (HB0.out.trans (hb1.mono (by simp)))
       have HE1 := Lib.hid ((Keep.still hb1).at HE0.out (fun e => e))
       clear hb1)
    | (go_at_call 48; refine (HR.out _ HB1.out).mono ?_; rintro e w2 ⟨rfl, hb2⟩
       have HB2 := Lib.hid (HB1.out.trans (hb2.mono HB1.out.size))
       have HE2 := Lib.hid ((Keep.still hb2).at HE1.out (fun e => e))
       clear hb2
       rcases hcase with hok | hok
       all_goals
         rw [hok]
         have HOk := Lib.hid hok
         clear hok
         obtain ⟨⟨d0, d1, d2, d3⟩, y0, y1, y2, y3⟩ := SealG.cells4Of HE2.out))
  · clear d0 d1 d2 d3 y0 y1 y2 y3
    have hb3 := HB2.out.alloc HB2.out.size (.cells #[.int .i64 0, .int .i64 0, .int .u32 0, .int .i64 0] 33)
    have hz2 : w.heap.size < w2.heap.size := (Array.getElem?_eq_some_iff.1 HE2.out).1
    have hE3 : (w2.alloc (.cells #[.int .i64 0, .int .i64 0, .int .u32 0, .int .i64 0] 33)).heap[w.heap.size]? = some (.cells #[.int .i64 0, .int .i64 0, .int .u32 0, .int .i64 0] 33 (0, 0)) := by rw [Below.heap_alloc _ _ _ hz2]; exact HE2.out
    have HB3 := Lib.hid hb3
    have HE3 := Lib.hid hE3
    have HO3 := Lib.hid (heap_alloc_new w2 (.cells #[.int .i64 0, .int .i64 0, .int .u32 0, .int .i64 0] 33))
    obtain ⟨ob, hob⟩ : ∃ ob, w2.heap.size = ob := ⟨_, rfl⟩
    rw [hob] at HO3 hz2 ⊢
    clear hb3 hE3 hob
    go_loopw [28] (fun i wr => ∃ k ts, k ≤ n ∧ i = .int .i64 (k : Int) ∧ texts D (l.take k) = some ts ∧ wr.heap[ob]? = some (.cells (sealC (ts.flatMap SealG.bl)) 33 (0, 0)) ∧ wr.heap[w.heap.size]? = some (.cells #[.int .i64 0, .int .i64 0, .int .u32 0, .int .i64 0] 33 (0, 0)) ∧ Below w.heap.size w wr) (fun i _ => n - (intOf i).toNat)
    case atStart => exact ⟨0, [], by omega, rfl, rfl, HO3.out, HE3.out, HB3.out⟩
    case round =>
      obtain ⟨k, ts, hk, rfl, hts, hO, hE, hb⟩ := hrel
      have HTs := Lib.hid hts
      have HO := Lib.hid hO
      have HE := Lib.hid hE
      have HB := Lib.hid hb
      clear hts hO hE hb
      by_cases hlt : k < n
      · have g2 : decide ((k : Int) < (n : Int)) = true := by simp; omega
        have g2' : decide (k < n) = true := by simpa using hlt
        have hkl : k < l.length := by rw [HN.out]; exact hlt
        obtain ⟨gs, cs, hs, hc1, hc2, hgB⟩ := row_posB HRow.out (by omega)
        obtain ⟨e1, e2, e3⟩ := Value.slice.inj hs
        subst e1
        have hgl := (HRow.out.lt gs rfl).2
        obtain ⟨q1, q2⟩ := refV_get l k l[k] (List.getElem?_eq_getElem hkl)
        have q1' : wr.cell? ⟨gs, k * 2, none⟩ = some (.string l[k].1) := by rw [HB.out.cell (p := ⟨gs, k * 2, none⟩) hgl]; exact row_cells HRow.out _ _ q1
        have q2' : wr.cell? ⟨gs, k * 2 + 1, none⟩ = some (.int .i64 l[k].2) := by rw [HB.out.cell (p := ⟨gs, k * 2 + 1, none⟩) hgl]; exact row_cells HRow.out _ _ q2
        have htk : l.take (k + 1) = l.take k ++ [l[k]] := List.take_succ_eq_append_getElem hkl
        have hsn := fun t (ht : got D l[k] = some t) => texts_snoc D (l.take k) l[k] t ts HTs.out ht
        rw [← htk] at hsn
        have HSn := Lib.hid hsn
        have HNo := Lib.hid (texts_none D l k l[k] (List.getElem?_eq_getElem hkl))
        have hok1 : okRef l[k] = true := List.all_eq_true.1 HOk.out _ (List.getElem_mem hkl)
        have htl := texts_len D (l.take k) (all_take l k HOk.out) ts HTs.out
        rw [List.length_take] at htl
        have htl2 : (ts.flatMap SealG.bl).length ≤ 12800 := by omega
        have HTl := Lib.hid htl2
        obtain ⟨⟨id, len⟩, hr⟩ : ∃ r, l[k] = r := ⟨_, rfl⟩
        rw [hr] at q1' q2' HSn HNo hok1
        obtain ⟨hid, -, hlen⟩ := (okRef_iff _).1 hok1
        replace hid : id.size = 33 := hid
        replace hlen : len ≤ 128 := hlen
        clear hs e2 e3 q1 q2 hr htk hsn htl htl2 hok1
        have hbx := HB.out.alloc HB.out.size (.cells #[.string id, .int .i64 len] 25)
        have HBx := Lib.hid hbx
        have HX := Lib.hid (heap_alloc_new wr (.cells #[.string id, .int .i64 len] 25))
        have HObx := Lib.hid (show (wr.alloc (.cells #[.string id, .int .i64 len] 25)).heap[ob]? = some (.cells (sealC (ts.flatMap SealG.bl)) 33 (0, 0)) by rw [Below.heap_alloc _ _ _ (Array.getElem?_eq_some_iff.1 HO.out).1]; exact HO.out)
        have HEbx := Lib.hid (show (wr.alloc (.cells #[.string id, .int .i64 len] 25)).heap[w.heap.size]? = some (.cells #[.int .i64 0, .int .i64 0, .int .u32 0, .int .i64 0] 33 (0, 0)) by rw [Below.heap_alloc _ _ _ (Array.getElem?_eq_some_iff.1 HE.out).1]; exact HE.out)
        obtain ⟨xb, hxb⟩ : ∃ xb, wr.heap.size = xb := ⟨_, rfl⟩
        have hget : (∃ t, D id = some t ∧ (t.size : Int) = len ∧ ((t.size : Int) != len) = false) ∨ (∃ t, D id = some t ∧ (t.size : Int) ≠ len ∧ ((t.size : Int) != len) = true) ∨ D id = none := by
          cases hd : D id with
          | none => exact .inr (.inr rfl)
          | some t =>
            by_cases e : (t.size : Int) = len
            · exact .inl ⟨t, rfl, e, by simp [e]⟩
            · exact .inr (.inl ⟨t, rfl, e, by simp [e]⟩)
        clear hbx hxb
        rcases hget with ⟨t, hd, he, g3⟩ | ⟨t, hd, he, g3⟩ | hd
        · have HG := Lib.hid (sget_some (HSt.out.still HBx.out) hn (by omega) hd)
          have HS2 := Lib.hid (HSn.out t (got_ok hd he))
          clear hd
          go_wp2_with (go_at_call 49; refine (HG.out).mono ?_; rintro e w3 ⟨rfl, hb3⟩
                       have HO3 := Lib.hid ((Keep.still hb3).at HObx.out (fun e => e))
                       have HE3 := Lib.hid ((Keep.still hb3).at HEbx.out (fun e => e))
                       have HX3 := (Keep.still hb3).at HX.out (fun e => e)
                       have x1 : w3.cell? ⟨wr.heap.size, 1, none⟩ = some (.int .i64 len) := Lib.cell_of_heap HX3 1
                       have HB3 := Lib.hid (HBx.out.trans (hb3.mono HBx.out.size))
                       obtain ⟨⟨d0, d1, d2, d3⟩, y0, y1, y2, y3⟩ := SealG.cells4Of HE3.out
                       clear hb3 HX3)
          clear d0 d1 d2 d3 y0 y1 y2 y3
          have hOl := (Array.getElem?_eq_some_iff.1 HO3.out).1
          have HOl := Lib.hid hOl
          obtain ⟨L, hL⟩ : ∃ L, ts.flatMap SealG.bl = L := ⟨_, rfl⟩
          have hlt2 := flat_lt ts
          rw [hL] at HO3 HTl hlt2
          have HL := Lib.hid hL
          have hJ := Lib.hid (fun u => SealG.join_seal L (SealG.bl t) hlt2 (SealG.bl_lt t) (by have := HTl.out; omega) (by rw [SealG.bl_length]; omega) u)
          have hOf := Lib.hid (fun u => SealG.of_seal t (by omega) u)
          clear hOl hL hlt2
          obtain ⟨S, hS⟩ : ∃ S : World → Prop, ∀ u, S u ↔ Keep (fun _ => False) (w3) u := ⟨fun u => Keep (fun _ => False) (w3) u, fun _ => Iff.rfl⟩
          have HS := Lib.hid hS
          clear hS
          refine wp_region_ord 4 [(0, true), (1, true), (2, false), (3, false)] S (by kernel_rfl) (by kernel_rfl) ((HS.out _).2 (Keep.refl _ _).drew) ?_
          iterate 2
            first
              | (refine wpH_passed rfl (by rfl) (fun K hK => ?_); go_simp; refine hK _ ?_; clear hK K)
              | (first
                   | refine wpH_read rfl rfl (fun K hK => ?_)
                   | refine wpH_readw rfl (by rfl) (fun K hK => ?_)
                 apply Exists.intro
                 refine ⟨fun u hu => ?_, ?_⟩
                 · have hu := (HS.out u).1 hu
                   obtain ⟨⟨d0, d1, d2, d3⟩, -⟩ := SealG.cells4Of (hu.at HO3.out (fun e => e))
                   clear hu
                   go_simp
                   exact ⟨rfl, rfl⟩
                 go_simp
                 refine hK _ ?_
                 clear hK K)
          first | refine wpH_do rfl rfl (fun K hK => ?_) | refine wpH_dow rfl (by rfl) (fun K hK => ?_)
          go_simp
          go_at_call 36
          refine (hOf.out _).mono ?_
          rintro e w4 ⟨rfl, hb4⟩
          have hb4' : Below w3.heap.size w3 w4 := ⟨hb4.os, hb4.tape, hb4.output, hb4.size, hb4.block⟩
          have HB4 := Lib.hid hb4'
          refine hK _ _ ((HS.out _).2 (Keep.ofBelow hb4')) ?_
          clear hK K hb4 hb4'
          first | refine wpH_do rfl rfl (fun K hK => ?_) | refine wpH_dow rfl (by rfl) (fun K hK => ?_)
          go_simp
          go_at_call 37
          refine (hJ.out w4).mono ?_
          rintro e w5 ⟨he, hb5⟩
          rw [sealL_agg] at he
          unfold sealC at he
          subst he
          have hb5' : Below w3.heap.size w3 w5 := HB4.out.trans (hb5.mono HB4.out.size)
          have HB5 := Lib.hid hb5'
          refine hK _ _ ((HS.out _).2 (Keep.ofBelow hb5')) ?_
          clear hK K hb5 hb5'
          refine wpH_nil ?_
          simp only [List.drop_succ_cons, List.drop_zero]
          clear S HS
          have HO5 := Lib.hid ((Keep.still HB5.out).at HO3.out (fun e => e))
          have HE5 := Lib.hid ((Keep.still HB5.out).at HE3.out (fun e => e))
          obtain ⟨⟨d0, d1, d2, d3⟩, y0, y1, y2, y3⟩ := SealG.cells4Of HO5.out
          obtain ⟨M, hM⟩ : ∃ M, L ++ SealG.bl t = M := ⟨_, rfl⟩
          rw [hM]
          have HM := Lib.hid hM
          clear hM
          go_wp2
          go_roundw
          case rel =>
            have hML : (ts ++ [t]).flatMap SealG.bl = M := by rw [List.flatMap_append, HL.out, ← HM.out]; simp
            refine ⟨k + 1, ts ++ [t], by omega, by go_num, HS2.out, by rw [hML]; exact SealG.set4 HO5.out _ _ _ _, ?_, SealG.below_set4 (HB3.out.trans (HB5.out.mono HB3.out.size)) (by omega) _ _ _ _⟩
            rw [show (((((w5.setCell ⟨ob, 0, none⟩ (.int .i64 (SealG.gs M).1)).setCell ⟨ob, 1, none⟩ (.int .i64 (SealG.gs M).2)).setCell ⟨ob, 2, none⟩ (.int .u32 (crc.check M : Nat))).setCell ⟨ob, 3, none⟩ (.int .i64 (M.length : Nat))).heap[w.heap.size]?) = w5.heap[w.heap.size]? from (SealG.below_set4 (Below.refl (w.heap.size + 1) w5) (by omega) _ _ _ _).block _ (by omega)]
            exact HE5.out
          case measure => simp [intOf]; omega
        · have HG := Lib.hid (sget_some (HSt.out.still HBx.out) hn (by omega) hd)
          have HN2 := Lib.hid (HNo.out (got_len hd he))
          clear hd
          go_wp2_with (go_at_call 49; refine (HG.out).mono ?_; rintro e w3 ⟨rfl, hb3⟩
                       have HO3 := Lib.hid ((Keep.still hb3).at HObx.out (fun e => e))
                       have HE3 := Lib.hid ((Keep.still hb3).at HEbx.out (fun e => e))
                       have HX3 := (Keep.still hb3).at HX.out (fun e => e)
                       have x1 : w3.cell? ⟨wr.heap.size, 1, none⟩ = some (.int .i64 len) := Lib.cell_of_heap HX3 1
                       have HB3 := Lib.hid (HBx.out.trans (hb3.mono HBx.out.size))
                       obtain ⟨⟨d0, d1, d2, d3⟩, y0, y1, y2, y3⟩ := SealG.cells4Of HE3.out
                       clear hb3 HX3)
          have h4 := SealG.set4 HE3.out (.int .i64 0) (.int .i64 0) (.int .u32 0) (.int .i64 0)
          refine bodyPost_ret (results_box2 rfl _ _ w.heap.size _ _ _ _ rfl h4 Tryz.underlying33 rfl (by kernel_rfl)) rfl ?_
          refine ⟨?_, SealG.below_set4 HB3.out (Nat.le_refl _) _ _ _ _⟩
          unfold sealOut
          rw [if_pos HOk.out, HN2.out]
          rfl
        · have HG := Lib.hid (sget_none (HSt.out.still HBx.out) hn (by omega) hd)
          have HN2 := Lib.hid (HNo.out (got_no hd))
          clear hd
          go_wp2_with (go_at_call 49; refine (HG.out).mono ?_; rintro e w3 ⟨rfl, hb3⟩
                       have HO3 := Lib.hid ((Keep.still hb3).at HObx.out (fun e => e))
                       have HE3 := Lib.hid ((Keep.still hb3).at HEbx.out (fun e => e))
                       have HX3 := (Keep.still hb3).at HX.out (fun e => e)
                       have x1 : w3.cell? ⟨wr.heap.size, 1, none⟩ = some (.int .i64 len) := Lib.cell_of_heap HX3 1
                       have HB3 := Lib.hid (HBx.out.trans (hb3.mono HBx.out.size))
                       obtain ⟨⟨d0, d1, d2, d3⟩, y0, y1, y2, y3⟩ := SealG.cells4Of HE3.out
                       clear hb3 HX3)
          have h4 := SealG.set4 HE3.out (.int .i64 0) (.int .i64 0) (.int .u32 0) (.int .i64 0)
          refine bodyPost_ret (results_box2 rfl _ _ w.heap.size _ _ _ _ rfl h4 Tryz.underlying33 rfl (by kernel_rfl)) rfl ?_
          refine ⟨?_, SealG.below_set4 HB3.out (Nat.le_refl _) _ _ _ _⟩
          unfold sealOut
          rw [if_pos HOk.out, HN2.out]
          rfl
      · obtain rfl : k = n := by omega
        have g2 : decide ((k : Int) < (k : Int)) = false := by simp
        have hT : l.take k = l := by rw [← HN.out, List.take_length]
        have hts := HTs.out
        rw [hT] at hts
        obtain ⟨L, hL⟩ : ∃ L, ts.flatMap SealG.bl = L := ⟨_, rfl⟩
        have hO := HO.out
        rw [hL] at hO
        obtain ⟨⟨c0, c1, c2, c3⟩, -⟩ := SealG.cells4Of hO
        obtain ⟨⟨d0, d1, d2, d3⟩, y0, y1, y2, y3⟩ := SealG.cells4Of HE.out
        clear hT
        have HTs2 := Lib.hid hts
        have HL := Lib.hid hL
        clear hts hL hO
        go_wp2
        have h4 := SealG.set4 HE.out (.int .i64 (SealG.gs L).1) (.int .i64 (SealG.gs L).2) (.int .u32 (crc.check L : Nat)) (.int .i64 (L.length : Nat))
        refine bodyPost_ret (results_box2 rfl _ _ w.heap.size _ _ _ _ rfl h4 Tryz.underlying33 rfl (by kernel_rfl)) rfl ?_
        refine ⟨?_, SealG.below_set4 HB.out (Nat.le_refl _) _ _ _ _⟩
        unfold sealOut
        rw [if_pos HOk.out, HTs2.out, ← HL.out]
        rfl
  · have h4 := SealG.set4 HE2.out (.int .i64 0) (.int .i64 0) (.int .u32 0) (.int .i64 0)
    refine bodyPost_ret (results_box2 rfl _ _ w.heap.size _ _ _ _ rfl h4 Tryz.underlying33 rfl (by kernel_rfl)) rfl ?_
    refine ⟨?_, SealG.below_set4 HB2.out (Nat.le_refl _) _ _ _ _⟩
    unfold sealOut
    rw [if_neg (by rw [HOk.out]; decide)]
    rfl
end Go.Proofs.YtankngomgjlfkaaGreatDoor

namespace Go.Proofs.YtankngomgjlfkaaGreatDoor
open Go.RowKit Go.MapKept
attribute [local go_sem] gives givesH
set_option maxRecDepth 100000

section
variable {w : World} {sb xb bb : Nat} {s : Sto} {D : Dict} {ni nl : Nat} {bs : List Value}
set_option maxHeartbeats 4000000 in
theorem bytes1_ok (h : StAt w sb s D ni nl) (hn : ni ≤ 40 ∧ nl ≤ 40) (hbox : w.cell? ⟨xb, 0, none⟩ = some (.pointer (some ⟨sb, 0, none⟩))) (hxb : xb < w.heap.size) (hib : IsB bb bb bs w) (hbb : bb ≤ w.heap.size) (hlen : bs.length ≤ 100000) {id t : ByteArray} (hid : id.size ≤ 96) (hD : D id = some t) (ht : t.size ≤ 128) :
    Calls Tryz.prog 53 #[.agg #[.string id, .int .i64 t.size], .int .i64 0, .int .i64 t.size, .pointer (some ⟨xb, 0, none⟩), .pointer (some ⟨bb, 0, none⟩)] w fun e w' => e = .returned (.int .i64 0) ∧ IsB bb bb (bs ++ Lib.strCells t) w' ∧ Below bb w w' := by
  have hb0 : Below w.heap.size w (w.alloc (.cells #[.string id, .int .i64 t.size] 25)) := (Below.refl _ _).alloc (Nat.le_refl _) _
  have HX := Lib.hid (heap_alloc_new w (.cells #[.string id, .int .i64 t.size] 25))
  have d0 : (w.alloc (.cells #[.string id, .int .i64 t.size] 25)).cell? ⟨w.heap.size, 0, none⟩ = some (.string id) := Lib.cell_of_heap HX.out 0
  have c0 : (w.alloc (.cells #[.string id, .int .i64 t.size] 25)).cell? ⟨xb, 0, none⟩ = some (.pointer (some ⟨sb, 0, none⟩)) := by rw [hb0.cell (p := ⟨xb, 0, none⟩) hxb]; exact hbox
  have HG := Lib.hid (sget_some (h.still hb0) hn hid hD)
  have HB0 := Lib.hid hb0
  have HI0 := Lib.hid (isB_still hib hb0)
  have g1 : ((t.size : Int) != (t.size : Int)) = false := by simp
  have hx : t.extract 0 t.size = t := by simp
  clear h hbox hib hb0 hD
  go_enter Tryz.func53, Tryz.ntmps53
  go_wp2_with (first
    | (go_at_call 49; refine (HG.out).mono ?_; rintro e w3 ⟨rfl, hb3⟩
       have HB3 := Lib.hid (HB0.out.trans (hb3.mono HB0.out.size))
       have HI3 := Lib.hid (isB_still HI0.out hb3)
       have e1 : w3.cell? ⟨w.heap.size, 1, none⟩ = some (.int .i64 t.size) := Lib.cell_of_heap ((Keep.still hb3).at HX.out (fun e => e)) 1
       have HWS := Lib.hid (writeString_any HI3.out (Nat.le_trans hbb HB3.out.size) t (by omega))
       clear hb3)
    | (go_at_call 54; refine (HWS.out).mono ?_; rintro e w4 ⟨rfl, hi4, hb4, -⟩
       have HI4 := Lib.hid hi4
       have HB4 := Lib.hid ((HB3.out.mono hbb).trans hb4)
       clear hi4 hb4))
  go_ret
  exact ⟨rfl, HI4.out, HB4.out⟩
set_option maxHeartbeats 4000000 in
theorem bytes1_bad (h : StAt w sb s D ni nl) (hn : ni ≤ 40 ∧ nl ≤ 40) (hbox : w.cell? ⟨xb, 0, none⟩ = some (.pointer (some ⟨sb, 0, none⟩))) (hxb : xb < w.heap.size) {id : ByteArray} {len : Int} (hid : id.size ≤ 96) (hD : got D (id, len) = none) :
    Calls Tryz.prog 53 #[.agg #[.string id, .int .i64 len], .int .i64 0, .int .i64 len, .pointer (some ⟨xb, 0, none⟩), .pointer (some ⟨bb, 0, none⟩)] w fun e w' => e = .returned (.int .i64 6) ∧ Below w.heap.size w w' := by
  have hb0 : Below w.heap.size w (w.alloc (.cells #[.string id, .int .i64 len] 25)) := (Below.refl _ _).alloc (Nat.le_refl _) _
  have HX := Lib.hid (heap_alloc_new w (.cells #[.string id, .int .i64 len] 25))
  have d0 : (w.alloc (.cells #[.string id, .int .i64 len] 25)).cell? ⟨w.heap.size, 0, none⟩ = some (.string id) := Lib.cell_of_heap HX.out 0
  have c0 : (w.alloc (.cells #[.string id, .int .i64 len] 25)).cell? ⟨xb, 0, none⟩ = some (.pointer (some ⟨sb, 0, none⟩)) := by rw [hb0.cell (p := ⟨xb, 0, none⟩) hxb]; exact hbox
  have HB0 := Lib.hid hb0
  have hcase : (∃ t, D id = some t ∧ ((t.size : Int) != len) = true) ∨ D id = none := by
    unfold got at hD
    cases hd : D id with
    | none => exact .inr rfl
    | some t =>
      refine .inl ⟨t, rfl, ?_⟩
      simp only [hd] at hD
      by_cases e : (t.size : Int) = len
      · rw [if_pos e] at hD; cases hD
      · simp [e]
  have h' := h.still hb0
  clear h hbox hD hb0
  rcases hcase with ⟨t, hd, g1⟩ | hd
  · have HG := Lib.hid (sget_some h' hn hid hd)
    clear h' hd
    go_enter Tryz.func53, Tryz.ntmps53
    go_wp2_with (go_at_call 49; refine (HG.out).mono ?_; rintro e w3 ⟨rfl, hb3⟩
                 have HB3 := Lib.hid (HB0.out.trans (hb3.mono HB0.out.size))
                 have e1 : w3.cell? ⟨w.heap.size, 1, none⟩ = some (.int .i64 len) := Lib.cell_of_heap ((Keep.still hb3).at HX.out (fun e => e)) 1
                 clear hb3)
    go_ret
    exact ⟨rfl, HB3.out⟩
  · have HG := Lib.hid (sget_none h' hn hid hd)
    clear h' hd
    go_enter Tryz.func53, Tryz.ntmps53
    go_wp2_with (go_at_call 49; refine (HG.out).mono ?_; rintro e w3 ⟨rfl, hb3⟩
                 have HB3 := Lib.hid (HB0.out.trans (hb3.mono HB0.out.size))
                 clear hb3)
    go_ret
    exact ⟨rfl, HB3.out⟩
end
end Go.Proofs.YtankngomgjlfkaaGreatDoor

namespace Go.Proofs.YtankngomgjlfkaaGreatDoor
open Go.RowKit Go.MapKept
attribute [local go_sem] gives givesH
set_option maxRecDepth 100000

def flatB (ts : List ByteArray) : List UInt8 := ts.flatMap (fun t => t.data.toList)
theorem flatB_snoc (ts : List ByteArray) (t : ByteArray) : flatB (ts ++ [t]) = flatB ts ++ t.data.toList := by simp [flatB]
theorem flatB_len (ts : List ByteArray) : (flatB ts).length = (ts.flatMap SealG.bl).length := by
  induction ts with
  | nil => rfl
  | cons t ts ih =>
    have : flatB (t :: ts) = t.data.toList ++ flatB ts := rfl
    rw [this, List.flatMap_cons, List.length_append, List.length_append, ih, SealG.bl_length]
    simp
theorem tot_le {l : RefL} (hok : l.all okRef = true) (k : Nat) (h : k < l.length) : tot (l.take k) + l[k].2 ≤ tot l := by
  rw [← tot_take l k h]
  have e : l = l.take (k + 1) ++ l.drop (k + 1) := (List.take_append_drop _ _).symm
  have h2 : tot l = tot (l.take (k + 1)) + tot (l.drop (k + 1)) := by
    have key : ∀ a b : RefL, tot (a ++ b) = tot a + tot b := fun a b => by
      induction a with
      | nil => simp [tot]
      | cons x a ih => simp [tot, ih]; omega
    rw [← key, List.take_append_drop]
  have h3 : (l.drop (k + 1)).all okRef = true := by
    rw [List.all_eq_true] at *
    exact fun x hx => hok x (List.mem_of_mem_drop hx)
  have := tot_bd _ h3
  omega
section
variable {w : World} {sb xb bb : Nat} {s : Sto} {D : Dict} {ni nl : Nat}
set_option maxHeartbeats 8000000 in
theorem asked_any (hst : ∀ u, Below bb w u → StAt u sb s D ni nl) (hn : ni ≤ 40 ∧ nl ≤ 40) (hbox : w.cell? ⟨xb, 0, none⟩ = some (.pointer (some ⟨sb, 0, none⟩))) (hxb : xb < bb) (hib : IsB bb bb (Lib.byteCells []) w) (hbb : bb < w.heap.size)
    {B : Nat} {v : Value} {l : RefL} (hrow : w.ownsRow B 25 2 v l.length (refV l)) (hvb : ∀ g, v.ownBlock = some g → g < bb) (hl : l.length ≤ 100) (hok : l.all okRef = true) :
    Calls Tryz.prog 52 #[v, .int .i64 0, .int .i64 1073741824, .func (.func 53) #[] #[.pointer (some ⟨xb, 0, none⟩), .pointer (some ⟨bb, 0, none⟩)]] w fun e w' => Below bb w w' ∧ (texts D l = none ∧ e = .returned (.int .i64 6) ∨ ∃ ts, texts D l = some ts ∧ e = .returned (.int .i64 0) ∧ IsB bb bb (Lib.byteCells (flatB ts)) w') := by
  have HSz := Lib.hid (rsize_any hrow hl hok)
  obtain ⟨sa, sc, hv⟩ := slice_formB hrow
  subst hv
  have HRow := Lib.hid hrow
  have HVb := Lib.hid hvb
  have HSt := Lib.hid hst
  have HBx := Lib.hid hbox
  have HIb := Lib.hid hib
  have HOk := Lib.hid hok
  obtain ⟨n, hn2⟩ : ∃ n, l.length = n := ⟨_, rfl⟩
  have HN := Lib.hid hn2
  have htb := tot_bd l hok
  rw [hn2] at HRow HSz hl htb ⊢
  obtain ⟨T, hT⟩ : ∃ T, tot l = T := ⟨_, rfl⟩
  rw [hT] at HSz htb
  have HT := Lib.hid hT
  obtain ⟨t0, t1⟩ := htb
  have HEn := Lib.hid (fun u => ends_any (T := T) t0 (by omega) u)
  clear hrow hn2 hvb hst hbox hib hok hT
  go_enter Tryz.func52, Tryz.ntmps52
  go_wp2_with (first
    | (go_at_call 62; refine (HSz.out).mono ?_; rintro e w1 ⟨rfl, hb1⟩
       have HB1 := Lib.hid (hb1.mono (Nat.le_of_lt hbb))
       have HI1 := Lib.hid (isB_still HIb.out hb1)
       clear hb1)
    | (go_at_call 117; refine (HEn.out _).mono ?_; rintro e _ ⟨rfl, rfl⟩))
  go_loopw [11, 27] (fun a i wr => ∃ k ts, k ≤ n ∧ i = .int .i64 (k : Int) ∧ a = .int .i64 (tot (l.take k)) ∧ texts D (l.take k) = some ts ∧ IsB bb bb (Lib.byteCells (flatB ts)) wr ∧ Below bb w wr) (fun _ i _ => n - (intOf i).toNat)
  case atStart => exact ⟨0, [], by omega, rfl, by simp [tot], rfl, HI1.out, HB1.out⟩
  case round =>
    obtain ⟨k, ts, hk, rfl, rfl, hts, hI, hb⟩ := hrel
    have HTs := Lib.hid hts
    have HI := Lib.hid hI
    have HB := Lib.hid hb
    clear hts hI hb
    by_cases hlt : k < n
    · have g2 : decide ((k : Int) < (n : Int)) = true := by simp; omega
      have g2' : decide (k < n) = true := by simpa using hlt
      have hkl : k < l.length := by rw [HN.out]; exact hlt
      obtain ⟨gs, cs, hs, hc1, hc2, hgB⟩ := row_posB HRow.out (by omega)
      obtain ⟨e1, e2, e3⟩ := Value.slice.inj hs
      subst e1
      have hgl := HVb.out gs rfl
      obtain ⟨q1, q2⟩ := refV_get l k l[k] (List.getElem?_eq_getElem hkl)
      have q1' : wr.cell? ⟨gs, k * 2, none⟩ = some (.string l[k].1) := by rw [HB.out.cell (p := ⟨gs, k * 2, none⟩) hgl]; exact row_cells HRow.out _ _ q1
      have q2' : wr.cell? ⟨gs, k * 2 + 1, none⟩ = some (.int .i64 l[k].2) := by rw [HB.out.cell (p := ⟨gs, k * 2 + 1, none⟩) hgl]; exact row_cells HRow.out _ _ q2
      have htk : l.take (k + 1) = l.take k ++ [l[k]] := List.take_succ_eq_append_getElem hkl
      have hsn := fun t (ht : got D l[k] = some t) => texts_snoc D (l.take k) l[k] t ts HTs.out ht
      rw [← htk] at hsn
      have HSn := Lib.hid hsn
      have HNo := Lib.hid (texts_none D l k l[k] (List.getElem?_eq_getElem hkl))
      have hok1 : okRef l[k] = true := List.all_eq_true.1 HOk.out _ (List.getElem_mem hkl)
      have htl := texts_len D (l.take k) (all_take l k HOk.out) ts HTs.out
      rw [List.length_take] at htl
      have htl2 : (Lib.byteCells (flatB ts)).length ≤ 12800 := by rw [byteCells_length, flatB_len]; omega
      have HTl := Lib.hid htl2
      have HTk := Lib.hid (tot_take l k hkl)
      have hx1 := tot_bd _ (all_take l k HOk.out)
      have hx2 := tot_le HOk.out k hkl
      rw [HT.out] at hx2
      obtain ⟨⟨id, len⟩, hr⟩ : ∃ r, l[k] = r := ⟨_, rfl⟩
      obtain ⟨A, hA⟩ : ∃ A, tot (l.take k) = A := ⟨_, rfl⟩
      rw [hr] at q1' q2' HSn HNo hok1 HTk hx2
      rw [hA] at HTk hx1 hx2 ⊢
      obtain ⟨y1, -⟩ := hx1
      replace hx2 : A + len ≤ T := hx2
      obtain ⟨hid, hl1, hlen⟩ := (okRef_iff _).1 hok1
      replace hid : id.size = 33 := hid
      replace hlen : len ≤ 128 := hlen
      replace hl1 : 1 ≤ len := hl1
      clear hs e2 e3 q1 q2 hr htk hsn htl htl2 hok1 hA
      have h128 : T ≤ 12800 := by omega
      have m1 : max (IntKind.i64.wrap (-A)) 0 = 0 := by rw [IntKind.wrap_i64]; omega
      have m2 : min (IntKind.i64.wrap (T - A)) len = len := by rw [IntKind.wrap_i64]; omega
      have g3 : decide ((0 : Int) < len) = true := by simp; omega
      have hwz := HB.out.size
      have hbx := HB.out.alloc (by omega) (.cells #[.string id, .int .i64 len] 25)
      have hb2 := (Below.refl wr.heap.size wr).alloc (Nat.le_refl _) (.cells #[.string id, .int .i64 len] 25)
      have HBx3 := Lib.hid hbx
      have x0 : (wr.alloc (.cells #[.string id, .int .i64 len] 25)).cell? ⟨wr.heap.size, 0, none⟩ = some (.string id) := Lib.cell_of_heap (heap_alloc_new wr _) 0
      have x1 : (wr.alloc (.cells #[.string id, .int .i64 len] 25)).cell? ⟨wr.heap.size, 1, none⟩ = some (.int .i64 len) := Lib.cell_of_heap (heap_alloc_new wr _) 1
      have HXl := Lib.hid (show wr.heap.size < (wr.alloc (.cells #[.string id, .int .i64 len] 25)).heap.size by simp)
      have hib1 := isB_still HI.out hb2
      obtain ⟨wx, hwx⟩ : ∃ wx, (wr.alloc (.cells #[.string id, .int .i64 len] 25)) = wx := ⟨_, rfl⟩
      obtain ⟨eb, heb⟩ : ∃ eb, wr.heap.size = eb := ⟨_, rfl⟩
      have HWx := Lib.hid hwx
      have HEb := Lib.hid heb
      rw [hwx] at x0 x1 HXl hib1 hbx
      rw [heb] at x0 x1 HXl
      have hxz := hbx.size
      have HX0 := Lib.hid x0
      have HX1 := Lib.hid x1
      have hat : ∀ u, Below wx.heap.size wx u → Below bb w u ∧ u.cell? ⟨xb, 0, none⟩ = some (.pointer (some ⟨sb, 0, none⟩)) ∧ xb < u.heap.size ∧ bb ≤ u.heap.size ∧ IsB bb bb (Lib.byteCells (flatB ts)) u := fun u hu => by
        have h1 : Below bb w u := hbx.trans (hu.mono (by omega))
        refine ⟨h1, ?_, by have := h1.size; omega, by have := h1.size; omega, isB_still hib1 hu⟩
        rw [h1.cell (p := ⟨xb, 0, none⟩) hxb]; exact HBx.out
      have hget : (∃ t, D id = some t ∧ (t.size : Int) = len) ∨ got D (id, len) = none := by
        unfold got
        cases hd : D id with
        | none => exact .inr rfl
        | some t =>
          by_cases e : (t.size : Int) = len
          · exact .inl ⟨t, rfl, e⟩
          · exact .inr (by simp only [if_neg e])
      rcases hget with ⟨t, hd, rfl⟩ | hd
      · have HCl := Lib.hid (fun u (hu : Below wx.heap.size wx u) => bytes1_ok (HSt.out u (hat u hu).1) hn (hat u hu).2.1 (hat u hu).2.2.1 (hat u hu).2.2.2.2 (hat u hu).2.2.2.1 (by have := HTl.out; omega) (id := id) (by omega) hd (by omega))
        have HS2 := Lib.hid (HSn.out t (got_ok hd rfl))
        have HAt := Lib.hid (fun u (hu : Below wx.heap.size wx u) => (hat u hu).1)
        clear hat hib1 hbx hb2 hwz hd hxz x0 x1 hwx heb
        go_wp2
        rw [HEb.out, HWx.out]
        obtain ⟨S, hS⟩ : ∃ S : World → Prop, ∀ u, S u ↔ Keep (fun _ => False) (wx) u := ⟨fun u => Keep (fun _ => False) (wx) u, fun _ => Iff.rfl⟩
        have HS := Lib.hid hS
        clear hS
        refine wp_region_whole 12 [(0, true), (1, true), (2, true), (3, true), (4, true), (5, true), (6, true), (7, true), (8, true), (9, true), (10, true), (11, true)] S (by kernel_rfl) (by kernel_rfl) ((HS.out _).2 (Keep.refl _ _).drew) ?_
        iterate 12
          first
            | (refine wpH_passed rfl (by rfl) (fun K hK => ?_); go_simp; refine hK _ ?_; clear hK K)
            | (first
                 | refine wpH_read rfl rfl (fun K hK => ?_)
                 | refine wpH_readw rfl (by rfl) (fun K hK => ?_)
               apply Exists.intro
               refine ⟨fun u hu => ?_, ?_⟩
               · have hu := (HS.out u).1 hu
                 have e1 : u.cell? ⟨eb, 1, none⟩ = some (.int .i64 (t.size : Int)) := by rw [hu.cell (p := ⟨eb, 1, none⟩) HXl.out (fun e => e)]; exact HX1.out
                 clear hu
                 go_simp
                 exact ⟨rfl, rfl⟩
               go_simp
               refine hK _ ?_
               clear hK K)
        refine wpH_nil ?_
        simp only [List.drop_succ_cons, List.drop_zero]
        clear S HS
        have hwy : Below wx.heap.size wx wx.drew := ⟨rfl, rfl, rfl, Nat.le_refl _, fun _ _ => rfl⟩
        have x0 : wx.drew.cell? ⟨eb, 0, none⟩ = some (.string id) := HX0.out
        have x1 : wx.drew.cell? ⟨eb, 1, none⟩ = some (.int .i64 (t.size : Int)) := HX1.out
        obtain ⟨wy, hwy2⟩ : ∃ wy, wx.drew = wy := ⟨_, rfl⟩
        rw [hwy2] at hwy x0 x1 ⊢
        have HWy := Lib.hid hwy
        clear hwy hwy2
        go_wp2_with (go_at_call 53; refine (HCl.out _ HWy.out).mono ?_; rintro e w4 ⟨rfl, hi4, hb4⟩
                     have HI4 := Lib.hid hi4
                     have HB4 := Lib.hid ((HAt.out _ HWy.out).trans hb4)
                     clear hi4 hb4)
        go_roundw
        case rel => exact ⟨k + 1, ts ++ [t], by omega, by go_num, by rw [HTk.out], HS2.out, by rw [flatB_snoc, byteCells_append]; have := HI4.out; rw [strCells_eq] at this; exact this, HB4.out⟩
        case measure => simp [intOf]; omega
      · have HCl := Lib.hid (fun u (hu : Below wx.heap.size wx u) => bytes1_bad (bb := bb) (HSt.out u (hat u hu).1) hn (hat u hu).2.1 (hat u hu).2.2.1 (id := id) (by omega) hd)
        have HN2 := Lib.hid (HNo.out hd)
        have HAt := Lib.hid (fun u (hu : Below wx.heap.size wx u) => And.intro (hat u hu).1 (hat u hu).2.2.2.1)
        clear hat hib1 hbx hb2 hwz hd hxz x0 x1 hwx heb
        go_wp2
        rw [HEb.out, HWx.out]
        obtain ⟨S, hS⟩ : ∃ S : World → Prop, ∀ u, S u ↔ Keep (fun _ => False) (wx) u := ⟨fun u => Keep (fun _ => False) (wx) u, fun _ => Iff.rfl⟩
        have HS := Lib.hid hS
        clear hS
        refine wp_region_whole 12 [(0, true), (1, true), (2, true), (3, true), (4, true), (5, true), (6, true), (7, true), (8, true), (9, true), (10, true), (11, true)] S (by kernel_rfl) (by kernel_rfl) ((HS.out _).2 (Keep.refl _ _).drew) ?_
        iterate 12
          first
            | (refine wpH_passed rfl (by rfl) (fun K hK => ?_); go_simp; refine hK _ ?_; clear hK K)
            | (first
                 | refine wpH_read rfl rfl (fun K hK => ?_)
                 | refine wpH_readw rfl (by rfl) (fun K hK => ?_)
               apply Exists.intro
               refine ⟨fun u hu => ?_, ?_⟩
               · have hu := (HS.out u).1 hu
                 have e1 : u.cell? ⟨eb, 1, none⟩ = some (.int .i64 len) := by rw [hu.cell (p := ⟨eb, 1, none⟩) HXl.out (fun e => e)]; exact HX1.out
                 clear hu
                 go_simp
                 exact ⟨rfl, rfl⟩
               go_simp
               refine hK _ ?_
               clear hK K)
        refine wpH_nil ?_
        simp only [List.drop_succ_cons, List.drop_zero]
        clear S HS
        have hwy : Below wx.heap.size wx wx.drew := ⟨rfl, rfl, rfl, Nat.le_refl _, fun _ _ => rfl⟩
        have x0 : wx.drew.cell? ⟨eb, 0, none⟩ = some (.string id) := HX0.out
        have x1 : wx.drew.cell? ⟨eb, 1, none⟩ = some (.int .i64 len) := HX1.out
        obtain ⟨wy, hwy2⟩ : ∃ wy, wx.drew = wy := ⟨_, rfl⟩
        rw [hwy2] at hwy x0 x1 ⊢
        have HWy := Lib.hid hwy
        clear hwy hwy2
        go_wp2_with (go_at_call 53; refine (HCl.out _ HWy.out).mono ?_; rintro e w4 ⟨rfl, hb4⟩
                     have HB4 := Lib.hid ((HAt.out _ HWy.out).1.trans (hb4.mono (HAt.out _ HWy.out).2))
                     clear hb4)
        go_ret
        exact ⟨HB4.out, .inl ⟨HN2.out, rfl⟩⟩
    · obtain rfl : k = n := by omega
      have g2 : decide ((k : Int) < (k : Int)) = false := by simp
      have hTk : l.take k = l := by rw [← HN.out, List.take_length]
      have hts := HTs.out
      rw [hTk] at hts ⊢
      have HTs2 := Lib.hid hts
      clear hTk hts
      go_wp2
      go_ret
      exact ⟨HB.out, .inr ⟨ts, HTs2.out, rfl, HI.out⟩⟩
end
end Go.Proofs.YtankngomgjlfkaaGreatDoor

namespace Go.Proofs.YtankngomgjlfkaaGreatDoor
open Go.RowKit Go.MapKept
attribute [local go_sem] gives givesH
set_option maxRecDepth 100000

def bytesOut (D : Dict) (l : RefL) : ByteArray × Int := if l.all okRef then (match texts D l with | some ts => (⟨(flatB ts).toArray⟩, 0) | none => (⟨#[]⟩, 6)) else (⟨#[]⟩, 1)
set_option maxHeartbeats 8000000 in
theorem recipe_bytes {w : World} {sb : Nat} {s : Sto} {D : Dict} {ni nl : Nat} (h : StAt w sb s D ni nl) (hn : ni ≤ 40 ∧ nl ≤ 40) {B : Nat} {v : Value} {l : RefL} (hrow : w.ownsRow B 25 2 v l.length (refV l)) (hl : l.length ≤ 100) :
    Calls Tryz.prog 14 #[.pointer (some ⟨sb, 0, none⟩), v, .int .i64 0, .int .i64 1073741824] w fun e w' => e = .returned (.tuple #[.string (bytesOut D l).1, .int .i64 (bytesOut D l).2]) ∧ Below w.heap.size w w' := by
  have HW := Lib.hid (fun u (hb : Below w.heap.size w u) => waits_any (h.still hb) hn)
  have HR := Lib.hid (fun u (hb : Below w.heap.size w u) => rright_any ((Keep.still hb).ownsRow hrow (fun g _ e => e)) hl)
  have hvl := fun g (e : v.ownBlock = some g) => (hrow.lt g e).2
  have hmf : ∀ (fn : Fn) (first cap : Array Value) (w : World), (Instr.makeFunc fn first cap).run Tryz.prog w = .ok (.func fn first cap) w := fun _ _ _ _ => rfl
  obtain ⟨sa, sc, hv⟩ := slice_formB hrow
  subst hv
  have HVl := Lib.hid hvl
  have HRow := Lib.hid hrow
  have HSt := Lib.hid h
  have HL := Lib.hid (show l.length ≤ 100 from hl)
  obtain ⟨n, hn2⟩ : ∃ n, l.length = n := ⟨_, rfl⟩
  have HN := Lib.hid hn2
  rw [hn2] at HRow HR hl ⊢
  have hb0 : Below w.heap.size w (w.alloc (.cells #[.pointer (some ⟨sb, 0, none⟩)] 26)) := (Below.refl _ _).alloc (Nat.le_refl _) _
  have HB0 := Lib.hid hb0
  have HE0 := Lib.hid (heap_alloc_new w (.cells #[.pointer (some ⟨sb, 0, none⟩)] 26))
  have c0 : (w.alloc (.cells #[.pointer (some ⟨sb, 0, none⟩)] 26)).cell? ⟨w.heap.size, 0, none⟩ = some (.pointer (some ⟨sb, 0, none⟩)) := Lib.cell_of_heap HE0.out 0
  have hcase : l.all okRef = true ∨ l.all okRef = false := by cases l.all okRef <;> simp
  clear h hrow hn2 hb0 hvl
  go_enter Tryz.func14, Tryz.ntmps14
  go_wp2_with (first
    | (go_at_call 44; refine (HW.out _ HB0.out).mono ?_; rintro e w1 ⟨⟨m, rfl⟩, hb1⟩
       have HB1 := Lib.hid (HB0.out.trans (hb1.mono (by simp)))
       have HE1 := Lib.hid ((Keep.still hb1).at HE0.out (fun e => e))
       clear hb1)
    | (go_at_call 48; refine (HR.out _ HB1.out).mono ?_; rintro e w2 ⟨rfl, hb2⟩
       have HB2 := Lib.hid (HB1.out.trans (hb2.mono HB1.out.size))
       have HE2 := Lib.hid ((Keep.still hb2).at HE1.out (fun e => e))
       clear hb2
       rcases hcase with hok | hok
       all_goals
         rw [hok]
         have HOk := Lib.hid hok
         clear hok))
  · have hz2 : w.heap.size < w2.heap.size := (Array.getElem?_eq_some_iff.1 HE2.out).1
    have hbA := HB2.out.alloc HB2.out.size (.cells #[.pointer none, .slice none 0 0] 118)
    have hA := asked_any (w := w2.alloc (.cells #[.pointer none, .slice none 0 0] 118)) (sb := sb) (xb := w.heap.size) (bb := w2.heap.size) (s := s) (D := D) (v := .slice sa n sc) (l := l) (B := B)
      (fun u hu => HSt.out.still (hbA.trans (hu.mono (Nat.le_of_lt hz2)))) hn
      (Lib.cell_of_heap (show (w2.alloc (.cells #[.pointer none, .slice none 0 0] 118)).heap[w.heap.size]? = some (.cells #[.pointer (some ⟨sb, 0, none⟩)] 26 (0, 0)) by rw [Below.heap_alloc _ _ _ hz2]; exact HE2.out) 0)
      hz2 (Lib.fresh_isBuilder _ _ w2) (by simp) (by rw [HN.out]; exact (Keep.still hbA).ownsRow HRow.out (fun g _ e => e))
      (fun g e => Nat.lt_trans (by rw [← HN.out] at e; exact HVl.out g e) hz2) HL.out HOk.out
    have HA := Lib.hid hA
    have HBA := Lib.hid hbA
    have HZ := Lib.hid hz2
    clear hA hbA hz2
    go_at_call 52
    refine (HA.out).mono ?_
    rintro e w4 ⟨hb4, ⟨hts, rfl⟩ | ⟨ts, hts, rfl, hib⟩⟩
    · have HTs := Lib.hid hts
      have HB4 := Lib.hid (HBA.out.trans (hb4.mono (Nat.le_of_lt HZ.out)))
      clear hts hb4
      go_wp2
      go_ret2
      refine ⟨?_, HB4.out⟩
      unfold bytesOut
      rw [if_pos HOk.out, HTs.out]
      rfl
    · have HTs := Lib.hid hts
      have HB4 := Lib.hid (HBA.out.trans (hb4.mono (Nat.le_of_lt HZ.out)))
      have HSt4 := Lib.hid (Tryz.Builder_String_any_k w2.heap.size w2.heap.size (flatB ts) w4 (Lib.IsBuilderF.of hib) (by have := hb4.size; simp at this; omega))
      clear hts hb4 hib
      go_wp2_with (go_at_call 55; refine (HSt4.out).mono ?_; rintro e w5 ⟨rfl, -, hb5, -⟩
                   have HB5 := Lib.hid (HB4.out.trans (hb5.mono (Nat.le_of_lt HZ.out)))
                   clear hb5)
      go_ret2
      refine ⟨?_, HB5.out⟩
      unfold bytesOut
      rw [if_pos HOk.out, HTs.out]
      rfl
  · go_ret2
    refine ⟨?_, HB2.out⟩
    unfold bytesOut
    rw [if_neg (by rw [HOk.out]; decide)]
    rfl
end Go.Proofs.YtankngomgjlfkaaGreatDoor

namespace Go.Proofs.YtankngomgjlfkaaGreatDoor
open Go.RowKit Go.MapKept
attribute [local go_sem] gives givesH
set_option maxRecDepth 100000

theorem chunksAt_any (br : Nat) (w : World) :
    Calls Tryz.prog 40 #[.pointer (some ⟨br, 0, none⟩)] w fun e w' => e = .returned (.pointer (some ⟨w.heap.size + 2, 0, none⟩)) ∧ w' = ((w.alloc (.cells #[.pointer (some ⟨br, 0, none⟩), .int .i64 0] 188)).alloc (.cells #[.pointer (some ⟨br, 0, none⟩), .int .i64 1] 188)).alloc (.cells #[.pointer (some ⟨br, 0, none⟩), .pointer (some ⟨w.heap.size, 0, none⟩), .pointer (some ⟨w.heap.size + 1, 0, none⟩)] 179) := by
  have T0 : ∀ u : World, Calls Tryz.prog 33 #[.pointer (some ⟨br, 0, none⟩), .int .i64 0] u fun e w' => e = .returned (.pointer (some ⟨u.heap.size, 0, none⟩)) ∧ u.alloc (.cells #[.pointer (some ⟨br, 0, none⟩), .int .i64 0] 188) = w' := fun u => (treeAt_any br 0 u).mono fun e w' ⟨a, b⟩ => ⟨a, b.symm⟩
  have T1 : ∀ u : World, Calls Tryz.prog 33 #[.pointer (some ⟨br, 0, none⟩), .int .i64 1] u fun e w' => e = .returned (.pointer (some ⟨u.heap.size, 0, none⟩)) ∧ u.alloc (.cells #[.pointer (some ⟨br, 0, none⟩), .int .i64 1] 188) = w' := fun u => (treeAt_any br 1 u).mono fun e w' ⟨a, b⟩ => ⟨a, b.symm⟩
  have HT0 := Lib.hid (T0 w)
  have HT1 := Lib.hid T1
  clear T0 T1
  go_enter Tryz.func40, Tryz.ntmps40
  go_wp2_with (fail)
  refine (HT0.out).mono ?_
  rintro e _ ⟨rfl, rfl⟩
  go_wp2_with (fail)
  refine (HT1.out _).mono ?_
  rintro e _ ⟨rfl, rfl⟩
  go_wp2
  go_ret
  refine ⟨?_, ?_⟩
  · simp
  · simp
theorem rootUp_zeros (k i : Nat) : rootUp (zeros 512) k i = 0 := by
  induction i with
  | zero => rfl
  | succ i ih => rw [rootUp_succ, ih, byteN_zeros]
set_option maxHeartbeats 1000000 in
theorem store_any (w : World) :
    Calls Tryz.prog 10 #[.int .i64 200] w fun e w' => ∃ sb s, e = .returned (.pointer (some ⟨sb, 0, none⟩)) ∧ StAt w' sb s (fun _ => none) 0 0 ∧ (∀ g, s.foot g → w.heap.size ≤ g) ∧ Below w.heap.size w w' := by
  have HW := Lib.hid (wide_any 200 (by omega) (by omega) w)
  go_enter Tryz.func10, Tryz.ntmps10
  go_wp2_with (first
    | (go_at_call 39; refine (HW.out).mono ?_; rintro e w1 ⟨bd, bl, rfl, hv, hb1⟩
       have HV := Lib.hid (begin_any hv)
       have HB1 := Lib.hid hb1
       clear hv hb1)
    | (go_at_call 42; refine (HV.out).mono ?_; rintro e w2 ⟨bt, T, rfl, hT, hA, hbt, hb2⟩
       have hTn : T.n = 200 := by rw [hT]; rfl
       have HO := Lib.hid (of_any hA (by omega))
       have HB2 := Lib.hid (HB1.out.trans (hb2.mono HB1.out.size))
       have HT := Lib.hid hT
       have HBt := Lib.hid hbt
       have HTn := Lib.hid hTn
       clear hT hA hbt hb2 hTn)
    | (go_at_call 41; refine (HO.out).mono ?_; rintro e w3 ⟨br, R, rfl, hR, hRb, hRT, hp, hbr, hb3⟩
       have HB3 := Lib.hid (HB2.out.trans (hb3.mono HB2.out.size))
       have HR := Lib.hid hR
       have HR2 := Lib.hid (And.intro hRb (And.intro hRT (And.intro hp hbr)))
       clear hR hRb hRT hp hbr hb3)
    | (go_at_call 40; refine (chunksAt_any _ _).mono ?_; rintro e w4 ⟨rfl, hw4⟩
       skip))
  subst hw4
  go_ret
  have hF : Fresh R 200 := ⟨by rw [HR2.out.2.1]; exact HTn.out, by rw [HR2.out.2.1, HT.out]; rfl, fun i => by rw [HR2.out.2.1, HT.out]; rfl, by rw [HR2.out.2.2.1, HTn.out]⟩
  have hp : R.pages = 198 := by rw [hF.pages]; decide
  have hr : ∀ k, R.root k = 0 := fun k => by unfold RoomS.root; rw [hF.home]; exact rootUp_zeros k 8
  obtain ⟨n1, n2, n3, n4⟩ := SealG.new3 w3 (.cells #[.pointer (some ⟨br, 0, none⟩), .int .i64 0] 188) (.cells #[.pointer (some ⟨br, 0, none⟩), .int .i64 1] 188) (.cells #[.pointer (some ⟨br, 0, none⟩), .pointer (some ⟨w3.heap.size, 0, none⟩), .pointer (some ⟨w3.heap.size + 1, 0, none⟩)] 179)
  have hlt : ∀ k, R.foot br k → k < w3.heap.size := fun k hk => by
    rcases hk with e | e
    · rw [e]; exact (Array.getElem?_eq_some_iff.1 HR.out.cells).1
    · exact HR.out.tx.foot_lt e
  refine ⟨_, ⟨br, w3.heap.size, w3.heap.size + 1, R, [], [], [], [], []⟩, rfl, ⟨n3, ⟨n1⟩, ⟨n2⟩, HR.out.still n4, fun e => ?_, fun e => ?_, fun e => ?_, ?_, ?_⟩, fun g hg => ?_, HB3.out.trans (n4.mono HB3.out.size)⟩
  · exact absurd (hlt _ e) (by omega)
  · exact absurd (hlt _ e) (Nat.lt_irrefl _)
  · exact absurd (hlt _ e) (Nat.not_lt.2 (Nat.le_succ _))
  · exact ⟨.inl ⟨hr 0, rfl, rfl⟩, .inl ⟨hr 1, rfl, rfl⟩, List.nodup_nil, fun q _ e => (by rw [hF.has q] at e; cases e), fun q e => (by cases e), fun id t e => (by cases e), fun _ _ => rfl, fun x e => (by cases e)⟩
  · exact ⟨Nat.le_refl _, Nat.le_refl _, Nat.le_refl _, hp, by show R.T.puts.length ≤ _; rw [hF.puts]; exact Nat.zero_le _, by rw [hr 2]; exact Nat.le_refl _⟩
  · rcases hg with e | e
    · rw [e]; exact Nat.le_trans HB2.out.size HR2.out.2.2.2
    · rw [HR2.out.1, HR2.out.2.1, HT.out] at e
      have h1 := HB1.out.size
      have h2 := HBt.out
      rcases e with e | e | e | e | ⟨i, v, e, _⟩
      · omega
      · rw [e]; exact h1
      · exact e.1
      · cases e
      · cases e
end Go.Proofs.YtankngomgjlfkaaGreatDoor

namespace Go.Proofs.YtankngomgjlfkaaGreatDoor
open Go.RowKit Go.MapKept
attribute [local go_sem] gives givesH
set_option maxRecDepth 100000

def RefsAt (w : World) (B : Nat) (v : Value) (A : RefL) : Prop :=
  A.length ≤ maxLen ∧ ((v = .slice none 0 0 ∧ A = []) ∨ ∃ ad b off cap, v = .slice (some ad) A.length cap ∧ (0 < A.length → ad = ⟨b, off, none⟩ ∧ b < B) ∧
    ∀ (k : Nat) x, A[k]? = some x → w.cell? ⟨b, off + k * 2, none⟩ = some (.string x.1) ∧ w.cell? ⟨b, off + k * 2 + 1, none⟩ = some (.int .i64 x.2))
theorem RefsAt.form {w : World} {B : Nat} {v : Value} {A : RefL} (h : RefsAt w B v A) : ∃ a b off cap, v = .slice a A.length cap ∧ A.length ≤ maxLen ∧ (0 < A.length → a = some ⟨b, off, none⟩ ∧ b < B) ∧
    ∀ (k : Nat) x, A[k]? = some x → w.cell? ⟨b, off + k * 2, none⟩ = some (.string x.1) ∧ w.cell? ⟨b, off + k * 2 + 1, none⟩ = some (.int .i64 x.2) := by
  obtain ⟨h0, ⟨h1, h2⟩ | ⟨ad, b, off, cap, h1, hb, hc⟩⟩ := h
  · subst h2
    exact ⟨none, 0, 0, 0, h1, h0, fun h => absurd h (by simp), fun k x hx => by simp at hx⟩
  · exact ⟨some ad, b, off, cap, h1, h0, fun h => ⟨by rw [(hb h).1], (hb h).2⟩, hc⟩
theorem RefsAt.still {w u : World} {v : Value} {A : RefL} {B : Nat} (h : RefsAt w B v A) (hb : Below B w u) : RefsAt u B v A := by
  obtain ⟨h0, h1 | ⟨ad, b, off, cap, h1, h3, h4⟩⟩ := h
  · exact ⟨h0, .inl h1⟩
  · refine ⟨h0, .inr ⟨ad, b, off, cap, h1, h3, fun k x hx => ?_⟩⟩
    have hl : 0 < A.length := by
      cases A with
      | nil => simp at hx
      | cons y t => simp
    obtain ⟨h5, h6⟩ := h4 k x hx
    rw [hb.cell (p := ⟨b, off + k * 2, none⟩) (h3 hl).2, hb.cell (p := ⟨b, off + k * 2 + 1, none⟩) (h3 hl).2]
    exact ⟨h5, h6⟩
theorem addr_add (b off j : Nat) : (⟨b, off, none⟩ : Addr).add j = ⟨b, off + j, none⟩ := by simp [Addr.add]
def Src2 (w : World) (v : Value) (M : RefL) : Prop :=
  (v = .slice none 0 0 ∧ M = []) ∨ ∃ ad c, v = .slice (some ad) M.length c ∧ ∀ j u, (refV M)[j]? = some u → w.cell? (ad.add j) = some u
theorem refV_inv (M : RefL) (j : Nat) (u : Value) (h : (refV M)[j]? = some u) : ∃ q r, M[q]? = some r ∧ (j = q * 2 ∧ u = .string r.1 ∨ j = q * 2 + 1 ∧ u = .int .i64 r.2) := by
  induction M generalizing j with
  | nil => simp [refV] at h
  | cons x M ih =>
    have e : refV (x :: M) = Value.string x.1 :: Value.int .i64 x.2 :: refV M := rfl
    rw [e] at h
    match j, h with
    | 0, h => exact ⟨0, x, rfl, .inl ⟨rfl, by simpa using h.symm⟩⟩
    | 1, h => exact ⟨0, x, rfl, .inr ⟨rfl, by simpa using h.symm⟩⟩
    | j + 2, h =>
      obtain ⟨q, r, h1, h2⟩ := ih j (by simpa using h)
      exact ⟨q + 1, r, by simpa using h1, h2.elim (fun ⟨a, b⟩ => .inl ⟨by omega, b⟩) (fun ⟨a, b⟩ => .inr ⟨by omega, b⟩)⟩
theorem refV_length (M : RefL) : (refV M).length = M.length * 2 := by
  induction M with
  | nil => rfl
  | cons x M ih =>
    have e : refV (x :: M) = Value.string x.1 :: Value.int .i64 x.2 :: refV M := rfl
    rw [e, List.length_cons, List.length_cons, ih, List.length_cons]
    omega
theorem refV_append (a b : RefL) : refV (a ++ b) = refV a ++ refV b := by unfold refV; rw [List.flatMap_append]
theorem refV_one (M : RefL) : ∀ u ∈ refV M, u.oneCell' = true := by
  intro u hu
  unfold refV at hu
  rw [List.mem_flatMap] at hu
  obtain ⟨r, -, h⟩ := hu
  simp at h
  rcases h with rfl | rfl <;> rfl
theorem src_of_refs {w : World} {v : Value} {A : RefL} {B : Nat} (h : RefsAt w B v A) : Src2 w v A := by
  obtain ⟨h0, h1 | ⟨ad, b, off, cap, h1, h3, h4⟩⟩ := h
  · exact .inl h1
  · refine .inr ⟨ad, cap, h1, fun j u hu => ?_⟩
    obtain ⟨q, r, hq, h5⟩ := refV_inv A j u hu
    have hl : 0 < A.length := by
      cases A with
      | nil => simp at hq
      | cons y t => simp
    obtain ⟨rfl, -⟩ := h3 hl
    obtain ⟨h6, h7⟩ := h4 q r hq
    rcases h5 with ⟨rfl, rfl⟩ | ⟨rfl, rfl⟩
    · rw [addr_add]; exact h6
    · rw [addr_add]; exact h7
theorem src_of_row {w : World} {v : Value} {M : RefL} {B : Nat} (h : w.ownsRow B 25 2 v M.length (refV M)) : Src2 w v M := by
  have h0 := h
  rcases h.2 with ⟨rfl, hn⟩ | ⟨g, cap, cur, rfl, -⟩
  · exact .inl ⟨rfl, List.length_eq_zero_iff.1 hn⟩
  · refine .inr ⟨⟨g, 0, none⟩, cap, rfl, fun j u hu => ?_⟩
    have := row_cells h0 j u hu
    rw [addr_add, Nat.zero_add]
    exact this
theorem wpList_append_refs {w : World} {ops : Array Oper} {rest : List Oper} {o : Oper} {a : Act} {Q : Exit → Act → World → Prop} (hgd : o.guard = none) (s x : Operand)
    (ho : o.op = .call { callee := .builtin .append, args := #[s, x], argTypes := #[22, 22] }) (B : Nat) (v : Value) (L : RefL) (hs : a.eval s = v) (hown : w.ownsRow B 25 2 v L.length (refV L))
    (xv : Value) (hx : a.eval x = xv) (M : RefL) (hM : Src2 w xv M) (hle : L.length + M.length ≤ 1000) (hB : B ≤ w.heap.size)
    (h : ∀ v' w', w'.ownsRow B 25 2 v' (L ++ M).length (refV (L ++ M)) → Below B w w' → wpList Tryz.prog ops Q rest (a.put o.dst v') w') : wpList Tryz.prog ops Q (o :: rest) a w := by
  obtain ⟨i0, hi, hz0, hz1, hz2⟩ := info_parts infoRef
  rcases hM with ⟨h1, h2⟩ | ⟨ad, c, h1, h2⟩
  · subst h2
    refine wpList_append_own_none hgd s x _ ho B 25 i0 2 Tryz.underlying22 hi v _ _ hs hown (by rw [hx, h1]) ?_
    exact h v w (by rw [List.append_nil]; exact hown) (Below.refl _ _)
  · refine wpList_append_own_at w hgd s x _ ho B 25 i0 (.agg #[.string ⟨#[]⟩, .int .i64 0]) 2 24 Tryz.underlying22 hi hz0 hz1 hz2 (by rfl) (by decide) v _ _ hs hown ad M.length c (refV M) (by rw [hx, h1]) (refV_length M) h2 (refV_one M) (by unfold maxLen; omega) (by omega) hB ?_
    intro v' w' hown' hg _ _
    refine h v' w' (by rw [List.length_append, refV_append]; exact hown') ?_
    exact ((Keep.refl (fun q => v.ownBlock = some q) w).grown hg (fun q _ e => e)).below hB (fun i hi e => by have := (hown.lt i e).1; omega)
theorem row_empty (w : World) (t : TypeId) : (w.alloc (.cells #[] t)).ownsRow w.heap.size t 2 (.slice (some ⟨w.heap.size, 0, none⟩) 0 0) 0 [] :=
  ⟨rfl, .inr ⟨w.heap.size, 0, #[], rfl, Nat.le_refl _, heap_alloc_new w _, Nat.le_refl _, by unfold maxLen; omega, rfl, rfl⟩⟩
theorem texts_met {D : Dict} {l : RefL} {ls : List ByteArray} (h : Met D l ls) : texts D l = some ls := by
  induction l generalizing ls with
  | nil =>
    have := h.len
    cases ls with
    | nil => rfl
    | cons _ _ => simp at this
  | cons r l ih =>
    cases ls with
    | nil => have := h.len; simp at this
    | cons p ls =>
      obtain ⟨h1, h2, h3⟩ := h.one 0 r p rfl rfl
      have ht : Met D l ls := ⟨by have := h.len; simpa using this, fun j x y hx hy => h.one (j + 1) x y (by simpa using hx) (by simpa using hy)⟩
      rw [texts, show got D r = some p from by unfold got; rw [h3]; simp only; rw [if_pos h2.symm], ih ht]
      rfl
theorem met_ok {D : Dict} {l : RefL} {ls : List ByteArray} (h : Met D l ls) (hp : ∀ p ∈ ls, 1 ≤ p.size ∧ p.size ≤ 128) : l.all okRef = true := by
  rw [List.all_eq_true]
  intro r hr
  obtain ⟨j, hj, e⟩ := List.getElem_of_mem hr
  have hj2 : j < ls.length := by rw [← h.len]; exact hj
  obtain ⟨h1, h2, h3⟩ := h.one j r ls[j] (by rw [List.getElem?_eq_getElem hj, e]) (List.getElem?_eq_getElem hj2)
  have := hp _ (List.getElem_mem hj2)
  rw [okRef_iff]
  exact ⟨h1, by omega, by omega⟩
theorem bl_flatB (ts : List ByteArray) : SealG.bl ⟨(flatB ts).toArray⟩ = ts.flatMap SealG.bl := by
  induction ts with
  | nil => rfl
  | cons t ts ih =>
    have e : flatB (t :: ts) = t.data.toList ++ flatB ts := rfl
    unfold SealG.bl at *
    simp only [e, List.flatMap_cons, List.map_append]
    rw [← ih]
theorem outs (D : Dict) (l : RefL) : (∃ b, sealOut D l = (SealG.sealL (SealG.bl b), 0) ∧ bytesOut D l = (b, 0) ∧ b.size ≤ 128 * l.length) ∨ ∃ e : Int, (e = 1 ∨ e = 6) ∧ sealOut D l = (SealG.sealL [], e) ∧ (bytesOut D l).2 = e := by
  unfold sealOut bytesOut
  cases h : l.all okRef with
  | false => exact .inr ⟨1, .inl rfl, by simp, by simp⟩
  | true =>
    cases ht : texts D l with
    | none => exact .inr ⟨6, .inr rfl, by simp, by simp⟩
    | some ts =>
      refine .inl ⟨⟨(flatB ts).toArray⟩, by simp [bl_flatB], by simp, ?_⟩
      have h1 := texts_len D l h ts ht
      rw [← flatB_len] at h1
      exact h1
end Go.Proofs.YtankngomgjlfkaaGreatDoor

namespace Go.Proofs.YtankngomgjlfkaaGreatDoor
open Go.RowKit Go.MapKept
attribute [local go_sem] gives givesH
set_option maxRecDepth 100000

theorem met_seal {D : Dict} {l : RefL} {ls : List ByteArray} {text : ByteArray} (h : Met D l ls) (hp : PartsOf text ls) : sealOut D l = (SealG.sealL (SealG.bl text), 0) := by
  have e : (⟨(flatB ls).toArray⟩ : ByteArray) = text := by
    have : flatB ls = text.data.toList := hp.cat
    rw [this]
  unfold sealOut
  rw [if_pos (met_ok h hp.part), texts_met h, ← e, bl_flatB]
set_option maxHeartbeats 16000000 in
theorem sealrecipes_walk {text : ByteArray} {v : Value} {A : RefL} (w : World) (h : RefsAt w w.heap.size v A) :
    Calls Tryz.prog 3 #[.string text, v] w fun e w' => e = .returned (.bool true) ∧ Below w.heap.size w w' := by
  have H1 := Lib.hid (SealG.awake_any w)
  have HA := Lib.hid h
  obtain ⟨pa, pb, po, pc, hv, hp63, hpp, hpc⟩ := h.form
  clear h
  subst hv
  obtain ⟨pl, hpl⟩ : ∃ pl, A.length = pl := ⟨_, rfl⟩
  rw [hpl] at hpp hp63 ⊢
  unfold maxLen at hp63
  have HPp := Lib.hid hpp
  have HPc := Lib.hid hpc
  have HPl := Lib.hid hpl
  clear hpp hpc hpl
  by_cases c1 : 600 < text.size
  · have d1 : decide ((600 : Int) < (text.size : Int)) = true := by simp; omega
    have d1' : decide (600 < text.size) = true := by simpa using c1
    go_enter Tryz.func3, Tryz.ntmps3
    go_wp2_with (go_at_call 9; refine (H1.out).mono ?_; rintro e w1 ⟨rfl, hb1⟩)
    go_ret
    exact ⟨rfl, hb1⟩
  have d1 : decide ((600 : Int) < (text.size : Int)) = false := by simp; omega
  have d1' : decide (600 < text.size) = false := by simpa using c1
  by_cases c2 : 10 < pl
  · have d2 : decide ((10 : Int) < (pl : Int)) = true := by simp; omega
    have d2' : decide (10 < pl) = true := by simpa using c2
    go_enter Tryz.func3, Tryz.ntmps3
    go_wp2_with (go_at_call 9; refine (H1.out).mono ?_; rintro e w1 ⟨rfl, hb1⟩)
    go_ret
    exact ⟨rfl, hb1⟩
  have d2 : decide ((10 : Int) < (pl : Int)) = false := by simp; omega
  have d2' : decide (10 < pl) = false := by simpa using c2
  go_enter Tryz.func3, Tryz.ntmps3
  go_wp2_with (go_at_call 9; refine (H1.out).mono ?_; rintro e w1 ⟨rfl, hb1⟩
               have HB1 := Lib.hid hb1
               clear hb1)
  go_loopw [29] (fun i wr => ∃ k, k ≤ pl ∧ i = .int .i64 (k : Int) ∧ Below w.heap.size w wr) (fun i _ => pl - (intOf i).toNat)
  case atStart => exact ⟨0, by omega, rfl, HB1.out⟩
  case round =>
    obtain ⟨k, hk, rfl, hb⟩ := hrel
    have HB := Lib.hid hb
    clear hb
    by_cases hlt : k < pl
    · have g2 : decide ((k : Int) < (pl : Int)) = true := by simp; omega
      have g2' : decide (k < pl) = true := by simpa using hlt
      obtain ⟨rfl, hbl⟩ := HPp.out (by omega)
      obtain ⟨⟨id, len⟩, hx⟩ : ∃ x, A[k]? = some x := ⟨_, List.getElem?_eq_getElem (by rw [HPl.out]; exact hlt)⟩
      obtain ⟨q0, q1⟩ := HPc.out k _ hx
      rw [← HB.out.cell (p := ⟨pb, po + k * 2, none⟩) hbl] at q0
      rw [← HB.out.cell (p := ⟨pb, po + k * 2 + 1, none⟩) hbl] at q1
      simp only at q0 q1
      have hbx := Lib.hid (HB.out.alloc HB.out.size (.cells #[.string id, .int .i64 len] 25))
      have hk0 : (0 : Int) ≤ (k : Int) := by omega
      have hk1 : (k : Int) < (pl : Int) := by omega
      clear hx
      by_cases c3 : 60 < id.size
      · have d3 : decide ((60 : Int) < (id.size : Int)) = true := by simp; omega
        have d3' : decide (60 < id.size) = true := by simpa using c3
        go_wp2
        go_ret
        exact ⟨rfl, hbx.out⟩
      · have d3 : decide ((60 : Int) < (id.size : Int)) = false := by simp; omega
        have d3' : decide (60 < id.size) = false := by simpa using c3
        go_wp2
        go_roundw
        case rel => exact ⟨k + 1, by omega, by go_num, hbx.out⟩
        case measure => simp [intOf]; omega
    · obtain rfl : k = pl := by omega
      have g2 : decide ((k : Int) < (k : Int)) = false := by simp
      have HS := Lib.hid (store_any wr)
      have ht6 : text.size ≤ 600 := by omega
      go_wp2_with (first
        | (go_at_call 10; refine (HS.out).mono ?_; rintro e w2 ⟨sb, s, rfl, hst, hft, hb2⟩
           have HBu := Lib.hid (build_st hst text ht6)
           have HB2 := Lib.hid (HB.out.trans (hb2.mono HB.out.size))
           have HF2 := Lib.hid (fun g (e : s.foot g) => Nat.le_trans HB.out.size (hft g e))
           clear hst hft hb2)
        | (go_at_call 11; refine (HBu.out).mono ?_; rintro e w3 ⟨v3, l, ls, s', D', kk, rfl, hpt, hmet, hrow, hap, hst, hkk, hss⟩
           have hb3 := HB2.out.trans (hss.keep.below HB2.out.size (fun i hi e => by have := HF2.out i e; omega))
           have hln : l.length ≤ 38 := by rw [hmet.len]; have := hpt.few; omega
           have hr1 := recipe_seal hst ⟨by omega, by omega⟩ hrow (by omega)
           rw [met_seal hmet hpt] at hr1
           have HR1 := Lib.hid hr1
           have HB3 := Lib.hid hb3
           have HSt := Lib.hid hst
           have HRow := Lib.hid hrow
           have HLn := Lib.hid hln
           clear hpt hmet hrow hap hst hss hb3 hln hr1)
        | (go_at_call 12; refine (HR1.out).mono ?_; rintro e w4 ⟨he, hb4⟩
           rw [sealL_agg] at he
           unfold sealC at he
           subst he
           have HB4 := Lib.hid hb4
           clear hb4))
      have hx4 := heap_alloc_new w4 (.cells #[.int .i64 (SealG.gs (SealG.bl text)).1, .int .i64 (SealG.gs (SealG.bl text)).2, .int .u32 (crc.check (SealG.bl text) : Nat), .int .i64 ((SealG.bl text).length : Nat)] 33)
      have hb5 := HB4.out.alloc HB4.out.size (.cells #[.int .i64 (SealG.gs (SealG.bl text)).1, .int .i64 (SealG.gs (SealG.bl text)).2, .int .u32 (crc.check (SealG.bl text) : Nat), .int .i64 ((SealG.bl text).length : Nat)] 33)
      obtain ⟨L, hL⟩ : ∃ L, SealG.bl text = L := ⟨_, rfl⟩
      have HOf := Lib.hid (fun u => SealG.refOf_seal text (by omega) u)
      rw [hL] at hx4 hb5 HOf ⊢
      obtain ⟨xb, hxb⟩ : ∃ xb, w4.heap.size = xb := ⟨_, rfl⟩
      obtain ⟨wx, hwx⟩ : ∃ wx, (w4.alloc (.cells #[.int .i64 (SealG.gs L).1, .int .i64 (SealG.gs L).2, .int .u32 (crc.check L : Nat), .int .i64 (L.length : Nat)] 33)) = wx := ⟨_, rfl⟩
      rw [hwx, hxb] at hx4
      rw [hwx] at hb5
      have HX4 := Lib.hid hx4
      have HB5 := Lib.hid hb5
      clear hx4 hb5 hL
      rw [hxb, hwx]
      obtain ⟨S, hS⟩ : ∃ S : World → Prop, ∀ u, S u ↔ Keep (fun _ => False) (wx) u := ⟨fun u => Keep (fun _ => False) (wx) u, fun _ => Iff.rfl⟩
      have HS := Lib.hid hS
      clear hS
      refine wp_region_whole 12 [(0, true), (1, true), (2, true), (3, true), (4, true), (5, true), (6, true), (7, true), (8, true), (9, false), (10, true), (11, true)] S (by kernel_rfl) (by kernel_rfl) ((HS.out _).2 (Keep.refl _ _).drew) ?_
      iterate 9
        first
          | (refine wpH_passed rfl (by rfl) (fun K hK => ?_); go_simp; refine hK _ ?_; clear hK K)
          | (first
               | refine wpH_read rfl rfl (fun K hK => ?_)
               | refine wpH_readw rfl (by rfl) (fun K hK => ?_)
             apply Exists.intro
             refine ⟨fun u hu => ?_, ?_⟩
             · have hu := (HS.out u).1 hu
               obtain ⟨⟨d0, d1, d2, d3⟩, -⟩ := SealG.cells4Of (hu.at HX4.out (fun e => e))
               clear hu
               go_simp
               exact ⟨rfl, rfl⟩
             go_simp
             refine hK _ ?_
             clear hK K)
      first | refine wpH_do rfl rfl (fun K hK => ?_) | refine wpH_dow rfl (by rfl) (fun K hK => ?_)
      go_simp
      go_at_call 13
      refine (HOf.out _).mono ?_
      rintro e w6 ⟨he, hb6⟩
      rw [sealL_agg] at he
      unfold sealC at he
      subst he
      have hb6' : Below wx.heap.size wx w6 := ⟨hb6.os, hb6.tape, hb6.output, hb6.size, hb6.block⟩
      have HB6 := Lib.hid hb6'
      refine hK _ _ ((HS.out _).2 (Keep.ofBelow hb6')) ?_
      clear hK K hb6 hb6'
      iterate 2
        first
          | (refine wpH_passed rfl (by rfl) (fun K hK => ?_); go_simp; refine hK _ ?_; clear hK K)
          | (first
               | refine wpH_read rfl rfl (fun K hK => ?_)
               | refine wpH_readw rfl (by rfl) (fun K hK => ?_)
             apply Exists.intro
             refine ⟨fun u hu => ?_, ?_⟩
             · have hu := (HS.out u).1 hu
               obtain ⟨⟨d0, d1, d2, d3⟩, -⟩ := SealG.cells4Of (hu.at HX4.out (fun e => e))
               clear hu
               go_simp
               exact ⟨rfl, rfl⟩
             go_simp
             refine hK _ ?_
             clear hK K)
      refine wpH_nil ?_
      simp only [List.drop_succ_cons, List.drop_zero]
      clear S HS
      obtain ⟨oa, oc, hov⟩ := slice_formB HRow.out
      subst hov
      have hlA : A.length ≤ 10 := by rw [HPl.out]; omega
      have hbA : Below w.heap.size w w6 := HB3.out.trans ((HB5.out.trans (HB6.out.mono HB5.out.size)).mono HB3.out.size)
      have hb36 : Below w3.heap.size w3 w6 := HB5.out.trans (HB6.out.mono HB5.out.size)
      have hb67 : Below w6.heap.size w6 (w6.alloc (.cells #[] 25)) := (Below.refl _ _).alloc (Nat.le_refl _) _
      have HLA := Lib.hid hlA
      have HM1 := Lib.hid (src_of_row ((Keep.still (hb36.trans (hb67.mono hb36.size))).ownsRow HRow.out (fun g _ e => e)))
      have HM2 := Lib.hid (fun u (hu : Below w6.heap.size (w6.alloc (.cells #[] 25)) u) => src_of_refs (HA.out.still (hbA.trans ((hb67.trans hu).mono hbA.size))))
      have HE := Lib.hid (row_empty w6 25)
      have HB36 := Lib.hid hb36
      have HB67 := Lib.hid hb67
      rw [HPl.out] at HM2
      clear hlA hbA hb36 hb67
      go_wp2_with (first
        | (at_builtin
           refine wpList_append_refs rfl _ _ rfl w6.heap.size _ [] rfl HE.out _ rfl l HM1.out (by have := HLn.out; simp; omega) (by simp) ?_
           intro v7 w7 hown7 hb7
           rw [List.nil_append] at hown7
           obtain ⟨p7, q7, hv7⟩ := slice_formB hown7
           subst hv7
           have HO7 := Lib.hid hown7
           have HB7 := Lib.hid hb7
           clear hown7 hb7)
        | (at_builtin
           refine wpList_append_refs rfl _ _ rfl w6.heap.size _ l rfl HO7.out _ rfl A (HM2.out _ HB7.out) (by have := HLn.out; have := HLA.out; omega) (Nat.le_trans HB67.out.size HB7.out.size) ?_
           intro v8 w8 hown8 hb8
           obtain ⟨p8, q8, hv8⟩ := slice_formB hown8
           subst hv8
           have HO8 := Lib.hid hown8
           have HB8 := Lib.hid (HB67.out.trans (HB7.out.trans hb8))
           clear hown8 hb8))
      have hb38 : Below w3.heap.size w3 w8 := HB36.out.trans (HB8.out.mono HB36.out.size)
      have hb8 : Below w.heap.size w w8 := HB3.out.trans (hb38.mono HB3.out.size)
      have hst8 := HSt.out.still hb38
      have hll : (l ++ A).length ≤ 100 := by rw [List.length_append]; have := HLn.out; have := HLA.out; omega
      have hr9 := recipe_seal hst8 ⟨by omega, by omega⟩ HO8.out hll
      have hby := fun u (hu : Below w8.heap.size w8 u) => recipe_bytes (hst8.still hu) ⟨by omega, by omega⟩ ((Keep.still hu).ownsRow HO8.out (fun g _ e => e)) hll
      rw [List.length_append] at hr9 hby
      have HB8' := Lib.hid hb8
      clear hb38 hb8 hst8
      rcases outs D' (l ++ A) with ⟨b, ho1, ho2, hbs⟩ | ⟨er, her, ho1, ho2⟩
      all_goals
        rw [ho1] at hr9
        have HR9 := Lib.hid hr9
        clear hr9 ho1
      · rw [ho2] at hby
        have HBy := Lib.hid hby
        clear hby ho2
        have HOb := Lib.hid (fun u => SealG.refOf_seal b (by omega) u)
        go_wp2_with (first
          | (refine (HR9.out).mono ?_; rintro e w9 ⟨he, hb9⟩
             rw [sealL_agg] at he
             unfold sealC at he
             subst he
             have HB9 := Lib.hid hb9
             clear hb9)
          | (go_at_call 14
             obtain ⟨M, hM⟩ : ∃ M, SealG.bl b = M := ⟨_, rfl⟩
             rw [hM] at HOb ⊢
             have hba := HB9.out.alloc HB9.out.size (.cells #[.int .i64 (SealG.gs M).1, .int .i64 (SealG.gs M).2, .int .u32 (crc.check M : Nat), .int .i64 (M.length : Nat)] 33)
             have hya := heap_alloc_new w9 (.cells #[.int .i64 (SealG.gs M).1, .int .i64 (SealG.gs M).2, .int .u32 (crc.check M : Nat), .int .i64 (M.length : Nat)] 33)
             obtain ⟨yb, hyb⟩ : ∃ yb, w9.heap.size = yb := ⟨_, rfl⟩
             obtain ⟨wa, hwa⟩ : ∃ wa, (w9.alloc (.cells #[.int .i64 (SealG.gs M).1, .int .i64 (SealG.gs M).2, .int .u32 (crc.check M : Nat), .int .i64 (M.length : Nat)] 33)) = wa := ⟨_, rfl⟩
             rw [hwa, hyb] at hya
             rw [hwa] at hba ⊢
             rw [hyb]
             refine (HBy.out _ hba).mono ?_
             rintro e w10 ⟨rfl, hb10⟩
             have HY10 := Lib.hid ((Keep.still hb10).at hya (fun e => e))
             have HB10 := Lib.hid (hba.trans (hb10.mono hba.size))
             clear hya hba hb10 hM hyb hwa))
        obtain ⟨S, hS⟩ : ∃ S : World → Prop, ∀ u, S u ↔ Keep (fun _ => False) (w10) u := ⟨fun u => Keep (fun _ => False) (w10) u, fun _ => Iff.rfl⟩
        have HS := Lib.hid hS
        clear hS
        refine wp_region_whole 9 [(0, true), (1, true), (2, true), (3, true), (4, true), (5, false), (6, true), (7, true), (8, true)] S (by kernel_rfl) (by kernel_rfl) ((HS.out _).2 (Keep.refl _ _).drew) ?_
        iterate 5
          first
            | (refine wpH_passed rfl (by rfl) (fun K hK => ?_); go_simp; refine hK _ ?_; clear hK K)
            | (first
                 | refine wpH_read rfl rfl (fun K hK => ?_)
                 | refine wpH_readw rfl (by rfl) (fun K hK => ?_)
               apply Exists.intro
               refine ⟨fun u hu => ?_, ?_⟩
               · have hu := (HS.out u).1 hu
                 obtain ⟨⟨d0, d1, d2, d3⟩, -⟩ := SealG.cells4Of (hu.at HY10.out (fun e => e))
                 clear hu
                 go_simp
                 exact ⟨rfl, rfl⟩
               go_simp
               refine hK _ ?_
               clear hK K)
        first | refine wpH_do rfl rfl (fun K hK => ?_) | refine wpH_dow rfl (by rfl) (fun K hK => ?_)
        go_simp
        go_at_call 13
        refine (HOb.out _).mono ?_
        rintro e w11 ⟨he, hb11⟩
        rw [sealL_agg] at he
        unfold sealC at he
        subst he
        have hb11' : Below w10.heap.size w10 w11 := ⟨hb11.os, hb11.tape, hb11.output, hb11.size, hb11.block⟩
        have HB11 := Lib.hid hb11'
        refine hK _ _ ((HS.out _).2 (Keep.ofBelow hb11')) ?_
        clear hK K hb11 hb11'
        iterate 3
          first
            | (refine wpH_passed rfl (by rfl) (fun K hK => ?_); go_simp; refine hK _ ?_; clear hK K)
            | (first
                 | refine wpH_read rfl rfl (fun K hK => ?_)
                 | refine wpH_readw rfl (by rfl) (fun K hK => ?_)
               apply Exists.intro
               refine ⟨fun u hu => ?_, ?_⟩
               · have hu := (HS.out u).1 hu
                 obtain ⟨⟨d0, d1, d2, d3⟩, -⟩ := SealG.cells4Of (hu.at HY10.out (fun e => e))
                 clear hu
                 go_simp
                 exact ⟨rfl, rfl⟩
               go_simp
               refine hK _ ?_
               clear hK K)
        refine wpH_nil ?_
        simp only [List.drop_succ_cons, List.drop_zero]
        clear S HS
        go_wp2
        go_ret
        exact ⟨rfl, HB8'.out.trans ((HB10.out.trans (HB11.out.mono HB10.out.size)).mono HB8'.out.size)⟩
      · obtain ⟨bo, hbo⟩ : ∃ bo, (bytesOut D' (l ++ A)).1 = bo := ⟨_, rfl⟩
        rw [ho2, hbo] at hby
        have HBy := Lib.hid hby
        clear hby ho2 hbo
        rcases her with rfl | rfl
        all_goals
          go_wp2_with (first
            | (refine (HR9.out).mono ?_; rintro e w9 ⟨he, hb9⟩
               rw [sealL_agg, sealC_nil] at he
               subst he
               have HB9 := Lib.hid hb9
               clear hb9)
            | (go_at_call 14
               have hba := HB9.out.alloc HB9.out.size (.cells #[.int .i64 0, .int .i64 0, .int .u32 0, .int .i64 0] 33)
               have hya := heap_alloc_new w9 (.cells #[.int .i64 0, .int .i64 0, .int .u32 0, .int .i64 0] 33)
               refine (HBy.out _ hba).mono ?_
               rintro e w10 ⟨rfl, hb10⟩
               obtain ⟨⟨d0, d1, d2, d3⟩, -⟩ := SealG.cells4Of ((Keep.still hb10).at hya (fun e => e))
               have HB10 := Lib.hid (hba.trans (hb10.mono hba.size))
               clear hya hba hb10))
          go_ret
          exact ⟨rfl, HB8'.out.trans (HB10.out.mono HB8'.out.size)⟩
end Go.Proofs.YtankngomgjlfkaaGreatDoor

namespace Go.Proofs.YtankngomgjlfkaaGreatDoor
open Go.ChangeShapes Go.WideShapes Go.ChangeAt Go.RowKit

theorem Tryz.own : ownKnob Tryz.prog.godebug = none := by kernel_rfl
theorem Tryz.laidOut : laidOutB Tryz.prog = true := by kernel_rfl

theorem law_post2 {H : Type} {enc : TypeId × Value → H} {f : Func} {s : ChangeSpec} {fresh handsOn : Bool} {W W' : World} {t0 t1 : TypeId} {v0 v1 : Value} {d0 d1 : DataW H} {p0 p1 : List MemPlace}
    (hf : f.params = #[t0, t1]) (hr : f.resultTypes = #[4]) (hvars : s.vars = []) (hs : s.fn H ([d0, d1] ++ []) = { results := [.lit (.bool true)], args := [d0, d1] })
    (hW : DataW.Whole enc Tryz.prog f.params.toList s.vars false W (#[v0, v1] : Array Value).toList [d0, d1] [] (p0 ++ p1)) (h0 : DataW.Trod enc Tryz.prog W 0 (fun _ => true) true t0 v0 d0 p0) (h1 : DataW.Trod enc Tryz.prog W 0 (fun _ => true) true t1 v1 d1 p1)
    (r0 : Tryz.prog.readableRec t0 = true) (z0 : t0 < Tryz.prog.types.size) (r1 : Tryz.prog.readableRec t1 = true) (z1 : t1 < Tryz.prog.types.size) (hb : Below W.heap.size W W') :
    s.post enc Tryz.prog f false fresh handsOn false W #[v0, v1] (.bool true) W' := by
  have hlt := hW.lt
  refine ⟨_, _, _, [], p0 ++ p1, [], hW, ?_, ?_, ?_, hb.frame _, fun h => by cases h⟩
  · rw [hs, hr]; exact trodAll_mk1 (shut_bool Tryz.underlying4 _)
  · rw [hs, hf]; exact trodAll_mk2 (Below.trod Tryz.laidOut r0 z0 h0 hb (fun x hx => hlt x (List.mem_append_left _ hx))) (Below.trod Tryz.laidOut r1 z1 h1 hb (fun x hx => hlt x (List.mem_append_right _ hx)))
  · rw [hs, hvars]; rfl
end Go.Proofs.YtankngomgjlfkaaGreatDoor
