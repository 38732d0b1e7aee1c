/-
  PLAIN MATHEMATICS: the remainder sums of layer 26 and layer 1 on natural numbers. No program in sight.
-/
namespace Go.Proofs.YtbjlgcliplalcaaGreatDoor.crc

def poly : Nat := 3988292384
/-- one step of the check sum: times x -/
def stp (x : Nat) : Nat := if x % 2 = 1 then x / 2 ^^^ poly else x / 2
/-- so many steps -/
def it : Nat → Nat → Nat
  | 0, x => x
  | n + 1, x => it n (stp x)

theorem stp_zero : stp 0 = 0 := rfl
theorem it_zero (n : Nat) : it n 0 = 0 := by
  induction n with
  | zero => rfl
  | succ n ih => simp [it, stp_zero, ih]
theorem it_add (m n x : Nat) : it (m + n) x = it n (it m x) := by
  induction m generalizing x with
  | zero => simp [it]
  | succ m ih => rw [Nat.succ_add]; simp [it, ih]
theorem it_succ (n x : Nat) : it (n + 1) x = stp (it n x) := it_add n 1 x

theorem xor_mod (x y : Nat) : (x ^^^ y) % 2 = (x % 2 + y % 2) % 2 := by
  have h : ((x ^^^ y) % 2 ^ 1).testBit 0 = ((x % 2 ^ 1) ^^^ (y % 2 ^ 1)).testBit 0 := by simp
  have e : (x ^^^ y) % 2 ^ 1 = (x % 2 ^ 1) ^^^ (y % 2 ^ 1) := Nat.xor_mod_two_pow ..
  have hx := Nat.mod_two_eq_zero_or_one x
  have hy := Nat.mod_two_eq_zero_or_one y
  simp only [Nat.pow_one] at e
  rw [e]
  rcases hx with hx | hx <;> rcases hy with hy | hy <;> simp [hx, hy]

theorem stp_xor (x y : Nat) : stp (x ^^^ y) = stp x ^^^ stp y := by
  unfold stp
  have h := xor_mod x y
  have hd : (x ^^^ y) / 2 = x / 2 ^^^ y / 2 := by
    have := Nat.shiftRight_xor_distrib (a := x) (b := y) (i := 1)
    simpa [Nat.shiftRight_eq_div_pow] using this
  have hx := Nat.mod_two_eq_zero_or_one x
  have hy := Nat.mod_two_eq_zero_or_one y
  rcases hx with hx | hx <;> rcases hy with hy | hy <;> simp [h, hd, hx, hy]
  · ac_rfl
  · ac_rfl
  · have e : x / 2 ^^^ poly ^^^ (y / 2 ^^^ poly) = x / 2 ^^^ y / 2 ^^^ (poly ^^^ poly) := by ac_rfl
    rw [e, Nat.xor_self, Nat.xor_zero]

theorem it_xor (n x y : Nat) : it n (x ^^^ y) = it n x ^^^ it n y := by
  induction n generalizing x y with
  | zero => rfl
  | succ n ih => simp [it, stp_xor, ih]

theorem stp_lt (x : Nat) (h : x < 4294967296) : stp x < 4294967296 := by
  unfold stp
  split
  · exact Nat.xor_lt_two_pow (n := 32) (by omega) (by decide)
  · omega
theorem it_lt (n x : Nat) (h : x < 4294967296) : it n x < 4294967296 := by
  induction n generalizing x with
  | zero => exact h
  | succ n ih => exact ih _ (stp_lt x h)

theorem xor_eq_zero {x y : Nat} (h : x ^^^ y = 0) : x = y := by
  have := congrArg (· ^^^ y) h
  simpa [Nat.xor_assoc] using this

theorem stp_eq_zero (x : Nat) (h : x < 4294967296) (h0 : stp x = 0) : x = 0 := by
  unfold stp at h0
  split at h0
  · have := xor_eq_zero h0
    unfold poly at this
    omega
  · omega
theorem it_eq_zero (n x : Nat) (h : x < 4294967296) (h0 : it n x = 0) : x = 0 := by
  induction n generalizing x with
  | zero => exact h0
  | succ n ih => exact stp_eq_zero x h (ih _ (stp_lt x h) h0)
theorem it_inj (n x y : Nat) (hx : x < 4294967296) (hy : y < 4294967296) (h : it n x = it n y) : x = y := by
  apply xor_eq_zero
  apply it_eq_zero n _ (Nat.xor_lt_two_pow (n := 32) hx hy)
  rw [it_xor, h, Nat.xor_self]

theorem stp_double (x : Nat) : stp (2 * x) = x := by
  unfold stp
  rw [if_neg (by omega)]
  omega
theorem it_shift (n x : Nat) : it n (2 ^ n * x) = x := by
  induction n generalizing x with
  | zero => simp [it]
  | succ n ih =>
    show it n (stp (2 ^ (n + 1) * x)) = x
    rw [Nat.pow_succ, Nat.mul_comm (2 ^ n) 2, Nat.mul_assoc, stp_double, ih]

/-- a byte more -/
def upd (s : Nat) (c : Nat) : Nat := it 8 (s ^^^ c)
def run (s : Nat) (l : List Nat) : Nat := l.foldl upd s
def check (l : List Nat) : Nat := run 4294967295 l ^^^ 4294967295

theorem run_append (s : Nat) (l m : List Nat) : run s (l ++ m) = run (run s l) m := List.foldl_append ..
theorem run_xor (s d : Nat) (l : List Nat) : run (s ^^^ d) l = run s l ^^^ it (8 * l.length) d := by
  induction l generalizing s d with
  | nil => simp [run, it]
  | cons c l ih =>
    show run (upd (s ^^^ d) c) l = run (upd s c) l ^^^ _
    have e : upd (s ^^^ d) c = upd s c ^^^ it 8 d := by
      unfold upd
      rw [← it_xor]
      congr 1
      rw [Nat.xor_assoc, Nat.xor_comm d, Nat.xor_assoc]
    rw [e, ih]
    congr 1

theorem byte_lt {c : Nat} (h : c < 256) : c < 4294967296 := by omega
theorem upd_lt (s c : Nat) (hs : s < 4294967296) (hc : c < 256) : upd s c < 4294967296 :=
  it_lt 8 _ (Nat.xor_lt_two_pow (n := 32) hs (byte_lt hc))
theorem run_lt (s : Nat) (l : List Nat) (hs : s < 4294967296) (hl : ∀ c ∈ l, c < 256) : run s l < 4294967296 := by
  induction l generalizing s with
  | nil => exact hs
  | cons c l ih => exact ih _ (upd_lt s c hs (hl c (by simp))) fun x hx => hl x (by simp [hx])
theorem check_lt (l : List Nat) (hl : ∀ c ∈ l, c < 256) : check l < 4294967296 :=
  Nat.xor_lt_two_pow (n := 32) (run_lt _ _ (by decide) hl) (by decide)

/-- OF TWO TEXTS, one behind the other. -/
theorem check_append (a b : List Nat) : check (a ++ b) = it (8 * b.length) (check a) ^^^ check b := by
  unfold check
  rw [run_append]
  have h := run_xor 4294967295 (run 4294967295 a ^^^ 4294967295) b
  have e : 4294967295 ^^^ (run 4294967295 a ^^^ 4294967295) = run 4294967295 a := by
    rw [Nat.xor_comm, Nat.xor_assoc, Nat.xor_self, Nat.xor_zero]
  rw [e] at h
  rw [h, Nat.xor_assoc, Nat.xor_comm (it _ _)]
  rw [← Nat.xor_assoc, Nat.xor_comm]

theorem stepn (n x d : Nat) : it n x ^^^ d = it n (x ^^^ 2 ^ n * d) := by
  rw [it_xor]
  congr 1
  exact (it_shift n d).symm

theorem mul_xor (x y : Nat) : 256 * (x ^^^ y) = 256 * x ^^^ 256 * y := by
  have := Nat.shiftLeft_xor_distrib (a := x) (b := y) (i := 8)
  simpa [Nat.shiftLeft_eq, Nat.mul_comm] using this

theorem upd_xor (s t c d : Nat) : upd (s ^^^ t) (c ^^^ d) = upd s c ^^^ it 8 (t ^^^ d) := by
  unfold upd
  rw [← it_xor]
  congr 1
  ac_rfl

/-- four bytes side by side -/
theorem run_four (s : Nat) (b0 b1 b2 b3 d0 d1 d2 d3 : Nat) :
    run s [b0 ^^^ d0, b1 ^^^ d1, b2 ^^^ d2, b3 ^^^ d3] = run s [b0, b1, b2, b3] ^^^ it 32 (d0 ^^^ 256 * (d1 ^^^ 256 * (d2 ^^^ 256 * d3))) := by
  show upd (upd (upd (upd s _) _) _) _ = upd (upd (upd (upd s _) _) _) _ ^^^ _
  have h0 := upd_xor s 0 b0 d0
  simp only [Nat.xor_zero, Nat.zero_xor] at h0
  rw [h0, upd_xor, upd_xor, upd_xor, stepn 8 d0, ← it_add, stepn (8 + 8), ← it_add, stepn (8 + 8 + 8), ← it_add]
  simp only [mul_xor, Nat.xor_assoc, ← Nat.mul_assoc, Nat.reduceAdd, Nat.reducePow, Nat.reduceMul]

theorem word_zero {d e : Nat} (hd : d < 256) (h : d ^^^ 256 * e = 0) : d = 0 ∧ e = 0 := by
  have := xor_eq_zero h
  omega

/-- WHAT IS TURNED IN FOUR BYTES SIDE BY SIDE HAS ANOTHER CHECK SUM. -/
theorem check_turned (l r : List Nat) (b0 b1 b2 b3 d0 d1 d2 d3 : Nat) (hd0 : d0 < 256) (hd1 : d1 < 256) (hd2 : d2 < 256) (hd3 : d3 < 256)
    (hne : ¬ (d0 = 0 ∧ d1 = 0 ∧ d2 = 0 ∧ d3 = 0)) :
    check (l ++ [b0 ^^^ d0, b1 ^^^ d1, b2 ^^^ d2, b3 ^^^ d3] ++ r) ≠ check (l ++ [b0, b1, b2, b3] ++ r) := by
  intro h
  unfold check at h
  have h1 := congrArg (· ^^^ 4294967295) h
  simp only [Nat.xor_assoc, Nat.xor_self, Nat.xor_zero, run_append, run_four, run_xor] at h1
  have h2 := congrArg (run (run (run 4294967295 l) [b0, b1, b2, b3]) r ^^^ ·) h1
  simp only [← Nat.xor_assoc, Nat.xor_self, Nat.zero_xor, ← it_add] at h2
  have lt8 {x : Nat} {y : Nat} (hx : x < 256) (n : Nat) (hy : y < 2 ^ n) : x ^^^ 256 * y < 2 ^ (n + 8) := by
    apply Nat.xor_lt_two_pow
    · have : 2 ^ 8 ≤ 2 ^ (n + 8) := Nat.pow_le_pow_right (by decide) (by omega)
      omega
    · rw [Nat.pow_add]; omega
  have hw : d0 ^^^ 256 * (d1 ^^^ 256 * (d2 ^^^ 256 * d3)) < 4294967296 :=
    lt8 hd0 24 (lt8 hd1 16 (lt8 hd2 8 hd3))
  have h3 := it_eq_zero _ _ hw h2
  obtain ⟨e0, h3⟩ := word_zero hd0 h3
  obtain ⟨e1, h3⟩ := word_zero hd1 h3
  obtain ⟨e2, h3⟩ := word_zero hd2 h3
  exact hne ⟨e0, e1, e2, h3⟩

/-- the product of two remainders, so many of the first one's places done -/
def tms (a : Nat) : Nat → Nat → Nat
  | 0, _ => 0
  | k + 1, b => tms a k b ^^^ (if a.testBit (31 - k) then it k b else 0)
def times (a b : Nat) : Nat := tms a 32 b

theorem tms_it (a k n b : Nat) : tms a k (it n b) = it n (tms a k b) := by
  induction k with
  | zero => simp [tms, it_zero]
  | succ k ih =>
    simp only [tms, it_xor, ih]
    congr 1
    split
    · rw [← it_add, ← it_add, Nat.add_comm]
    · rw [it_zero]
theorem tms_xor (a k x y : Nat) : tms a k (x ^^^ y) = tms a k x ^^^ tms a k y := by
  induction k with
  | zero => simp [tms]
  | succ k ih =>
    simp only [tms, ih]
    split
    · rw [it_xor]; ac_rfl
    · simp
theorem tms_zero (a k : Nat) : tms a k 0 = 0 := by
  induction k with
  | zero => rfl
  | succ k ih => simp [tms, ih, it_zero]
theorem tms_tms (a b j k c : Nat) : tms a j (tms b k c) = tms b k (tms a j c) := by
  induction k with
  | zero => simp [tms, tms_zero]
  | succ k ih =>
    simp only [tms, tms_xor, ih]
    congr 1
    split
    · rw [tms_it]
    · rw [tms_zero]
theorem tms_lt (a k b : Nat) (h : b < 4294967296) : tms a k b < 4294967296 := by
  induction k with
  | zero => exact Nat.zero_lt_succ _
  | succ k ih =>
    refine Nat.xor_lt_two_pow (n := 32) ih ?_
    split
    · exact it_lt _ _ h
    · decide
theorem times_lt (a b : Nat) (h : b < 4294967296) : times a b < 4294967296 := tms_lt a 32 b h

def one : Nat := 2147483648
theorem it_one (k : Nat) (h : k ≤ 31) : it k one = 2 ^ (31 - k) := by
  have e : one = 2 ^ k * 2 ^ (31 - k) := by
    rw [← Nat.pow_add, show k + (31 - k) = 31 by omega]; rfl
  rw [e, it_shift]
theorem tms_one_bit (a k : Nat) (h : k ≤ 32) (i : Nat) : (tms a k one).testBit i = (a.testBit i && decide (32 - k ≤ i ∧ i < 32)) := by
  induction k with
  | zero => simp [tms]
  | succ k ih =>
    simp only [tms, Nat.testBit_xor, ih (by omega)]
    rw [show (if a.testBit (31 - k) = true then it k one else 0) = if a.testBit (31 - k) = true then 2 ^ (31 - k) else 0 by rw [it_one k (by omega)]]
    by_cases hi : i = 31 - k
    · subst hi
      have h1 : ¬ (32 - k ≤ 31 - k) := by omega
      have h2 : 32 - (k + 1) ≤ 31 - k ∧ 31 - k < 32 := by omega
      cases hb : a.testBit (31 - k) <;> simp [h1, h2]
    · have e : (if a.testBit (31 - k) = true then 2 ^ (31 - k) else 0).testBit i = false := by
        split
        · rw [Nat.testBit_two_pow]; simp; omega
        · simp
      have e2 : (32 - k ≤ i ∧ i < 32) ↔ (32 - (k + 1) ≤ i ∧ i < 32) := by omega
      rw [e, Bool.xor_false]
      simp only [e2]
theorem times_one (a : Nat) (h : a < 4294967296) : times a one = a := by
  apply Nat.eq_of_testBit_eq
  intro i
  unfold times
  rw [tms_one_bit a 32 (by omega)]
  by_cases hi : i < 32
  · simp [hi]
  · have : a < 2 ^ i := Nat.lt_of_lt_of_le h (Nat.pow_le_pow_right (n := 2) (by decide) (by omega : 32 ≤ i))
    simp [Nat.testBit_lt_two_pow this]

theorem times_comm2 (a b c : Nat) : times a (times b c) = times b (times a c) := tms_tms a b 32 32 c
theorem one_lt : one < 4294967296 := by decide
theorem times_comm (a b : Nat) (ha : a < 4294967296) (hb : b < 4294967296) : times a b = times b a := by
  have h := times_comm2 a b one
  rwa [times_one b hb, times_one a ha] at h
theorem times_assoc (a b c : Nat) (hb : b < 4294967296) (hc : c < 4294967296) : times (times a b) c = times a (times b c) := by
  have hab := times_lt a b hb
  rw [times_comm _ _ hab hc, times_comm2 c a, times_comm c b hc hb]
theorem times_it (a n b : Nat) : times a (it n b) = it n (times a b) := tms_it a 32 n b
theorem it_times (n b : Nat) (hb : b < 4294967296) : times (it n one) b = it n b := by
  rw [times_comm _ _ (it_lt n _ one_lt) hb, times_it, times_one b hb]
theorem it_mul_one (m n : Nat) : times (it m one) (it n one) = it (m + n) one := by
  rw [it_times m _ (it_lt n _ one_lt), ← it_add, Nat.add_comm]

/-- x to the 2^k, by squares -/
def sq : Nat → Nat
  | 0 => 1073741824
  | k + 1 => times (sq k) (sq k)
theorem sq_eq (k : Nat) : sq k = it (2 ^ k) one := by
  induction k with
  | zero => rfl
  | succ k ih => rw [sq, ih, it_mul_one]; congr 1; omega
theorem sq_round : sq 32 = 1073741824 := by decide +kernel
/-- x to the 2^32 - 1 is 1 -/
theorem it_round : it 4294967295 one = one := by
  obtain ⟨M, hM⟩ : ∃ M : Nat, M = 4294967295 := ⟨_, rfl⟩
  rw [← hM]
  have h := sq_eq 32
  have h2 : (2 : Nat) ^ 32 = M + 1 := by rw [hM]
  rw [sq_round, h2, it_succ] at h
  have e : (1073741824 : Nat) = it 1 one := by decide +kernel
  rw [e] at h
  exact (it_inj 1 _ _ one_lt (it_lt _ _ one_lt) h).symm
theorem it_round_any (n : Nat) (x : Nat) (hx : x < 4294967296) : it (4294967295 * n) x = x := by
  induction n with
  | zero => rfl
  | succ n ih =>
    rw [Nat.mul_succ, it_add, ih, ← it_times _ _ hx, it_round, times_comm _ _ one_lt hx, times_one x hx]

/-- a whole without its second text -/
theorem check_cut (a b : List Nat) (m : Nat) (k : Nat) (hm : 8 * b.length + m = 4294967295 * k) (ha : ∀ c ∈ a, c < 256) :
    it m (check (a ++ b) ^^^ check b) = check a := by
  rw [check_append, Nat.xor_assoc, Nat.xor_self, Nat.xor_zero, ← it_add, hm, it_round_any _ _ (check_lt a ha)]
end Go.Proofs.YtbjlgcliplalcaaGreatDoor.crc
