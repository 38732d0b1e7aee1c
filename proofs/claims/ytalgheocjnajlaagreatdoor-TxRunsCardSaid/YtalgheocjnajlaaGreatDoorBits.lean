/-
  BITS of bytes, and the pages' bits in homes: plain.
-/
import Derived.WalkKit
import Derived.Laws.BitsLemmas
import Derived.Lib.Hide
import Derived.Lib.BitFns
import Derived.Test.YtalgheocjnajlaaGreatDoorDisk
import Derived.Lib.ConvBytes
import Derived.Lib.SlBytesRow
namespace Go.Proofs.YtalgheocjnajlaaGreatDoor
open Go.RowKit Go.MapKept

theorem wraps_u8 (n : Int) (h₀ : 0 ≤ n) (h₁ : n < 2 ^ 8) : IntKind.u8.wrap n = n := by rw [IntKind.wrap_u8]; omega
theorem bits_and_u8 (a b : Nat) (ha : a < 256) (hb : b < 256) : bits .and .u8 a b = ((a &&& b : Nat) : Int) :=
  (bits_nat .u8 8 (by decide) wraps_u8 a b ha hb).1
theorem bits_xor_u8 (a b : Nat) (ha : a < 256) (hb : b < 256) : bits .xor .u8 a b = ((a ^^^ b : Nat) : Int) := by
  have ha' : a % 2 ^ IntKind.u8.bits = a := Nat.mod_eq_of_lt ha
  have hb' : b % 2 ^ IntKind.u8.bits = b := Nat.mod_eq_of_lt hb
  have hx : a ^^^ b < 256 := Nat.xor_lt_two_pow (n := 8) ha hb
  simp only [bits, BitVec.ofInt_natCast, BitVec.toNat_xor, BitVec.toNat_ofNat, ha', hb']
  exact wraps_u8 _ (Int.natCast_nonneg _) (by omega)
theorem and_two_pow (a j : Nat) : (a &&& 2 ^ j != 0) = a.testBit j := by
  cases h : a.testBit j
  · have : a &&& 2 ^ j = 0 := by
      apply Nat.eq_of_testBit_eq
      intro i
      rw [Nat.testBit_and, Nat.testBit_two_pow, Nat.zero_testBit]
      by_cases hi : j = i
      · subst hi; simp [h]
      · simp [hi]
    rw [this]; rfl
  · have : a &&& 2 ^ j ≠ 0 := by
      intro h0
      have h1 : (a &&& 2 ^ j).testBit j = true := by rw [Nat.testBit_and, Nat.testBit_two_pow, h]; simp
      rw [h0, Nat.zero_testBit] at h1
      cases h1
    exact bne_iff_ne.2 this

/-- byte k -/
def byteN (s : ByteArray) (k : Nat) : Nat := (s.data.toList.getD k 0).toNat
theorem byteN_lt (s : ByteArray) (k : Nat) : byteN s k < 256 := by unfold byteN; exact UInt8.toNat_lt _
theorem byteN_get (s : ByteArray) (k : Nat) (h : k < s.size) : s[k].toNat = byteN s k := by
  unfold byteN
  have hl : k < s.data.toList.length := by simpa using h
  rw [List.getD, List.getElem?_eq_getElem hl]
  rfl
theorem byteN_out (s : ByteArray) (k : Nat) (h : s.size ≤ k) : byteN s k = 0 := by
  unfold byteN
  rw [List.getD, List.getElem?_eq_none (by simpa using h)]
  rfl
theorem bytes_ext {s t : ByteArray} (h : s.size = t.size) (hb : ∀ k, k < s.size → byteN s k = byteN t k) : s = t := by
  apply ByteArray.ext
  apply Array.ext h
  intro i h1 h2
  have := hb i h1
  rw [← byteN_get s i h1, ← byteN_get t i h2] at this
  exact UInt8.toNat_inj.1 this
theorem byteN_zeros (n k : Nat) : byteN (zeros n) k = 0 := by
  by_cases h : k < n
  · unfold byteN zeros; simp [List.getD, h]
  · exact byteN_out _ _ (by rw [zeros_size]; omega)

def xorAt (s : ByteArray) (k m : Nat) : ByteArray := ⟨s.data.modify k (fun c => c ^^^ UInt8.ofNat m)⟩
theorem xorAt_size (s : ByteArray) (k m : Nat) : (xorAt s k m).size = s.size := by show (s.data.modify k _).size = s.data.size; simp
theorem byteN_xorAt (s : ByteArray) (k m j : Nat) (hm : m < 256) (hk : k < s.size) : byteN (xorAt s k m) j = if j = k then byteN s k ^^^ m else byteN s j := by
  by_cases hj : j < s.size
  · rw [← byteN_get _ j (by rw [xorAt_size]; exact hj)]
    have e : (xorAt s k m)[j]'(by rw [xorAt_size]; exact hj) = if k = j then s[j] ^^^ UInt8.ofNat m else s[j] := by
      have h1 : j < (s.data.modify k (fun c => c ^^^ UInt8.ofNat m)).size := by rw [Array.size_modify]; exact hj
      have h2 := Array.getElem_modify (xs := s.data) (j := k) (i := j) (f := fun c => c ^^^ UInt8.ofNat m) h1
      exact h2
    rw [e]
    by_cases hjk : j = k
    · subst hjk
      rw [if_pos rfl, if_pos rfl, UInt8.toNat_xor, byteN_get]
      congr 1
      simp; omega
    · rw [if_neg (fun e => hjk e.symm), if_neg hjk, byteN_get]
  · rw [byteN_out _ _ (by rw [xorAt_size]; omega), if_neg (by omega), byteN_out _ _ (by omega)]

/-- a page's bit -/
def bitOf (f : Int → ByteArray) (p : Nat) : Bool := (byteN (f ((1 + p / 4096 : Nat) : Int)) (p % 4096 / 8)).testBit (p % 8)
theorem xor_bit (a b j : Nat) : (a ^^^ 2 ^ b).testBit j = (if j = b then !a.testBit b else a.testBit j) := by
  rw [Nat.testBit_xor, Nat.testBit_two_pow]
  by_cases h : j = b
  · subst h; simp
  · rw [if_neg h, decide_eq_false (fun e => h e.symm)]; simp
theorem pow8_lt (p : Nat) : 2 ^ (p % 8) < 256 := Nat.pow_lt_pow_right (n := 8) (by decide) (Nat.mod_lt _ (by decide))
/-- what turning page p's bit comes to -/
theorem bitOf_turn {f f' : Int → ByteArray} {p : Nat} (hs : (f ((1 + p / 4096 : Nat) : Int)).size = 512)
    (h1 : f' ((1 + p / 4096 : Nat) : Int) = xorAt (f ((1 + p / 4096 : Nat) : Int)) (p % 4096 / 8) (2 ^ (p % 8)))
    {q : Nat} (h2 : 1 + q / 4096 ≠ 1 + p / 4096 → f' ((1 + q / 4096 : Nat) : Int) = f ((1 + q / 4096 : Nat) : Int)) :
    bitOf f' q = if q = p then !bitOf f p else bitOf f q := by
  unfold bitOf
  by_cases hh : 1 + q / 4096 = 1 + p / 4096
  · rw [hh, h1, byteN_xorAt _ _ _ _ (pow8_lt p) (by omega)]
    by_cases hk : q % 4096 / 8 = p % 4096 / 8
    · rw [if_pos hk, xor_bit]
      by_cases hb : q % 8 = p % 8
      · have : q = p := by omega
        rw [if_pos hb, if_pos this]
      · rw [if_neg hb, if_neg (fun e => hb (by rw [e])), hk]
    · rw [if_neg hk, if_neg (fun e => hk (by rw [e]))]
  · rw [h2 hh, if_neg (fun e => hh (by rw [e]))]

theorem tz_spec : ∀ n : Fin 256, n.val ≠ 255 → Lib.trailingZeros8 (255 - n.val) < 8 ∧ n.val.testBit (Lib.trailingZeros8 (255 - n.val)) = false ∧ ∀ j : Fin 8, j.val < Lib.trailingZeros8 (255 - n.val) → n.val.testBit j.val = true := by decide +kernel
theorem xor_max (b : Nat) (hb : b < 256) : bits .xor .u8 IntKind.u8.max (b : Int) = ((255 - b : Nat) : Int) := by
  have h : ∀ n : Fin 256, 255 ^^^ n.val = 255 - n.val := by decide +kernel
  have := bits_xor_u8 255 b (by decide) hb
  rw [h ⟨b, hb⟩] at this
  exact this
theorem all_255 : ∀ j : Fin 8, (255 : Nat).testBit j.val = true := by decide
theorem ones_spec : ∀ n : Fin 256, Lib.onesCount n.val = ((List.range 8).filter (fun j => n.val.testBit j)).length := by decide +kernel

/-- the bits of byte i of home 1 + m -/
theorem bitOf_split (f : Int → ByteArray) (m i j : Nat) (hi : i < 512) (hj : j < 8) : bitOf f (m * 4096 + 8 * i + j) = (byteN (f ((1 + m : Nat) : Int)) i).testBit j := by
  unfold bitOf
  rw [show (m * 4096 + 8 * i + j) / 4096 = m by omega, show (m * 4096 + 8 * i + j) % 4096 / 8 = i by omega, show (m * 4096 + 8 * i + j) % 8 = j by omega]

/-- of a string's bytes in memory, and back -/
theorem conv_bytes {P : Program} (w : World) (src dst e : TypeId) (s : ByteArray) (hs : P.underlying src = some .string) (hd : P.underlying dst = some (.slice e)) (he : P.underlying e = some (.int .u8)) :
    ∃ c w', (convert src dst (.string s)).run P w = .ok (.slice (some ⟨w.heap.size, 0, none⟩) s.size c) w' ∧ Below w.heap.size w w' ∧ w'.heap.size = w.heap.size + 1 ∧ s.size ≤ c ∧
      (∃ cs : Array Value, w'.heap[w.heap.size]? = some (.cells cs e (cs.size, cs.size + 1)) ∧ s.size ≤ cs.size) ∧ ∀ i (h : i < s.size), w'.cell? ⟨w.heap.size, i, none⟩ = some (.int .u8 (s[i].toNat : Int)) := by
  refine ⟨_, _, Lib.run_convert_string_bytes w src dst e s hs hd he, ⟨?_, ?_, ?_, ?_, fun k hk => Lib.bytesWorld_at_old w e s k hk⟩, Lib.bytesWorld_size w e s, ?_, ⟨_, Lib.bytesWorld_at_new w e s, ?_⟩, fun i h => ?_⟩
  · rfl
  · rfl
  · rfl
  · rw [Lib.bytesWorld_size]; omega
  · exact Nat.le_trans (Nat.le_of_eq (by simp)) (grownCap_ge w s.size 0 e)
  · unfold Lib.bytesCells
    rw [Array.size_append, Array.size_map]
    show s.data.size ≤ _
    omega
  · rw [Lib.bytesWorld_cell w e s i h, byteN_get]
    rfl
end Go.Proofs.YtalgheocjnajlaaGreatDoor
