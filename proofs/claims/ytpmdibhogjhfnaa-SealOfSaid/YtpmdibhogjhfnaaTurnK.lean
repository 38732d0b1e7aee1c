/-
  PLAIN MATHEMATICS: a text four bytes of which, side by side, are turned by the four bytes of a number; its check sum is another one.
-/
import Derived.Test.YtpmdibhogjhfnaaChk
import Derived.Lib.ConvBytes
import Derived.Lib.SlBytesRow
namespace Go.Proofs.Ytpmdibhogjhfnaa

/-- the first k of four bytes from place i on are turned by the bytes of y -/
def turnK (s : ByteArray) (i y : Nat) : Nat → ByteArray
  | 0 => s
  | k + 1 => ⟨(turnK s i y k).data.setIfInBounds (i + k) (UInt8.ofNat ((s.data.toList.getD (i + k) 0).toNat ^^^ (y / 2 ^ (8 * k) % 256)))⟩
theorem turnK_size (s : ByteArray) (i y k : Nat) : (turnK s i y k).size = s.size := by
  induction k with
  | zero => rfl
  | succ k ih =>
    show ((turnK s i y k).data.setIfInBounds _ _).size = _
    rw [Array.size_setIfInBounds]; exact ih
theorem turnK_dsize (s : ByteArray) (i y k : Nat) : (turnK s i y k).data.size = s.size := turnK_size s i y k
theorem turnK_far (s : ByteArray) (i y k j : Nat) (hj : i + k ≤ j) : (turnK s i y k).data.toList.getD j 0 = s.data.toList.getD j 0 := by
  induction k with
  | zero => rfl
  | succ k ih =>
    rw [← ih (by omega)]
    simp only [turnK, Array.toList_setIfInBounds, List.getD_eq_getElem?_getD]
    rw [List.getElem?_set_ne (by omega)]
theorem split4 {α : Type} (l : List α) (i : Nat) (h : i + 4 ≤ l.length) : ∃ b0 b1 b2 b3, l = l.take i ++ (b0 :: b1 :: b2 :: b3 :: l.drop (i + 4)) ∧ l[i]? = some b0 ∧ l[i + 1]? = some b1 ∧ l[i + 2]? = some b2 ∧ l[i + 3]? = some b3 := by
  refine ⟨l[i], l[i + 1], l[i + 2], l[i + 3], ?_, List.getElem?_eq_getElem _, List.getElem?_eq_getElem _, List.getElem?_eq_getElem _, List.getElem?_eq_getElem _⟩
  conv => lhs; rw [← List.take_append_drop i l]
  congr 1
  rw [List.drop_eq_getElem_cons (by omega), List.drop_eq_getElem_cons (by omega), List.drop_eq_getElem_cons (by omega), List.drop_eq_getElem_cons (by omega)]
theorem set4list {α : Type} (l r : List α) (b0 b1 b2 b3 x0 x1 x2 x3 : α) :
    (((((l ++ (b0 :: b1 :: b2 :: b3 :: r)).set l.length x0).set (l.length + 1) x1).set (l.length + 2) x2).set (l.length + 3) x3) = l ++ (x0 :: x1 :: x2 :: x3 :: r) := by
  simp
theorem xor_byte (a b : Nat) (ha : a < 256) (hb : b < 256) : (UInt8.ofNat (a ^^^ b)).toNat = a ^^^ b := by
  have h : a ^^^ b < 256 := Nat.xor_lt_two_pow (n := 8) ha hb
  rw [UInt8.toNat_ofNat']
  exact Nat.mod_eq_of_lt h
/-- all four bytes turned: as lists of numbers -/
theorem turnK_bl (s : ByteArray) (i y : Nat) (h : i + 4 ≤ s.size) : ∃ (l r : List Nat) (b0 b1 b2 b3 : Nat), bl s = l ++ [b0, b1, b2, b3] ++ r ∧
    bl (turnK s i y 4) = l ++ [b0 ^^^ (y % 256), b1 ^^^ (y / 256 % 256), b2 ^^^ (y / 65536 % 256), b3 ^^^ (y / 16777216 % 256)] ++ r := by
  have hl : s.data.toList.length = s.size := by simp
  obtain ⟨b0, b1, b2, b3, hs, g0, g1, g2, g3⟩ := split4 s.data.toList i (by omega)
  refine ⟨(s.data.toList.take i).map UInt8.toNat, (s.data.toList.drop (i + 4)).map UInt8.toNat, b0.toNat, b1.toNat, b2.toNat, b3.toNat, ?_, ?_⟩
  · unfold bl
    conv => lhs; rw [hs]
    simp
  · have hti : (s.data.toList.take i).length = i := by rw [List.length_take]; omega
    have e : (turnK s i y 4).data.toList = ((((s.data.toList.set i (UInt8.ofNat (b0.toNat ^^^ (y % 256)))).set (i + 1) (UInt8.ofNat (b1.toNat ^^^ (y / 256 % 256)))).set (i + 2) (UInt8.ofNat (b2.toNat ^^^ (y / 65536 % 256)))).set (i + 3) (UInt8.ofNat (b3.toNat ^^^ (y / 16777216 % 256)))) := by
      simp only [turnK, Array.toList_setIfInBounds, List.getD_eq_getElem?_getD, g0, g1, g2, g3, Nat.add_zero, Nat.mul_zero, Nat.pow_zero, Nat.div_one, Option.getD_some, Nat.reduceMul, Nat.reducePow]
    have e2 := set4list (s.data.toList.take i) (s.data.toList.drop (i + 4)) b0 b1 b2 b3 (UInt8.ofNat (b0.toNat ^^^ (y % 256))) (UInt8.ofNat (b1.toNat ^^^ (y / 256 % 256))) (UInt8.ofNat (b2.toNat ^^^ (y / 65536 % 256))) (UInt8.ofNat (b3.toNat ^^^ (y / 16777216 % 256)))
    rw [hti, ← hs] at e2
    unfold bl
    rw [e, e2]
    simp only [List.map_append, List.map_cons, xor_byte _ _ b0.toNat_lt (Nat.mod_lt y (by decide)), xor_byte _ _ b1.toNat_lt (Nat.mod_lt (y / 256) (by decide)), xor_byte _ _ b2.toNat_lt (Nat.mod_lt (y / 65536) (by decide)), xor_byte _ _ b3.toNat_lt (Nat.mod_lt (y / 16777216) (by decide))]
    simp
theorem turnK_check (s : ByteArray) (i y : Nat) (h : i + 4 ≤ s.size) (hy : y < 4294967296) (h0 : y ≠ 0) : crc.check (bl (turnK s i y 4)) ≠ crc.check (bl s) := by
  obtain ⟨l, r, b0, b1, b2, b3, e1, e2⟩ := turnK_bl s i y h
  rw [e1, e2]
  exact crc.check_turned l r b0 b1 b2 b3 _ _ _ _ (Nat.mod_lt _ (by decide)) (Nat.mod_lt _ (by decide)) (Nat.mod_lt _ (by decide)) (Nat.mod_lt _ (by decide)) (by omega)

/-- one byte more, in memory -/
theorem bytes_next {w : World} {b i y k : Nat} {s : ByteArray} (h : Lib.Bytes w b 0 (turnK s i y k)) (hc : (w.cell? ⟨b, i + k, none⟩).isSome = true) :
    Lib.Bytes (w.setCell ⟨b, i + k, none⟩ (.int .u8 (((s.data.toList.getD (i + k) 0).toNat ^^^ (y / 2 ^ (8 * k) % 256) : Nat) : Int))) b 0 (turnK s i y (k + 1)) := by
  intro j hj
  rw [turnK_size] at hj
  have hlt : (s.data.toList.getD (i + k) 0).toNat ^^^ (y / 2 ^ (8 * k) % 256) < 256 := Nat.xor_lt_two_pow (n := 8) (UInt8.toNat_lt _) (Nat.mod_lt _ (by decide))
  have e : (turnK s i y (k + 1))[j]'(by rw [turnK_size]; exact hj) = (turnK s i y (k + 1)).data[j]'(by rw [turnK_dsize]; exact hj) := rfl
  rw [e]
  simp only [turnK]
  rw [Array.getElem_setIfInBounds]
  by_cases hji : i + k = j
  · subst hji
    rw [if_pos rfl, UInt8.toNat_ofNat', Nat.mod_eq_of_lt hlt, Nat.zero_add]
    obtain ⟨v, hv⟩ := Option.isSome_iff_exists.1 hc
    simp [World.cell?, World.setCell, Array.getElem?_modify] at hv ⊢
    split at hv
    · rename_i c t fr heq
      rw [heq]
      simp at hv ⊢
      have := (Array.getElem?_eq_some_iff.1 hv).1
      simp [this]
    · cases hv
  · rw [if_neg hji, Nat.zero_add]
    have := h j (by rw [turnK_size]; exact hj)
    rw [Nat.zero_add] at this
    rw [← show w.cell? ⟨b, j, none⟩ = some (.int .u8 ((turnK s i y k).data[j]'(by rw [turnK_dsize]; exact hj)).toNat) from this]
    simp only [World.cell?, World.setCell, Array.getElem?_modify, if_true]
    cases w.heap[b]? with
    | none => rfl
    | some o =>
      cases o <;> simp [hji]
  rw [turnK_dsize]
  exact hj
end Go.Proofs.Ytpmdibhogjhfnaa
