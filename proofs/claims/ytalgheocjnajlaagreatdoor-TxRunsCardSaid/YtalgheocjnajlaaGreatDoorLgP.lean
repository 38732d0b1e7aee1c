/-
  THE LOG, plain: numbers in bytes, records in the ring, what a log's disk holds.
-/
import Derived.Test.YtalgheocjnajlaaGreatDoorDkP
import Derived.Test.YtalgheocjnajlaaGreatDoorBits
import Derived.Test.YtalgheocjnajlaaGreatDoorTold
namespace Go.Proofs.YtalgheocjnajlaaGreatDoor

/-! ## numbers in bytes -/
def numL (x : Nat) : Nat → List UInt8
  | 0 => []
  | n + 1 => numL (x / 256) n ++ [UInt8.ofNat (x % 256)]
theorem numL_length (x n : Nat) : (numL x n).length = n := by
  induction n generalizing x with
  | zero => rfl
  | succ n ih => simp [numL, ih]
theorem numL_get (x n j : Nat) (h : j < n) : (numL x n)[j]? = some (UInt8.ofNat (x / 256 ^ (n - 1 - j) % 256)) := by
  induction n generalizing x with
  | zero => omega
  | succ n ih =>
    unfold numL
    by_cases hj : j < n
    · rw [List.getElem?_append_left (by rw [numL_length]; exact hj), ih _ hj, Nat.div_div_eq_div_mul]
      congr 4
      rw [show n + 1 - 1 - j = (n - 1 - j) + 1 by omega, Nat.pow_succ, Nat.mul_comm]
    · obtain rfl : j = n := by omega
      rw [List.getElem?_append_right (by rw [numL_length]; exact Nat.le_refl _), numL_length]
      simp
def toldL (l : List UInt8) : Nat := l.foldl stepT 0
theorem toldN_eq (s : ByteArray) : toldN s = toldL s.data.toList := rfl
theorem told_num (x n : Nat) (hn : n ≤ 8) : toldL (numL x n) = x % 256 ^ n := by
  induction n generalizing x with
  | zero => simp [numL, toldL, Nat.mod_one]
  | succ n ih =>
    have h := ih (x / 256) (by omega)
    unfold toldL at *
    unfold numL
    rw [List.foldl_append, h, List.foldl_cons, List.foldl_nil]
    unfold stepT
    have hlt : x / 256 % 256 ^ n < 256 ^ n := Nat.mod_lt _ (Nat.pow_pos (by decide))
    have hle : 256 ^ (n + 1) ≤ 256 ^ 8 := Nat.pow_le_pow_right (by decide) hn
    have hs : 256 ^ (n + 1) = 256 ^ n * 256 := Nat.pow_succ ..
    have h8 : (256 : Nat) ^ 8 = 18446744073709551616 := by decide
    have hm : x % 256 ^ (n + 1) = x % 256 + 256 * (x / 256 % 256 ^ n) := by
      rw [Nat.pow_succ, Nat.mul_comm (256 ^ n) 256, Nat.mod_mul]
    have hc : (UInt8.ofNat (x % 256)).toNat = x % 256 := by simp
    rw [hm, hc]
    generalize 256 ^ n = m at *
    generalize x / 256 % m = y at *
    omega

/-! ## texts in sectors -/
theorem size_of (l : List UInt8) : (⟨l.toArray⟩ : ByteArray).size = l.length := by show l.toArray.size = _; simp
theorem fullS_list (l : List UInt8) : (fullS ⟨l.toArray⟩).data.toList = l ++ List.replicate (512 - l.length) 0 := by
  unfold fullS
  rw [size_of]
  simp
theorem extract_list (s : ByteArray) (a b : Nat) : (s.extract a b).data.toList = (s.data.toList.drop a).take (b - a) := by
  rw [ByteArray.data_extract, Array.toList_extract, List.extract_eq_take_drop]
theorem full_ext (l : List UInt8) (a b : Nat) (h1 : a ≤ b) (h2 : b ≤ l.length) : ((fullS ⟨l.toArray⟩).extract a b).data.toList = (l.drop a).take (b - a) := by
  rw [extract_list, fullS_list, List.drop_append_of_le_length (by omega), List.take_append_of_le_length (by rw [List.length_drop]; omega)]
theorem byteN_full0 (c : UInt8) (l : List UInt8) : byteN (fullS ⟨(c :: l).toArray⟩) 0 = c.toNat := by
  unfold byteN; rw [fullS_list]; rfl
abbrev Grp := List (Nat × ByteArray)
def recL (l : Grp) : List UInt8 := l.flatMap (fun p => numL p.1 4 ++ p.2.data.toList)
def secs (n : Nat) : Nat := (516 * n + 510) / 511
def hdrS (seq n : Nat) : ByteArray := fullS ⟨(67 :: (numL seq 8 ++ numL n 4)).toArray⟩
def pieceS (t : List UInt8) (i : Nat) : ByteArray := fullS ⟨(80 :: (t.drop (511 * i)).take 511).toArray⟩
def headS (tail seq : Nat) : ByteArray := fullS ⟨(72 :: (numL tail 4 ++ numL seq 8)).toArray⟩
theorem hdrS_size (seq n : Nat) : (hdrS seq n).size = 512 := fullS_size _ (by rw [size_of]; simp [numL_length])
theorem headS_size (t s : Nat) : (headS t s).size = 512 := fullS_size _ (by rw [size_of]; simp [numL_length])
theorem pieceS_size (t : List UInt8) (i : Nat) : (pieceS t i).size = 512 := fullS_size _ (by rw [size_of]; simp; omega)
theorem hdr_0 (seq n : Nat) : byteN (hdrS seq n) 0 = 67 := byteN_full0 _ _
theorem head_0 (t s : Nat) : byteN (headS t s) 0 = 72 := byteN_full0 _ _
theorem piece_0 (t : List UInt8) (i : Nat) : byteN (pieceS t i) 0 = 80 := byteN_full0 _ _
theorem hdr_seq (seq n : Nat) (h : seq < 18446744073709551616) : toldN ((hdrS seq n).extract 1 9) = seq := by
  rw [toldN_eq]; unfold hdrS
  rw [full_ext _ _ _ (by omega) (by simp [numL_length])]
  simp only [List.drop_succ_cons, List.drop_zero]
  rw [List.take_left' (by rw [numL_length]), told_num _ _ (by omega)]
  exact Nat.mod_eq_of_lt h
theorem hdr_n (seq n : Nat) (h : n < 4294967296) : toldN ((hdrS seq n).extract 9 13) = n := by
  rw [toldN_eq]; unfold hdrS
  rw [full_ext _ _ _ (by omega) (by simp [numL_length])]
  simp only [List.drop_succ_cons]
  rw [List.drop_left' (by rw [numL_length]), List.take_of_length_le (by rw [numL_length]; omega), told_num _ _ (by omega)]
  exact Nat.mod_eq_of_lt h
theorem head_tail (t s : Nat) (h : t < 4294967296) : toldN ((headS t s).extract 1 5) = t := by
  rw [toldN_eq]; unfold headS
  rw [full_ext _ _ _ (by omega) (by simp [numL_length])]
  simp only [List.drop_succ_cons, List.drop_zero]
  rw [List.take_left' (by rw [numL_length]), told_num _ _ (by omega)]
  exact Nat.mod_eq_of_lt h
theorem head_seq (t s : Nat) (h : s < 18446744073709551616) : toldN ((headS t s).extract 5 13) = s := by
  rw [toldN_eq]; unfold headS
  rw [full_ext _ _ _ (by omega) (by simp [numL_length])]
  simp only [List.drop_succ_cons]
  rw [List.drop_left' (by rw [numL_length]), List.take_of_length_le (by rw [numL_length]; omega), told_num _ _ (by omega)]
  exact Nat.mod_eq_of_lt h
/-- what record sectors hold, one behind the other -/
def padL (t : List UInt8) (k : Nat) : List UInt8 := t ++ List.replicate (511 * k - t.length) 0
theorem piece_tail (t : List UInt8) (k i : Nat) (hk : t.length ≤ 511 * k) (hi : i < k) : ((pieceS t i).extract 1 512).data.toList = ((padL t k).drop (511 * i)).take 511 := by
  unfold pieceS padL
  rw [extract_list, fullS_list]
  apply List.ext_getElem?
  intro j
  simp only [List.cons_append, List.drop_succ_cons, List.drop_zero, List.getElem?_take, List.getElem?_append, List.getElem?_drop, List.getElem?_replicate, List.length_take, List.length_drop, List.length_cons]
  by_cases h1 : j < 511
  · by_cases h2 : 511 * i + j < t.length
    · simp [h1, h2]
      intro h
      omega
    · have h3 : ¬ j < min 511 (t.length - 511 * i) := by omega
      rw [if_pos h1, if_pos h1, if_neg h3, if_neg h2, if_pos (by omega), if_pos (by omega), if_pos (by omega)]
  · rw [if_neg h1, if_neg h1]
theorem pad_step (t : List UInt8) (k i : Nat) : (padL t k).take (511 * i) ++ ((padL t k).drop (511 * i)).take 511 = (padL t k).take (511 * (i + 1)) := by
  rw [show 511 * (i + 1) = 511 * i + 511 by omega, List.take_add]
theorem recL_length (l : Grp) (h : ∀ p ∈ l, p.2.size = 512) : (recL l).length = 516 * l.length := by
  unfold recL
  induction l with
  | nil => rfl
  | cons p l ih =>
    have hp : p.2.data.toList.length = 512 := by have := h p (by simp); simpa using this
    rw [List.flatMap_cons, List.length_append, List.length_append, numL_length, hp, ih (fun q hq => h q (List.mem_cons_of_mem _ hq)), List.length_cons]
    omega
theorem recL_drop (l : Grp) (h : ∀ p ∈ l, p.2.size = 512) (j : Nat) : (recL l).drop (516 * j) = recL (l.drop j) := by
  induction l generalizing j with
  | nil => simp [recL]
  | cons p l ih =>
    cases j with
    | zero => simp
    | succ j =>
      have hp : p.2.data.toList.length = 512 := by have := h p (by simp); simpa using this
      have e : recL (p :: l) = (numL p.1 4 ++ p.2.data.toList) ++ recL l := rfl
      have hl : (numL p.1 4 ++ p.2.data.toList).length = 516 := by rw [List.length_append, numL_length, hp]
      rw [e, show 516 * (j + 1) = 516 + 516 * j by omega, List.drop_succ_cons, ← List.drop_drop, List.drop_left' hl]
      exact ih (fun q hq => h q (List.mem_cons_of_mem _ hq)) j
theorem secs_covers (n : Nat) : 516 * n ≤ 511 * secs n := by unfold secs; omega
theorem secs_pos (n : Nat) (h : 1 ≤ n) : 1 ≤ secs n := by unfold secs; omega
theorem secs_mono {n m : Nat} (h : n ≤ m) : secs n ≤ secs m := by unfold secs; omega
theorem secs_ge (n : Nat) : n ≤ secs n := by unfold secs; omega

/-! ## a log's disk -/
def usedOf (recs : List Grp) : Nat := (recs.map (fun l => secs l.length + 1)).sum
def putO (o : Int → Option ByteArray) (i : Nat) (t : ByteArray) : Int → Option ByteArray := fun j => if j = (i : Int) then some t else o j
def lastO (o : Int → Option ByteArray) (l : Grp) : Int → Option ByteArray := l.foldl (fun o p => putO o p.1 p.2) o
def overAll (recs : List Grp) : Int → Option ByteArray := recs.foldl lastO (fun _ => none)
theorem usedOf_snoc (recs : List Grp) (l : Grp) : usedOf (recs ++ [l]) = usedOf recs + (secs l.length + 1) := by unfold usedOf; simp
theorem overAll_snoc (recs : List Grp) (l : Grp) : overAll (recs ++ [l]) = lastO (overAll recs) l := by unfold overAll; rw [List.foldl_append]; rfl
theorem usedOf_take_succ (recs : List Grp) (j : Nat) (h : j < recs.length) : usedOf (recs.take (j + 1)) = usedOf (recs.take j) + (secs recs[j].length + 1) := by
  rw [List.take_succ_eq_append_getElem h, usedOf_snoc]
theorem usedOf_take_le (recs : List Grp) (j : Nat) : usedOf (recs.take j) ≤ usedOf recs := by
  have h : usedOf recs = usedOf (recs.take j) + usedOf (recs.drop j) := by
    unfold usedOf
    rw [← List.sum_append, ← List.map_append, List.take_append_drop]
  omega
structure RecAt (S : Int → ByteArray) (ring pos seq : Nat) (l : Grp) : Prop where
  hdr : S ((1 + pos % ring : Nat) : Int) = hdrS seq l.length
  pieces : ∀ i, i < secs l.length → S ((1 + (pos + 1 + i) % ring : Nat) : Int) = pieceS (recL l) i
structure GoodGrp (homes : Nat) (l : Grp) : Prop where
  pos : 1 ≤ l.length
  ats : ∀ p ∈ l, p.1 < homes ∧ p.2.size = 512
/-- the disk's sectors S bear a log: these records count -/
structure Dur (S : Int → ByteArray) (ring homes tail seq0 : Nat) (recs : List Grp) : Prop where
  head : (S 0 = zeros 512 ∧ tail = 0 ∧ seq0 = 0) ∨ S 0 = headS tail seq0
  tail_ : tail < ring
  chain : ∀ j (h : j < recs.length), RecAt S ring (tail + usedOf (recs.take j)) (seq0 + j + 1) recs[j]
  good : ∀ l ∈ recs, GoodGrp homes l
  used : usedOf recs ≤ ring
  old : ∀ i, i < ring → byteN (S ((1 + i : Nat) : Int)) 0 = 67 → toldN ((S ((1 + i : Nat) : Int)).extract 1 9) ≤ seq0 + recs.length
def homesOf (S : Int → ByteArray) (ring : Nat) (recs : List Grp) (i : Int) : ByteArray := (overAll recs i).getD (S (1 + (ring : Int) + i))

theorem mod_ne {r t a b : Nat} (h1 : a < b) (h2 : b < a + r) : (t + a) % r ≠ (t + b) % r := by
  intro h
  have := Nat.sub_mod_eq_zero_of_mod_eq h.symm
  rw [show t + b - (t + a) = b - a by omega] at this
  rw [Nat.mod_eq_of_lt (by omega)] at this
  omega
theorem RecAt.congr {S S' : Int → ByteArray} {ring pos seq : Nat} {l : Grp} (h : RecAt S ring pos seq l) (he : ∀ q, q < secs l.length + 1 → S' ((1 + (pos + q) % ring : Nat) : Int) = S ((1 + (pos + q) % ring : Nat) : Int)) : RecAt S' ring pos seq l := by
  refine ⟨?_, fun i hi => ?_⟩
  · have := he 0 (by omega)
    rw [Nat.add_zero] at this
    rw [this]; exact h.hdr
  · have := he (1 + i) (by omega)
    rw [← Nat.add_assoc] at this
    rw [this]; exact h.pieces i hi
/-- records' sectors are as they were -/
theorem Dur.keep {S S' : Int → ByteArray} {ring homes tail seq0 : Nat} {recs : List Grp} (h : Dur S ring homes tail seq0 recs) (h0 : S' 0 = S 0)
    (hr : ∀ p, p < usedOf recs → S' ((1 + (tail + p) % ring : Nat) : Int) = S ((1 + (tail + p) % ring : Nat) : Int))
    (ho : ∀ i, i < ring → byteN (S' ((1 + i : Nat) : Int)) 0 = 67 → toldN ((S' ((1 + i : Nat) : Int)).extract 1 9) ≤ seq0 + recs.length) : Dur S' ring homes tail seq0 recs := by
  refine ⟨by rw [h0]; exact h.head, h.tail_, fun j hj => (h.chain j hj).congr (fun q hq => ?_), h.good, h.used, ho⟩
  have h1 := usedOf_take_succ recs j hj
  have h2 := usedOf_take_le recs (j + 1)
  rw [Nat.add_assoc]
  exact hr _ (by omega)
/-- parts of a record to come -/
theorem Dur.parts {S S' : Int → ByteArray} {ring homes tail seq0 : Nat} {recs : List Grp} (h : Dur S ring homes tail seq0 recs)
    (hd : ∀ i, S' i = S i ∨ ∃ j, usedOf recs + j < ring ∧ i = ((1 + (tail + (usedOf recs + j)) % ring : Nat) : Int) ∧ byteN (S' i) 0 = 80) : Dur S' ring homes tail seq0 recs := by
  have hring : 0 < ring := by have := h.tail_; omega
  refine h.keep ?_ (fun p hp => ?_) (fun i hi hb => ?_)
  · rcases hd 0 with e | ⟨j, hj, e, _⟩
    · exact e
    · omega
  · rcases hd ((1 + (tail + p) % ring : Nat) : Int) with e | ⟨j, hj, e, _⟩
    · exact e
    · exfalso
      have := mod_ne (r := ring) (t := tail) (a := p) (b := usedOf recs + j) (by omega) (by omega)
      omega
  · rcases hd ((1 + i : Nat) : Int) with e | ⟨j, hj, e, h80⟩
    · rw [e] at hb ⊢; exact h.old i hi hb
    · rw [h80] at hb; cases hb
theorem homesOf_parts {S S' : Int → ByteArray} {ring : Nat} {recs : List Grp} {i : Int} (h : S' (1 + (ring : Int) + i) = S (1 + (ring : Int) + i)) : homesOf S' ring recs i = homesOf S ring recs i := by
  unfold homesOf; rw [h]
/-- a record more -/
theorem Dur.more {S S' : Int → ByteArray} {ring homes tail seq0 : Nat} {recs : List Grp} (h : Dur S ring homes tail seq0 recs) {l : Grp} (hl : GoodGrp homes l) (hu : usedOf recs + secs l.length + 1 ≤ ring) (hq : seq0 + recs.length + 1 < 18446744073709551616)
    (hp : ∀ i, i < secs l.length → S ((1 + (tail + usedOf recs + 1 + i) % ring : Nat) : Int) = pieceS (recL l) i)
    (h1 : S' ((1 + (tail + usedOf recs) % ring : Nat) : Int) = hdrS (seq0 + recs.length + 1) l.length) (h2 : ∀ i, i ≠ ((1 + (tail + usedOf recs) % ring : Nat) : Int) → S' i = S i) :
    Dur S' ring homes tail seq0 (recs ++ [l]) := by
  have hring : 0 < ring := by have := h.tail_; omega
  have hne : ∀ p, p < usedOf recs → ((1 + (tail + p) % ring : Nat) : Int) ≠ ((1 + (tail + usedOf recs) % ring : Nat) : Int) := fun p hp e => by
    have := mod_ne (r := ring) (t := tail) (a := p) (b := usedOf recs) (by omega) (by omega)
    omega
  refine ⟨?_, h.tail_, fun j hj => ?_, fun x hx => ?_, by rw [usedOf_snoc]; omega, fun i hi hb => ?_⟩
  · rw [h2 0 (by omega)]; exact h.head
  · by_cases hj2 : j < recs.length
    · rw [List.take_append_of_le_length (by omega), List.getElem_append_left hj2]
      refine (h.chain j hj2).congr (fun q hq => h2 _ ?_)
      have h3 := usedOf_take_succ recs j hj2
      have h4 := usedOf_take_le recs (j + 1)
      rw [Nat.add_assoc]
      exact hne _ (by omega)
    · obtain rfl : j = recs.length := by rw [List.length_append, List.length_singleton] at hj; omega
      rw [List.take_left, List.getElem_append_right (Nat.le_refl _)]
      simp only [Nat.sub_self, List.getElem_cons_zero]
      refine ⟨h1, fun i hi => ?_⟩
      rw [h2, hp i hi]
      intro e
      have := mod_ne (r := ring) (t := tail + usedOf recs) (a := 0) (b := 1 + i) (by omega) (by omega)
      rw [Nat.add_zero, ← Nat.add_assoc] at this
      omega
  · rcases List.mem_append.1 hx with hx | hx
    · exact h.good x hx
    · obtain rfl : x = l := by simpa using hx
      exact hl
  · rw [List.length_append, List.length_singleton]
    by_cases hi2 : ((1 + i : Nat) : Int) = ((1 + (tail + usedOf recs) % ring : Nat) : Int)
    · rw [hi2, h1, hdr_seq _ _ hq]; omega
    · rw [h2 _ hi2] at hb ⊢
      have := h.old i hi hb
      omega
/-- homes' sectors may be as the records say -/
theorem Dur.settling {S S' : Int → ByteArray} {ring homes tail seq0 : Nat} {recs : List Grp} (h : Dur S ring homes tail seq0 recs)
    (hd : ∀ i, S' i = S i ∨ ∃ k : Nat, i = 1 + (ring : Int) + k ∧ overAll recs k = some (S' i)) : Dur S' ring homes tail seq0 recs ∧ ∀ k : Nat, homesOf S' ring recs k = homesOf S ring recs k := by
  have hring : 0 < ring := by have := h.tail_; omega
  have hsame : ∀ i : Int, i < 1 + ring → S' i = S i := fun i hi => by
    rcases hd i with e | ⟨k, e, _⟩
    · exact e
    · omega
  refine ⟨h.keep (hsame 0 (by omega)) (fun p hp => hsame _ ?_) (fun i hi hb => ?_), fun k => ?_⟩
  · have := Nat.mod_lt (tail + p) hring; omega
  · rw [hsame _ (by omega)] at hb ⊢; exact h.old i hi hb
  · unfold homesOf
    rcases hd (1 + (ring : Int) + k) with e | ⟨k', e, e2⟩
    · rw [e]
    · obtain rfl : k' = k := by omega
      rw [e2]; rfl
/-- the ring is free -/
theorem Dur.settled {S S' : Int → ByteArray} {ring homes tail seq0 : Nat} {recs : List Grp} (h : Dur S ring homes tail seq0 recs) (hs : ∀ (k : Nat) t, overAll recs k = some t → S (1 + (ring : Int) + k) = t)
    (h0 : S' 0 = headS ((tail + usedOf recs) % ring) (seq0 + recs.length)) (h1 : ∀ i, i ≠ 0 → S' i = S i) :
    Dur S' ring homes ((tail + usedOf recs) % ring) (seq0 + recs.length) [] ∧ ∀ k : Nat, homesOf S' ring [] k = homesOf S ring recs k := by
  have hring : 0 < ring := by have := h.tail_; omega
  refine ⟨⟨.inr h0, Nat.mod_lt _ hring, fun j hj => (by cases hj), fun l hl => (by cases hl), Nat.zero_le _, fun i hi hb => ?_⟩, fun k => ?_⟩
  · rw [h1 _ (by omega)] at hb ⊢
    exact h.old i hi hb
  · unfold homesOf
    rw [h1 _ (by omega)]
    show S _ = _
    cases ho : overAll recs k with
    | none => rfl
    | some t => exact hs k t ho
/-- a disk of noughts bears a log -/
theorem Dur.fresh (ring homes : Nat) (h : 0 < ring) : Dur (fun _ => zeros 512) ring homes 0 0 [] := by
  refine ⟨.inl ⟨rfl, rfl, rfl⟩, h, fun j hj => (by cases hj), fun l hl => (by cases hl), Nat.zero_le _, fun i hi hb => ?_⟩
  rw [byteN_zeros] at hb; cases hb
end Go.Proofs.YtalgheocjnajlaaGreatDoor
