/-
  BLOBS (blob): pages' texts and parts, plain.
-/
import Derived.Test.YtoajdccdhjlikaaDoorRoom9
namespace Go.Proofs.YtoajdccdhjlikaaDoor
open Go.RowKit Go.MapKept
set_option maxRecDepth 100000

/-- how many pages n bytes take -/
def pagesB (n : Nat) : Nat := if n ≤ 506 then 1 else (n - 1) / 506 + 1
theorem pagesB_pos (n : Nat) : 1 ≤ pagesB n := by unfold pagesB; split <;> omega
theorem pagesB_covers (n : Nat) : n ≤ 506 * pagesB n := by unfold pagesB; split <;> omega
theorem pagesB_least (n i : Nat) (h : i + 1 < pagesB n) : 506 * (i + 1) < n := by unfold pagesB at h; split at h <;> omega
theorem pagesB_le (n : Nat) (h : n ≤ 131072) : pagesB n ≤ 260 := by unfold pagesB; split <;> omega

def headL (next n : Nat) : List UInt8 := [UInt8.ofNat (next / 16777216 % 256), UInt8.ofNat (next / 65536 % 256), UInt8.ofNat (next / 256 % 256), UInt8.ofNat (next % 256), UInt8.ofNat (n / 256 % 256), UInt8.ofNat (n % 256)]
def headB (next n : Nat) : ByteArray := ⟨(headL next n).toArray⟩
/-- a page's text: the next page and 1, how many bytes, a part -/
def pageS (next : Nat) (s : ByteArray) : ByteArray := headB next s.size ++ s
theorem headB_size (next n : Nat) : (headB next n).size = 6 := rfl
theorem pageS_size (next : Nat) (s : ByteArray) : (pageS next s).size = 6 + s.size := by
  unfold pageS; rw [ByteArray.size_append, headB_size]
theorem pageS_data (next : Nat) (s : ByteArray) : (pageS next s).data.toList = headL next s.size ++ s.data.toList := by
  unfold pageS headB; simp
theorem byteN_head (next : Nat) (s : ByteArray) (k : Nat) (hk : k < 6) : byteN (fullS (pageS next s)) k = ((headL next s.size).getD k 0).toNat := by
  rw [byteN_fullS]
  unfold byteN
  rw [pageS_data, List.getD_eq_getElem?_getD, List.getD_eq_getElem?_getD, List.getElem?_append_left (by show k < 6; exact hk)]
theorem page_heads (next : Nat) (s : ByteArray) : byteN (fullS (pageS next s)) 0 = next / 16777216 % 256 ∧ byteN (fullS (pageS next s)) 1 = next / 65536 % 256 ∧ byteN (fullS (pageS next s)) 2 = next / 256 % 256 ∧
    byteN (fullS (pageS next s)) 3 = next % 256 ∧ byteN (fullS (pageS next s)) 4 = s.size / 256 % 256 ∧ byteN (fullS (pageS next s)) 5 = s.size % 256 := by
  refine ⟨?_, ?_, ?_, ?_, ?_, ?_⟩ <;> rw [byteN_head _ _ _ (by decide)] <;> simp [headL]
theorem page_part (next : Nat) (s : ByteArray) (hs : s.size ≤ 506) : (fullS (pageS next s)).extract 6 (6 + s.size) = s := by
  have hz : (fullS (pageS next s)).size = 512 := fullS_size _ (by rw [pageS_size]; omega)
  have hb : ∀ k, byteN (fullS (pageS next s)) k = byteN (pageS next s) k := fun k => byteN_fullS _ k
  generalize fullS (pageS next s) = t at *
  have he : (t.extract 6 (6 + s.size)).size = s.size := by rw [ByteArray.size_extract]; omega
  refine bytes_ext he (fun k hk => ?_)
  rw [he] at hk
  have h1 : byteN (t.extract 6 (6 + s.size)) k = byteN t (6 + k) := by
    unfold byteN
    rw [ext_get t 6 (6 + s.size) k (by omega) (by omega)]
  rw [h1, hb]
  unfold byteN
  rw [pageS_data, List.getD_eq_getElem?_getD, List.getElem?_append_right (by show 6 ≤ 6 + k; omega)]
  show ((s.data.toList[6 + k - 6]?).getD 0).toNat = _
  rw [show 6 + k - 6 = k by omega, List.getD_eq_getElem?_getD]

/-- the number that four bytes make -/
theorem or4 (n : Nat) (h : n < 4294967296) : n / 16777216 % 256 * 16777216 ||| n / 65536 % 256 * 65536 ||| n / 256 % 256 * 256 ||| n % 256 = n := by
  have e1 : n / 16777216 % 256 * 16777216 ||| n / 65536 % 256 * 65536 = n / 65536 * 65536 := by
    have : n / 16777216 % 256 * 16777216 = 2 ^ 24 * (n / 16777216) := by omega
    rw [this, ← Nat.two_pow_add_eq_or_of_lt (by omega)]
    omega
  have e2 : n / 65536 * 65536 ||| n / 256 % 256 * 256 = n / 256 * 256 := by
    have : n / 65536 * 65536 = 2 ^ 16 * (n / 65536) := by omega
    rw [this, ← Nat.two_pow_add_eq_or_of_lt (by omega)]
    omega
  have e3 : n / 256 * 256 ||| n % 256 = n := by
    have : n / 256 * 256 = 2 ^ 8 * (n / 256) := by omega
    rw [this, ← Nat.two_pow_add_eq_or_of_lt (by omega)]
    omega
  rw [e1, e2, e3]
theorem or2 (n : Nat) (h : n < 65536) : n / 256 % 256 * 256 ||| n % 256 = n := by
  have : n / 256 % 256 * 256 = 2 ^ 8 * (n / 256) := by omega
  rw [this, ← Nat.two_pow_add_eq_or_of_lt (by omega)]
  omega
theorem wraps_i64 (n : Int) (h₀ : 0 ≤ n) (h₁ : n < 2 ^ 62) : IntKind.i64.wrap n = n := by rw [IntKind.wrap_i64]; omega
theorem bits_or_i64 (a b : Nat) (ha : a < 2 ^ 62) (hb : b < 2 ^ 62) : bits .or .i64 a b = ((a ||| b : Nat) : Int) :=
  (bits_nat .i64 62 (by decide) wraps_i64 a b ha hb).2

/-! ## parts -/
def restB (s : ByteArray) (i : Nat) : ByteArray := s.extract (506 * i) s.size
def chunkB (s : ByteArray) (i : Nat) : ByteArray := s.extract (506 * i) (min (506 * (i + 1)) s.size)
theorem extract_all (s : ByteArray) : s.extract 0 s.size = s := by apply ByteArray.ext; simp
theorem restB_zero (s : ByteArray) : restB s 0 = s := by unfold restB; rw [Nat.mul_zero]; exact extract_all s
theorem restB_size (s : ByteArray) (i : Nat) : (restB s i).size = s.size - 506 * i := by unfold restB; rw [ByteArray.size_extract]; omega
theorem chunkB_size (s : ByteArray) (i : Nat) : (chunkB s i).size = min 506 (s.size - 506 * i) := by unfold chunkB; rw [ByteArray.size_extract]; omega
theorem extract2 (s : ByteArray) (a b c d : Nat) : (s.extract a b).extract c d = s.extract (a + c) (min (a + d) b) := by
  apply ByteArray.ext
  simp [Array.extract_extract]
theorem restB_take (s : ByteArray) (i n : Nat) (h : 506 * i ≤ s.size) (hn : n = min 506 (s.size - 506 * i)) : (restB s i).extract 0 n = chunkB s i := by
  unfold restB chunkB
  rw [extract2]
  congr 1
  omega
theorem restB_byte (s : ByteArray) (i k : Nat) (h : k < s.size - 506 * i) : (restB s i).data.toList.getD k 0 = s.data.toList.getD (506 * i + k) 0 := ext_get s (506 * i) s.size k (Nat.le_refl _) (by omega)
theorem restB_drop (s : ByteArray) (i n : Nat) (hn : n = min 506 (s.size - 506 * i)) : (restB s i).extract n (restB s i).size = restB s (i + 1) := by
  have hz := restB_size s i
  have hz2 := restB_size s (i + 1)
  apply bytes_ext
  · rw [ByteArray.size_extract]; omega
  · intro k hk
    rw [ByteArray.size_extract] at hk
    have e1 : ((restB s i).extract n (restB s i).size).data.toList.getD k 0 = (restB s i).data.toList.getD (n + k) 0 := ext_get (restB s i) n (restB s i).size k (Nat.le_refl _) (by omega)
    unfold byteN
    rw [e1, restB_byte s i (n + k) (by omega), restB_byte s (i + 1) k (by omega), show 506 * i + (n + k) = 506 * (i + 1) + k by omega]
/-- the parts, one behind the other, are the text -/
theorem chunk_cat (s : ByteArray) (i : Nat) (h : 506 * i ≤ s.size) : s.data.toList.take (506 * i) ++ (chunkB s i).data.toList = s.data.toList.take (506 * (i + 1)) := by
  have hl : s.data.toList.length = s.size := by simp
  have e : (chunkB s i).data.toList = (s.data.toList.drop (506 * i)).take 506 := by
    unfold chunkB
    rw [ByteArray.data_extract, Array.toList_extract, List.extract_eq_take_drop]
    rw [List.take_eq_take_iff, List.length_drop]
    omega
  rw [e, show 506 * (i + 1) = 506 * i + 506 by omega, List.take_add]

/-! ## pages of a blob -/
def nextOf (ps : List Nat) (i : Nat) : Nat := if i + 1 < ps.length then ps.getD (i + 1) 0 + 1 else 0
/-- text s lies in the pages ps -/
structure BlobIn (R : RoomS) (s : ByteArray) (ps : List Nat) : Prop where
  len : ps.length = pagesB s.size
  nodup : ps.Nodup
  pages : ∀ p ∈ ps, p < R.pages ∧ R.has p = true
  text : ∀ i, i < ps.length → R.text (ps.getD i 0) = fullS (pageS (nextOf ps i) (chunkB s i))
theorem getD_mem {ps : List Nat} {i : Nat} (h : i < ps.length) : ps.getD i 0 ∈ ps := by
  rw [List.getD_eq_getElem?_getD, List.getElem?_eq_getElem h]
  exact List.getElem_mem h
theorem getD_inj {ps : List Nat} (hn : ps.Nodup) {i j : Nat} (hi : i < ps.length) (hj : j < ps.length) (h : ps.getD i 0 = ps.getD j 0) : i = j := by
  rw [List.getD_eq_getElem?_getD, List.getD_eq_getElem?_getD, List.getElem?_eq_getElem hi, List.getElem?_eq_getElem hj] at h
  exact (List.getElem_inj hn).1 h
theorem BlobIn.congr {R R' : RoomS} {s : ByteArray} {ps : List Nat} (h : BlobIn R s ps) (hp : R'.pages = R.pages) (hh : ∀ p ∈ ps, R'.has p = R.has p) (ht : ∀ p ∈ ps, R'.text p = R.text p) : BlobIn R' s ps :=
  ⟨h.len, h.nodup, fun p hm => by rw [hp, hh p hm]; exact h.pages p hm, fun i hi => by rw [ht _ (getD_mem hi)]; exact h.text i hi⟩

theorem cnt_add1 (f : Nat → Bool) (p n : Nat) (hp : p < n) (h0 : f p = false) : cnt (fun q => decide (q = p) || f q) n = cnt f n + 1 := by
  induction n with
  | zero => omega
  | succ n ih =>
    rw [cnt_succ, cnt_succ]
    by_cases hpn : p < n
    · rw [ih hpn]
      have : ¬ n = p := by omega
      simp [this]; omega
    · obtain rfl : p = n := by omega
      have e : cnt (fun q => decide (q = p) || f q) p = cnt f p := cnt_congr (fun q hq => by simp; omega)
      rw [e, h0]
      simp
theorem cnt_mem (ps : List Nat) (f : Nat → Bool) (n : Nat) (hd : ps.Nodup) (hlt : ∀ p ∈ ps, p < n) (h0 : ∀ p ∈ ps, f p = false) : cnt (fun q => decide (q ∈ ps) || f q) n = cnt f n + ps.length := by
  induction ps with
  | nil => exact cnt_congr (fun q _ => by simp)
  | cons p ps ih =>
    have hd2 := List.nodup_cons.1 hd
    have e := ih hd2.2 (fun q hq => hlt q (List.mem_cons_of_mem _ hq)) (fun q hq => h0 q (List.mem_cons_of_mem _ hq))
    have e2 := cnt_add1 (fun q => decide (q ∈ ps) || f q) p n (hlt p (by simp)) (by simp [hd2.1, h0 p (by simp)])
    rw [List.length_cons, ← Nat.add_assoc, ← e, ← e2]
    refine cnt_congr (fun q _ => ?_)
    simp [List.mem_cons, Bool.or_assoc]
theorem cnt_drop (ps : List Nat) (f : Nat → Bool) (n : Nat) (hd : ps.Nodup) (hlt : ∀ p ∈ ps, p < n) (h1 : ∀ p ∈ ps, f p = true) : cnt (fun q => !decide (q ∈ ps) && f q) n + ps.length = cnt f n := by
  have := cnt_mem ps (fun q => !decide (q ∈ ps) && f q) n hd hlt (fun p hp => by simp [hp])
  rw [← this]
  refine cnt_congr (fun q _ => ?_)
  by_cases hq : q ∈ ps
  · simp [hq, h1 q hq]
  · simp [hq]
end Go.Proofs.YtoajdccdhjlikaaDoor
