/-
  ROOMS (room): what SetRoot leaves, read again.
-/
import Derived.Test.YtoajdccdhjlikaaDoorRoom8
namespace Go.Proofs.YtoajdccdhjlikaaDoor
open Go.RowKit Go.MapKept
set_option maxRecDepth 100000

theorem ext_get (s : ByteArray) (a b i : Nat) (hb : b ≤ s.size) (hi : i < b - a) : (s.extract a b).data.toList.getD i 0 = s.data.toList.getD (a + i) 0 := by
  have h1 : i < (s.extract a b).size := by rw [ByteArray.size_extract]; omega
  have h2 : a + i < s.size := by omega
  have e1 := byteN_get (s.extract a b) i h1
  have e2 := byteN_get s (a + i) h2
  have e3 : (s.extract a b)[i] = s[a + i] := by rw [ByteArray.getElem_extract]
  rw [e3, e2] at e1
  unfold byteN at e1
  exact UInt8.toNat_inj.1 e1.symm
theorem byteN_setRoot {s : ByteArray} (hs : s.size = 512) {k : Nat} (hk : k < 16) (n i : Nat) :
    byteN (setRootS s k n) i = if 8 * k ≤ i ∧ i < 8 * k + 8 then n / 2 ^ (56 - 8 * (i - 8 * k)) % 256 else byteN s i := by
  have hA := ext_len s 0 (8 * k) (by omega)
  have hC := ext_len s (8 * k + 8) s.size (Nat.le_refl _)
  by_cases hi : i < 512
  · unfold byteN setRootS
    show (((s.extract 0 (8 * k)).data.toList ++ be n 8 ++ (s.extract (8 * k + 8) s.size).data.toList).getD i 0).toNat = _
    rw [List.getD, List.append_assoc, List.getElem?_append]
    by_cases h1 : i < 8 * k
    · rw [if_pos (by omega), if_neg (by omega)]
      have := ext_get s 0 (8 * k) i (by omega) (by omega)
      rw [Nat.zero_add] at this
      rw [← List.getD, this]
    · rw [if_neg (by omega), List.getElem?_append, hA, be_length]
      by_cases h2 : i < 8 * k + 8
      · rw [if_pos (by omega), if_pos ⟨by omega, h2⟩]
        have h3 : (be n 8)[i - (8 * k - 0)]? = some (UInt8.ofNat (n / 2 ^ (56 - 8 * (i - 8 * k)) % 256)) := by
          unfold be
          rw [List.getElem?_map, List.getElem?_range (by omega)]
          simp
        rw [h3]
        simp
      · rw [if_neg (by omega), if_neg (by omega)]
        have := ext_get s (8 * k + 8) s.size (i - (8 * k - 0) - 8) (Nat.le_refl _) (by omega)
        rw [← List.getD, this, show 8 * k + 8 + (i - (8 * k - 0) - 8) = i by omega]
  · rw [byteN_out _ _ (by rw [setRootS_size hs hk]; omega), if_neg (by omega), byteN_out _ _ (by omega)]
theorem rootUp_congr {s t : ByteArray} {k : Nat} (j : Nat) (h : ∀ i, i < j → byteN s (8 * k + i) = byteN t (8 * k + i)) : rootUp s k j = rootUp t k j := by
  induction j with
  | zero => rfl
  | succ j ih => rw [rootUp_succ, rootUp_succ, ih (fun i hi => h i (by omega)), h j (by omega)]
theorem root_set {s : ByteArray} (hs : s.size = 512) {k : Nat} (hk : k < 16) {n : Nat} (hn : n < 18446744073709551616) : rootUp (setRootS s k n) k 8 = n := by
  have h : ∀ j, j ≤ 8 → rootUp (setRootS s k n) k j = n / 2 ^ (64 - 8 * j) := by
    intro j hj
    induction j with
    | zero => show 0 = n / 2 ^ 64; rw [Nat.div_eq_of_lt (by simpa using hn)]
    | succ j ih =>
      rw [rootUp_succ, ih (by omega), byteN_setRoot hs hk, if_pos ⟨by omega, by omega⟩, show 8 * k + j - 8 * k = j by omega]
      have e1 : 64 - 8 * j = (56 - 8 * j) + 8 := by omega
      have e2 : 64 - 8 * (j + 1) = 56 - 8 * j := by omega
      rw [e1, e2, Nat.pow_add, ← Nat.div_div_eq_div_mul]
      have e3 : n / 2 ^ (56 - 8 * j) ≤ n := Nat.div_le_self _ _
      generalize n / 2 ^ (56 - 8 * j) = m at *
      omega
  have := h 8 (Nat.le_refl _)
  simpa using this
theorem root_other {s : ByteArray} (hs : s.size = 512) {k k' : Nat} (hk : k < 16) (hne : k' ≠ k) (n : Nat) : rootUp (setRootS s k n) k' 8 = rootUp s k' 8 := by
  refine rootUp_congr 8 (fun i hi => ?_)
  rw [byteN_setRoot hs hk, if_neg (by omega)]

/-- R' is R, the number at place k another one -/
structure Rooted (R R' : RoomS) (k n : Nat) : Prop where
  has : ∀ q, q < R.maps * 4096 → R'.has q = R.has q
  text : ∀ q, q < R.pages → R'.text q = R.text q
  root : ∀ k', R'.root k' = if k' = k then n else R.root k'
  puts : ∃ a, R'.T.puts = R.T.puts ++ a ∧ a.length ≤ 1
theorem rooted_of {w : World} {br : Nat} {R R' : RoomS} (h : RoomAt w br R) {k n : Nat} (hk : k < 16) (hn : n < 18446744073709551616) (hf : R'.T.f = R.T.f) (hm : R'.maps = R.maps)
    (hp : R'.T.puts = R.T.puts ++ [(((0 : Nat) : Int), setRootS (R.home 0) k n)]) : Rooted R R' k n := by
  have hh := home_snoc hf hp
  refine ⟨fun q hq => ?_, fun q hq => ?_, fun k' => ?_, _, hp, by simp⟩
  · unfold RoomS.has bitOf
    rw [hh, if_neg (by omega)]
  · unfold RoomS.text
    rw [hm, hh, if_neg (by omega)]
  · unfold RoomS.root
    rw [hh, if_pos (show ((0 : Nat) : Int) = 0 from rfl)]
    by_cases hkk : k' = k
    · subst hkk
      rw [if_pos rfl]
      exact root_set (h.home_size _) hk hn
    · rw [if_neg hkk]
      exact root_other (h.home_size _) hk hkk n
section on
variable {w0 w : World} {br : Nat} {R : RoomS}
theorem on_root (h : RoomOn w0 w br R) (k : Nat) (hk : k < 16) :
    Calls Tryd.prog 21 #[.pointer (some ⟨br, 0, none⟩), .int .i64 k] w fun e w' => e = .returned (.tuple #[.int .u64 (R.root k), .int .i64 0]) ∧ RoomOn w0 w' br R :=
  (root_any h.at_ k hk).mono fun _ _ ⟨he, hb⟩ => ⟨he, h.still hb⟩
theorem on_setRoot (h : RoomOn w0 w br R) (hlen : R.T.puts.length < 1000000000000) (k : Nat) (hk : k < 16) (n : Nat) (hn : n < 18446744073709551616) :
    Calls Tryd.prog 18 #[.pointer (some ⟨br, 0, none⟩), .int .i64 k, .int .u64 n] w fun e w' => e = .returned (.int .i64 0) ∧ ∃ R', RoomOn w0 w' br R' ∧ Like R R' ∧ Rooted R R' k n :=
  (setRoot_any h.at_ hlen k hk n hn).mono fun _ _ ⟨he, R', hs, hp⟩ => ⟨he, R', (h.step hs).1, (h.step hs).2, rooted_of h.at_ hk hn hs.tx.f hs.maps hp⟩
end on
theorem Alloced.root {R R' : RoomS} {p : Nat} (h : Alloced R R' p) (k : Nat) : R'.root k = R.root k := by unfold RoomS.root; rw [h.zero]
theorem Freed.root {R R' : RoomS} {p : Nat} (h : Freed R R' p) (k : Nat) : R'.root k = R.root k := by unfold RoomS.root; rw [h.zero]
theorem Wrote.root {R R' : RoomS} {p : Nat} {s : ByteArray} (h : Wrote R R' p s) (k : Nat) : R'.root k = R.root k := by unfold RoomS.root; rw [h.zero]
/-- an Alloc, whatever the room: some page, or none -/
theorem on_alloc_any {w0 w : World} {br : Nat} {R : RoomS} (h : RoomOn w0 w br R) (hlen : R.T.puts.length + 1 < 1000000000000) :
    Calls Tryd.prog 16 #[.pointer (some ⟨br, 0, none⟩)] w fun e w' => ∃ (r c : Int) (R' : RoomS), e = .returned (.tuple #[.int .i64 r, .int .i64 c]) ∧ RoomOn w0 w' br R' ∧ Like R R' ∧
      (R' = R ∨ ∃ p, p < R.pages ∧ R.has p = false ∧ Alloced R R' p) := by
  by_cases hall : ∀ q, q < R.pages → R.has q = true
  · exact (on_full h hall).mono fun _ _ ⟨he, hr⟩ => ⟨_, _, R, he, hr, Like.refl R, .inl rfl⟩
  · have hex : ∃ q, q < R.pages ∧ R.has q = false := by
      refine Classical.byContradiction (fun hno => hall (fun q hq => ?_))
      cases hc : R.has q with
      | true => rfl
      | false => exact absurd ⟨q, hq, hc⟩ hno
    obtain ⟨q, hq, hq0⟩ := hex
    have hmin : ∃ p, p < R.pages ∧ R.has p = false ∧ ∀ i, i < p → R.has i = true := by
      induction q using Nat.strongRecOn with
      | _ q ih =>
        by_cases hb : ∃ i, i < q ∧ R.has i = false
        · obtain ⟨i, hi, hi0⟩ := hb
          exact ih i hi (by omega) hi0
        · refine ⟨q, hq, hq0, fun i hi => ?_⟩
          cases hc : R.has i with
          | true => rfl
          | false => exact absurd ⟨i, hi, hc⟩ hb
    obtain ⟨p, hp, h0, h1⟩ := hmin
    exact (on_alloc h hlen p hp h0 h1).mono fun _ _ ⟨he, R', hr, hl, ha⟩ => ⟨_, _, R', he, hr, hl, .inr ⟨p, hp, h0, ha⟩⟩
/-- a Write, whatever the number and the text -/
theorem on_write_any {w0 w : World} {br : Nat} {R : RoomS} (h : RoomOn w0 w br R) (hlen : R.T.puts.length < 1000000000000) (i : Int) (s : ByteArray) (hs : s.size ≤ 9223372036854775807) :
    Calls Tryd.prog 17 #[.pointer (some ⟨br, 0, none⟩), .int .i64 i, .string s] w fun e w' => ∃ (c : Int) (R' : RoomS), e = .returned (.int .i64 c) ∧ RoomOn w0 w' br R' ∧ Like R R' ∧
      ((R'.T.puts = R.T.puts) ∨ ∃ p : Nat, i = p ∧ p < R.pages ∧ R.has p = true ∧ Wrote R R' p (fullS s)) := by
  by_cases he : R.err i = 0
  · have hin : 0 ≤ i ∧ i < R.pages := by
      refine Classical.byContradiction (fun hno => ?_)
      unfold RoomS.err at he
      rw [if_neg hno] at he
      cases he
    obtain ⟨p, rfl⟩ : ∃ p : Nat, i = p := ⟨i.toNat, by omega⟩
    have hp : p < R.pages := by omega
    have h1 : R.has p = true := by
      unfold RoomS.err at he
      rw [if_pos hin, Int.toNat_natCast] at he
      cases hc : R.has p with
      | true => rfl
      | false => rw [hc] at he; cases he
    exact (write_ok h.at_ hlen p hp h1 s hs).mono fun _ _ ⟨he2, R', hst, ha⟩ => ⟨_, R', he2, (h.step hst).1, (h.step hst).2, ha.imp (fun x => x.2) (fun x => ⟨p, rfl, hp, h1, x.2⟩)⟩
  · exact (write_bad h.at_ i he s).mono fun _ _ ⟨he2, hb⟩ => ⟨_, R, he2, h.still hb, Like.refl R, .inl rfl⟩
/-- a Free, whatever the number -/
theorem on_free_any {w0 w : World} {br : Nat} {R : RoomS} (h : RoomOn w0 w br R) (hlen : R.T.puts.length < 1000000000000) (i : Int) :
    Calls Tryd.prog 19 #[.pointer (some ⟨br, 0, none⟩), .int .i64 i] w fun e w' => ∃ R', e = .returned (.int .i64 (R.err i)) ∧ RoomOn w0 w' br R' ∧ Like R R' ∧
      ((R.err i ≠ 0 ∧ R' = R) ∨ ∃ p : Nat, i = p ∧ p < R.pages ∧ R.has p = true ∧ Freed R R' p) := by
  by_cases he : R.err i = 0
  · have hin : 0 ≤ i ∧ i < R.pages := by
      refine Classical.byContradiction (fun hno => ?_)
      unfold RoomS.err at he
      rw [if_neg hno] at he
      cases he
    obtain ⟨p, rfl⟩ : ∃ p : Nat, i = p := ⟨i.toNat, by omega⟩
    have hp : p < R.pages := by omega
    have h1 : R.has p = true := by
      unfold RoomS.err at he
      rw [if_pos hin, Int.toNat_natCast] at he
      cases hc : R.has p with
      | true => rfl
      | false => rw [hc] at he; cases he
    rw [he]
    exact (on_free h hlen p hp h1).mono fun _ _ ⟨he2, R', hr, hl, ha⟩ => ⟨R', he2, hr, hl, .inr ⟨p, rfl, hp, h1, ha⟩⟩
  · exact (on_free_bad h i he).mono fun _ _ ⟨he2, hr⟩ => ⟨R, he2, hr, Like.refl R, .inl ⟨he, rfl⟩⟩
end Go.Proofs.YtoajdccdhjlikaaDoor
