/-
  awake of layer 7: two pages.
-/
import Derived.Test.YtoajdccdhjlikaaDoorRoom6
namespace Go.Proofs.YtoajdccdhjlikaaDoor
open Go.RowKit Go.MapKept
attribute [local go_sem] gives givesH
set_option maxRecDepth 100000

theorem cnt_congr {f g : Nat → Bool} {n : Nat} (h : ∀ q, q < n → f q = g q) : cnt f n = cnt g n := by
  unfold cnt
  congr 1
  exact List.filter_congr (fun q hq => h q (by simpa using hq))
theorem cnt_one (p n : Nat) (h : p < n) : cnt (fun q => decide (q = p)) n = 1 := by
  induction n with
  | zero => omega
  | succ n ih =>
    rw [cnt_succ]
    by_cases hp : p < n
    · rw [ih hp, if_neg (by simp; omega)]
    · obtain rfl : p = n := by omega
      have : cnt (fun q => decide (q = p)) p = 0 := by
        have h0 : cnt (fun q => decide (q = p)) p = cnt (fun _ => false) p := cnt_congr (fun q hq => by simp; omega)
        rw [h0]
        unfold cnt
        simp
      rw [this, if_pos (by simp)]
theorem cnt_none (n : Nat) : cnt (fun _ => false) n = 0 := by unfold cnt; simp

/-- a room of noughts -/
structure Fresh (R : RoomS) (n : Nat) : Prop where
  n_ : R.T.n = n
  puts : R.T.puts = []
  f : ∀ i, R.T.f i = zeros 512
  pages : R.pages = (pagesOf n).toNat
theorem Fresh.home {R : RoomS} {n : Nat} (h : Fresh R n) (i : Int) : R.home i = zeros 512 := by
  unfold RoomS.home TxS.read
  rw [h.puts]
  exact h.f i
theorem Fresh.has {R : RoomS} {n : Nat} (h : Fresh R n) (q : Nat) : R.has q = false := by
  unfold RoomS.has bitOf
  rw [h.home, byteN_zeros]
  exact Nat.zero_testBit _

/-- Wide, Begin, Of, one behind the other, at worlds that only grow -/
theorem begin_fresh {w : World} {bl n : Nat} (h : ∃ F, LogView w bl n (fun _ => zeros 512) F) :
    Calls Tryd.prog 15 #[.pointer (some ⟨bl, 0, none⟩)] w fun e w' => ∃ bt T, e = .returned (.pointer (some ⟨bt, 0, none⟩)) ∧ (T.n = n ∧ T.puts = [] ∧ ∀ i, T.f i = zeros 512) ∧ TxAt w' bt T ∧ (∀ k, T.own bt k → w.heap.size ≤ k) ∧ Below w.heap.size w w' := by
  obtain ⟨F, h⟩ := h
  refine (begin_any h).mono fun e w' ⟨bt, T, he, hT, hA, hbt, hb⟩ => ⟨bt, T, he, ?_, hA, ?_, hb⟩
  · subst hT
    exact ⟨rfl, rfl, fun _ => rfl⟩
  · subst hT
    rintro k (rfl | rfl | hk | ⟨i, v, hv, _⟩)
    · omega
    · exact Nat.le_refl _
    · cases hk
    · cases hv
theorem of_fresh {w : World} {bt n : Nat} {T : TxS} (h : TxAt w bt T) (hn : 1 ≤ n) (hT : T.n = n ∧ T.puts = [] ∧ ∀ i, T.f i = zeros 512) :
    Calls Tryd.prog 14 #[.pointer (some ⟨bt, 0, none⟩)] w fun e w' => ∃ br R, e = .returned (.pointer (some ⟨br, 0, none⟩)) ∧ RoomAt w' br R ∧ Fresh R n ∧ (∀ k, R.T.own R.bt k → T.own bt k) ∧ Below w.heap.size w w' := by
  refine (of_any h (by omega)).mono fun e w' ⟨br, R, he, hA, hbt, hRT, hp, _, hb⟩ => ⟨br, R, he, hA, ?_, ?_, hb⟩
  · subst hRT
    exact ⟨hT.1, hT.2.1, hT.2.2, by rw [hp, hT.1]⟩
  · subst hRT hbt
    exact fun k hk => hk
theorem wide_view (n : Nat) (h1 : 4 ≤ n) (h2 : n ≤ 65335) (w : World) :
    Calls Tryd.prog 13 #[.int .i64 n] w fun e w' => ∃ bd bl, e = .returned (.tuple #[.pointer (some ⟨bd, 0, none⟩), .pointer (some ⟨bl, 0, none⟩)]) ∧
      (∃ F, LogView w' bl n (fun _ => zeros 512) F) ∧ Below w.heap.size w w' :=
  (wide_any n h1 h2 w).mono fun _ _ ⟨bd, bl, he, hv, hb⟩ => ⟨bd, bl, he, ⟨_, hv⟩, hb⟩

/-- a room whose blocks are all newer than world w0 -/
structure RoomOn (w0 w : World) (br : Nat) (R : RoomS) : Prop where
  at_ : RoomAt w br R
  below : Below w0.heap.size w0 w
  own : ∀ k, R.T.own R.bt k → w0.heap.size ≤ k
structure Like (R R' : RoomS) : Prop where
  bt : R'.bt = R.bt
  maps : R'.maps = R.maps
  pages : R'.pages = R.pages
  n : R'.T.n = R.T.n
  f : R'.T.f = R.T.f
theorem RoomOn.still {w0 w u : World} {br : Nat} {R : RoomS} (h : RoomOn w0 w br R) (hb : Below w.heap.size w u) : RoomOn w0 u br R := ⟨h.at_.still hb, h.below.trans (hb.mono h.below.size), h.own⟩
theorem RoomOn.step {w0 w w' : World} {br : Nat} {R R' : RoomS} (h : RoomOn w0 w br R) (hs : RoomStep br w R w' R') : RoomOn w0 w' br R' ∧ Like R R' := by
  refine ⟨⟨hs.at_, h.below.trans (hs.tx.keep.below h.below.size (fun i hi e => by have := h.own i e; omega)), fun k hk => ?_⟩, hs.bt, hs.maps, hs.pages, hs.tx.n, hs.tx.f⟩
  rw [hs.bt] at hk
  rcases hs.tx.own k hk with e | e
  · exact h.own k e
  · exact Nat.le_trans h.below.size e
theorem Like.refl (R : RoomS) : Like R R := ⟨rfl, rfl, rfl, rfl, rfl⟩
theorem Like.trans {R R' R'' : RoomS} (h : Like R R') (k : Like R' R'') : Like R R'' := ⟨k.bt.trans h.bt, k.maps.trans h.maps, k.pages.trans h.pages, k.n.trans h.n, k.f.trans h.f⟩

section on
variable {w0 w : World} {br : Nat} {R : RoomS}
theorem on_alloc (h : RoomOn w0 w br R) (hlen : R.T.puts.length + 1 < 1000000000000) (p : Nat) (hp : p < R.pages) (h0 : R.has p = false) (h1 : ∀ q, q < p → R.has q = true) :
    Calls Tryd.prog 16 #[.pointer (some ⟨br, 0, none⟩)] w fun e w' => e = .returned (.tuple #[.int .i64 p, .int .i64 0]) ∧ ∃ R', RoomOn w0 w' br R' ∧ Like R R' ∧ Alloced R R' p :=
  (alloc_ok h.at_ hlen p hp h0 h1).mono fun _ _ ⟨he, R', hs, ha⟩ => ⟨he, R', (h.step hs).1, (h.step hs).2, ha⟩
theorem on_full (h : RoomOn w0 w br R) (hall : ∀ q, q < R.pages → R.has q = true) :
    Calls Tryd.prog 16 #[.pointer (some ⟨br, 0, none⟩)] w fun e w' => e = .returned (.tuple #[.int .i64 0, .int .i64 4]) ∧ RoomOn w0 w' br R :=
  (alloc_full h.at_ hall).mono fun _ _ ⟨he, hb⟩ => ⟨he, h.still hb⟩
theorem on_free (h : RoomOn w0 w br R) (hlen : R.T.puts.length < 1000000000000) (p : Nat) (hp : p < R.pages) (h1 : R.has p = true) :
    Calls Tryd.prog 19 #[.pointer (some ⟨br, 0, none⟩), .int .i64 p] w fun e w' => e = .returned (.int .i64 0) ∧ ∃ R', RoomOn w0 w' br R' ∧ Like R R' ∧ Freed R R' p :=
  (free_ok h.at_ hlen p hp h1).mono fun _ _ ⟨he, R', hs, ha⟩ => ⟨he, R', (h.step hs).1, (h.step hs).2, ha⟩
theorem on_free_bad (h : RoomOn w0 w br R) (i : Int) (he : R.err i ≠ 0) :
    Calls Tryd.prog 19 #[.pointer (some ⟨br, 0, none⟩), .int .i64 i] w fun e w' => e = .returned (.int .i64 (R.err i)) ∧ RoomOn w0 w' br R :=
  (free_bad h.at_ i he).mono fun _ _ ⟨he, hb⟩ => ⟨he, h.still hb⟩
theorem on_read (h : RoomOn w0 w br R) (p : Nat) (hp : p < R.pages) (h1 : R.has p = true) :
    Calls Tryd.prog 20 #[.pointer (some ⟨br, 0, none⟩), .int .i64 p] w fun e w' => e = .returned (.tuple #[.string (R.text p), .int .i64 0]) ∧ RoomOn w0 w' br R :=
  (read_ok h.at_ p hp h1).mono fun _ _ ⟨he, hb⟩ => ⟨he, h.still hb⟩
theorem on_read_bad (h : RoomOn w0 w br R) (i : Int) (he : R.err i ≠ 0) :
    Calls Tryd.prog 20 #[.pointer (some ⟨br, 0, none⟩), .int .i64 i] w fun e w' => e = .returned (.tuple #[.string ⟨#[]⟩, .int .i64 (R.err i)]) ∧ RoomOn w0 w' br R :=
  (read_bad h.at_ i he).mono fun _ _ ⟨he, hb⟩ => ⟨he, h.still hb⟩
theorem on_write (h : RoomOn w0 w br R) (hlen : R.T.puts.length < 1000000000000) (p : Nat) (hp : p < R.pages) (h1 : R.has p = true) (s : ByteArray) (hs : s.size ≤ 512) :
    Calls Tryd.prog 17 #[.pointer (some ⟨br, 0, none⟩), .int .i64 p, .string s] w fun e w' => e = .returned (.int .i64 0) ∧ ∃ R', RoomOn w0 w' br R' ∧ Like R R' ∧ Wrote R R' p (fullS s) :=
  (write_ok h.at_ hlen p hp h1 s (by omega)).mono fun _ _ ⟨he, R', hst, ha⟩ => by
    rw [if_neg (by omega)] at he
    exact ⟨he, R', (h.step hst).1, (h.step hst).2, ha.elim (fun h => by omega) (fun h => h.2)⟩
theorem on_used (h : RoomOn w0 w br R) :
    Calls Tryd.prog 27 #[.pointer (some ⟨br, 0, none⟩)] w fun e w' => e = .returned (.tuple #[.int .i64 R.used, .int .i64 0]) ∧ RoomOn w0 w' br R :=
  (used_any h.at_).mono fun _ _ ⟨he, hb⟩ => ⟨he, h.still hb⟩
end on
theorem Like.used {R R' : RoomS} (h : Like R R') : R'.used = cnt R'.has (R.maps * 4096) := by unfold RoomS.used; rw [h.maps]
theorem err_free {R : RoomS} {p : Nat} (hp : p < R.pages) (h1 : R.has p = false) : R.err p = 6 := by
  unfold RoomS.err; rw [if_pos (by omega), Int.toNat_natCast, h1]; rfl
theorem text_size {w : World} {br : Nat} {R : RoomS} (h : RoomAt w br R) (p : Nat) : (R.text p).size = 512 := h.home_size _

theorem byteN_fullS (s : ByteArray) (k : Nat) : byteN (fullS s) k = byteN s k := by
  unfold byteN fullS
  simp only [Array.toList_append, List.getD, List.getElem?_append]
  split
  · rfl
  · rename_i h
    rw [List.getElem?_eq_none (l := s.data.toList) (by omega), List.getElem?_replicate]
    split <;> rfl
/-- what the calls of awake come to -/
theorem pagesOf_10 : (pagesOf 10).toNat = 8 := by decide
end Go.Proofs.YtoajdccdhjlikaaDoor
