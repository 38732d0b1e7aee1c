/-
  ROOMS (room): Alloc, Free, Read, Write.
-/
import Derived.Test.YtoajdccdhjlikaaDoorRoom4
namespace Go.Proofs.YtoajdccdhjlikaaDoor
open Go.RowKit Go.MapKept
attribute [local go_sem] gives givesH
set_option maxRecDepth 100000

theorem home_snoc {R R' : RoomS} {i : Int} {s : ByteArray} (hf : R'.T.f = R.T.f) (hp : R'.T.puts = R.T.puts ++ [(i, s)]) (j : Int) : R'.home j = if i = j then s else R.home j := by
  unfold RoomS.home TxS.read
  rw [hf, hp, seen_snoc]

theorem home_same {R R' : RoomS} (hf : R'.T.f = R.T.f) (hp : R'.T.puts = R.T.puts) (j : Int) : R'.home j = R.home j := by
  unfold RoomS.home TxS.read
  rw [hf, hp]

/-- R' is R, page p taken and of noughts -/
structure Alloced (R R' : RoomS) (p : Nat) : Prop where
  has : ∀ q, q < R.maps * 4096 → R'.has q = (decide (q = p) || R.has q)
  text : ∀ q, q < R.pages → R'.text q = if q = p then zeros 512 else R.text q
  zero : R'.home 0 = R.home 0
  puts : ∃ a, R'.T.puts = R.T.puts ++ a ∧ a.length ≤ 2

/-- R' is R, page p given back -/
structure Freed (R R' : RoomS) (p : Nat) : Prop where
  has : ∀ q, q < R.maps * 4096 → R'.has q = (!decide (q = p) && R.has q)
  text : ∀ q, q < R.pages → R'.text q = R.text q
  zero : R'.home 0 = R.home 0
  puts : ∃ a, R'.T.puts = R.T.puts ++ a ∧ a.length ≤ 1
/-- R' is R, page p of another text -/
structure Wrote (R R' : RoomS) (p : Nat) (s : ByteArray) : Prop where
  has : ∀ q, q < R.maps * 4096 → R'.has q = R.has q
  text : ∀ q, q < R.pages → R'.text q = if q = p then s else R.text q
  zero : R'.home 0 = R.home 0
  puts : ∃ a, R'.T.puts = R.T.puts ++ a ∧ a.length ≤ 1
theorem turned_of {w : World} {br : Nat} {R R1 : RoomS} (h : RoomAt w br R) {p : Nat} (hp : p < R.pages) (hf1 : R1.T.f = R.T.f) (hm : R1.maps = R.maps)
    (hp1 : R1.T.puts = R.T.puts ++ [(((1 + p / 4096 : Nat) : Int), xorAt (R.home (1 + p / 4096 : Nat)) (p % 4096 / 8) (2 ^ (p % 8)))]) :
    (∀ q, R1.has q = if q = p then !R.has p else R.has q) ∧ (∀ q, q < R.pages → R1.text q = R.text q) ∧ R1.home 0 = R.home 0 := by
  have hfit := h.fit
  have hh := home_snoc hf1 hp1
  refine ⟨fun q => ?_, fun q hq => ?_, ?_⟩
  · refine bitOf_turn (h.home_size _) ?_ (fun hne => ?_)
    · rw [hh, if_pos rfl]
    · rw [hh, if_neg (by omega)]
  · unfold RoomS.text
    rw [hm, hh, if_neg (by omega)]
  · rw [hh, if_neg (by omega)]
theorem wrote_of {R R1 : RoomS} {p : Nat} {s : ByteArray} (hf1 : R1.T.f = R.T.f) (hm : R1.maps = R.maps) (hp1 : R1.T.puts = R.T.puts ++ [(((1 + R.maps + p : Nat) : Int), s)]) : Wrote R R1 p s := by
  have hh := home_snoc hf1 hp1
  refine ⟨fun q hq => ?_, fun q hq => ?_, ?_, _, hp1, by simp⟩
  · unfold RoomS.has bitOf
    rw [hh, if_neg (by omega)]
  · unfold RoomS.text
    rw [hm, hh]
    by_cases hqp : q = p
    · rw [if_pos hqp, if_pos (by omega)]
    · rw [if_neg hqp, if_neg (by omega)]
  · rw [hh, if_neg (by omega)]
theorem alloced_of {w : World} {br : Nat} {R R1 R2 : RoomS} (h : RoomAt w br R) {p : Nat} (hp : p < R.pages) (h0 : R.has p = false) (hf1 : R1.T.f = R.T.f) (hm1 : R1.maps = R.maps) (hg1 : R1.pages = R.pages)
    (hp1 : R1.T.puts = R.T.puts ++ [(((1 + p / 4096 : Nat) : Int), xorAt (R.home (1 + p / 4096 : Nat)) (p % 4096 / 8) (2 ^ (p % 8)))])
    (hf2 : R2.T.f = R1.T.f) (hm2 : R2.maps = R1.maps) (hp2 : R2.T.puts = R1.T.puts ++ [(((1 + R.maps + p : Nat) : Int), zeros 512)]) : Alloced R R2 p := by
  obtain ⟨t1, t2, t3⟩ := turned_of h hp hf1 hm1 hp1
  have W := wrote_of (R := R1) (R1 := R2) (p := p) hf2 hm2 (by rw [hm1]; exact hp2)
  refine ⟨fun q hq => ?_, fun q hq => ?_, W.zero.trans t3, _, by rw [hp2, hp1, List.append_assoc], by simp⟩
  · rw [W.has q (by rw [hm1]; exact hq), t1]
    by_cases hqp : q = p
    · subst hqp; simp [h0]
    · simp [hqp]
  · rw [W.text q (by rw [hg1]; exact hq)]
    by_cases hqp : q = p
    · rw [if_pos hqp, if_pos hqp]
    · rw [if_neg hqp, if_neg hqp, t2 q hq]

theorem freeSays_eq {f : Int → ByteArray} {pages : Nat} {r : Int} (h : FreeSays f pages r) {p : Nat} (hp : p < pages) (h0 : bitOf f p = false) (h1 : ∀ q, q < p → bitOf f q = true) : r = p := by
  rcases h with ⟨_, h2⟩ | ⟨p', rfl, hp', h2, h3⟩
  · rw [h2 p hp] at h0; cases h0
  · rcases Nat.lt_trichotomy p p' with h | h | h
    · rw [h3 p h] at h0; cases h0
    · rw [h]
    · rw [h1 p' h] at h2; cases h2
theorem freeSays_none {f : Int → ByteArray} {pages : Nat} {r : Int} (h : FreeSays f pages r) (h1 : ∀ q, q < pages → bitOf f q = true) : r = -1 := by
  rcases h with ⟨h2, _⟩ | ⟨p', rfl, hp', h2, h3⟩
  · exact h2
  · rw [h1 p' hp'] at h2; cases h2

theorem alloc_full {w : World} {br : Nat} {R : RoomS} (h : RoomAt w br R) (hall : ∀ q, q < R.pages → R.has q = true) :
    Calls Tryd.prog 16 #[.pointer (some ⟨br, 0, none⟩)] w fun e w' => e = .returned (.tuple #[.int .i64 0, .int .i64 4]) ∧ Below w.heap.size w w' := by
  have HD := Lib.hid (roomDead_any h)
  have HF := Lib.hid (fun u (hu : RoomAt u br R) => free_any hu)
  have HA := Lib.hid hall
  have HR := Lib.hid h
  clear h hall
  go_enter Tryd.func16, Tryd.ntmps16
  go_wp2_with (first
    | (go_at_call 51; refine (HD.out).mono ?_; rintro e w1 ⟨rfl, hb1⟩
       have HB1 := Lib.hid hb1
       clear hb1)
    | (go_at_call 52; refine (HF.out _ (HR.out.still HB1.out)).mono ?_; rintro e w2 ⟨r, hr, rfl, hb2⟩
       obtain rfl := freeSays_none hr HA.out
       have HB2 := Lib.hid (HB1.out.trans (hb2.mono HB1.out.size))
       clear hr hb2))
  go_ret2
  exact ⟨rfl, HB2.out⟩

set_option maxHeartbeats 1000000 in
theorem alloc_ok {w : World} {br : Nat} {R : RoomS} (h : RoomAt w br R) (hlen : R.T.puts.length + 1 < 1000000000000) (p : Nat) (hp : p < R.pages) (h0 : R.has p = false) (h1 : ∀ q, q < p → R.has q = true) :
    Calls Tryd.prog 16 #[.pointer (some ⟨br, 0, none⟩)] w fun e w' => e = .returned (.tuple #[.int .i64 p, .int .i64 0]) ∧ ∃ R', RoomStep br w R w' R' ∧ Alloced R R' p := by
  have hf := h.fit
  have hn := h.tx.log.small
  have HD := Lib.hid (roomDead_any h)
  have HF := Lib.hid (fun u (hu : RoomAt u br R) => free_any hu)
  have HT := Lib.hid (fun u (hu : RoomAt u br R) => turn_any hu (by omega) p hp)
  obtain ⟨A, hA⟩ : ∃ A, A = 1 + R.maps + p := ⟨_, rfl⟩
  have HAt := Lib.hid (fun u R1 (hu : RoomAt u br R1) (hm : R1.maps = R.maps) (hg : R1.pages = R.pages) => (by
    have := roomAtPage_any hu p (by omega)
    rw [hm, ← hA] at this
    exact this : Calls Tryd.prog 55 #[.pointer (some ⟨br, 0, none⟩), .int .i64 p] u fun e w' => e = .returned (.int .i64 A) ∧ u = w'))
  have HU := Lib.hid (fun r hr => freeSays_eq (r := r) hr hp h0 h1)
  have HR := Lib.hid h
  have HH0 := Lib.hid h0
  have HA := Lib.hid hA
  have HFit := Lib.hid hf
  have hp0 : (0 : Int) ≤ (p : Int) := by omega
  clear h h0 h1 hA hf
  go_enter Tryd.func16, Tryd.ntmps16
  go_wp2_with (first
    | (go_at_call 51; refine (HD.out).mono ?_; rintro e w1 ⟨rfl, hb1⟩
       have HB1 := Lib.hid hb1
       clear hb1)
    | (go_at_call 52; refine (HF.out _ (HR.out.still HB1.out)).mono ?_; rintro e w2 ⟨r, hr, rfl, hb2⟩
       obtain rfl := HU.out r hr
       have HB2 := Lib.hid (HB1.out.trans (hb2.mono HB1.out.size))
       clear hr hb2)
    | (go_at_call 53; refine (HT.out _ (HR.out.still HB2.out)).mono ?_; rintro e w3 ⟨rfl, R1, hst, hpp⟩
       have HST := Lib.hid ((RoomStep.still HR.out HB2.out).trans hst)
       have HPP := Lib.hid hpp
       clear hst hpp))
  obtain ⟨S, hS⟩ : ∃ S : World → Prop, ∀ u, S u ↔ Keep (fun _ => False) (w3) u := ⟨fun u => Keep (fun _ => False) (w3) u, fun _ => Iff.rfl⟩
  have HS := Lib.hid hS
  clear hS
  refine wp_region_ord 7 [(0, true), (1, true), (2, true), (3, true), (4, true), (5, true), (6, false)] S (by kernel_rfl) (by kernel_rfl) ((HS.out _).2 (Keep.refl _ _).drew) ?_
  iterate 6
    first
      | (refine wpH_passed rfl (by rfl) (fun K hK => ?_); go_simp; refine hK _ ?_; clear hK K)
      | (first
           | refine wpH_read rfl rfl (fun K hK => ?_)
           | refine wpH_readw rfl (by rfl) (fun K hK => ?_)
         apply Exists.intro
         refine ⟨fun u hu => ?_, ?_⟩
         · have hu := (HS.out u).1 hu
           obtain ⟨⟨c0, c1, c2⟩, _⟩ := tCells (hu.at HST.out.at_.cells (fun e => e))
           rw [HST.out.bt] at c0
           clear hu
           go_simp
           exact ⟨rfl, rfl⟩
         go_simp
         refine hK _ ?_
         clear hK K)
  refine wpH_do rfl rfl (fun K hK => ?_)
  go_simp
  go_at_call 55
  refine (HAt.out _ R1 (HST.out.at_.keep (Keep.refl (fun _ => False) w3).drew (fun _ _ e => e)) HST.out.maps HST.out.pages).mono ?_
  rintro e u5 ⟨rfl, rfl⟩
  refine hK _ _ ((HS.out _).2 (Keep.refl _ _).drew) ?_
  clear hK K
  refine wpH_nil ?_
  simp only [List.drop_succ_cons, List.drop_zero]
  clear S HS
  have hw3 : RoomAt w3.drew br R1 := HST.out.at_.keep (Keep.refl (fun _ => False) w3).drew (fun _ _ e => e)
  have hpl : R1.T.puts.length = R.T.puts.length + 1 := by rw [HPP.out]; simp
  have hn1 : R1.T.n = R.T.n := HST.out.tx.n
  have hz0 : (⟨#[]⟩ : ByteArray).size = 0 := rfl
  have HW := Lib.hid (txWrite_ok hw3.tx (by omega) (i := (A : Int)) (by have := HA.out; have := HFit.out; omega) ⟨#[]⟩ (by omega))
  rw [HST.out.bt] at HW
  have HW3 := Lib.hid hw3
  clear hw3 hpl hn1 hz0
  go_wp2_with (go_at_call 54; refine (HW.out).mono ?_; rintro e w5 ⟨rfl, T', hst, hpp⟩)
  go_ret2
  have hs1 : RoomStep br w R w3.drew R1 := HST.out.trans (RoomStep.still HST.out.at_ (Below.refl _ _).drew)
  have hst2 := HW3.out.step (T' := T') (by rw [HST.out.bt]; exact hst)
  refine ⟨rfl, _, hs1.trans hst2, ?_⟩
  have hfe : fullS ⟨#[]⟩ = zeros 512 := fullS_empty
  rw [hfe] at hpp
  exact alloced_of HR.out hp HH0.out HST.out.tx.f HST.out.maps HST.out.pages HPP.out hst.f rfl (by rw [← HA.out]; exact hpp)

theorem free_bad {w : World} {br : Nat} {R : RoomS} (h : RoomAt w br R) (i : Int) (he : R.err i ≠ 0) :
    Calls Tryd.prog 19 #[.pointer (some ⟨br, 0, none⟩), .int .i64 i] w fun e w' => e = .returned (.int .i64 (R.err i)) ∧ Below w.heap.size w w' := by
  have H1 := Lib.hid (taken_any h i)
  generalize R.err i = c at *
  have e1 : (c != 0) = true := by simpa using he
  clear h
  go_enter Tryd.func19, Tryd.ntmps19
  go_wp2_with (first
    | (go_at_call 56; refine (H1.out).mono ?_; rintro e w1 ⟨rfl, hb1⟩))
  go_ret
  exact ⟨rfl, hb1⟩
theorem err_taken {R : RoomS} {p : Nat} (hp : p < R.pages) (h1 : R.has p = true) : R.err p = 0 := by
  unfold RoomS.err; rw [if_pos (by omega), Int.toNat_natCast, h1]; rfl
theorem free_ok {w : World} {br : Nat} {R : RoomS} (h : RoomAt w br R) (hlen : R.T.puts.length < 1000000000000) (p : Nat) (hp : p < R.pages) (h1 : R.has p = true) :
    Calls Tryd.prog 19 #[.pointer (some ⟨br, 0, none⟩), .int .i64 p] w fun e w' => e = .returned (.int .i64 0) ∧ ∃ R', RoomStep br w R w' R' ∧ Freed R R' p := by
  have H1 := Lib.hid (taken_any h p)
  rw [err_taken hp h1] at H1
  have HT := Lib.hid (fun u (hu : RoomAt u br R) => turn_any hu hlen p hp)
  have HR := Lib.hid h
  have HH := Lib.hid h1
  clear h h1
  go_enter Tryd.func19, Tryd.ntmps19
  go_wp2_with (first
    | (go_at_call 56; refine (H1.out).mono ?_; rintro e w1 ⟨rfl, hb1⟩)
    | (go_at_call 53; refine (HT.out _ (HR.out.still hb1)).mono ?_; rintro e w3 ⟨rfl, R1, hst, hpp⟩))
  go_ret
  obtain ⟨t1, t2, t3⟩ := turned_of HR.out hp hst.tx.f hst.maps hpp
  refine ⟨rfl, R1, (RoomStep.still HR.out hb1).trans hst, fun q _ => ?_, t2, t3, _, hpp, by simp⟩
  rw [t1]
  by_cases hqp : q = p
  · subst hqp; simp [HH.out]
  · simp [hqp]

theorem read_bad {w : World} {br : Nat} {R : RoomS} (h : RoomAt w br R) (i : Int) (he : R.err i ≠ 0) :
    Calls Tryd.prog 20 #[.pointer (some ⟨br, 0, none⟩), .int .i64 i] w fun e w' => e = .returned (.tuple #[.string ⟨#[]⟩, .int .i64 (R.err i)]) ∧ Below w.heap.size w w' := by
  have H1 := Lib.hid (taken_any h i)
  generalize R.err i = c at *
  have e1 : (c != 0) = true := by simpa using he
  clear h
  go_enter Tryd.func20, Tryd.ntmps20
  go_wp2_with (first
    | (go_at_call 56; refine (H1.out).mono ?_; rintro e w1 ⟨rfl, hb1⟩))
  go_ret2
  exact ⟨rfl, hb1⟩
theorem read_ok {w : World} {br : Nat} {R : RoomS} (h : RoomAt w br R) (p : Nat) (hp : p < R.pages) (h1 : R.has p = true) :
    Calls Tryd.prog 20 #[.pointer (some ⟨br, 0, none⟩), .int .i64 p] w fun e w' => e = .returned (.tuple #[.string (R.text p), .int .i64 0]) ∧ Below w.heap.size w w' := by
  have hf := h.fit
  have H1 := Lib.hid (taken_any h p)
  rw [err_taken hp h1] at H1
  have H2 := Lib.hid (fun u (hu : RoomAt u br R) => roomAtPage_any hu p hp)
  have hin : 1 + R.maps + p < R.T.n := by omega
  have H3 := Lib.hid (fun u (hu : RoomAt u br R) => home_in hu hin)
  unfold RoomS.text
  generalize 1 + R.maps + p = A at *
  generalize R.home (A : Int) = s at *
  have HR := Lib.hid h
  clear h h1 hf
  go_enter Tryd.func20, Tryd.ntmps20
  go_wp2_with (first
    | (go_at_call 56; refine (H1.out).mono ?_; rintro e w1 ⟨rfl, hb1⟩
       have HB1 := Lib.hid hb1
       clear hb1)
    | (go_at_call 55; refine (H2.out _ (HR.out.still HB1.out)).mono ?_; rintro e w2 ⟨rfl, rfl⟩)
    | (go_at_call 57; refine (H3.out _ (HR.out.still HB1.out)).mono ?_; rintro e w3 ⟨rfl, hb3⟩))
  go_ret2
  exact ⟨rfl, HB1.out.trans (hb3.mono HB1.out.size)⟩

theorem write_bad {w : World} {br : Nat} {R : RoomS} (h : RoomAt w br R) (i : Int) (he : R.err i ≠ 0) (s : ByteArray) :
    Calls Tryd.prog 17 #[.pointer (some ⟨br, 0, none⟩), .int .i64 i, .string s] w fun e w' => e = .returned (.int .i64 (R.err i)) ∧ Below w.heap.size w w' := by
  have H1 := Lib.hid (taken_any h i)
  generalize R.err i = c at *
  have e1 : (c != 0) = true := by simpa using he
  clear h
  go_enter Tryd.func17, Tryd.ntmps17
  go_wp2_with (first
    | (go_at_call 56; refine (H1.out).mono ?_; rintro e w1 ⟨rfl, hb1⟩))
  go_ret
  exact ⟨rfl, hb1⟩
/-- Write to a page that is taken -/
theorem write_ok {w : World} {br : Nat} {R : RoomS} (h : RoomAt w br R) (hlen : R.T.puts.length < 1000000000000) (p : Nat) (hp : p < R.pages) (h1 : R.has p = true) (s : ByteArray) (hs : s.size ≤ 9223372036854775807) :
    Calls Tryd.prog 17 #[.pointer (some ⟨br, 0, none⟩), .int .i64 p, .string s] w fun e w' => e = .returned (.int .i64 (if 512 < s.size then 5 else 0)) ∧
      ∃ R', RoomStep br w R w' R' ∧ ((512 < s.size ∧ R'.T.puts = R.T.puts) ∨ (s.size ≤ 512 ∧ Wrote R R' p (fullS s))) := by
  have hf := h.fit
  have H1 := Lib.hid (taken_any h p)
  rw [err_taken hp h1] at H1
  have H2 := Lib.hid (fun u (hu : RoomAt u br R) => roomAtPage_any hu p hp)
  obtain ⟨A, hA⟩ : ∃ A, A = 1 + R.maps + p := ⟨_, rfl⟩
  rw [← hA] at H2
  have hin : (A : Int) < R.T.n := by omega
  have HW := Lib.hid (fun u (hu : TxAt u R.bt R.T) => txWrite_any hu hlen (i := (A : Int)) s hs)
  have e1 : writeErr R.T.n (A : Int) s = if 512 < s.size then 5 else 0 := by unfold writeErr; rw [if_pos ⟨by omega, hin⟩]
  rw [e1] at HW
  have HR := Lib.hid h
  have HA := Lib.hid hA
  have HIn := Lib.hid hin
  clear h h1 hf e1 hA hin
  generalize hcc : (if 512 < s.size then 5 else 0 : Int) = c at *
  have HCC := Lib.hid hcc
  clear hcc
  go_enter Tryd.func17, Tryd.ntmps17
  go_wp2_with (first
    | (go_at_call 56; refine (H1.out).mono ?_; rintro e w1 ⟨rfl, hb1⟩
       have HB1 := Lib.hid hb1
       clear hb1))
  obtain ⟨S, hS⟩ : ∃ S : World → Prop, ∀ u, S u ↔ Keep (fun _ => False) (w1) u := ⟨fun u => Keep (fun _ => False) (w1) u, fun _ => Iff.rfl⟩
  have HS := Lib.hid hS
  clear hS
  refine wp_region_ord 8 [(0, true), (1, true), (2, true), (3, true), (4, true), (5, true), (7, true), (6, false)] S (by kernel_rfl) (by kernel_rfl) ((HS.out _).2 (Keep.refl _ _).drew) ?_
  iterate 7
    first
      | (refine wpH_passed rfl (by rfl) (fun K hK => ?_); go_simp; refine hK _ ?_; clear hK K)
      | (first
           | refine wpH_read rfl rfl (fun K hK => ?_)
           | refine wpH_readw rfl (by rfl) (fun K hK => ?_)
         apply Exists.intro
         refine ⟨fun u hu => ?_, ?_⟩
         · have hu := (HS.out u).1 hu
           obtain ⟨⟨c0, c1, c2⟩, _⟩ := tCells (hu.at (HR.out.still HB1.out).cells (fun e => e))
           clear hu
           go_simp
           exact ⟨rfl, rfl⟩
         go_simp
         refine hK _ ?_
         clear hK K)
  refine wpH_do rfl rfl (fun K hK => ?_)
  go_simp
  go_at_call 55
  refine (H2.out _ ((HR.out.still HB1.out).keep (Keep.refl (fun _ => False) w1).drew (fun _ _ e => e))).mono ?_
  rintro e u5 ⟨rfl, rfl⟩
  refine hK _ _ ((HS.out _).2 (Keep.refl _ _).drew) ?_
  clear hK K
  refine wpH_nil ?_
  simp only [List.drop_succ_cons, List.drop_zero]
  clear S HS
  have HW3 := Lib.hid (HR.out.still HB1.out.drew)
  go_wp2_with (go_at_call 54; refine (HW.out _ HW3.out.tx).mono ?_; rintro e w5 ⟨rfl, T', hst, hpp⟩)
  go_ret
  refine ⟨rfl, ?_⟩
  have hst2 := (RoomStep.still HR.out HB1.out.drew).trans (HW3.out.step hst)
  by_cases h5 : 512 < s.size
  · have e2 : putsOf R.T.n (A : Int) s = [] := by unfold putsOf; rw [if_neg (by omega)]
    rw [e2, List.append_nil] at hpp
    exact ⟨_, hst2, .inl ⟨h5, hpp⟩⟩
  · have e2 : putsOf R.T.n (A : Int) s = [((A : Int), fullS s)] := by unfold putsOf; rw [if_pos ⟨by omega, HIn.out, by omega⟩]
    rw [e2] at hpp
    exact ⟨_, hst2, .inr ⟨by omega, wrote_of hst.f rfl (by rw [← HA.out]; exact hpp)⟩⟩
end Go.Proofs.YtoajdccdhjlikaaDoor
