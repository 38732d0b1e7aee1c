/-
  ROOMS (room): Pages, mapsOf, Of; what a room is in memory; home, dead, at, bit.
-/
import Derived.Test.YtoajdccdhjlikaaDoorTxBack
namespace Go.Proofs.YtoajdccdhjlikaaDoor
open Go.RowKit Go.MapKept
attribute [local go_sem] gives givesH
set_option maxRecDepth 100000

/-- how many pages so many homes have -/
def pagesOf (h : Int) : Int := if h < 3 then 0 else (min h 1048576 - 1) / 4097 * 4096 + max ((min h 1048576 - 1) % 4097 - 1) 0
theorem pagesOf_bd (h : Int) : 0 ≤ pagesOf h ∧ pagesOf h ≤ 1048576 := by
  unfold pagesOf
  split
  · omega
  · omega
theorem roomPages_any (h : Int) (w : World) :
    Calls Tryd.prog 48 #[.int .i64 h] w fun e w' => e = .returned (.int .i64 (pagesOf h)) ∧ w = w' := by
  by_cases h3 : h < 3
  · have e1 : decide (h < 3) = true := by simpa using h3
    have e2 : pagesOf h = 0 := by unfold pagesOf; rw [if_pos h3]
    rw [e2]
    clear e2
    go_enter Tryd.func48, Tryd.ntmps48
    go_wp2
    go_ret
    exact ⟨rfl, rfl⟩
  · have e1 : decide (h < 3) = false := by simpa using h3
    obtain ⟨m, hm⟩ : ∃ m, min h 1048576 = m := ⟨_, rfl⟩
    have hm3 : 3 ≤ m := by omega
    have hm4 : m ≤ 1048576 := by omega
    have e2 : pagesOf h = (m - 1) / 4097 * 4096 + max ((m - 1) % 4097 - 1) 0 := by unfold pagesOf; rw [if_neg h3, hm]
    rw [e2]
    clear e2 h3
    go_enter Tryd.func48, Tryd.ntmps48
    go_wp2
    go_ret
    exact ⟨rfl, rfl⟩

theorem mapsOf_any (p : Int) (h0 : 0 ≤ p) (h1 : p ≤ 1048576) (w : World) :
    Calls Tryd.prog 50 #[.int .i64 p] w fun e w' => e = .returned (.int .i64 ((p + 4095) / 4096)) ∧ w = w' := by
  go_enter Tryd.func50, Tryd.ntmps50
  go_wp2
  go_ret
  refine ⟨?_, rfl⟩
  show Ending.returned (Value.int IntKind.i64 ((p + 4096 - 1) / 4096)) = _
  rw [show p + 4096 - 1 = p + 4095 by omega]

theorem bit_any (p H K M : Nat) (hp : p < 1073741824) (hH : H = 1 + p / 4096) (hK : K = p % 4096 / 8) (hM : M = 2 ^ (p % 8)) (w : World) :
    Calls Tryd.prog 66 #[.int .i64 p] w fun e w' => e = .returned (.tuple #[.int .i64 H, .int .i64 K, .int .u8 M]) ∧ Below w.heap.size w w' := by
  have e1 : (1 : Int) + (p : Int) / 4096 = (H : Int) := by omega
  have e2 : (p : Int) % 4096 / 8 = (K : Int) := by omega
  have e3 : ((2 : Int) ^ (p % 8) % 256) = (M : Int) := by
    have h8 : p % 8 < 8 := Nat.mod_lt _ (by decide)
    subst hM
    have : (2 ^ (p % 8) : Nat) < 256 := Nat.pow_lt_pow_right (n := 8) (by decide) h8
    rw [show ((2 : Int) ^ (p % 8)) = ((2 ^ (p % 8) : Nat) : Int) by simp]
    generalize 2 ^ (p % 8) = x at *
    omega
  have E1 := Lib.hid e1
  have E2 := Lib.hid e2
  have E3 := Lib.hid e3
  clear e1 e2 e3 hH hK hM
  go_enter Tryd.func66, Tryd.ntmps66
  go_wp2
  go_quiet (fail)
  go_wp2
  rw [E1.out, E2.out, E3.out]
  go_ret3
  exact ⟨rfl, ⟨rfl, rfl, rfl, Nat.le_refl _, fun _ _ => rfl⟩⟩

/-! ## a room in memory -/
structure RoomS where
  bt : Nat
  T : TxS
  maps : Nat
  pages : Nat

structure RoomAt (w : World) (br : Nat) (R : RoomS) : Prop where
  cells : w.heap[br]? = some (.cells #[.pointer (some ⟨R.bt, 0, none⟩), .int .i64 R.maps, .int .i64 R.pages] 99 (0, 0))
  tx : TxAt w R.bt R.T
  apart : ¬ R.T.foot R.bt br
  fit : R.maps = (R.pages + 4095) / 4096 ∧ 1 + R.maps + R.pages ≤ R.T.n

def RoomS.own (R : RoomS) (br k : Nat) : Prop := k = br ∨ R.T.own R.bt k
def RoomS.foot (R : RoomS) (br k : Nat) : Prop := k = br ∨ R.T.foot R.bt k
theorem RoomAt.keep {w w' : World} {br : Nat} {R : RoomS} (h : RoomAt w br R) {S : Nat → Prop} (hk : Keep S w w') (hn : ∀ k, R.foot br k → ¬ S k) : RoomAt w' br R :=
  ⟨hk.at h.cells (hn _ (.inl rfl)), h.tx.keep hk (fun k hf => hn k (.inr hf)), h.apart, h.fit⟩
theorem RoomAt.still {w u : World} {br : Nat} {R : RoomS} (h : RoomAt w br R) (hb : Below w.heap.size w u) : RoomAt u br R := h.keep (Keep.still hb) (fun _ _ h => h)

/-- a room turned -/
structure RoomStep (br : Nat) (w : World) (R : RoomS) (w' : World) (R' : RoomS) : Prop where
  at_ : RoomAt w' br R'
  bt : R'.bt = R.bt
  maps : R'.maps = R.maps
  pages : R'.pages = R.pages
  tx : TxStep R.bt w R.T w' R'.T
theorem RoomStep.refl {br : Nat} {w : World} {R : RoomS} (h : RoomAt w br R) : RoomStep br w R w R := ⟨h, rfl, rfl, rfl, TxStep.refl h.tx⟩
theorem RoomStep.still {br : Nat} {w u : World} {R : RoomS} (h : RoomAt w br R) (hb : Below w.heap.size w u) : RoomStep br w R u R := ⟨h.still hb, rfl, rfl, rfl, TxStep.still h.tx hb⟩
theorem RoomStep.trans {br : Nat} {w w' w'' : World} {R R' R'' : RoomS} (h : RoomStep br w R w' R') (k : RoomStep br w' R' w'' R'') : RoomStep br w R w'' R'' :=
  ⟨k.at_, k.bt.trans h.bt, k.maps.trans h.maps, k.pages.trans h.pages, h.tx.trans (h.bt ▸ k.tx)⟩
def RoomS.turned (R : RoomS) (T : TxS) : RoomS := { R with T := T }
theorem TxAt.own_lt {w : World} {bt : Nat} {T : TxS} (h : TxAt w bt T) {k : Nat} (hk : T.own bt k) : k < w.heap.size := by
  rcases hk with rfl | rfl | hk | ⟨i, v, hv, hk⟩
  · exact (Array.getElem?_eq_some_iff.1 h.cells).1
  · exact h.where_.lt
  · exact (h.row.lt k hk).2
  · have hne : posns T.puts i ≠ [] := fun hp => by rw [h.none_ i hp] at hv; cases hv
    obtain ⟨v2, hv2, ho⟩ := h.some_ i hne
    rw [hv] at hv2
    cases hv2
    exact (ho.lt k hk).2
theorem TxAt.foot_lt {w : World} {bt : Nat} {T : TxS} (h : TxAt w bt T) {k : Nat} (hk : T.foot bt k) : k < w.heap.size := by
  rcases hk with hk | hk | hk | hk | hk
  · exact h.own_lt (.inl hk)
  · exact h.own_lt (.inr (.inl hk))
  · exact h.log.lt hk
  · exact h.own_lt (.inr (.inr (.inl hk)))
  · exact h.own_lt (.inr (.inr (.inr hk)))
theorem TxStep.foot {bt : Nat} {w w' : World} {T T' : TxS} (h : TxStep bt w T w' T') {k : Nat} (hk : T'.foot bt k) : T.foot bt k ∨ w.heap.size ≤ k := by
  rcases hk with hk | hk | hk | hk | hk
  · exact (h.own k (.inl hk)).imp TxS.own_foot id
  · exact (h.own k (.inr (.inl hk))).imp TxS.own_foot id
  · exact .inl (.inr (.inr (.inl (h.Fl ▸ hk))))
  · exact (h.own k (.inr (.inr (.inl hk)))).imp TxS.own_foot id
  · exact (h.own k (.inr (.inr (.inr hk)))).imp TxS.own_foot id
theorem RoomAt.step {w w' : World} {br : Nat} {R : RoomS} (h : RoomAt w br R) {T' : TxS} (hs : TxStep R.bt w R.T w' T') : RoomStep br w R w' (R.turned T') := by
  have hlt : br < w.heap.size := (Array.getElem?_eq_some_iff.1 h.cells).1
  refine ⟨⟨hs.keep.at h.cells (fun e => h.apart (TxS.own_foot e)), hs.at_, fun e => ?_, ⟨h.fit.1, by show 1 + R.maps + R.pages ≤ T'.n; rw [hs.n]; exact h.fit.2⟩⟩, rfl, rfl, rfl, hs⟩
  rcases hs.foot e with e | e
  · exact h.apart e
  · omega

/-- what home i holds -/
def RoomS.home (R : RoomS) (i : Int) : ByteArray := R.T.read i
theorem home_any {w : World} {br : Nat} {R : RoomS} (h : RoomAt w br R) {i : Int} (hi : (Lit.int .i64 i).wf = true) :
    Calls Tryd.prog 57 #[.pointer (some ⟨br, 0, none⟩), .int .i64 i] w fun e w' => e = .returned (.tuple #[.string (homeStr R.T.n R.T.read i), .int .i64 (homeErr R.T.n i)]) ∧ Below w.heap.size w w' := by
  have H := Lib.hid (txRead_any h.tx hi)
  obtain ⟨⟨c0, c1, c2⟩, _⟩ := tCells h.cells
  unfold TxS.says homeSays at H
  generalize homeStr R.T.n R.T.read i = s at *
  generalize homeErr R.T.n i = c at *
  go_enter Tryd.func57, Tryd.ntmps57
  go_wp2_with (go_at_call 86; refine (H.out).mono ?_; rintro e w1 ⟨rfl, hb⟩)
  go_ret2
  exact ⟨rfl, hb⟩
theorem home_in {w : World} {br : Nat} {R : RoomS} (h : RoomAt w br R) {i : Nat} (hi : i < R.T.n) :
    Calls Tryd.prog 57 #[.pointer (some ⟨br, 0, none⟩), .int .i64 i] w fun e w' => e = .returned (.tuple #[.string (R.home i), .int .i64 0]) ∧ Below w.heap.size w w' := by
  have := home_any h (i := (i : Int)) (keyOk (by omega) (by have := h.tx.log.small; omega))
  rwa [homeStr_in (by omega), homeErr_in (by omega)] at this
theorem RoomAt.pos {w : World} {br : Nat} {R : RoomS} (h : RoomAt w br R) : 0 < R.T.n := by have := h.fit.2; omega

theorem roomDead_any {w : World} {br : Nat} {R : RoomS} (h : RoomAt w br R) :
    Calls Tryd.prog 51 #[.pointer (some ⟨br, 0, none⟩)] w fun e w' => e = .returned (.bool false) ∧ Below w.heap.size w w' := by
  have H := Lib.hid (home_in h h.pos)
  go_enter Tryd.func51, Tryd.ntmps51
  go_wp2_with (go_at_call 57; refine (H.out).mono ?_; rintro e w1 ⟨rfl, hb⟩)
  go_ret
  exact ⟨rfl, hb⟩

theorem roomAtPage_any {w : World} {br : Nat} {R : RoomS} (h : RoomAt w br R) (p : Nat) (hp : p < R.pages) :
    Calls Tryd.prog 55 #[.pointer (some ⟨br, 0, none⟩), .int .i64 p] w fun e w' => e = .returned (.int .i64 (1 + R.maps + p : Nat)) ∧ w = w' := by
  obtain ⟨⟨c0, c1, c2⟩, _⟩ := tCells h.cells
  have hf := h.fit
  have hn := h.tx.log.small
  have e1 : (1 : Int) + (R.maps : Int) + (p : Int) = ((1 + R.maps + p : Nat) : Int) := by omega
  have hm : (R.maps : Int) ≤ 65536 := by omega
  have hp2 : (p : Int) ≤ 65536 := by omega
  have E1 := Lib.hid e1
  clear e1 hf
  go_enter Tryd.func55, Tryd.ntmps55
  go_wp2
  rw [E1.out]
  go_ret
  exact ⟨rfl, rfl⟩

theorem roomPagesM_any {w : World} {br : Nat} {R : RoomS} (h : RoomAt w br R) :
    Calls Tryd.prog 47 #[.pointer (some ⟨br, 0, none⟩)] w fun e w' => e = .returned (.int .i64 R.pages) ∧ w = w' := by
  obtain ⟨⟨c0, c1, c2⟩, _⟩ := tCells h.cells
  go_enter Tryd.func47, Tryd.ntmps47
  go_wp2
  go_ret
  exact ⟨rfl, rfl⟩

theorem pagesOf_fit (n : Nat) (hn : n ≤ 65536) (h1 : 1 ≤ n) : 1 + ((pagesOf n).toNat + 4095) / 4096 + (pagesOf n).toNat ≤ n := by
  unfold pagesOf
  split
  · simp; omega
  · omega
/-- a change's room -/
theorem of_any {w : World} {bt : Nat} {T : TxS} (h : TxAt w bt T) (h1 : 1 ≤ T.n) :
    Calls Tryd.prog 14 #[.pointer (some ⟨bt, 0, none⟩)] w fun e w' => ∃ br R, e = .returned (.pointer (some ⟨br, 0, none⟩)) ∧ RoomAt w' br R ∧ R.bt = bt ∧ R.T = T ∧ R.pages = (pagesOf T.n).toNat ∧ w.heap.size ≤ br ∧ Below w.heap.size w w' := by
  have hsm := h.log.small
  have H1 := Lib.hid (txHomes_any h)
  have H2 := Lib.hid (fun w => roomPages_any T.n w)
  have hbd := pagesOf_bd T.n
  have hfit := pagesOf_fit T.n hsm h1
  have H3 := Lib.hid (fun w => mapsOf_any (pagesOf T.n) hbd.1 hbd.2 w)
  obtain ⟨pg, hpg⟩ : ∃ pg : Nat, pagesOf T.n = (pg : Int) := ⟨(pagesOf T.n).toNat, by omega⟩
  rw [hpg] at H2 H3 hfit ⊢
  have e1 : ((pg : Int) + 4095) / 4096 = (((pg + 4095) / 4096 : Nat) : Int) := by omega
  rw [e1] at H3
  have H := Lib.hid h
  have HF := Lib.hid hfit
  clear h hfit hbd hpg e1
  generalize hmp : (pg + 4095) / 4096 = mp at *
  have HMP := Lib.hid hmp
  clear hmp
  go_enter Tryd.func14, Tryd.ntmps14
  go_wp2_with (first
    | (go_at_call 49; refine (H1.out).mono ?_; rintro e w1 ⟨rfl, hb⟩)
    | (go_at_call 48; refine (H2.out _).mono ?_; rintro e w2 ⟨rfl, rfl⟩)
    | (go_at_call 50; refine (H3.out _).mono ?_; rintro e w2 ⟨rfl, rfl⟩))
  go_ret
  have hb2 : Below w.heap.size w (w1.alloc (Obj.cells #[.pointer (some ⟨bt, 0, none⟩), .int .i64 mp, .int .i64 pg] 99)) := hb.alloc hb.size _
  refine ⟨w1.heap.size, ⟨bt, T, mp, pg⟩, rfl, ⟨heap_alloc_new w1 _, H.out.still hb2, fun hf => ?_, ⟨HMP.out.symm, ?_⟩⟩, rfl, rfl, by simp, hb.size, hb2⟩
  · have := H.out.foot_lt hf; have := hb.size; omega
  · have := HF.out; have := HMP.out; show 1 + mp + pg ≤ T.n; omega
end Go.Proofs.YtoajdccdhjlikaaDoor
