/-
  The room (layer 7): Wide, the room's calls, awake.
-/
import Derived.Test.YtalgheocjnajlaaGreatDoorTxAll
import Derived.Test.YtalgheocjnajlaaGreatDoorAwk6
import Derived.Test.YtalgheocjnajlaaGreatDoorBits
import Derived.Test.YtalgheocjnajlaaGreatDoorBuildR

namespace Go.Proofs.YtalgheocjnajlaaGreatDoor
open Go.RowKit Go.MapKept
attribute [local go_sem] gives givesH
set_option maxRecDepth 100000

set_option maxHeartbeats 300000 in
theorem wide7_any (n : Nat) (h1 : 4 ≤ n) (h2 : n ≤ 65335) (w : World) :
    Calls Tryz.prog 29 #[.int .i64 n] w fun e w' => ∃ bd bl L, e = .returned (.tuple #[.pointer (some ⟨bd, 0, none⟩), .pointer (some ⟨bl, 0, none⟩)]) ∧
      LogIn w.heap.size w' bl L (dFresh (201 + n)) 0 n 200 (fun _ => zeros 512) ∧ Below w.heap.size w w' := by
  have H1 := Lib.hid (new5_any (201 + n) (by omega) (by omega) w)
  have e1 : ((201 : Int) + (n : Int)) = ((201 + n : Nat) : Int) := by omega
  have e2 : IntKind.i64.wrap ((201 + n : Nat) : Int) = ((201 + n : Nat) : Int) := wrapI (by omega) (by omega)
  have e3 : max (n : Int) 4 = n := by omega
  have hn4 : (4 : Int) ≤ n := by omega
  obtain ⟨m, hm⟩ : ∃ m, 201 + n = m := ⟨_, rfl⟩
  rw [hm] at H1 e1 e2
  rw [hm]
  have HM := Lib.hid hm
  clear hm
  go_enter Tryz.func29, Tryz.ntmps29
  go_wp2_with (go_at_call 8; refine (H1.out).mono ?_; rintro e w1 ⟨bd, D, rfl, hf⟩
               have HF := Lib.hid hf
               have HO := Lib.hid (open5_any hf.at_ hf.dk rfl rfl 200 (by decide) (by decide) (homes := n) (by rw [hf.size]; have := HM.out; omega) (by omega) (by decide) (dFresh_bears m 200 n (by have := HM.out; omega)))
               clear hf)
  refine (HO.out).mono ?_
  rintro e w2 ⟨bl, L, rfl, ho⟩
  go_wp2
  go_ret2
  obtain ⟨hl, hb⟩ := log_new (homes := n) HF.out ho (by have := HM.out; omega) (Nat.le_refl _)
  exact ⟨bd, bl, L, rfl, hl, hb⟩
theorem wide_any (n : Nat) (h1 : 4 ≤ n) (h2 : n ≤ 65335) (w : World) :
    Calls Tryz.prog 29 #[.int .i64 n] w fun e w' => ∃ bd bl, e = .returned (.tuple #[.pointer (some ⟨bd, 0, none⟩), .pointer (some ⟨bl, 0, none⟩)]) ∧
      LogView w' bl n (fun _ => zeros 512) (fun k => w.heap.size ≤ k ∧ k < w'.heap.size) ∧ Below w.heap.size w w' :=
  (wide7_any n h1 h2 w).mono fun e w' ⟨bd, bl, L, he, hl, hb⟩ => ⟨bd, bl, he, by
    obtain ⟨L', g1, g2, g3, g4, g5, g6, g7⟩ := hl.view
    exact ⟨L', g1, g2, g3, g4, g5, fun k hk => ⟨hl.newer k (g6 k hk), g7 k (g6 k hk)⟩, fun k hk => hk.2⟩, hb⟩
end Go.Proofs.YtalgheocjnajlaaGreatDoor

namespace Go.Proofs.YtalgheocjnajlaaGreatDoor
open Go.RowKit Go.MapKept
attribute [local go_sem] gives givesH
set_option maxRecDepth 100000

/-- how many pages so many homes have -/
def pagesOf (h : Int) : Int := if h < 3 then 0 else (min h 1048576 - 1) / 4097 * 4096 + max ((min h 1048576 - 1) % 4097 - 1) 0
theorem pagesOf_bd (h : Int) : 0 ≤ pagesOf h ∧ pagesOf h ≤ 1048576 := by
  unfold pagesOf
  split
  · omega
  · omega
theorem roomPages_any (h : Int) (w : World) :
    Calls Tryz.prog 61 #[.int .i64 h] w fun e w' => e = .returned (.int .i64 (pagesOf h)) ∧ w = w' := by
  by_cases h3 : h < 3
  · have e1 : decide (h < 3) = true := by simpa using h3
    have e2 : pagesOf h = 0 := by unfold pagesOf; rw [if_pos h3]
    rw [e2]
    clear e2
    go_enter Tryz.func61, Tryz.ntmps61
    go_wp2
    go_ret
    exact ⟨rfl, rfl⟩
  · have e1 : decide (h < 3) = false := by simpa using h3
    obtain ⟨m, hm⟩ : ∃ m, min h 1048576 = m := ⟨_, rfl⟩
    have hm3 : 3 ≤ m := by omega
    have hm4 : m ≤ 1048576 := by omega
    have e2 : pagesOf h = (m - 1) / 4097 * 4096 + max ((m - 1) % 4097 - 1) 0 := by unfold pagesOf; rw [if_neg h3, hm]
    rw [e2]
    clear e2 h3
    go_enter Tryz.func61, Tryz.ntmps61
    go_wp2
    go_ret
    exact ⟨rfl, rfl⟩

theorem mapsOf_any (p : Int) (h0 : 0 ≤ p) (h1 : p ≤ 1048576) (w : World) :
    Calls Tryz.prog 62 #[.int .i64 p] w fun e w' => e = .returned (.int .i64 ((p + 4095) / 4096)) ∧ w = w' := by
  go_enter Tryz.func62, Tryz.ntmps62
  go_wp2
  go_ret
  refine ⟨?_, rfl⟩
  show Ending.returned (Value.int IntKind.i64 ((p + 4096 - 1) / 4096)) = _
  rw [show p + 4096 - 1 = p + 4095 by omega]

theorem bit_any (p H K M : Nat) (hp : p < 1073741824) (hH : H = 1 + p / 4096) (hK : K = p % 4096 / 8) (hM : M = 2 ^ (p % 8)) (w : World) :
    Calls Tryz.prog 71 #[.int .i64 p] w fun e w' => e = .returned (.tuple #[.int .i64 H, .int .i64 K, .int .u8 M]) ∧ Below w.heap.size w w' := by
  have e1 : (1 : Int) + (p : Int) / 4096 = (H : Int) := by omega
  have e2 : (p : Int) % 4096 / 8 = (K : Int) := by omega
  have e3 : ((2 : Int) ^ (p % 8) % 256) = (M : Int) := by
    have h8 : p % 8 < 8 := Nat.mod_lt _ (by decide)
    subst hM
    have : (2 ^ (p % 8) : Nat) < 256 := Nat.pow_lt_pow_right (n := 8) (by decide) h8
    rw [show ((2 : Int) ^ (p % 8)) = ((2 ^ (p % 8) : Nat) : Int) by simp]
    generalize 2 ^ (p % 8) = x at *
    omega
  have E1 := Lib.hid e1
  have E2 := Lib.hid e2
  have E3 := Lib.hid e3
  clear e1 e2 e3 hH hK hM
  go_enter Tryz.func71, Tryz.ntmps71
  go_wp2
  go_quiet (fail)
  go_wp2
  rw [E1.out, E2.out, E3.out]
  go_ret3
  exact ⟨rfl, ⟨rfl, rfl, rfl, Nat.le_refl _, fun _ _ => rfl⟩⟩

/-! ## a room in memory -/
structure RoomS where
  bt : Nat
  T : TxS
  maps : Nat
  pages : Nat

structure RoomAt (w : World) (br : Nat) (R : RoomS) : Prop where
  cells : w.heap[br]? = some (.cells #[.pointer (some ⟨R.bt, 0, none⟩), .int .i64 R.maps, .int .i64 R.pages] 115 (0, 0))
  tx : TxAt w R.bt R.T
  apart : ¬ R.T.foot R.bt br
  fit : R.maps = (R.pages + 4095) / 4096 ∧ 1 + R.maps + R.pages ≤ R.T.n

def RoomS.own (R : RoomS) (br k : Nat) : Prop := k = br ∨ R.T.own R.bt k
def RoomS.foot (R : RoomS) (br k : Nat) : Prop := k = br ∨ R.T.foot R.bt k
theorem RoomAt.keep {w w' : World} {br : Nat} {R : RoomS} (h : RoomAt w br R) {S : Nat → Prop} (hk : Keep S w w') (hn : ∀ k, R.foot br k → ¬ S k) : RoomAt w' br R :=
  ⟨hk.at h.cells (hn _ (.inl rfl)), h.tx.keep hk (fun k hf => hn k (.inr hf)), h.apart, h.fit⟩
theorem RoomAt.still {w u : World} {br : Nat} {R : RoomS} (h : RoomAt w br R) (hb : Below w.heap.size w u) : RoomAt u br R := h.keep (Keep.still hb) (fun _ _ h => h)

/-- a room turned -/
structure RoomStep (br : Nat) (w : World) (R : RoomS) (w' : World) (R' : RoomS) : Prop where
  at_ : RoomAt w' br R'
  bt : R'.bt = R.bt
  maps : R'.maps = R.maps
  pages : R'.pages = R.pages
  tx : TxStep R.bt w R.T w' R'.T
theorem RoomStep.refl {br : Nat} {w : World} {R : RoomS} (h : RoomAt w br R) : RoomStep br w R w R := ⟨h, rfl, rfl, rfl, TxStep.refl h.tx⟩
theorem RoomStep.still {br : Nat} {w u : World} {R : RoomS} (h : RoomAt w br R) (hb : Below w.heap.size w u) : RoomStep br w R u R := ⟨h.still hb, rfl, rfl, rfl, TxStep.still h.tx hb⟩
theorem RoomStep.trans {br : Nat} {w w' w'' : World} {R R' R'' : RoomS} (h : RoomStep br w R w' R') (k : RoomStep br w' R' w'' R'') : RoomStep br w R w'' R'' :=
  ⟨k.at_, k.bt.trans h.bt, k.maps.trans h.maps, k.pages.trans h.pages, h.tx.trans (h.bt ▸ k.tx)⟩
def RoomS.turned (R : RoomS) (T : TxS) : RoomS := { R with T := T }
theorem TxAt.foot_lt {w : World} {bt : Nat} {T : TxS} (h : TxAt w bt T) {k : Nat} (hk : T.foot bt k) : k < w.heap.size := by
  rcases hk with hk | hk | hk | hk | hk
  · exact h.own_lt (.inl hk)
  · exact h.own_lt (.inr (.inl hk))
  · exact h.log.lt hk
  · exact h.own_lt (.inr (.inr (.inl hk)))
  · exact h.own_lt (.inr (.inr (.inr hk)))
theorem TxStep.foot {bt : Nat} {w w' : World} {T T' : TxS} (h : TxStep bt w T w' T') {k : Nat} (hk : T'.foot bt k) : T.foot bt k ∨ w.heap.size ≤ k := by
  rcases hk with hk | hk | hk | hk | hk
  · exact (h.own k (.inl hk)).imp TxS.own_foot id
  · exact (h.own k (.inr (.inl hk))).imp TxS.own_foot id
  · exact .inl (.inr (.inr (.inl (h.Fl ▸ hk))))
  · exact (h.own k (.inr (.inr (.inl hk)))).imp TxS.own_foot id
  · exact (h.own k (.inr (.inr (.inr hk)))).imp TxS.own_foot id
theorem RoomAt.step {w w' : World} {br : Nat} {R : RoomS} (h : RoomAt w br R) {T' : TxS} (hs : TxStep R.bt w R.T w' T') : RoomStep br w R w' (R.turned T') := by
  have hlt : br < w.heap.size := (Array.getElem?_eq_some_iff.1 h.cells).1
  refine ⟨⟨hs.keep.at h.cells (fun e => h.apart (TxS.own_foot e)), hs.at_, fun e => ?_, ⟨h.fit.1, by show 1 + R.maps + R.pages ≤ T'.n; rw [hs.n]; exact h.fit.2⟩⟩, rfl, rfl, rfl, hs⟩
  rcases hs.foot e with e | e
  · exact h.apart e
  · omega

/-- what home i holds -/
def RoomS.home (R : RoomS) (i : Int) : ByteArray := R.T.read i
theorem home_any {w : World} {br : Nat} {R : RoomS} (h : RoomAt w br R) {i : Int} (hi : (Lit.int .i64 i).wf = true) :
    Calls Tryz.prog 70 #[.pointer (some ⟨br, 0, none⟩), .int .i64 i] w fun e w' => e = .returned (.tuple #[.string (homeStr R.T.n R.T.read i), .int .i64 (homeErr R.T.n i)]) ∧ Below w.heap.size w w' := by
  have H := Lib.hid (txRead_any h.tx hi)
  obtain ⟨⟨c0, c1, c2⟩, _⟩ := tCells h.cells
  unfold TxS.says homeSays at H
  generalize homeStr R.T.n R.T.read i = s at *
  generalize homeErr R.T.n i = c at *
  go_enter Tryz.func70, Tryz.ntmps70
  go_wp2_with (go_at_call 14; refine (H.out).mono ?_; rintro e w1 ⟨rfl, hb⟩)
  go_ret2
  exact ⟨rfl, hb⟩
theorem home_in {w : World} {br : Nat} {R : RoomS} (h : RoomAt w br R) {i : Nat} (hi : i < R.T.n) :
    Calls Tryz.prog 70 #[.pointer (some ⟨br, 0, none⟩), .int .i64 i] w fun e w' => e = .returned (.tuple #[.string (R.home i), .int .i64 0]) ∧ Below w.heap.size w w' := by
  have := home_any h (i := (i : Int)) (keyOk (by omega) (by have := h.tx.log.small; omega))
  rwa [homeStr_in (by omega), homeErr_in (by omega)] at this
theorem RoomAt.pos {w : World} {br : Nat} {R : RoomS} (h : RoomAt w br R) : 0 < R.T.n := by have := h.fit.2; omega

theorem roomDead_any {w : World} {br : Nat} {R : RoomS} (h : RoomAt w br R) :
    Calls Tryz.prog 64 #[.pointer (some ⟨br, 0, none⟩)] w fun e w' => e = .returned (.bool false) ∧ Below w.heap.size w w' := by
  have H := Lib.hid (home_in h h.pos)
  go_enter Tryz.func64, Tryz.ntmps64
  go_wp2_with (go_at_call 70; refine (H.out).mono ?_; rintro e w1 ⟨rfl, hb⟩)
  go_ret
  exact ⟨rfl, hb⟩

theorem roomAtPage_any {w : World} {br : Nat} {R : RoomS} (h : RoomAt w br R) (p : Nat) (hp : p < R.pages) :
    Calls Tryz.prog 67 #[.pointer (some ⟨br, 0, none⟩), .int .i64 p] w fun e w' => e = .returned (.int .i64 (1 + R.maps + p : Nat)) ∧ w = w' := by
  obtain ⟨⟨c0, c1, c2⟩, _⟩ := tCells h.cells
  have hf := h.fit
  have hn := h.tx.log.small
  have e1 : (1 : Int) + (R.maps : Int) + (p : Int) = ((1 + R.maps + p : Nat) : Int) := by omega
  have hm : (R.maps : Int) ≤ 65536 := by omega
  have hp2 : (p : Int) ≤ 65536 := by omega
  have E1 := Lib.hid e1
  clear e1 hf
  go_enter Tryz.func67, Tryz.ntmps67
  go_wp2
  rw [E1.out]
  go_ret
  exact ⟨rfl, rfl⟩

theorem roomPagesM_any {w : World} {br : Nat} {R : RoomS} (h : RoomAt w br R) :
    Calls Tryz.prog 60 #[.pointer (some ⟨br, 0, none⟩)] w fun e w' => e = .returned (.int .i64 R.pages) ∧ w = w' := by
  obtain ⟨⟨c0, c1, c2⟩, _⟩ := tCells h.cells
  go_enter Tryz.func60, Tryz.ntmps60
  go_wp2
  go_ret
  exact ⟨rfl, rfl⟩

theorem pagesOf_fit (n : Nat) (hn : n ≤ 65536) (h1 : 1 ≤ n) : 1 + ((pagesOf n).toNat + 4095) / 4096 + (pagesOf n).toNat ≤ n := by
  unfold pagesOf
  split
  · simp; omega
  · omega
/-- a change's room -/
theorem of_any {w : World} {bt : Nat} {T : TxS} (h : TxAt w bt T) (h1 : 1 ≤ T.n) :
    Calls Tryz.prog 30 #[.pointer (some ⟨bt, 0, none⟩)] w fun e w' => ∃ br R, e = .returned (.pointer (some ⟨br, 0, none⟩)) ∧ RoomAt w' br R ∧ R.bt = bt ∧ R.T = T ∧ R.pages = (pagesOf T.n).toNat ∧ w.heap.size ≤ br ∧ Below w.heap.size w w' := by
  have hsm := h.log.small
  have H1 := Lib.hid (txHomes_any h)
  have H2 := Lib.hid (fun w => roomPages_any T.n w)
  have hbd := pagesOf_bd T.n
  have hfit := pagesOf_fit T.n hsm h1
  have H3 := Lib.hid (fun w => mapsOf_any (pagesOf T.n) hbd.1 hbd.2 w)
  obtain ⟨pg, hpg⟩ : ∃ pg : Nat, pagesOf T.n = (pg : Int) := ⟨(pagesOf T.n).toNat, by omega⟩
  rw [hpg] at H2 H3 hfit ⊢
  have e1 : ((pg : Int) + 4095) / 4096 = (((pg + 4095) / 4096 : Nat) : Int) := by omega
  rw [e1] at H3
  have H := Lib.hid h
  have HF := Lib.hid hfit
  clear h hfit hbd hpg e1
  generalize hmp : (pg + 4095) / 4096 = mp at *
  have HMP := Lib.hid hmp
  clear hmp
  go_enter Tryz.func30, Tryz.ntmps30
  go_wp2_with (first
    | (go_at_call 24; refine (H1.out).mono ?_; rintro e w1 ⟨rfl, hb⟩)
    | (go_at_call 61; refine (H2.out _).mono ?_; rintro e w2 ⟨rfl, rfl⟩)
    | (go_at_call 62; refine (H3.out _).mono ?_; rintro e w2 ⟨rfl, rfl⟩))
  go_ret
  have hb2 : Below w.heap.size w (w1.alloc (Obj.cells #[.pointer (some ⟨bt, 0, none⟩), .int .i64 mp, .int .i64 pg] 115)) := hb.alloc hb.size _
  refine ⟨w1.heap.size, ⟨bt, T, mp, pg⟩, rfl, ⟨heap_alloc_new w1 _, H.out.still hb2, fun hf => ?_, ⟨HMP.out.symm, ?_⟩⟩, rfl, rfl, by simp, hb.size, hb2⟩
  · have := H.out.foot_lt hf; have := hb.size; omega
  · have := HF.out; have := HMP.out; show 1 + mp + pg ≤ T.n; omega
end Go.Proofs.YtalgheocjnajlaaGreatDoor

namespace Go.Proofs.YtalgheocjnajlaaGreatDoor
open Go.RowKit Go.MapKept
attribute [local go_sem] gives givesH
set_option maxRecDepth 100000

theorem TxAt.read_size {w : World} {bt : Nat} {T : TxS} (h : TxAt w bt T) (i : Int) (h0 : 0 ≤ i) (hn : i < T.n) : (T.read i).size = 512 := by
  unfold TxS.read
  by_cases hp : posns T.puts i = []
  · rw [seen_none _ _ _ hp]; exact h.log.size i h0 hn
  · obtain ⟨hk, hpk⟩ := seen_last T.puts T.f i _ _ (List.dropLast_concat_getLast hp).symm
    exact (h.good _ (List.mem_of_getElem? hpk)).2.2
theorem RoomAt.home_size {w : World} {br : Nat} {R : RoomS} (h : RoomAt w br R) {i : Nat} (hi : i < R.T.n) : (R.home (i : Int)).size = 512 := h.tx.read_size i (by omega) (by omega)

theorem turn_any {w : World} {br : Nat} {R : RoomS} (h : RoomAt w br R) (hlen : R.T.puts.length < 1000000000000) (p : Nat) (hp : p < R.pages) :
    Calls Tryz.prog 66 #[.pointer (some ⟨br, 0, none⟩), .int .i64 p] w fun e w' => e = .returned (.int .i64 0) ∧ ∃ R', RoomStep br w R w' R' ∧
      R'.T.puts = R.T.puts ++ [(((1 + p / 4096 : Nat) : Int), xorAt (R.home (1 + p / 4096 : Nat)) (p % 4096 / 8) (2 ^ (p % 8)))] := by
  have hf := h.fit
  have hn := h.tx.log.small
  have hp2 : p < 1073741824 := by omega
  obtain ⟨H, hH⟩ : ∃ H, H = 1 + p / 4096 := ⟨_, rfl⟩
  obtain ⟨K, hK⟩ : ∃ K, K = p % 4096 / 8 := ⟨_, rfl⟩
  obtain ⟨M, hM⟩ : ∃ M, M = 2 ^ (p % 8) := ⟨_, rfl⟩
  have B := Lib.hid (fun w => bit_any p H K M hp2 hH hK hM w)
  have hHn : H < R.T.n := by omega
  have HM := Lib.hid (fun u (hu : RoomAt u br R) => home_in hu hHn)
  have hK5 : K < 512 := by omega
  rw [← hH, ← hK, ← hM]
  have hsz : (R.home H).size = 512 := h.home_size (by omega)
  have hM8 : M < 256 := by rw [hM]; exact pow8_lt p
  generalize hs : R.home H = s at *
  have HHs := Lib.hid hs
  have HR := Lib.hid h
  clear h hf hH hK hM hs
  go_enter Tryz.func66, Tryz.ntmps66
  go_wp2_with (first
    | (go_at_call 71; refine (B.out _).mono ?_; rintro e w1 ⟨rfl, hb1⟩
       have HR1 := Lib.hid (HR.out.still hb1)
       have HB1 := Lib.hid hb1
       clear hb1)
    | (go_at_call 70; refine (HM.out _ HR1.out).mono ?_; rintro e w2 ⟨rfl, hb2⟩
       have HR2 := Lib.hid (HR1.out.still hb2)
       have HB2 := Lib.hid hb2
       obtain ⟨c, w3, hcv, hb3, hz3, hc3, ⟨cs, hcs, hcl⟩, hcell⟩ := conv_bytes (P := Tryz.prog) w2 9 113 5 s Tryz.underlying9 Tryz.underlying113 Tryz.underlying5
       have hk3 := hcell K (by omega)
       rw [byteN_get] at hk3
       have f3 : w3.frozen? ⟨w2.heap.size, K, none⟩ = false := by simp [World.frozen?, hcs]; omega
       have hx := bits_xor_u8 (byteN s K) M (byteN_lt _ _) hM8
       have hK0 : (0 : Int) ≤ (K : Int) := by omega
       have hK1 : (K : Int) < 512 := by omega
       have HCs := Lib.hid hcs
       have HCell := Lib.hid hcell
       have HB3 := Lib.hid hb3
       have HZ3 := Lib.hid hz3
       rw [hsz] at hcv
       clear hb2 hcs hcell hb3 hz3))
  have hbW : Below w.heap.size w (w3.setCell ⟨w2.heap.size, K, none⟩ (.int .u8 (byteN s K ^^^ M : Nat))) := by
    have b2 := HB1.out.trans (HB2.out.mono HB1.out.size)
    have b3 := b2.trans (HB3.out.mono b2.size)
    exact b3.setCell (p := ⟨w2.heap.size, K, none⟩) b2.size _
  have hBy : Lib.Bytes (w3.setCell ⟨w2.heap.size, K, none⟩ (.int .u8 (byteN s K ^^^ M : Nat))) w2.heap.size 0 (xorAt s K M) := by
    intro i hi
    rw [xorAt_size] at hi
    rw [Nat.zero_add, byteN_get _ i (by rw [xorAt_size]; exact hi), byteN_xorAt _ _ _ _ hM8 (by omega)]
    by_cases hik : i = K
    · subst hik
      rw [if_pos rfl]
      exact World.cell?_setCell_same (h := hk3) ..
    · have hne : (⟨w2.heap.size, K, none⟩ : Addr) ≠ ⟨w2.heap.size, i, none⟩ := fun e => hik (by cases e; rfl)
      rw [if_neg hik, World.cell?_setCell_other (h := hne) .., HCell.out i hi, byteN_get]
  have HRW := Lib.hid (HR.out.still hbW)
  have HBW := Lib.hid hbW
  have HBy := Lib.hid hBy
  clear hbW hBy hcv hk3 f3 hx
  generalize w3.setCell ⟨w2.heap.size, K, none⟩ (.int .u8 (byteN s K ^^^ M : Nat)) = W at *
  have hx5 : (xorAt s K M).size = 512 := by rw [xorAt_size]; exact hsz
  have HW := Lib.hid (txWrite_ok (HRW.out.tx) hlen (i := (H : Int)) (by omega) (xorAt s K M) (by omega))
  rw [fullS_same _ hx5] at HW
  have HCV := Lib.hid (fun u (hu : Lib.Bytes u w2.heap.size 0 (xorAt s K M)) => Lib.run_convert_whole (P := Tryz.prog) u 113 5 9 Tryz.underlying113 Tryz.underlying5 Tryz.underlying9 w2.heap.size 0 (xorAt s K M) hu c)
  rw [hx5] at HCV
  generalize hs2 : xorAt s K M = s2 at *
  have HS2 := Lib.hid hs2
  clear hs2
  have hHn2 : (H : Int) < 65536 := by omega
  obtain ⟨S, hS⟩ : ∃ S : World → Prop, ∀ u, S u ↔ Keep (fun _ => False) (W) u := ⟨fun u => Keep (fun _ => False) (W) u, fun _ => Iff.rfl⟩
  have HS := Lib.hid hS
  clear hS
  refine wp_region_ord 7 [(0, true), (1, true), (2, true), (3, true), (4, true), (5, true), (6, true)] S (by kernel_rfl) (by kernel_rfl) ((HS.out _).2 (Keep.refl _ _).drew) ?_
  iterate 7
    first
      | (refine wpH_passed rfl (by rfl) (fun K hK => ?_); go_simp; refine hK _ ?_; clear hK K)
      | (first
           | refine wpH_read rfl rfl (fun K hK => ?_)
           | refine wpH_readw rfl (by rfl) (fun K hK => ?_)
         apply Exists.intro
         refine ⟨fun u hu => ?_, ?_⟩
         · have hu := (HS.out u).1 hu
           obtain ⟨⟨c0, c1, c2⟩, _⟩ := tCells (hu.at HRW.out.cells (fun e => e))
           have l1 := HCV.out u (fun i hi => (World.cell?_of_block (hu.block _ (World.block_lt_of_cell? _ _ (HBy.out i hi)) (fun e => e))).trans (HBy.out i hi))
           clear hu
           go_simp
           exact ⟨rfl, rfl⟩
         go_simp
         refine hK _ ?_
         clear hK K)
  refine wpH_nil ?_
  simp only [List.drop_succ_cons, List.drop_zero]
  have HWd := Lib.hid (txWrite_ok ((HRW.out.tx).keep (Keep.refl (fun _ => False) W).drew (fun _ _ e => e)) hlen (i := (H : Int)) (by omega) s2 (by omega))
  rw [fullS_same _ hx5] at HWd
  clear S HS HCV HBy HW
  go_wp2_with (go_at_call 13; refine (HWd.out).mono ?_; rintro e w5 ⟨rfl, T', hst, hpp⟩)
  go_ret
  refine ⟨rfl, R.turned T', ?_, by rw [HS2.out]; exact hpp⟩
  have hbd : Below w.heap.size w W.drew := HBW.out.drew
  exact (RoomStep.still HR.out hbd).trans ((HR.out.still hbd).step hst)
end Go.Proofs.YtalgheocjnajlaaGreatDoor

namespace Go.Proofs.YtalgheocjnajlaaGreatDoor
open Go.RowKit Go.MapKept
attribute [local go_sem] gives givesH
set_option maxRecDepth 100000

/-- what free answers -/
def FreeSays (f : Int → ByteArray) (pages : Nat) (r : Int) : Prop :=
  (r = -1 ∧ ∀ q, q < pages → bitOf f q = true) ∨ ∃ p : Nat, r = p ∧ p < pages ∧ bitOf f p = false ∧ ∀ q, q < p → bitOf f q = true
def FreePost (f : Int → ByteArray) (pages : Nat) (w : World) (e : Ending) (w' : World) : Prop := ∃ r : Int, FreeSays f pages r ∧ e = .returned (.tuple #[.int .i64 r, .int .i64 0]) ∧ Below w.heap.size w w'

theorem freeAt {f : Int → ByteArray} {pages m k : Nat} (hk : k < 512) (hall : ∀ q, q < m * 4096 + 8 * k → bitOf f q = true) (hb : byteN (f ((1 + m : Nat) : Int)) k ≠ 255) (t : Nat) (ht : t = Lib.trailingZeros8 (255 - byteN (f ((1 + m : Nat) : Int)) k)) :
    t < 8 ∧ FreeSays f pages (if m * 4096 + 8 * k + t < pages then ((m * 4096 + 8 * k + t : Nat) : Int) else -1) := by
  obtain ⟨h1, h2, h3⟩ := tz_spec ⟨_, byteN_lt (f ((1 + m : Nat) : Int)) k⟩ hb
  simp only at h1 h2 h3
  rw [← ht] at h1 h2 h3
  have hp : bitOf f (m * 4096 + 8 * k + t) = false := by rw [bitOf_split f m k t hk h1]; exact h2
  have hq : ∀ q, q < m * 4096 + 8 * k + t → bitOf f q = true := fun q hq => by
    by_cases h : q < m * 4096 + 8 * k
    · exact hall q h
    · obtain ⟨j, rfl⟩ : ∃ j, q = m * 4096 + 8 * k + j := ⟨q - (m * 4096 + 8 * k), by omega⟩
      rw [bitOf_split f m k j hk (by omega)]
      exact h3 ⟨j, by omega⟩ (by show j < t; omega)
  refine ⟨h1, ?_⟩
  split
  · exact .inr ⟨_, rfl, by assumption, hp, hq⟩
  · exact .inl ⟨rfl, fun q hqp => hq q (by omega)⟩
theorem full255 {f : Int → ByteArray} {m k : Nat} (hk : k < 512) (hall : ∀ q, q < m * 4096 + 8 * k → bitOf f q = true) (hb : byteN (f ((1 + m : Nat) : Int)) k = 255) :
    ∀ q, q < m * 4096 + 8 * (k + 1) → bitOf f q = true := fun q hq => by
  by_cases h : q < m * 4096 + 8 * k
  · exact hall q h
  · obtain ⟨j, rfl⟩ : ∃ j, q = m * 4096 + 8 * k + j := ⟨q - (m * 4096 + 8 * k), by omega⟩
    rw [bitOf_split f m k j hk (by omega), hb]
    exact all_255 ⟨j, by omega⟩

set_option maxHeartbeats 1000000 in
theorem free_any {w : World} {br : Nat} {R : RoomS} (h : RoomAt w br R) :
    Calls Tryz.prog 65 #[.pointer (some ⟨br, 0, none⟩)] w (FreePost R.home R.pages w) := by
  have hf := h.fit
  have hn := h.tx.log.small
  obtain ⟨⟨c0, c1, c2⟩, _⟩ := tCells h.cells
  have HM := Lib.hid (fun (i : Nat) (hi : i < R.T.n) u (hu : RoomAt u br R) => home_in hu hi)
  have HSz := Lib.hid (fun (i : Nat) (hi : i < R.T.n) => h.home_size hi)
  have HR := Lib.hid h
  have HF := Lib.hid hf
  have hmaps : R.maps ≤ 17 := by omega
  clear h hf
  go_enter Tryz.func65, Tryz.ntmps65
  go_wp2
  go_loopw [13] (fun i wr => (∃ m : Nat, m ≤ R.maps ∧ i = .int .i64 m ∧ ∀ q, q < m * 4096 → bitOf R.home q = true) ∧ Below w.heap.size w wr) (fun i _ => R.maps - (intOf i).toNat)
  case atStart => exact ⟨⟨0, by omega, rfl, fun q hq => by omega⟩, Below.refl _ _⟩
  case round =>
    obtain ⟨⟨m, hm, rfl, hall⟩, hb⟩ := hrel
    have HA := Lib.hid hall
    have HB := Lib.hid hb
    clear hall hb
    by_cases hlt : m < R.maps
    · have e1 : decide ((m : Int) < (R.maps : Int)) = true := by simp; omega
      have e2 : (1 : Int) + (m : Int) = ((1 + m : Nat) : Int) := by omega
      have hin : 1 + m < R.T.n := by have := HF.out; omega
      have hsz : (R.home ((1 + m : Nat) : Int)).size = 512 := HSz.out _ hin
      have HM1 := Lib.hid (HM.out (1 + m) hin)
      generalize hs : R.home ((1 + m : Nat) : Int) = s at *
      have HS := Lib.hid hs
      have HE2 := Lib.hid e2
      clear hs e2
      go_wp2_with (fail)
      rw [HE2.out]
      refine (HM1.out _ (HR.out.still HB.out)).mono ?_
      rintro e w1 ⟨rfl, hb1⟩
      have HB1 := Lib.hid (HB.out.trans (hb1.mono HB.out.size))
      obtain ⟨⟨d0, d1, d2⟩, _⟩ := tCells (HR.out.still HB1.out).cells
      clear hb1
      go_wp2_with (fail)
      go_loop [28] (fun i => ∃ k : Nat, k ≤ 512 ∧ i = .int .i64 k ∧ ∀ q, q < m * 4096 + 8 * k → bitOf R.home q = true) (fun i => 512 - (intOf i).toNat)
      case atStart => exact ⟨0, by omega, rfl, fun q hq => HA.out q (by omega)⟩
      case round =>
        obtain ⟨k, hk, rfl, hall⟩ := hrel
        have HK := Lib.hid hall
        clear hall
        by_cases hk5 : k < 512
        · have f1 : decide ((k : Int) < 512) = true := by simp; omega
          have hk0 : (0 : Int) ≤ (k : Int) := by omega
          have hk1 : (k : Int) < 512 := by omega
          have hbn := byteN_get s k (by omega)
          have hbl := byteN_lt s k
          by_cases hbb : byteN s k = 255
          · have f2 : ((byteN s k : Int) == 255) = true := by simp; omega
            have hnext := full255 hk5 HK.out (by rw [HS.out]; exact hbb)
            have HN := Lib.hid hnext
            clear hnext
            go_wp2
            go_round
            case rel => exact ⟨k + 1, by omega, by go_num, HN.out⟩
            case measure => simp [intOf]; omega
          · have f2 : ((byteN s k : Int) == 255) = false := by simp; omega
            have hx := xor_max (byteN s k) hbl
            obtain ⟨t, ht⟩ : ∃ t, t = Lib.trailingZeros8 (255 - byteN s k) := ⟨_, rfl⟩
            obtain ⟨ht8, hsay⟩ := freeAt (f := R.home) (pages := R.pages) hk5 HK.out (by rw [HS.out]; exact hbb) t (by rw [HS.out]; exact ht)
            have hz := fun w => Tryz.bits_TrailingZeros8 ((255 - byteN s k : Nat) : Int) w (by omega) (by omega)
            rw [Int.toNat_natCast, ← ht] at hz
            have HZ := Lib.hid hz
            have HSay := Lib.hid hsay
            clear hz ht hsay hbb
            generalize hb : byteN s k = b at *
            have HBB := Lib.hid hb
            clear hb
            go_wp2_with (fail)
            refine (HZ.out _).mono ?_
            rintro e w2 ⟨rfl, rfl⟩
            have ht0 : (0 : Int) ≤ (t : Int) := by omega
            by_cases hpp : m * 4096 + 8 * k + t < R.pages
            · have g1 : decide ((m : Int) * 4096 + 8 * (k : Int) + (t : Int) < (R.pages : Int)) = true := by simp; omega
              have hsay := HSay.out
              rw [if_pos hpp] at hsay
              have HSay2 := Lib.hid hsay
              have eP : (m : Int) * 4096 + 8 * (k : Int) + (t : Int) = ((m * 4096 + 8 * k + t : Nat) : Int) := by omega
              have EP := Lib.hid eP
              clear hsay hpp eP
              go_wp2
              go_ret2
              exact ⟨_, HSay2.out, by rw [← EP.out]; rfl, HB1.out⟩
            · have g1 : decide ((m : Int) * 4096 + 8 * (k : Int) + (t : Int) < (R.pages : Int)) = false := by simp; omega
              have hsay := HSay.out
              rw [if_neg hpp] at hsay
              have HSay2 := Lib.hid hsay
              clear hsay hpp
              go_wp2
              go_ret2
              exact ⟨_, HSay2.out, rfl, HB1.out⟩
        · obtain rfl : k = 512 := by omega
          have hall2 : ∀ q, q < (m + 1) * 4096 → bitOf R.home q = true := fun q hq => HK.out q (by omega)
          have HA2 := Lib.hid hall2
          clear hall2
          go_wp2
          go_roundw
          case rel => exact ⟨⟨m + 1, by omega, by go_num, HA2.out⟩, HB1.out⟩
          case measure => simp [intOf]; omega
    · obtain rfl : m = R.maps := by omega
      have hall2 : ∀ q, q < R.pages → bitOf R.home q = true := fun q hq => HA.out q (by have := HF.out; omega)
      have HA2 := Lib.hid hall2
      clear hall2
      go_wp2
      go_ret2
      exact ⟨-1, .inl ⟨rfl, HA2.out⟩, rfl, HB.out⟩
end Go.Proofs.YtalgheocjnajlaaGreatDoor

namespace Go.Proofs.YtalgheocjnajlaaGreatDoor
open Go.RowKit Go.MapKept
attribute [local go_sem] gives givesH
set_option maxRecDepth 100000

def RoomS.has (R : RoomS) (p : Nat) : Bool := bitOf R.home p
def RoomS.text (R : RoomS) (p : Nat) : ByteArray := R.home ((1 + R.maps + p : Nat) : Int)
/-- is number i a page's; the error of a page that is not taken -/
def RoomS.hasAt (R : RoomS) (i : Int) : Bool := decide (0 ≤ i ∧ i < R.pages) && R.has i.toNat
def RoomS.hasErr (R : RoomS) (i : Int) : Int := if 0 ≤ i ∧ i < R.pages then 0 else 2
def RoomS.err (R : RoomS) (i : Int) : Int := if 0 ≤ i ∧ i < R.pages then (if R.has i.toNat then 0 else 6) else 2

theorem has_any {w : World} {br : Nat} {R : RoomS} (h : RoomAt w br R) (i : Int) :
    Calls Tryz.prog 41 #[.pointer (some ⟨br, 0, none⟩), .int .i64 i] w fun e w' => e = .returned (.tuple #[.bool (R.hasAt i), .int .i64 (R.hasErr i)]) ∧ Below w.heap.size w w' := by
  have hf := h.fit
  have hn := h.tx.log.small
  have HD := Lib.hid (fun u (hu : RoomAt u br R) => roomDead_any hu)
  have HR := Lib.hid h
  by_cases h0 : i < 0
  · have d1 : decide (i < 0) = true := by simpa using h0
    have e1 : R.hasAt i = false := by unfold RoomS.hasAt; rw [decide_eq_false (by omega)]; rfl
    have e2 : R.hasErr i = 2 := by unfold RoomS.hasErr; rw [if_neg (by omega)]
    rw [e1, e2]
    clear e1 e2 hf h
    go_enter Tryz.func41, Tryz.ntmps41
    go_wp2_with (first
      | (go_at_call 64; refine (HD.out _ HR.out).mono ?_; rintro e w1 ⟨rfl, hb1⟩
         obtain ⟨⟨c0, c1, c2⟩, _⟩ := tCells (HR.out.still hb1).cells))
    go_ret2
    exact ⟨rfl, hb1⟩
  · have d1 : decide (i < 0) = false := by simpa using h0
    by_cases hge : (R.pages : Int) ≤ i
    · have d2 : decide ((R.pages : Int) ≤ i) = true := by simpa using hge
      have e1 : R.hasAt i = false := by unfold RoomS.hasAt; rw [decide_eq_false (by omega)]; rfl
      have e2 : R.hasErr i = 2 := by unfold RoomS.hasErr; rw [if_neg (by omega)]
      rw [e1, e2]
      clear e1 e2 hf h
      go_enter Tryz.func41, Tryz.ntmps41
      go_wp2_with (first
        | (go_at_call 64; refine (HD.out _ HR.out).mono ?_; rintro e w1 ⟨rfl, hb1⟩
           obtain ⟨⟨c0, c1, c2⟩, _⟩ := tCells (HR.out.still hb1).cells))
      go_ret2
      exact ⟨rfl, hb1⟩
    · have d2 : decide ((R.pages : Int) ≤ i) = false := by simpa using hge
      obtain ⟨p, rfl⟩ : ∃ p : Nat, i = p := ⟨i.toNat, by omega⟩
      have hp : p < R.pages := by omega
      have e1 : R.hasAt p = bitOf R.home p := by unfold RoomS.hasAt; rw [decide_eq_true (by omega)]; rfl
      have e2 : R.hasErr p = 0 := by unfold RoomS.hasErr; rw [if_pos (by omega)]
      rw [e1, e2]
      obtain ⟨H, hH⟩ : ∃ H, H = 1 + p / 4096 := ⟨_, rfl⟩
      obtain ⟨K, hK⟩ : ∃ K, K = p % 4096 / 8 := ⟨_, rfl⟩
      obtain ⟨M, hM⟩ : ∃ M, M = 2 ^ (p % 8) := ⟨_, rfl⟩
      have B := Lib.hid (fun w => bit_any p H K M (by omega) hH hK hM w)
      have hHn : H < R.T.n := by omega
      have HM := Lib.hid (fun u (hu : RoomAt u br R) => home_in hu hHn)
      have hK5 : K < 512 := by omega
      have hM8 : M < 256 := by rw [hM]; exact pow8_lt p
      have hsz : (R.home H).size = 512 := h.home_size (by omega)
      have e3 : bitOf R.home p = (byteN (R.home H) K &&& M != 0) := by
        unfold bitOf; rw [← hH, ← hK, hM, and_two_pow]
      rw [e3]
      generalize R.home H = s at *
      have hKs : K < s.size := by omega
      have hbn := byteN_get s K hKs
      have hx := bits_and_u8 (byteN s K) M (byteN_lt _ _) hM8
      have hx2 : (((byteN s K &&& M : Nat) : Int) != 0) = (byteN s K &&& M != 0) := by
        generalize byteN s K &&& M = x
        cases x
        · rfl
        · simp; omega
      have HX2 := Lib.hid hx2
      have hK0 : (0 : Int) ≤ (K : Int) := by omega
      have hK1 : (K : Int) < 512 := by omega
      clear e1 e2 e3 hf h hx2 hH hK hM
      go_enter Tryz.func41, Tryz.ntmps41
      go_wp2_with (first
        | (go_at_call 64; refine (HD.out _ HR.out).mono ?_; rintro e w1 ⟨rfl, hb1⟩
           have HR1 := Lib.hid (HR.out.still hb1)
           have HB1 := Lib.hid hb1
           obtain ⟨⟨c0, c1, c2⟩, _⟩ := tCells HR1.out.cells
           clear hb1)
        | (go_at_call 71; refine (B.out _).mono ?_; rintro e w2 ⟨rfl, hb2⟩
           have HR2 := Lib.hid (HR1.out.still hb2)
           have HB2 := Lib.hid (HB1.out.trans (hb2.mono HB1.out.size))
           clear hb2)
        | (go_at_call 70; refine (HM.out _ HR2.out).mono ?_; rintro e w3 ⟨rfl, hb3⟩
           have HB3 := Lib.hid (HB2.out.trans (hb3.mono HB2.out.size))
           clear hb3))
      go_ret2
      exact ⟨by rw [← HX2.out]; rfl, HB3.out⟩

theorem hasAt_in {R : RoomS} {p : Nat} (hp : p < R.pages) : R.hasAt p = R.has p := by unfold RoomS.hasAt; rw [decide_eq_true (by omega)]; rfl
theorem err_eq (R : RoomS) (i : Int) : R.err i = if R.hasErr i = 0 then (if R.hasAt i then 0 else 6) else R.hasErr i := by
  unfold RoomS.err RoomS.hasErr RoomS.hasAt
  by_cases h : 0 ≤ i ∧ i < R.pages
  · simp [h]
  · simp [h]
theorem taken_any {w : World} {br : Nat} {R : RoomS} (h : RoomAt w br R) (i : Int) :
    Calls Tryz.prog 68 #[.pointer (some ⟨br, 0, none⟩), .int .i64 i] w fun e w' => e = .returned (.int .i64 (R.err i)) ∧ Below w.heap.size w w' := by
  have H1 := Lib.hid (has_any h i)
  rw [err_eq]
  generalize R.hasAt i = b at *
  have h2 : R.hasErr i = 0 ∨ R.hasErr i = 2 := by unfold RoomS.hasErr; split <;> simp
  generalize R.hasErr i = c at *
  clear h
  rcases h2 with rfl | rfl
  · cases b
    all_goals
      go_enter Tryz.func68, Tryz.ntmps68
      go_wp2_with (first
        | (go_at_call 41; refine (H1.out).mono ?_; rintro e w1 ⟨rfl, hb1⟩))
      go_ret
      exact ⟨rfl, hb1⟩
  · go_enter Tryz.func68, Tryz.ntmps68
    go_wp2_with (first
      | (go_at_call 41; refine (H1.out).mono ?_; rintro e w1 ⟨rfl, hb1⟩))
    go_ret
    exact ⟨rfl, hb1⟩
end Go.Proofs.YtalgheocjnajlaaGreatDoor

namespace Go.Proofs.YtalgheocjnajlaaGreatDoor
open Go.RowKit Go.MapKept
attribute [local go_sem] gives givesH
set_option maxRecDepth 100000

theorem home_snoc {R R' : RoomS} {i : Int} {s : ByteArray} (hf : R'.T.f = R.T.f) (hp : R'.T.puts = R.T.puts ++ [(i, s)]) (j : Int) : R'.home j = if i = j then s else R.home j := by
  unfold RoomS.home TxS.read
  rw [hf, hp, seen_snoc]

theorem home_same {R R' : RoomS} (hf : R'.T.f = R.T.f) (hp : R'.T.puts = R.T.puts) (j : Int) : R'.home j = R.home j := by
  unfold RoomS.home TxS.read
  rw [hf, hp]

/-- R' is R, page p taken and of noughts -/
structure Alloced (R R' : RoomS) (p : Nat) : Prop where
  has : ∀ q, q < R.maps * 4096 → R'.has q = (decide (q = p) || R.has q)
  text : ∀ q, q < R.pages → R'.text q = if q = p then zeros 512 else R.text q
  zero : R'.home 0 = R.home 0
  puts : ∃ a, R'.T.puts = R.T.puts ++ a ∧ a.length ≤ 2

/-- R' is R, page p given back -/
structure Freed (R R' : RoomS) (p : Nat) : Prop where
  has : ∀ q, q < R.maps * 4096 → R'.has q = (!decide (q = p) && R.has q)
  text : ∀ q, q < R.pages → R'.text q = R.text q
  zero : R'.home 0 = R.home 0
  puts : ∃ a, R'.T.puts = R.T.puts ++ a ∧ a.length ≤ 1
/-- R' is R, page p of another text -/
structure Wrote (R R' : RoomS) (p : Nat) (s : ByteArray) : Prop where
  has : ∀ q, q < R.maps * 4096 → R'.has q = R.has q
  text : ∀ q, q < R.pages → R'.text q = if q = p then s else R.text q
  zero : R'.home 0 = R.home 0
  puts : ∃ a, R'.T.puts = R.T.puts ++ a ∧ a.length ≤ 1
theorem turned_of {w : World} {br : Nat} {R R1 : RoomS} (h : RoomAt w br R) {p : Nat} (hp : p < R.pages) (hf1 : R1.T.f = R.T.f) (hm : R1.maps = R.maps)
    (hp1 : R1.T.puts = R.T.puts ++ [(((1 + p / 4096 : Nat) : Int), xorAt (R.home (1 + p / 4096 : Nat)) (p % 4096 / 8) (2 ^ (p % 8)))]) :
    (∀ q, R1.has q = if q = p then !R.has p else R.has q) ∧ (∀ q, q < R.pages → R1.text q = R.text q) ∧ R1.home 0 = R.home 0 := by
  have hfit := h.fit
  have hh := home_snoc hf1 hp1
  refine ⟨fun q => ?_, fun q hq => ?_, ?_⟩
  · refine bitOf_turn (h.home_size (by omega)) ?_ (fun hne => ?_)
    · rw [hh, if_pos rfl]
    · rw [hh, if_neg (by omega)]
  · unfold RoomS.text
    rw [hm, hh, if_neg (by omega)]
  · rw [hh, if_neg (by omega)]
theorem wrote_of {R R1 : RoomS} {p : Nat} {s : ByteArray} (hf1 : R1.T.f = R.T.f) (hm : R1.maps = R.maps) (hp1 : R1.T.puts = R.T.puts ++ [(((1 + R.maps + p : Nat) : Int), s)]) : Wrote R R1 p s := by
  have hh := home_snoc hf1 hp1
  refine ⟨fun q hq => ?_, fun q hq => ?_, ?_, _, hp1, by simp⟩
  · unfold RoomS.has bitOf
    rw [hh, if_neg (by omega)]
  · unfold RoomS.text
    rw [hm, hh]
    by_cases hqp : q = p
    · rw [if_pos hqp, if_pos (by omega)]
    · rw [if_neg hqp, if_neg (by omega)]
  · rw [hh, if_neg (by omega)]
theorem alloced_of {w : World} {br : Nat} {R R1 R2 : RoomS} (h : RoomAt w br R) {p : Nat} (hp : p < R.pages) (h0 : R.has p = false) (hf1 : R1.T.f = R.T.f) (hm1 : R1.maps = R.maps) (hg1 : R1.pages = R.pages)
    (hp1 : R1.T.puts = R.T.puts ++ [(((1 + p / 4096 : Nat) : Int), xorAt (R.home (1 + p / 4096 : Nat)) (p % 4096 / 8) (2 ^ (p % 8)))])
    (hf2 : R2.T.f = R1.T.f) (hm2 : R2.maps = R1.maps) (hp2 : R2.T.puts = R1.T.puts ++ [(((1 + R.maps + p : Nat) : Int), zeros 512)]) : Alloced R R2 p := by
  obtain ⟨t1, t2, t3⟩ := turned_of h hp hf1 hm1 hp1
  have W := wrote_of (R := R1) (R1 := R2) (p := p) hf2 hm2 (by rw [hm1]; exact hp2)
  refine ⟨fun q hq => ?_, fun q hq => ?_, W.zero.trans t3, _, by rw [hp2, hp1, List.append_assoc], by simp⟩
  · rw [W.has q (by rw [hm1]; exact hq), t1]
    by_cases hqp : q = p
    · subst hqp; simp [h0]
    · simp [hqp]
  · rw [W.text q (by rw [hg1]; exact hq)]
    by_cases hqp : q = p
    · rw [if_pos hqp, if_pos hqp]
    · rw [if_neg hqp, if_neg hqp, t2 q hq]

theorem freeSays_eq {f : Int → ByteArray} {pages : Nat} {r : Int} (h : FreeSays f pages r) {p : Nat} (hp : p < pages) (h0 : bitOf f p = false) (h1 : ∀ q, q < p → bitOf f q = true) : r = p := by
  rcases h with ⟨_, h2⟩ | ⟨p', rfl, hp', h2, h3⟩
  · rw [h2 p hp] at h0; cases h0
  · rcases Nat.lt_trichotomy p p' with h | h | h
    · rw [h3 p h] at h0; cases h0
    · rw [h]
    · rw [h1 p' h] at h2; cases h2
theorem freeSays_none {f : Int → ByteArray} {pages : Nat} {r : Int} (h : FreeSays f pages r) (h1 : ∀ q, q < pages → bitOf f q = true) : r = -1 := by
  rcases h with ⟨h2, _⟩ | ⟨p', rfl, hp', h2, h3⟩
  · exact h2
  · rw [h1 p' hp'] at h2; cases h2

theorem alloc_full {w : World} {br : Nat} {R : RoomS} (h : RoomAt w br R) (hall : ∀ q, q < R.pages → R.has q = true) :
    Calls Tryz.prog 33 #[.pointer (some ⟨br, 0, none⟩)] w fun e w' => e = .returned (.tuple #[.int .i64 0, .int .i64 4]) ∧ Below w.heap.size w w' := by
  have HD := Lib.hid (roomDead_any h)
  have HF := Lib.hid (fun u (hu : RoomAt u br R) => free_any hu)
  have HA := Lib.hid hall
  have HR := Lib.hid h
  clear h hall
  go_enter Tryz.func33, Tryz.ntmps33
  go_wp2_with (first
    | (go_at_call 64; refine (HD.out).mono ?_; rintro e w1 ⟨rfl, hb1⟩
       have HB1 := Lib.hid hb1
       clear hb1)
    | (go_at_call 65; refine (HF.out _ (HR.out.still HB1.out)).mono ?_; rintro e w2 ⟨r, hr, rfl, hb2⟩
       obtain rfl := freeSays_none hr HA.out
       have HB2 := Lib.hid (HB1.out.trans (hb2.mono HB1.out.size))
       clear hr hb2))
  go_ret2
  exact ⟨rfl, HB2.out⟩

set_option maxHeartbeats 1000000 in
theorem alloc_ok {w : World} {br : Nat} {R : RoomS} (h : RoomAt w br R) (hlen : R.T.puts.length + 1 < 1000000000000) (p : Nat) (hp : p < R.pages) (h0 : R.has p = false) (h1 : ∀ q, q < p → R.has q = true) :
    Calls Tryz.prog 33 #[.pointer (some ⟨br, 0, none⟩)] w fun e w' => e = .returned (.tuple #[.int .i64 p, .int .i64 0]) ∧ ∃ R', RoomStep br w R w' R' ∧ Alloced R R' p := by
  have hf := h.fit
  have hn := h.tx.log.small
  have HD := Lib.hid (roomDead_any h)
  have HF := Lib.hid (fun u (hu : RoomAt u br R) => free_any hu)
  have HT := Lib.hid (fun u (hu : RoomAt u br R) => turn_any hu (by omega) p hp)
  obtain ⟨A, hA⟩ : ∃ A, A = 1 + R.maps + p := ⟨_, rfl⟩
  have HAt := Lib.hid (fun u R1 (hu : RoomAt u br R1) (hm : R1.maps = R.maps) (hg : R1.pages = R.pages) => (by
    have := roomAtPage_any hu p (by omega)
    rw [hm, ← hA] at this
    exact this : Calls Tryz.prog 67 #[.pointer (some ⟨br, 0, none⟩), .int .i64 p] u fun e w' => e = .returned (.int .i64 A) ∧ u = w'))
  have HU := Lib.hid (fun r hr => freeSays_eq (r := r) hr hp h0 h1)
  have HR := Lib.hid h
  have HH0 := Lib.hid h0
  have HA := Lib.hid hA
  have HFit := Lib.hid hf
  have hp0 : (0 : Int) ≤ (p : Int) := by omega
  clear h h0 h1 hA hf
  go_enter Tryz.func33, Tryz.ntmps33
  go_wp2_with (first
    | (go_at_call 64; refine (HD.out).mono ?_; rintro e w1 ⟨rfl, hb1⟩
       have HB1 := Lib.hid hb1
       clear hb1)
    | (go_at_call 65; refine (HF.out _ (HR.out.still HB1.out)).mono ?_; rintro e w2 ⟨r, hr, rfl, hb2⟩
       obtain rfl := HU.out r hr
       have HB2 := Lib.hid (HB1.out.trans (hb2.mono HB1.out.size))
       clear hr hb2)
    | (go_at_call 66; refine (HT.out _ (HR.out.still HB2.out)).mono ?_; rintro e w3 ⟨rfl, R1, hst, hpp⟩
       have HST := Lib.hid ((RoomStep.still HR.out HB2.out).trans hst)
       have HPP := Lib.hid hpp
       clear hst hpp))
  obtain ⟨S, hS⟩ : ∃ S : World → Prop, ∀ u, S u ↔ Keep (fun _ => False) (w3) u := ⟨fun u => Keep (fun _ => False) (w3) u, fun _ => Iff.rfl⟩
  have HS := Lib.hid hS
  clear hS
  refine wp_region_ord 7 [(0, true), (1, true), (2, true), (3, true), (4, true), (5, true), (6, false)] S (by kernel_rfl) (by kernel_rfl) ((HS.out _).2 (Keep.refl _ _).drew) ?_
  iterate 6
    first
      | (refine wpH_passed rfl (by rfl) (fun K hK => ?_); go_simp; refine hK _ ?_; clear hK K)
      | (first
           | refine wpH_read rfl rfl (fun K hK => ?_)
           | refine wpH_readw rfl (by rfl) (fun K hK => ?_)
         apply Exists.intro
         refine ⟨fun u hu => ?_, ?_⟩
         · have hu := (HS.out u).1 hu
           obtain ⟨⟨c0, c1, c2⟩, _⟩ := tCells (hu.at HST.out.at_.cells (fun e => e))
           rw [HST.out.bt] at c0
           clear hu
           go_simp
           exact ⟨rfl, rfl⟩
         go_simp
         refine hK _ ?_
         clear hK K)
  refine wpH_do rfl rfl (fun K hK => ?_)
  go_simp
  go_at_call 67
  refine (HAt.out _ R1 (HST.out.at_.keep (Keep.refl (fun _ => False) w3).drew (fun _ _ e => e)) HST.out.maps HST.out.pages).mono ?_
  rintro e u5 ⟨rfl, rfl⟩
  refine hK _ _ ((HS.out _).2 (Keep.refl _ _).drew) ?_
  clear hK K
  refine wpH_nil ?_
  simp only [List.drop_succ_cons, List.drop_zero]
  clear S HS
  have hw3 : RoomAt w3.drew br R1 := HST.out.at_.keep (Keep.refl (fun _ => False) w3).drew (fun _ _ e => e)
  have hpl : R1.T.puts.length = R.T.puts.length + 1 := by rw [HPP.out]; simp
  have hn1 : R1.T.n = R.T.n := HST.out.tx.n
  have hz0 : (⟨#[]⟩ : ByteArray).size = 0 := rfl
  have HW := Lib.hid (txWrite_ok hw3.tx (by omega) (i := (A : Int)) (by have := HA.out; have := HFit.out; omega) ⟨#[]⟩ (by omega))
  rw [HST.out.bt] at HW
  have HW3 := Lib.hid hw3
  clear hw3 hpl hn1 hz0
  go_wp2_with (go_at_call 13; refine (HW.out).mono ?_; rintro e w5 ⟨rfl, T', hst, hpp⟩)
  go_ret2
  have hs1 : RoomStep br w R w3.drew R1 := HST.out.trans (RoomStep.still HST.out.at_ (Below.refl _ _).drew)
  have hst2 := HW3.out.step (T' := T') (by rw [HST.out.bt]; exact hst)
  refine ⟨rfl, _, hs1.trans hst2, ?_⟩
  have hfe : fullS ⟨#[]⟩ = zeros 512 := fullS_empty
  rw [hfe] at hpp
  exact alloced_of HR.out hp HH0.out HST.out.tx.f HST.out.maps HST.out.pages HPP.out hst.f rfl (by rw [← HA.out]; exact hpp)

theorem free_bad {w : World} {br : Nat} {R : RoomS} (h : RoomAt w br R) (i : Int) (he : R.err i ≠ 0) :
    Calls Tryz.prog 35 #[.pointer (some ⟨br, 0, none⟩), .int .i64 i] w fun e w' => e = .returned (.int .i64 (R.err i)) ∧ Below w.heap.size w w' := by
  have H1 := Lib.hid (taken_any h i)
  generalize R.err i = c at *
  have e1 : (c != 0) = true := by simpa using he
  clear h
  go_enter Tryz.func35, Tryz.ntmps35
  go_wp2_with (first
    | (go_at_call 68; refine (H1.out).mono ?_; rintro e w1 ⟨rfl, hb1⟩))
  go_ret
  exact ⟨rfl, hb1⟩
theorem err_taken {R : RoomS} {p : Nat} (hp : p < R.pages) (h1 : R.has p = true) : R.err p = 0 := by
  unfold RoomS.err; rw [if_pos (by omega), Int.toNat_natCast, h1]; rfl
theorem free_ok {w : World} {br : Nat} {R : RoomS} (h : RoomAt w br R) (hlen : R.T.puts.length < 1000000000000) (p : Nat) (hp : p < R.pages) (h1 : R.has p = true) :
    Calls Tryz.prog 35 #[.pointer (some ⟨br, 0, none⟩), .int .i64 p] w fun e w' => e = .returned (.int .i64 0) ∧ ∃ R', RoomStep br w R w' R' ∧ Freed R R' p := by
  have H1 := Lib.hid (taken_any h p)
  rw [err_taken hp h1] at H1
  have HT := Lib.hid (fun u (hu : RoomAt u br R) => turn_any hu hlen p hp)
  have HR := Lib.hid h
  have HH := Lib.hid h1
  clear h h1
  go_enter Tryz.func35, Tryz.ntmps35
  go_wp2_with (first
    | (go_at_call 68; refine (H1.out).mono ?_; rintro e w1 ⟨rfl, hb1⟩)
    | (go_at_call 66; refine (HT.out _ (HR.out.still hb1)).mono ?_; rintro e w3 ⟨rfl, R1, hst, hpp⟩))
  go_ret
  obtain ⟨t1, t2, t3⟩ := turned_of HR.out hp hst.tx.f hst.maps hpp
  refine ⟨rfl, R1, (RoomStep.still HR.out hb1).trans hst, fun q _ => ?_, t2, t3, _, hpp, by simp⟩
  rw [t1]
  by_cases hqp : q = p
  · subst hqp; simp [HH.out]
  · simp [hqp]

theorem read_bad {w : World} {br : Nat} {R : RoomS} (h : RoomAt w br R) (i : Int) (he : R.err i ≠ 0) :
    Calls Tryz.prog 39 #[.pointer (some ⟨br, 0, none⟩), .int .i64 i] w fun e w' => e = .returned (.tuple #[.string ⟨#[]⟩, .int .i64 (R.err i)]) ∧ Below w.heap.size w w' := by
  have H1 := Lib.hid (taken_any h i)
  generalize R.err i = c at *
  have e1 : (c != 0) = true := by simpa using he
  clear h
  go_enter Tryz.func39, Tryz.ntmps39
  go_wp2_with (first
    | (go_at_call 68; refine (H1.out).mono ?_; rintro e w1 ⟨rfl, hb1⟩))
  go_ret2
  exact ⟨rfl, hb1⟩
theorem read_ok {w : World} {br : Nat} {R : RoomS} (h : RoomAt w br R) (p : Nat) (hp : p < R.pages) (h1 : R.has p = true) :
    Calls Tryz.prog 39 #[.pointer (some ⟨br, 0, none⟩), .int .i64 p] w fun e w' => e = .returned (.tuple #[.string (R.text p), .int .i64 0]) ∧ Below w.heap.size w w' := by
  have hf := h.fit
  have H1 := Lib.hid (taken_any h p)
  rw [err_taken hp h1] at H1
  have H2 := Lib.hid (fun u (hu : RoomAt u br R) => roomAtPage_any hu p hp)
  have hin : 1 + R.maps + p < R.T.n := by omega
  have H3 := Lib.hid (fun u (hu : RoomAt u br R) => home_in hu hin)
  unfold RoomS.text
  generalize 1 + R.maps + p = A at *
  generalize R.home (A : Int) = s at *
  have HR := Lib.hid h
  clear h h1 hf
  go_enter Tryz.func39, Tryz.ntmps39
  go_wp2_with (first
    | (go_at_call 68; refine (H1.out).mono ?_; rintro e w1 ⟨rfl, hb1⟩
       have HB1 := Lib.hid hb1
       clear hb1)
    | (go_at_call 67; refine (H2.out _ (HR.out.still HB1.out)).mono ?_; rintro e w2 ⟨rfl, rfl⟩)
    | (go_at_call 70; refine (H3.out _ (HR.out.still HB1.out)).mono ?_; rintro e w3 ⟨rfl, hb3⟩))
  go_ret2
  exact ⟨rfl, HB1.out.trans (hb3.mono HB1.out.size)⟩

theorem write_bad {w : World} {br : Nat} {R : RoomS} (h : RoomAt w br R) (i : Int) (he : R.err i ≠ 0) (s : ByteArray) :
    Calls Tryz.prog 37 #[.pointer (some ⟨br, 0, none⟩), .int .i64 i, .string s] w fun e w' => e = .returned (.int .i64 (R.err i)) ∧ Below w.heap.size w w' := by
  have H1 := Lib.hid (taken_any h i)
  generalize R.err i = c at *
  have e1 : (c != 0) = true := by simpa using he
  clear h
  go_enter Tryz.func37, Tryz.ntmps37
  go_wp2_with (first
    | (go_at_call 68; refine (H1.out).mono ?_; rintro e w1 ⟨rfl, hb1⟩))
  go_ret
  exact ⟨rfl, hb1⟩
/-- Write to a page that is taken -/
theorem write_ok {w : World} {br : Nat} {R : RoomS} (h : RoomAt w br R) (hlen : R.T.puts.length < 1000000000000) (p : Nat) (hp : p < R.pages) (h1 : R.has p = true) (s : ByteArray) (hs : s.size ≤ 9223372036854775807) :
    Calls Tryz.prog 37 #[.pointer (some ⟨br, 0, none⟩), .int .i64 p, .string s] w fun e w' => e = .returned (.int .i64 (if 512 < s.size then 5 else 0)) ∧
      ∃ R', RoomStep br w R w' R' ∧ ((512 < s.size ∧ R'.T.puts = R.T.puts) ∨ (s.size ≤ 512 ∧ Wrote R R' p (fullS s))) := by
  have hf := h.fit
  have H1 := Lib.hid (taken_any h p)
  rw [err_taken hp h1] at H1
  have H2 := Lib.hid (fun u (hu : RoomAt u br R) => roomAtPage_any hu p hp)
  obtain ⟨A, hA⟩ : ∃ A, A = 1 + R.maps + p := ⟨_, rfl⟩
  rw [← hA] at H2
  have hin : (A : Int) < R.T.n := by omega
  have HW := Lib.hid (fun u (hu : TxAt u R.bt R.T) => txWrite_any hu hlen (i := (A : Int)) s hs)
  have e1 : writeErr R.T.n (A : Int) s = if 512 < s.size then 5 else 0 := by unfold writeErr; rw [if_pos ⟨by omega, hin⟩]
  rw [e1] at HW
  have HR := Lib.hid h
  have HA := Lib.hid hA
  have HIn := Lib.hid hin
  clear h h1 hf e1 hA hin
  generalize hcc : (if 512 < s.size then 5 else 0 : Int) = c at *
  have HCC := Lib.hid hcc
  clear hcc
  go_enter Tryz.func37, Tryz.ntmps37
  go_wp2_with (first
    | (go_at_call 68; refine (H1.out).mono ?_; rintro e w1 ⟨rfl, hb1⟩
       have HB1 := Lib.hid hb1
       clear hb1))
  obtain ⟨S, hS⟩ : ∃ S : World → Prop, ∀ u, S u ↔ Keep (fun _ => False) (w1) u := ⟨fun u => Keep (fun _ => False) (w1) u, fun _ => Iff.rfl⟩
  have HS := Lib.hid hS
  clear hS
  refine wp_region_ord 8 [(0, true), (1, true), (2, true), (3, true), (4, true), (5, true), (7, true), (6, false)] S (by kernel_rfl) (by kernel_rfl) ((HS.out _).2 (Keep.refl _ _).drew) ?_
  iterate 7
    first
      | (refine wpH_passed rfl (by rfl) (fun K hK => ?_); go_simp; refine hK _ ?_; clear hK K)
      | (first
           | refine wpH_read rfl rfl (fun K hK => ?_)
           | refine wpH_readw rfl (by rfl) (fun K hK => ?_)
         apply Exists.intro
         refine ⟨fun u hu => ?_, ?_⟩
         · have hu := (HS.out u).1 hu
           obtain ⟨⟨c0, c1, c2⟩, _⟩ := tCells (hu.at (HR.out.still HB1.out).cells (fun e => e))
           clear hu
           go_simp
           exact ⟨rfl, rfl⟩
         go_simp
         refine hK _ ?_
         clear hK K)
  refine wpH_do rfl rfl (fun K hK => ?_)
  go_simp
  go_at_call 67
  refine (H2.out _ ((HR.out.still HB1.out).keep (Keep.refl (fun _ => False) w1).drew (fun _ _ e => e))).mono ?_
  rintro e u5 ⟨rfl, rfl⟩
  refine hK _ _ ((HS.out _).2 (Keep.refl _ _).drew) ?_
  clear hK K
  refine wpH_nil ?_
  simp only [List.drop_succ_cons, List.drop_zero]
  clear S HS
  have HW3 := Lib.hid (HR.out.still HB1.out.drew)
  go_wp2_with (go_at_call 13; refine (HW.out _ HW3.out.tx).mono ?_; rintro e w5 ⟨rfl, T', hst, hpp⟩)
  go_ret
  refine ⟨rfl, ?_⟩
  have hst2 := (RoomStep.still HR.out HB1.out.drew).trans (HW3.out.step hst)
  by_cases h5 : 512 < s.size
  · have e2 : putsOf R.T.n (A : Int) s = [] := by unfold putsOf; rw [if_neg (by omega)]
    rw [e2, List.append_nil] at hpp
    exact ⟨_, hst2, .inl ⟨h5, hpp⟩⟩
  · have e2 : putsOf R.T.n (A : Int) s = [((A : Int), fullS s)] := by unfold putsOf; rw [if_pos ⟨by omega, HIn.out, by omega⟩]
    rw [e2] at hpp
    exact ⟨_, hst2, .inr ⟨by omega, wrote_of hst.f rfl (by rw [← HA.out]; exact hpp)⟩⟩
end Go.Proofs.YtalgheocjnajlaaGreatDoor

namespace Go.Proofs.YtalgheocjnajlaaGreatDoor
open Go.RowKit Go.MapKept
attribute [local go_sem] gives givesH
set_option maxRecDepth 100000

theorem cnt_add (f : Nat → Bool) (a b : Nat) : cnt f (a + b) = cnt f a + ((List.range b).filter (fun j => f (a + j))).length := by
  induction b with
  | zero => simp
  | succ b ih =>
    rw [← Nat.add_assoc, cnt_succ, ih, List.range_succ, List.filter_append, List.length_append, Nat.add_assoc]
    congr 2
    by_cases h : f (a + b) <;> simp [h]
theorem cnt_byte {f : Int → ByteArray} {m k : Nat} (hk : k < 512) : cnt (bitOf f) (m * 4096 + 8 * (k + 1)) = cnt (bitOf f) (m * 4096 + 8 * k) + Lib.onesCount (byteN (f ((1 + m : Nat) : Int)) k) := by
  rw [show m * 4096 + 8 * (k + 1) = m * 4096 + 8 * k + 8 by omega, cnt_add, ones_spec ⟨_, byteN_lt (f ((1 + m : Nat) : Int)) k⟩]
  congr 2
  apply List.filter_congr
  intro j hj
  exact bitOf_split f m k j hk (by simpa using hj)

def RoomS.used (R : RoomS) : Nat := cnt R.has (R.maps * 4096)

set_option maxHeartbeats 1000000 in
theorem used_any {w : World} {br : Nat} {R : RoomS} (h : RoomAt w br R) :
    Calls Tryz.prog 59 #[.pointer (some ⟨br, 0, none⟩)] w fun e w' => e = .returned (.tuple #[.int .i64 R.used, .int .i64 0]) ∧ Below w.heap.size w w' := by
  have hf := h.fit
  have hn := h.tx.log.small
  have HD := Lib.hid (roomDead_any h)
  have HM := Lib.hid (fun (i : Nat) (hi : i < R.T.n) u (hu : RoomAt u br R) => home_in hu hi)
  have HSz := Lib.hid (fun (i : Nat) (hi : i < R.T.n) => h.home_size hi)
  have HR := Lib.hid h
  have HF := Lib.hid hf
  have hmaps : R.maps ≤ 17 := by omega
  have hus : R.used = cnt (bitOf R.home) (R.maps * 4096) := rfl
  rw [hus]
  clear h hf hus
  go_enter Tryz.func59, Tryz.ntmps59
  go_wp2_with (go_at_call 64; refine (HD.out).mono ?_; rintro e w1 ⟨rfl, hb1⟩
               obtain ⟨⟨c0, c1, c2⟩, _⟩ := tCells (HR.out.still hb1).cells)
  have HB0 := Lib.hid hb1
  clear hb1
  go_loopw [4, 15] (fun n i wr => (∃ m : Nat, m ≤ R.maps ∧ i = .int .i64 m ∧ n = .int .i64 (cnt (bitOf R.home) (m * 4096))) ∧ Below w.heap.size w wr) (fun _ i _ => R.maps - (intOf i).toNat)
  case atStart => exact ⟨⟨0, by omega, rfl, rfl⟩, HB0.out⟩
  case round =>
    obtain ⟨⟨m, hm, rfl, rfl⟩, hb⟩ := hrel
    have HB := Lib.hid hb
    clear hb
    by_cases hlt : m < R.maps
    · have e1 : decide ((m : Int) < (R.maps : Int)) = true := by simp; omega
      have e2 : (1 : Int) + (m : Int) = ((1 + m : Nat) : Int) := by omega
      have hin : 1 + m < R.T.n := by have := HF.out; omega
      have hsz : (R.home ((1 + m : Nat) : Int)).size = 512 := HSz.out _ hin
      have HM1 := Lib.hid (HM.out (1 + m) hin)
      generalize hs : R.home ((1 + m : Nat) : Int) = s at *
      have HS := Lib.hid hs
      have HE2 := Lib.hid e2
      clear hs e2
      go_wp2_with (fail)
      rw [HE2.out]
      refine (HM1.out _ (HR.out.still HB.out)).mono ?_
      rintro e w2 ⟨rfl, hb2⟩
      have HB1 := Lib.hid (HB.out.trans (hb2.mono HB.out.size))
      clear hb2
      go_wp2_with (fail)
      go_loop [4, 30] (fun n i => ∃ k : Nat, k ≤ 512 ∧ i = .int .i64 k ∧ n = .int .i64 (cnt (bitOf R.home) (m * 4096 + 8 * k))) (fun _ i => 512 - (intOf i).toNat)
      case atStart => exact ⟨0, by omega, rfl, rfl⟩
      case round =>
        obtain ⟨k, hk, rfl, rfl⟩ := hrel
        by_cases hk5 : k < 512
        · have f1 : decide ((k : Int) < 512) = true := by simp; omega
          have hk0 : (0 : Int) ≤ (k : Int) := by omega
          have hk1 : (k : Int) < 512 := by omega
          have hbn := byteN_get s k (by omega)
          have hbl := byteN_lt s k
          have hnext := cnt_byte (f := R.home) (m := m) hk5
          rw [HS.out] at hnext
          have hc := cnt_le (bitOf R.home) (m * 4096 + 8 * k)
          have hz := fun w => Tryz.bits_OnesCount8 ((byteN s k : Nat) : Int) w (by omega) (by omega)
          rw [Int.toNat_natCast] at hz
          have ho : Lib.onesCount (byteN s k) ≤ 8 := Lib.onesCount_le8 ⟨_, hbl⟩
          generalize Lib.onesCount (byteN s k) = o at *
          generalize hcc : cnt (bitOf R.home) (m * 4096 + 8 * k) = cc at *
          have HZ := Lib.hid hz
          have HN := Lib.hid hnext
          clear hz hnext hcc
          have hcb : (cc : Int) ≤ 100000 := by omega
          have hob : (o : Int) ≤ 8 := by omega
          go_wp2_with (fail)
          refine (HZ.out _).mono ?_
          rintro e w3 ⟨rfl, rfl⟩
          go_wp2
          go_round
          case rel => exact ⟨k + 1, by omega, by go_num, by rw [HN.out]; go_num⟩
          case measure => simp [intOf]; omega
        · obtain rfl : k = 512 := by omega
          go_wp2
          go_roundw
          case rel => exact ⟨⟨m + 1, by omega, by go_num, by rw [show (m + 1) * 4096 = m * 4096 + 8 * 512 by omega]⟩, HB1.out⟩
          case measure => simp [intOf]; omega
    · obtain rfl : m = R.maps := by omega
      go_wp2
      go_ret2
      exact ⟨rfl, HB.out⟩

theorem pagesOf_is {h p H : Int} (hH : H = min h 1048576) (h0 : 0 ≤ p) (h1 : p = 0 ∨ 1 + p + (p + 4095) / 4096 ≤ H) (h2 : ¬ (1 + p + 1 + (p + 1 + 4095) / 4096 ≤ H)) : p = pagesOf h := by
  unfold pagesOf
  split
  · omega
  · rw [← hH]
    omega
/-- the document's number of pages is ours -/
theorem refPages_any (h : Int) (w : World) :
    Calls Tryz.prog 63 #[.int .i64 h] w fun e w' => e = .returned (.int .i64 (pagesOf h)) ∧ w = w' := by
  go_enter Tryz.func63, Tryz.ntmps63
  go_wp2
  obtain ⟨H, hH⟩ : ∃ H, H = min h 1048576 := ⟨_, rfl⟩
  rw [← hH]
  have hHb : H ≤ 1048576 := by omega
  have HH := Lib.hid hH
  clear hH
  go_loop [3] (fun i => ∃ p : Int, 0 ≤ p ∧ (p = 0 ∨ 1 + p + (p + 4095) / 4096 ≤ H) ∧ i = .int .i64 p) (fun i => (1048577 - intOf i).toNat)
  case atStart => exact ⟨0, by omega, .inl rfl, rfl⟩
  case round =>
    obtain ⟨p, hp0, hp1, rfl⟩ := hrel
    have hpb : p ≤ 1048576 := by omega
    by_cases hc : 1 + p + 1 + (p + 1 + 4095) / 4096 ≤ H
    · have e1 : decide (1 + p + 1 + (p + 1 + 4095) / 4096 ≤ H) = true := by simpa using hc
      have HC := Lib.hid hc
      have HP := Lib.hid hp1
      clear hc hp1
      go_wp2
      go_loop [4] (fun i => ∃ st : Int, 1 ≤ st ∧ 1 + p + st + (p + st + 4095) / 4096 ≤ H ∧ i = .int .i64 st) (fun i => (1048577 - intOf i).toNat)
      case atStart => exact ⟨1, by omega, HC.out, rfl⟩
      case round =>
        obtain ⟨st, hs1, hs2, rfl⟩ := hrel
        have hsb : st ≤ 1048576 := by omega
        have hsum : p + st ≤ 1048576 := by omega
        have HS2 := Lib.hid hs2
        by_cases hc : 1 + p + 2 * st + (p + 2 * st + 4095) / 4096 ≤ H
        · have f1 : decide (1 + p + 2 * st + (p + 2 * st + 4095) / 4096 ≤ H) = true := by simpa using hc
          have HC2 := Lib.hid hc
          clear hc hs2
          go_wp2
          go_round
          case rel => exact ⟨2 * st, by omega, HC2.out, rfl⟩
          case measure => simp [intOf]; omega
        · have f1 : decide (1 + p + 2 * st + (p + 2 * st + 4095) / 4096 ≤ H) = false := by simpa using hc
          clear hc hs2
          go_wp2
          go_round
          case rel => exact ⟨p + st, by omega, .inr (by have := HS2.out; omega), rfl⟩
          case measure => simp [intOf]; omega
    · have e1 : decide (1 + p + 1 + (p + 1 + 4095) / 4096 ≤ H) = false := by simpa using hc
      have HC := Lib.hid (pagesOf_is HH.out hp0 hp1 hc)
      clear hc hp1
      go_wp2
      go_ret
      exact ⟨by rw [← HC.out]; rfl, rfl⟩
end Go.Proofs.YtalgheocjnajlaaGreatDoor

namespace Go.Proofs.YtalgheocjnajlaaGreatDoor
open Go.RowKit Go.MapKept
attribute [local go_sem] gives givesH
set_option maxRecDepth 100000

set_option maxHeartbeats 1000000 in
theorem writeByte_any {w : World} {B b : Nat} {bs : List Value} (h : IsB B b bs w) (hB : B ≤ w.heap.size) (hlen : bs.length + 1 ≤ 140737488355328) (c : Int) :
    Calls Tryz.prog 73 #[.pointer (some ⟨b, 0, none⟩), .int .u8 c] w fun e w' => e = .returned .nilIface ∧
      IsB B b (bs ++ [.int .u8 c]) w' ∧ Below B w w' ∧ Lib.OthersKept 5 (some b) w w' := by
  have HC := Lib.hid (copyCheck_any h)
  obtain ⟨i0, hi, hz0, hz1, hz2⟩ := info_parts infoU8
  have HI := Lib.hid hi
  have Hz0 := Lib.hid hz0
  have Hz1 := Lib.hid hz1
  have Hz2 := Lib.hid hz2
  clear h hi hz0 hz1 hz2
  go_enter Tryz.func73, Tryz.ntmps73
  go_wp2_with (fail)
  refine (HC.out).mono ?_
  rintro e w1 ⟨rfl, ⟨hBb, v, hbk, hown, hne⟩, hb1, ho1⟩
  obtain ⟨⟨c0, c1⟩, f0, f1, _⟩ := bldCells hbk
  have hlt : b < w1.heap.size := (Array.getElem?_eq_some_iff.1 hbk).1
  have HO := Lib.hid hown
  have HBK := Lib.hid hbk
  have HB1 := Lib.hid hb1
  have HO1 := Lib.hid ho1
  have HNE := Lib.hid hne
  have HLT := Lib.hid hlt
  clear hown hbk hb1 ho1 hne hlt
  go_wp2_with (at_builtin
               refine wpList_append_own_at _ (by rfl) _ _ 113 (by rfl) B 5 i0 (.int .u8 0) 1 1 Tryz.underlying113 HI.out Hz0.out Hz1.out Hz2.out (by rfl) (by decide) v _ _ (by rfl) (HO.out.alloc _) ⟨w1.heap.size, 0, none⟩ 1 1 [.int .u8 c] (by rfl) (by rfl) (cell_one_new _ _ _) (ints_oneCell .u8 [c]) (by unfold maxLen; omega) (by omega) ?_ ?_
               · have := HB1.out.size; simp; omega
               intro v' w2 hown2 hg2 hnil hloc
               obtain ⟨a2, c2, hv2⟩ := slice_formB hown2
               have hb2 : w2.heap[b]? = some (.cells #[.pointer (some ⟨b, 0, none⟩), v] 122 (0, 0)) := by
                 rw [hg2.block b (by have := HLT.out; simp; omega) (fun e => HNE.out e.symm)]
                 exact ((World.grownBy_alloc w1 _ none).block b HLT.out (by simp)).trans HBK.out
               obtain ⟨⟨d0, d1⟩, g0, g1, _⟩ := bldCells hb2
               subst hv2
               have HO2 := Lib.hid hown2
               have HB2 := Lib.hid hb2
               have HG2 := Lib.hid hg2
               clear hown2 hb2 hg2 hnil hloc)
  go_wp2
  go_ret
  refine ⟨rfl, .inr (Lib.BuilderAt.put hBb HB2.out (by simpa using HO2.out) (by decide)), ?_, ?_⟩
  · exact ((HB1.out.alloc (by have := HB1.out.size; omega) _).grown HG2.out (by have := HB1.out.size; simp; omega) (fun k hk => (HO.out.lt k hk).1)).setCell (p := ⟨b, 1, none⟩) hBb _
  · exact ((HO1.out.alloc _).grown HG2.out (row_form (HO.out.alloc _))).setCell ⟨b, 1, none⟩ rfl _

end Go.Proofs.YtalgheocjnajlaaGreatDoor

namespace Go.Proofs.YtalgheocjnajlaaGreatDoor
open Go.RowKit Go.MapKept
attribute [local go_sem] gives givesH
set_option maxRecDepth 100000

theorem cnt_one (p n : Nat) (h : p < n) : cnt (fun q => decide (q = p)) n = 1 := by
  induction n with
  | zero => omega
  | succ n ih =>
    rw [cnt_succ]
    by_cases hp : p < n
    · rw [ih hp, if_neg (by simp; omega)]
    · obtain rfl : p = n := by omega
      have : cnt (fun q => decide (q = p)) p = 0 := by
        have h0 : cnt (fun q => decide (q = p)) p = cnt (fun _ => false) p := cnt_congr (fun q hq => by simp; omega)
        rw [h0]
        unfold cnt
        simp
      rw [this, if_pos (by simp)]

/-- a room of noughts -/
structure Fresh (R : RoomS) (n : Nat) : Prop where
  n_ : R.T.n = n
  puts : R.T.puts = []
  f : ∀ i, R.T.f i = zeros 512
  pages : R.pages = (pagesOf n).toNat
theorem Fresh.home {R : RoomS} {n : Nat} (h : Fresh R n) (i : Int) : R.home i = zeros 512 := by
  unfold RoomS.home TxS.read
  rw [h.puts]
  exact h.f i
theorem Fresh.has {R : RoomS} {n : Nat} (h : Fresh R n) (q : Nat) : R.has q = false := by
  unfold RoomS.has bitOf
  rw [h.home, byteN_zeros]
  exact Nat.zero_testBit _

/-- Wide, Begin, Of, one behind the other, at worlds that only grow -/
theorem begin_fresh {w : World} {bl n : Nat} (h : ∃ F, LogView w bl n (fun _ => zeros 512) F) :
    Calls Tryz.prog 10 #[.pointer (some ⟨bl, 0, none⟩)] w fun e w' => ∃ bt T, e = .returned (.pointer (some ⟨bt, 0, none⟩)) ∧ (T.n = n ∧ T.puts = [] ∧ ∀ i, T.f i = zeros 512) ∧ TxAt w' bt T ∧ (∀ k, T.own bt k → w.heap.size ≤ k) ∧ Below w.heap.size w w' := by
  obtain ⟨F, h⟩ := h
  refine (begin_any h).mono fun e w' ⟨bt, T, he, hT, hA, hbt, hb⟩ => ⟨bt, T, he, ?_, hA, ?_, hb⟩
  · subst hT
    exact ⟨rfl, rfl, fun _ => rfl⟩
  · subst hT
    rintro k (rfl | rfl | hk | ⟨i, v, hv, _⟩)
    · omega
    · exact Nat.le_refl _
    · cases hk
    · cases hv
theorem of_fresh {w : World} {bt n : Nat} {T : TxS} (h : TxAt w bt T) (hn : 1 ≤ n) (hT : T.n = n ∧ T.puts = [] ∧ ∀ i, T.f i = zeros 512) :
    Calls Tryz.prog 30 #[.pointer (some ⟨bt, 0, none⟩)] w fun e w' => ∃ br R, e = .returned (.pointer (some ⟨br, 0, none⟩)) ∧ RoomAt w' br R ∧ Fresh R n ∧ (∀ k, R.T.own R.bt k → T.own bt k) ∧ Below w.heap.size w w' := by
  refine (of_any h (by omega)).mono fun e w' ⟨br, R, he, hA, hbt, hRT, hp, _, hb⟩ => ⟨br, R, he, hA, ?_, ?_, hb⟩
  · subst hRT
    exact ⟨hT.1, hT.2.1, hT.2.2, by rw [hp, hT.1]⟩
  · subst hRT hbt
    exact fun k hk => hk
theorem wide_view (n : Nat) (h1 : 4 ≤ n) (h2 : n ≤ 65335) (w : World) :
    Calls Tryz.prog 29 #[.int .i64 n] w fun e w' => ∃ bd bl, e = .returned (.tuple #[.pointer (some ⟨bd, 0, none⟩), .pointer (some ⟨bl, 0, none⟩)]) ∧
      (∃ F, LogView w' bl n (fun _ => zeros 512) F) ∧ Below w.heap.size w w' :=
  (wide_any n h1 h2 w).mono fun _ _ ⟨bd, bl, he, hv, hb⟩ => ⟨bd, bl, he, ⟨_, hv⟩, hb⟩

/-- a room whose blocks are all newer than world w0 -/
structure RoomOn (w0 w : World) (br : Nat) (R : RoomS) : Prop where
  at_ : RoomAt w br R
  below : Below w0.heap.size w0 w
  own : ∀ k, R.T.own R.bt k → w0.heap.size ≤ k
structure Like (R R' : RoomS) : Prop where
  bt : R'.bt = R.bt
  maps : R'.maps = R.maps
  pages : R'.pages = R.pages
  n : R'.T.n = R.T.n
  f : R'.T.f = R.T.f
theorem RoomOn.still {w0 w u : World} {br : Nat} {R : RoomS} (h : RoomOn w0 w br R) (hb : Below w.heap.size w u) : RoomOn w0 u br R := ⟨h.at_.still hb, h.below.trans (hb.mono h.below.size), h.own⟩
theorem RoomOn.step {w0 w w' : World} {br : Nat} {R R' : RoomS} (h : RoomOn w0 w br R) (hs : RoomStep br w R w' R') : RoomOn w0 w' br R' ∧ Like R R' := by
  refine ⟨⟨hs.at_, h.below.trans (hs.tx.keep.below h.below.size (fun i hi e => by have := h.own i e; omega)), fun k hk => ?_⟩, hs.bt, hs.maps, hs.pages, hs.tx.n, hs.tx.f⟩
  rw [hs.bt] at hk
  rcases hs.tx.own k hk with e | e
  · exact h.own k e
  · exact Nat.le_trans h.below.size e
theorem Like.refl (R : RoomS) : Like R R := ⟨rfl, rfl, rfl, rfl, rfl⟩
theorem Like.trans {R R' R'' : RoomS} (h : Like R R') (k : Like R' R'') : Like R R'' := ⟨k.bt.trans h.bt, k.maps.trans h.maps, k.pages.trans h.pages, k.n.trans h.n, k.f.trans h.f⟩

section on
variable {w0 w : World} {br : Nat} {R : RoomS}
theorem on_alloc (h : RoomOn w0 w br R) (hlen : R.T.puts.length + 1 < 1000000000000) (p : Nat) (hp : p < R.pages) (h0 : R.has p = false) (h1 : ∀ q, q < p → R.has q = true) :
    Calls Tryz.prog 33 #[.pointer (some ⟨br, 0, none⟩)] w fun e w' => e = .returned (.tuple #[.int .i64 p, .int .i64 0]) ∧ ∃ R', RoomOn w0 w' br R' ∧ Like R R' ∧ Alloced R R' p :=
  (alloc_ok h.at_ hlen p hp h0 h1).mono fun _ _ ⟨he, R', hs, ha⟩ => ⟨he, R', (h.step hs).1, (h.step hs).2, ha⟩
theorem on_full (h : RoomOn w0 w br R) (hall : ∀ q, q < R.pages → R.has q = true) :
    Calls Tryz.prog 33 #[.pointer (some ⟨br, 0, none⟩)] w fun e w' => e = .returned (.tuple #[.int .i64 0, .int .i64 4]) ∧ RoomOn w0 w' br R :=
  (alloc_full h.at_ hall).mono fun _ _ ⟨he, hb⟩ => ⟨he, h.still hb⟩
theorem on_free (h : RoomOn w0 w br R) (hlen : R.T.puts.length < 1000000000000) (p : Nat) (hp : p < R.pages) (h1 : R.has p = true) :
    Calls Tryz.prog 35 #[.pointer (some ⟨br, 0, none⟩), .int .i64 p] w fun e w' => e = .returned (.int .i64 0) ∧ ∃ R', RoomOn w0 w' br R' ∧ Like R R' ∧ Freed R R' p :=
  (free_ok h.at_ hlen p hp h1).mono fun _ _ ⟨he, R', hs, ha⟩ => ⟨he, R', (h.step hs).1, (h.step hs).2, ha⟩
theorem on_free_bad (h : RoomOn w0 w br R) (i : Int) (he : R.err i ≠ 0) :
    Calls Tryz.prog 35 #[.pointer (some ⟨br, 0, none⟩), .int .i64 i] w fun e w' => e = .returned (.int .i64 (R.err i)) ∧ RoomOn w0 w' br R :=
  (free_bad h.at_ i he).mono fun _ _ ⟨he, hb⟩ => ⟨he, h.still hb⟩
theorem on_read (h : RoomOn w0 w br R) (p : Nat) (hp : p < R.pages) (h1 : R.has p = true) :
    Calls Tryz.prog 39 #[.pointer (some ⟨br, 0, none⟩), .int .i64 p] w fun e w' => e = .returned (.tuple #[.string (R.text p), .int .i64 0]) ∧ RoomOn w0 w' br R :=
  (read_ok h.at_ p hp h1).mono fun _ _ ⟨he, hb⟩ => ⟨he, h.still hb⟩
theorem on_read_bad (h : RoomOn w0 w br R) (i : Int) (he : R.err i ≠ 0) :
    Calls Tryz.prog 39 #[.pointer (some ⟨br, 0, none⟩), .int .i64 i] w fun e w' => e = .returned (.tuple #[.string ⟨#[]⟩, .int .i64 (R.err i)]) ∧ RoomOn w0 w' br R :=
  (read_bad h.at_ i he).mono fun _ _ ⟨he, hb⟩ => ⟨he, h.still hb⟩
theorem on_write (h : RoomOn w0 w br R) (hlen : R.T.puts.length < 1000000000000) (p : Nat) (hp : p < R.pages) (h1 : R.has p = true) (s : ByteArray) (hs : s.size ≤ 512) :
    Calls Tryz.prog 37 #[.pointer (some ⟨br, 0, none⟩), .int .i64 p, .string s] w fun e w' => e = .returned (.int .i64 0) ∧ ∃ R', RoomOn w0 w' br R' ∧ Like R R' ∧ Wrote R R' p (fullS s) :=
  (write_ok h.at_ hlen p hp h1 s (by omega)).mono fun _ _ ⟨he, R', hst, ha⟩ => by
    rw [if_neg (by omega)] at he
    exact ⟨he, R', (h.step hst).1, (h.step hst).2, ha.elim (fun h => by omega) (fun h => h.2)⟩
theorem on_used (h : RoomOn w0 w br R) :
    Calls Tryz.prog 59 #[.pointer (some ⟨br, 0, none⟩)] w fun e w' => e = .returned (.tuple #[.int .i64 R.used, .int .i64 0]) ∧ RoomOn w0 w' br R :=
  (used_any h.at_).mono fun _ _ ⟨he, hb⟩ => ⟨he, h.still hb⟩
end on
theorem Like.used {R R' : RoomS} (h : Like R R') : R'.used = cnt R'.has (R.maps * 4096) := by unfold RoomS.used; rw [h.maps]
theorem err_free {R : RoomS} {p : Nat} (hp : p < R.pages) (h1 : R.has p = false) : R.err p = 6 := by
  unfold RoomS.err; rw [if_pos (by omega), Int.toNat_natCast, h1]; rfl
theorem text_size {w : World} {br : Nat} {R : RoomS} (h : RoomAt w br R) (p : Nat) (hp : p < R.pages) : (R.text p).size = 512 := h.home_size (by have := h.fit; omega)

theorem byteN_fullS (s : ByteArray) (k : Nat) : byteN (fullS s) k = byteN s k := by
  unfold byteN fullS
  simp only [Array.toList_append, List.getD, List.getElem?_append]
  split
  · rfl
  · rename_i h
    rw [List.getElem?_eq_none (l := s.data.toList) (by omega), List.getElem?_replicate]
    split <;> rfl
/-- what the calls of awake come to -/
theorem pagesOf_10 : (pagesOf 10).toNat = 8 := by decide
end Go.Proofs.YtalgheocjnajlaaGreatDoor

namespace Go.Proofs.YtalgheocjnajlaaGreatDoor
open Go.RowKit Go.MapKept
attribute [local go_sem] gives givesH
set_option maxRecDepth 100000

set_option maxHeartbeats 2000000 in
theorem awake7_any (w : World) : Calls Tryz.prog 28 #[] w fun e w' => e = .returned (.bool true) ∧ Below w.heap.size w w' := by
  have HW := Lib.hid (wide_view 10 (by omega) (by omega) w)
  go_enter Tryz.func28, Tryz.ntmps28
  go_wp2_with (fail)
  refine (HW.out).mono ?_
  rintro e w1 ⟨bd, bl, rfl, hv, hb1⟩
  have HV := Lib.hid (begin_fresh hv)
  have HB1 := Lib.hid hb1
  clear hv hb1 HW
  go_wp2_with (fail)
  refine (HV.out).mono ?_
  rintro e w2 ⟨bt, T, rfl, hT, hA, ho, hb2⟩
  have HO := Lib.hid (of_fresh hA (by omega) hT)
  have HB2 := Lib.hid (HB1.out.trans (hb2.mono HB1.out.size))
  have HOw := Lib.hid ho
  clear hT hA ho hb2 HV
  go_wp2_with (fail)
  refine (HO.out).mono ?_
  rintro e w3 ⟨br, R0, rfl, hA, hF, ho, hb3⟩
  have H0 : RoomOn w w3 br R0 := ⟨hA, HB2.out.trans (hb3.mono HB2.out.size), fun k hk => Nat.le_trans HB1.out.size (HOw.out k (ho k hk))⟩
  have hpg : R0.pages = 8 := by rw [hF.pages]; exact pagesOf_10
  have hmp : R0.maps = 1 := by have := hA.fit.1; omega
  have hl0 : R0.T.puts.length = 0 := by rw [hF.puts]; rfl
  have G0 := Lib.hid H0
  have HHas0 := Lib.hid hF.has
  have A0 := Lib.hid (on_alloc H0 (by omega) 0 (by omega) (hF.has 0) (fun q hq => by omega))
  have HPG := Lib.hid hpg
  have HMP := Lib.hid hmp
  have HL0 := Lib.hid hl0
  clear hA hF ho hb3 H0 hpg hmp hl0 HO
  go_wp2_with (fail)
  refine (A0.out).mono ?_
  rintro e w4 ⟨rfl, R1, h1, k1, a1⟩
  have hm1 : R1.maps = 1 := k1.maps.trans HMP.out
  have hp1 : R1.pages = 8 := k1.pages.trans HPG.out
  have hh1 : ∀ q, q < 4096 → R1.has q = decide (q = 0) := fun q hq => by rw [a1.has q (by rw [HMP.out]; omega), HHas0.out]; simp
  have hl1 : R1.T.puts.length ≤ 2 := by obtain ⟨a, h1, h2⟩ := a1.puts; rw [h1, List.length_append, HL0.out]; omega
  have A1 := Lib.hid (on_alloc h1 (by omega) 1 (by omega) (by rw [hh1 1 (by omega)]; rfl) (fun q hq => by rw [hh1 q (by omega)]; simp; omega))
  have HM1 := Lib.hid hm1
  have HP1 := Lib.hid hp1
  have HH1 := Lib.hid hh1
  have HL1 := Lib.hid hl1
  clear h1 k1 a1 hm1 hp1 hh1 hl1 A0
  go_wp2_with (fail)
  refine (A1.out).mono ?_
  rintro e w5 ⟨rfl, R2, h2, k2, a2⟩
  have hm2 : R2.maps = 1 := k2.maps.trans HM1.out
  have hp2 : R2.pages = 8 := k2.pages.trans HP1.out
  have hh2 : ∀ q, q < 4096 → R2.has q = (decide (q = 1) || decide (q = 0)) := fun q hq => by rw [a2.has q (by rw [HM1.out]; omega), HH1.out q hq]
  have hl2 : R2.T.puts.length ≤ 4 := by obtain ⟨a, h1, h2⟩ := a2.puts; rw [h1, List.length_append]; have := HL1.out; omega
  have A2 := Lib.hid (on_write h2 (by omega) 1 (by omega) (by rw [hh2 1 (by omega)]; rfl) ⟨#[120]⟩ (by decide))
  have HM2 := Lib.hid hm2
  have HP2 := Lib.hid hp2
  have HH2 := Lib.hid hh2
  have HL2 := Lib.hid hl2
  clear h2 k2 a2 hm2 hp2 hh2 hl2 A1
  go_wp2_with (fail)
  refine (A2.out).mono ?_
  rintro e w6 ⟨rfl, R3, h3, k3, a3⟩
  have hm3 : R3.maps = 1 := k3.maps.trans HM2.out
  have hp3 : R3.pages = 8 := k3.pages.trans HP2.out
  have hh3 : ∀ q, q < 4096 → R3.has q = (decide (q = 1) || decide (q = 0)) := fun q hq => by rw [a3.has q (by rw [HM2.out]; omega), HH2.out q hq]
  have hl3 : R3.T.puts.length ≤ 5 := by obtain ⟨a, h1, h2⟩ := a3.puts; rw [h1, List.length_append]; have := HL2.out; omega
  have ht3 : R3.text 1 = fullS ⟨#[120]⟩ := by rw [a3.text 1 (by rw [HP2.out]; omega), if_pos rfl]
  have A3 := Lib.hid (on_read h3 1 (by omega) (by rw [hh3 1 (by omega)]; rfl))
  rw [ht3] at A3
  have hsz : (fullS ⟨#[120]⟩).size = 512 := fullS_size _ (by decide)
  have hs0 : (fullS ⟨#[120]⟩)[0]'(by rw [hsz]; decide) = 120 := UInt8.toNat_inj.1 ((byteN_get _ 0 (by rw [hsz]; decide)).trans (by rw [byteN_fullS]; rfl))
  generalize fullS ⟨#[120]⟩ = tx at *
  have HM3 := Lib.hid hm3
  have HP3 := Lib.hid hp3
  have HH3 := Lib.hid hh3
  have HL3 := Lib.hid hl3
  clear h3 k3 a3 hm3 hp3 hh3 hl3 A2 ht3
  go_wp2_with (fail)
  refine (A3.out).mono ?_
  rintro e w7 ⟨rfl, h4⟩
  have A4 := Lib.hid (on_free h4 (by have := HL3.out; omega) 0 (by have := HP3.out; omega) (by rw [HH3.out 0 (by omega)]; rfl))
  clear h4 A3
  go_wp2_with (fail)
  refine (A4.out).mono ?_
  rintro e w8 ⟨rfl, R4, h5, k5, a5⟩
  have hp5 : R4.pages = 8 := k5.pages.trans HP3.out
  have hh5 : ∀ q, q < 4096 → R4.has q = decide (q = 1) := fun q hq => by
    rw [a5.has q (by rw [HM3.out]; omega), HH3.out q hq]
    by_cases h0 : q = 0
    · subst h0; rfl
    · simp [h0]
  have hu5 : R4.used = 1 := by
    rw [k5.used, HM3.out, cnt_congr hh5]
    exact cnt_one 1 4096 (by omega)
  have A5 := Lib.hid (on_used h5)
  rw [hu5] at A5
  have he5 : R4.err (0 : Nat) = 6 := err_free (by omega) (by rw [hh5 0 (by omega)]; rfl)
  have A6 := Lib.hid (fun u (hu : RoomOn w u br R4) => on_read_bad hu (0 : Nat) (by rw [he5]; decide))
  rw [he5] at A6
  have A7 := Lib.hid (fun u (hu : RoomOn w u br R4) => roomPagesM_any hu.at_)
  rw [hp5] at A7
  clear h5 k5 a5 hp5 hh5 hu5 he5 A4
  go_wp2_with (fail)
  refine (A5.out).mono ?_
  rintro e w9 ⟨rfl, h6⟩
  have H6 := Lib.hid h6
  clear h6 A5
  go_wp2_with (fail)
  refine (A6.out _ H6.out).mono ?_
  rintro e w10 ⟨rfl, h7⟩
  have H7 := Lib.hid h7
  clear h7
  go_wp2_with (fail)
  refine (A7.out _ H7.out).mono ?_
  rintro e w11 ⟨rfl, rfl⟩
  go_wp2
  go_ret
  exact ⟨rfl, H7.out.below⟩
end Go.Proofs.YtalgheocjnajlaaGreatDoor

namespace Go.Proofs.YtalgheocjnajlaaGreatDoor
open Go.RowKit Go.MapKept
attribute [local go_sem] gives givesH
set_option maxRecDepth 100000

/-- the number at place k of home 0 -/
def rootUp (s : ByteArray) (k i : Nat) : Nat := (List.range i).foldl (fun x j => x * 256 % 18446744073709551616 + byteN s (8 * k + j)) 0
theorem rootUp_succ (s : ByteArray) (k i : Nat) : rootUp s k (i + 1) = rootUp s k i * 256 % 18446744073709551616 + byteN s (8 * k + i) := by
  unfold rootUp
  rw [List.range_succ, List.foldl_append]
  rfl
theorem rootUp_lt (s : ByteArray) (k i : Nat) : rootUp s k i < 18446744073709551616 := by
  cases i with
  | zero => show 0 < 18446744073709551616; omega
  | succ i => rw [rootUp_succ]; have := byteN_lt s (8 * k + i); omega
def RoomS.root (R : RoomS) (k : Nat) : Nat := rootUp (R.home 0) k 8
theorem orR (x : Nat) (c : Nat) (hc : c < 256) : bits .or .u64 (IntKind.u64.wrap ((x : Int) * 256)) (c : Int) = ((x * 256 % 18446744073709551616 + c : Nat) : Int) := by
  have := orT x (UInt8.ofNat c)
  unfold stepT at this
  have e : (UInt8.ofNat c).toNat = c := by simp; omega
  rwa [e] at this

set_option maxHeartbeats 1000000 in
theorem root_any {w : World} {br : Nat} {R : RoomS} (h : RoomAt w br R) (k : Nat) (hk : k < 16) :
    Calls Tryz.prog 44 #[.pointer (some ⟨br, 0, none⟩), .int .i64 k] w fun e w' => e = .returned (.tuple #[.int .u64 (R.root k), .int .i64 0]) ∧ Below w.heap.size w w' := by
  have HM := Lib.hid (home_in h h.pos)
  have hsz : (R.home ((0 : Nat) : Int)).size = 512 := h.home_size h.pos
  have e1 : decide ((k : Int) < 0) = false := by simp
  have e2 : decide ((16 : Int) ≤ (k : Int)) = false := by simp; omega
  have hroot : R.root k = rootUp (R.home ((0 : Nat) : Int)) k 8 := rfl
  rw [hroot]
  generalize R.home ((0 : Nat) : Int) = s at *
  clear h hroot
  go_enter Tryz.func44, Tryz.ntmps44
  go_wp2_with (fail)
  refine (HM.out).mono ?_
  rintro e w1 ⟨rfl, hb1⟩
  go_wp2
  go_loop [8, 26] (fun x i => ∃ j : Nat, j ≤ 8 ∧ i = .int .i64 j ∧ x = .int .u64 (rootUp s k j)) (fun _ i => 8 - (intOf i).toNat)
  case atStart => exact ⟨0, by omega, rfl, rfl⟩
  case round =>
    obtain ⟨j, hj, rfl, rfl⟩ := hrel
    by_cases hlt : j < 8
    · have f1 : decide ((j : Int) < 8) = true := by simp; omega
      have hs1 := rootUp_succ s k j
      obtain ⟨q, hq⟩ : ∃ q, q = 8 * k + j := ⟨_, rfl⟩
      have hx := orR (rootUp s k j) (byteN s q) (byteN_lt _ _)
      have hkj : q < s.size := by omega
      have hbn := byteN_get s q hkj
      have hw : IntKind.u64.wrap ((byteN s q : Nat) : Int) = ((byteN s q : Nat) : Int) := by have := byteN_lt s q; rw [IntKind.wrap_u64]; omega
      rw [← hq] at hs1
      generalize byteN s q = c at *
      generalize rootUp s k j = x at *
      generalize x * 256 % 18446744073709551616 + c = y at *
      have HS1 := Lib.hid hs1
      have e5 : (8 : Int) * (k : Int) + (j : Int) = (q : Int) := by omega
      have hj0 : (0 : Int) ≤ (j : Int) := by omega
      have hk16 : (k : Int) < 16 := by omega
      have hq0 : (0 : Int) ≤ (q : Int) := by omega
      have hq1 : (q : Int) < 512 := by omega
      clear hs1 hq
      go_wp2
      go_round
      case rel => exact ⟨j + 1, by omega, by go_num, by rw [HS1.out]⟩
      case measure => simp [intOf]; omega
    · obtain rfl : j = 8 := by omega
      go_wp2
      go_ret2
      exact ⟨rfl, hb1⟩
end Go.Proofs.YtalgheocjnajlaaGreatDoor

namespace Go.Proofs.YtalgheocjnajlaaGreatDoor
open Go.RowKit Go.MapKept
attribute [local go_sem] gives givesH
set_option maxRecDepth 100000

/-- the first j of a number's eight bytes, the greatest first -/
def be (n j : Nat) : List UInt8 := (List.range j).map (fun t => UInt8.ofNat (n / 2 ^ (56 - 8 * t) % 256))
theorem be_succ (n j : Nat) : be n (j + 1) = be n j ++ [UInt8.ofNat (n / 2 ^ (56 - 8 * j) % 256)] := by
  unfold be
  rw [List.range_succ, List.map_append]
  rfl
theorem be_length (n j : Nat) : (be n j).length = j := by unfold be; simp
theorem isB_drew {B b : Nat} {bs : List Value} {w : World} (h : IsB B b bs w) : IsB B b bs w.drew :=
  h.imp (fun ⟨a, v, hb, ho, hn⟩ => ⟨a, v, hb, ho.drew, hn⟩) (fun ⟨a, v, hb, ho, hn⟩ => ⟨a, v, hb, ho.drew, hn⟩)
theorem Keep.over {B : Nat} {w w' : World} (h : Below B w w') : Keep (fun k => B ≤ k) w w' := ⟨h.os, h.tape, h.output, h.size, fun k _ hn => h.block k (by omega)⟩
/-- home 0 with another number at place k -/
def setRootS (s : ByteArray) (k n : Nat) : ByteArray := ⟨((s.extract 0 (8 * k)).data.toList ++ be n 8 ++ (s.extract (8 * k + 8) s.size).data.toList).toArray⟩

theorem ext_len (s : ByteArray) (a b : Nat) (h : b ≤ s.size) : (s.extract a b).data.toList.length = b - a := by
  have : (s.extract a b).size = b - a := by rw [ByteArray.size_extract]; omega
  rw [← this, Array.length_toList]
  rfl
theorem setRootS_size {s : ByteArray} (hs : s.size = 512) {k : Nat} (hk : k < 16) (n : Nat) : (setRootS s k n).size = 512 := by
  show ((s.extract 0 (8 * k)).data.toList ++ be n 8 ++ (s.extract (8 * k + 8) s.size).data.toList).toArray.size = 512
  rw [List.size_toArray, List.length_append, List.length_append, ext_len _ _ _ (by omega), ext_len _ _ _ (Nat.le_refl _), be_length]
  omega

set_option maxHeartbeats 2000000 in
theorem setRoot_any {w : World} {br : Nat} {R : RoomS} (h : RoomAt w br R) (hlen : R.T.puts.length < 1000000000000) (k : Nat) (hk : k < 16) (n : Nat) (hn : n < 18446744073709551616) :
    Calls Tryz.prog 43 #[.pointer (some ⟨br, 0, none⟩), .int .i64 k, .int .u64 n] w fun e w' => e = .returned (.int .i64 0) ∧ ∃ R', RoomStep br w R w' R' ∧
      R'.T.puts = R.T.puts ++ [(((0 : Nat) : Int), setRootS (R.home 0) k n)] := by
  have HM := Lib.hid (home_in h h.pos)
  have hsz : (R.home ((0 : Nat) : Int)).size = 512 := h.home_size h.pos
  have e1 : decide ((k : Int) < 0) = false := by simp
  have e2 : decide ((16 : Int) ≤ (k : Int)) = false := by simp; omega
  have hg : R.home 0 = R.home ((0 : Nat) : Int) := rfl
  rw [hg]
  generalize hs : R.home ((0 : Nat) : Int) = s at *
  obtain ⟨q, hq⟩ : ∃ q, q = 8 * k := ⟨_, rfl⟩
  have e5 : (8 : Int) * (k : Int) = (q : Int) := by omega
  have e6 : (q : Int) + 8 = ((q + 8 : Nat) : Int) := by omega
  have hq0 : (0 : Int) ≤ (q : Int) := by omega
  have hq1 : (q : Int) ≤ 120 := by omega
  have hk16 : (k : Int) < 16 := by omega
  have HR := Lib.hid h
  have HQ := Lib.hid hq
  have HS0 := Lib.hid hs
  have HN := Lib.hid hn
  clear h hg hq hs hn e6
  go_enter Tryz.func43, Tryz.ntmps43
  go_wp2_with (fail)
  refine (HM.out).mono ?_
  rintro e w1 ⟨rfl, hb1⟩
  have HB1 := Lib.hid hb1
  clear hb1
  have hf0 : IsB w1.heap.size w1.heap.size [] (w1.alloc (.cells #[.pointer none, .slice none 0 0] 122)) := Lib.fresh_isBuilder _ _ w1
  have A1 := Lib.hid (writeString_any hf0 (by simp) (s.extract 0 q) (by rw [ByteArray.size_extract]; simp; omega))
  clear hf0
  go_wp2_with (fail)
  refine (A1.out).mono ?_
  rintro e w2 ⟨rfl, hi2, hb2, ho2⟩
  have hbb : Below w1.heap.size w1 w2 := ((Below.refl _ _).alloc (Nat.le_refl _) _).trans (hb2.mono (Nat.le_refl _))
  have HI2 := Lib.hid hi2
  have HB2 := Lib.hid hbb
  clear hi2 hb2 ho2 hbb
  go_wp2
  go_loopw [10] (fun i wr => ∃ j : Nat, j ≤ 8 ∧ i = .int .i64 (56 - 8 * (j : Int)) ∧ IsB w1.heap.size w1.heap.size (Lib.strCells (s.extract 0 q) ++ Lib.byteCells (be n j)) wr ∧ Below w1.heap.size w1 wr) (fun i _ => (intOf i + 16).toNat)
  case atStart => exact ⟨0, by omega, rfl, by have := HI2.out; simpa [be, Lib.byteCells] using this, HB2.out⟩
  case round =>
    obtain ⟨j, hj, rfl, hib, hbj⟩ := hrel
    have HIB := Lib.hid hib
    have HBJ := Lib.hid hbj
    clear hib hbj
    by_cases hlt : j < 8
    · obtain ⟨sh, hsh⟩ : ∃ sh : Nat, (56 : Int) - 8 * (j : Int) = (sh : Int) := ⟨56 - 8 * j, by omega⟩
      rw [hsh]
      have hshn : sh = 56 - 8 * j := by omega
      have f1 : decide ((0 : Int) ≤ (sh : Int)) = true := by simp
      have hsh56 : sh ≤ 56 := by omega
      have HSH := Lib.hid hsh
      have HSN := Lib.hid hshn
      clear hsh hshn
      have hcl : (Lib.strCells (s.extract 0 q) ++ Lib.byteCells (be n j)).length ≤ 1000 := by
        rw [List.length_append, Lib.strCells_length, ByteArray.size_extract]
        simp [Lib.byteCells, be_length]
        omega
      have A2 := Lib.hid (writeByte_any HIB.out (Nat.le_trans (Nat.le_refl _) HBJ.out.size) (by omega) ((n : Int) / 2 ^ sh % 256))
      have hce : ((n : Int) / 2 ^ sh % 256) = ((UInt8.ofNat (n / 2 ^ sh % 256)).toNat : Int) := by
        have h1 : (n / 2 ^ sh % 256) < 256 := Nat.mod_lt _ (by decide)
        have h2 : (UInt8.ofNat (n / 2 ^ sh % 256)).toNat = n / 2 ^ sh % 256 := by simp
        rw [h2]
        simp
      have HCE := Lib.hid hce
      clear hcl hce
      go_wp2_with (fail)
      refine (A2.out).mono ?_
      rintro e w3 ⟨rfl, hi3, hb3, ho3⟩
      rw [HCE.out, List.append_assoc, ← byteCells_snoc] at hi3
      have hi4 : IsB w1.heap.size w1.heap.size (Lib.strCells (s.extract 0 q) ++ Lib.byteCells (be n (j + 1))) w3 := by
        rw [be_succ, ← HSN.out]; exact hi3
      have HI4 := Lib.hid hi4
      have HB4 := Lib.hid (HBJ.out.trans hb3)
      clear hi3 hi4 hb3 ho3
      go_wp2
      go_roundw
      case rel => exact ⟨j + 1, by omega, by have := HSH.out; congr 1; omega, HI4.out, HB4.out⟩
      case measure => simp [intOf]; omega
    · obtain rfl : j = 8 := by omega
      rw [show (56 : Int) - 8 * ((8 : Nat) : Int) = -8 by omega]
      have hcl : (Lib.strCells (s.extract 0 q) ++ Lib.byteCells (be n 8)).length ≤ 1000 := by
        rw [List.length_append, Lib.strCells_length, ByteArray.size_extract]
        simp [Lib.byteCells, be_length]
        omega
      have A3 := Lib.hid (writeString_any HIB.out (Nat.le_trans (Nat.le_refl _) HBJ.out.size) (s.extract (q + 8) 512) (by rw [ByteArray.size_extract]; omega))
      have e7 : (q : Int) + 8 = ((q + 8 : Nat) : Int) := by omega
      clear hcl e7
      go_wp2_with (fail)
      refine (A3.out).mono ?_
      rintro e w4 ⟨rfl, hi4, hb4, ho4⟩
      rw [strCells_eq, strCells_eq, ← byteCells_append, ← byteCells_append] at hi4
      have hl2 : setRootS s k n = ⟨((s.extract 0 q).data.toList ++ be n 8 ++ (s.extract (q + 8) 512).data.toList).toArray⟩ := by
        unfold setRootS
        rw [← HQ.out, hsz]
      generalize (s.extract 0 q).data.toList ++ be n 8 ++ (s.extract (q + 8) 512).data.toList = l at *
      have HL2 := Lib.hid hl2
      have HI5 := Lib.hid (isB_drew hi4)
      have hbw : Below w1.heap.size w1 w4 := HBJ.out.trans hb4
      have HBW := Lib.hid hbw
      have HRW := Lib.hid (HR.out.still (HB1.out.trans (hbw.mono HB1.out.size)))
      have HSt := Lib.hid (fun (hB : w1.heap.size ≤ w4.drew.heap.size) => Tryz.Builder_String_any_k w1.heap.size w1.heap.size l w4.drew (Lib.IsBuilderF.of HI5.out) hB)
      clear hi4 hb4 ho4 hbw hl2
      go_wp2
      obtain ⟨S, hS⟩ : ∃ S : World → Prop, ∀ u, S u ↔ Keep (fun k => w1.heap.size ≤ k) (w4) u := ⟨fun u => Keep (fun k => w1.heap.size ≤ k) (w4) u, fun _ => Iff.rfl⟩
      have HS := Lib.hid hS
      clear hS
      refine wp_region_ord 5 [(0, true), (1, true), (2, true), (3, true), (4, false)] S (by kernel_rfl) (by kernel_rfl) ((HS.out _).2 (Keep.refl _ _).drew) ?_
      iterate 4
        first
          | (refine wpH_passed rfl (by rfl) (fun K hK => ?_); go_simp; refine hK _ ?_; clear hK K)
          | (first
               | refine wpH_read rfl rfl (fun K hK => ?_)
               | refine wpH_readw rfl (by rfl) (fun K hK => ?_)
             apply Exists.intro
             refine ⟨fun u hu => ?_, ?_⟩
             · have hu := (HS.out u).1 hu
               obtain ⟨⟨c0, c1, c2⟩, _⟩ := tCells (hu.at HRW.out.cells (fun e => by have h1 := HB1.out.size; have h2 := (Array.getElem?_eq_some_iff.1 HR.out.cells).1; omega))
               clear hu
               go_simp
               exact ⟨rfl, rfl⟩
             go_simp
             refine hK _ ?_
             clear hK K)
      refine wpH_do rfl rfl (fun K hK => ?_)
      go_simp
      go_at_call 74
      refine (HSt.out (Nat.le_trans HBW.out.size (Nat.le_refl _))).mono ?_
      rintro e u5 ⟨rfl, hi5, hb5, ho5⟩
      have HB5 := Lib.hid (HBW.out.drew.trans hb5)
      refine hK _ _ ((HS.out _).2 ((Keep.refl _ _).drew.trans (Keep.over hb5) (fun _ _ h => h))) ?_
      clear hK K hi5 hb5 ho5
      refine wpH_nil ?_
      simp only [List.drop_succ_cons, List.drop_zero]
      clear S HS
      have hl5 : (⟨l.toArray⟩ : ByteArray).size = 512 := by rw [← HL2.out]; exact setRootS_size hsz hk n
      have hbu : Below w.heap.size w u5 := HB1.out.trans (HB5.out.mono HB1.out.size)
      have HU := Lib.hid (HR.out.still hbu)
      have HW := Lib.hid (txWrite_ok HU.out.tx hlen (i := 0) ⟨by omega, by have := HU.out.pos; omega⟩ ⟨l.toArray⟩ (by omega))
      rw [fullS_same _ hl5] at HW
      have HBU := Lib.hid hbu
      clear hbu hl5
      go_wp2_with (go_at_call 13; refine (HW.out).mono ?_; rintro e w6 ⟨rfl, T', hst, hpp⟩)
      go_ret
      exact ⟨rfl, R.turned T', (RoomStep.still HR.out HBU.out).trans (HU.out.step hst), by rw [HL2.out]; exact hpp⟩
end Go.Proofs.YtalgheocjnajlaaGreatDoor

namespace Go.Proofs.YtalgheocjnajlaaGreatDoor
open Go.RowKit Go.MapKept
set_option maxRecDepth 100000

theorem ext_get (s : ByteArray) (a b i : Nat) (hb : b ≤ s.size) (hi : i < b - a) : (s.extract a b).data.toList.getD i 0 = s.data.toList.getD (a + i) 0 := by
  have h1 : i < (s.extract a b).size := by rw [ByteArray.size_extract]; omega
  have h2 : a + i < s.size := by omega
  have e1 := byteN_get (s.extract a b) i h1
  have e2 := byteN_get s (a + i) h2
  have e3 : (s.extract a b)[i] = s[a + i] := by rw [ByteArray.getElem_extract]
  rw [e3, e2] at e1
  unfold byteN at e1
  exact UInt8.toNat_inj.1 e1.symm
theorem byteN_setRoot {s : ByteArray} (hs : s.size = 512) {k : Nat} (hk : k < 16) (n i : Nat) :
    byteN (setRootS s k n) i = if 8 * k ≤ i ∧ i < 8 * k + 8 then n / 2 ^ (56 - 8 * (i - 8 * k)) % 256 else byteN s i := by
  have hA := ext_len s 0 (8 * k) (by omega)
  have hC := ext_len s (8 * k + 8) s.size (Nat.le_refl _)
  by_cases hi : i < 512
  · unfold byteN setRootS
    show (((s.extract 0 (8 * k)).data.toList ++ be n 8 ++ (s.extract (8 * k + 8) s.size).data.toList).getD i 0).toNat = _
    rw [List.getD, List.append_assoc, List.getElem?_append]
    by_cases h1 : i < 8 * k
    · rw [if_pos (by omega), if_neg (by omega)]
      have := ext_get s 0 (8 * k) i (by omega) (by omega)
      rw [Nat.zero_add] at this
      rw [← List.getD, this]
    · rw [if_neg (by omega), List.getElem?_append, hA, be_length]
      by_cases h2 : i < 8 * k + 8
      · rw [if_pos (by omega), if_pos ⟨by omega, h2⟩]
        have h3 : (be n 8)[i - (8 * k - 0)]? = some (UInt8.ofNat (n / 2 ^ (56 - 8 * (i - 8 * k)) % 256)) := by
          unfold be
          rw [List.getElem?_map, List.getElem?_range (by omega)]
          simp
        rw [h3]
        simp
      · rw [if_neg (by omega), if_neg (by omega)]
        have := ext_get s (8 * k + 8) s.size (i - (8 * k - 0) - 8) (Nat.le_refl _) (by omega)
        rw [← List.getD, this, show 8 * k + 8 + (i - (8 * k - 0) - 8) = i by omega]
  · rw [byteN_out _ _ (by rw [setRootS_size hs hk]; omega), if_neg (by omega), byteN_out _ _ (by omega)]
theorem rootUp_congr {s t : ByteArray} {k : Nat} (j : Nat) (h : ∀ i, i < j → byteN s (8 * k + i) = byteN t (8 * k + i)) : rootUp s k j = rootUp t k j := by
  induction j with
  | zero => rfl
  | succ j ih => rw [rootUp_succ, rootUp_succ, ih (fun i hi => h i (by omega)), h j (by omega)]
theorem root_set {s : ByteArray} (hs : s.size = 512) {k : Nat} (hk : k < 16) {n : Nat} (hn : n < 18446744073709551616) : rootUp (setRootS s k n) k 8 = n := by
  have h : ∀ j, j ≤ 8 → rootUp (setRootS s k n) k j = n / 2 ^ (64 - 8 * j) := by
    intro j hj
    induction j with
    | zero => show 0 = n / 2 ^ 64; rw [Nat.div_eq_of_lt (by simpa using hn)]
    | succ j ih =>
      rw [rootUp_succ, ih (by omega), byteN_setRoot hs hk, if_pos ⟨by omega, by omega⟩, show 8 * k + j - 8 * k = j by omega]
      have e1 : 64 - 8 * j = (56 - 8 * j) + 8 := by omega
      have e2 : 64 - 8 * (j + 1) = 56 - 8 * j := by omega
      rw [e1, e2, Nat.pow_add, ← Nat.div_div_eq_div_mul]
      have e3 : n / 2 ^ (56 - 8 * j) ≤ n := Nat.div_le_self _ _
      generalize n / 2 ^ (56 - 8 * j) = m at *
      omega
  have := h 8 (Nat.le_refl _)
  simpa using this
theorem root_other {s : ByteArray} (hs : s.size = 512) {k k' : Nat} (hk : k < 16) (hne : k' ≠ k) (n : Nat) : rootUp (setRootS s k n) k' 8 = rootUp s k' 8 := by
  refine rootUp_congr 8 (fun i hi => ?_)
  rw [byteN_setRoot hs hk, if_neg (by omega)]

/-- R' is R, the number at place k another one -/
structure Rooted (R R' : RoomS) (k n : Nat) : Prop where
  has : ∀ q, q < R.maps * 4096 → R'.has q = R.has q
  text : ∀ q, q < R.pages → R'.text q = R.text q
  root : ∀ k', R'.root k' = if k' = k then n else R.root k'
  puts : ∃ a, R'.T.puts = R.T.puts ++ a ∧ a.length ≤ 1
theorem rooted_of {w : World} {br : Nat} {R R' : RoomS} (h : RoomAt w br R) {k n : Nat} (hk : k < 16) (hn : n < 18446744073709551616) (hf : R'.T.f = R.T.f) (hm : R'.maps = R.maps)
    (hp : R'.T.puts = R.T.puts ++ [(((0 : Nat) : Int), setRootS (R.home 0) k n)]) : Rooted R R' k n := by
  have hh := home_snoc hf hp
  refine ⟨fun q hq => ?_, fun q hq => ?_, fun k' => ?_, _, hp, by simp⟩
  · unfold RoomS.has bitOf
    rw [hh, if_neg (by omega)]
  · unfold RoomS.text
    rw [hm, hh, if_neg (by omega)]
  · unfold RoomS.root
    rw [hh, if_pos (show ((0 : Nat) : Int) = 0 from rfl)]
    by_cases hkk : k' = k
    · subst hkk
      rw [if_pos rfl]
      exact root_set (h.home_size (i := 0) h.pos) hk hn
    · rw [if_neg hkk]
      exact root_other (h.home_size (i := 0) h.pos) hk hkk n
section on
variable {w0 w : World} {br : Nat} {R : RoomS}
theorem on_root (h : RoomOn w0 w br R) (k : Nat) (hk : k < 16) :
    Calls Tryz.prog 44 #[.pointer (some ⟨br, 0, none⟩), .int .i64 k] w fun e w' => e = .returned (.tuple #[.int .u64 (R.root k), .int .i64 0]) ∧ RoomOn w0 w' br R :=
  (root_any h.at_ k hk).mono fun _ _ ⟨he, hb⟩ => ⟨he, h.still hb⟩
theorem on_setRoot (h : RoomOn w0 w br R) (hlen : R.T.puts.length < 1000000000000) (k : Nat) (hk : k < 16) (n : Nat) (hn : n < 18446744073709551616) :
    Calls Tryz.prog 43 #[.pointer (some ⟨br, 0, none⟩), .int .i64 k, .int .u64 n] w fun e w' => e = .returned (.int .i64 0) ∧ ∃ R', RoomOn w0 w' br R' ∧ Like R R' ∧ Rooted R R' k n :=
  (setRoot_any h.at_ hlen k hk n hn).mono fun _ _ ⟨he, R', hs, hp⟩ => ⟨he, R', (h.step hs).1, (h.step hs).2, rooted_of h.at_ hk hn hs.tx.f hs.maps hp⟩
end on
theorem Alloced.root {R R' : RoomS} {p : Nat} (h : Alloced R R' p) (k : Nat) : R'.root k = R.root k := by unfold RoomS.root; rw [h.zero]
theorem Freed.root {R R' : RoomS} {p : Nat} (h : Freed R R' p) (k : Nat) : R'.root k = R.root k := by unfold RoomS.root; rw [h.zero]
theorem Wrote.root {R R' : RoomS} {p : Nat} {s : ByteArray} (h : Wrote R R' p s) (k : Nat) : R'.root k = R.root k := by unfold RoomS.root; rw [h.zero]
/-- an Alloc, whatever the room: some page, or none -/
theorem on_alloc_any {w0 w : World} {br : Nat} {R : RoomS} (h : RoomOn w0 w br R) (hlen : R.T.puts.length + 1 < 1000000000000) :
    Calls Tryz.prog 33 #[.pointer (some ⟨br, 0, none⟩)] w fun e w' => ∃ (r c : Int) (R' : RoomS), e = .returned (.tuple #[.int .i64 r, .int .i64 c]) ∧ RoomOn w0 w' br R' ∧ Like R R' ∧
      (R' = R ∨ ∃ p, p < R.pages ∧ R.has p = false ∧ Alloced R R' p) := by
  by_cases hall : ∀ q, q < R.pages → R.has q = true
  · exact (on_full h hall).mono fun _ _ ⟨he, hr⟩ => ⟨_, _, R, he, hr, Like.refl R, .inl rfl⟩
  · have hex : ∃ q, q < R.pages ∧ R.has q = false := by
      refine Classical.byContradiction (fun hno => hall (fun q hq => ?_))
      cases hc : R.has q with
      | true => rfl
      | false => exact absurd ⟨q, hq, hc⟩ hno
    obtain ⟨q, hq, hq0⟩ := hex
    have hmin : ∃ p, p < R.pages ∧ R.has p = false ∧ ∀ i, i < p → R.has i = true := by
      induction q using Nat.strongRecOn with
      | _ q ih =>
        by_cases hb : ∃ i, i < q ∧ R.has i = false
        · obtain ⟨i, hi, hi0⟩ := hb
          exact ih i hi (by omega) hi0
        · refine ⟨q, hq, hq0, fun i hi => ?_⟩
          cases hc : R.has i with
          | true => rfl
          | false => exact absurd ⟨i, hi, hc⟩ hb
    obtain ⟨p, hp, h0, h1⟩ := hmin
    exact (on_alloc h hlen p hp h0 h1).mono fun _ _ ⟨he, R', hr, hl, ha⟩ => ⟨_, _, R', he, hr, hl, .inr ⟨p, hp, h0, ha⟩⟩
/-- a Write, whatever the number and the text -/
theorem on_write_any {w0 w : World} {br : Nat} {R : RoomS} (h : RoomOn w0 w br R) (hlen : R.T.puts.length < 1000000000000) (i : Int) (s : ByteArray) (hs : s.size ≤ 9223372036854775807) :
    Calls Tryz.prog 37 #[.pointer (some ⟨br, 0, none⟩), .int .i64 i, .string s] w fun e w' => ∃ (c : Int) (R' : RoomS), e = .returned (.int .i64 c) ∧ RoomOn w0 w' br R' ∧ Like R R' ∧
      ((R'.T.puts = R.T.puts) ∨ ∃ p : Nat, i = p ∧ p < R.pages ∧ R.has p = true ∧ Wrote R R' p (fullS s)) := by
  by_cases he : R.err i = 0
  · have hin : 0 ≤ i ∧ i < R.pages := by
      refine Classical.byContradiction (fun hno => ?_)
      unfold RoomS.err at he
      rw [if_neg hno] at he
      cases he
    obtain ⟨p, rfl⟩ : ∃ p : Nat, i = p := ⟨i.toNat, by omega⟩
    have hp : p < R.pages := by omega
    have h1 : R.has p = true := by
      unfold RoomS.err at he
      rw [if_pos hin, Int.toNat_natCast] at he
      cases hc : R.has p with
      | true => rfl
      | false => rw [hc] at he; cases he
    exact (write_ok h.at_ hlen p hp h1 s hs).mono fun _ _ ⟨he2, R', hst, ha⟩ => ⟨_, R', he2, (h.step hst).1, (h.step hst).2, ha.imp (fun x => x.2) (fun x => ⟨p, rfl, hp, h1, x.2⟩)⟩
  · exact (write_bad h.at_ i he s).mono fun _ _ ⟨he2, hb⟩ => ⟨_, R, he2, h.still hb, Like.refl R, .inl rfl⟩
/-- a Free, whatever the number -/
theorem on_free_any {w0 w : World} {br : Nat} {R : RoomS} (h : RoomOn w0 w br R) (hlen : R.T.puts.length < 1000000000000) (i : Int) :
    Calls Tryz.prog 35 #[.pointer (some ⟨br, 0, none⟩), .int .i64 i] w fun e w' => ∃ R', e = .returned (.int .i64 (R.err i)) ∧ RoomOn w0 w' br R' ∧ Like R R' ∧
      ((R.err i ≠ 0 ∧ R' = R) ∨ ∃ p : Nat, i = p ∧ p < R.pages ∧ R.has p = true ∧ Freed R R' p) := by
  by_cases he : R.err i = 0
  · have hin : 0 ≤ i ∧ i < R.pages := by
      refine Classical.byContradiction (fun hno => ?_)
      unfold RoomS.err at he
      rw [if_neg hno] at he
      cases he
    obtain ⟨p, rfl⟩ : ∃ p : Nat, i = p := ⟨i.toNat, by omega⟩
    have hp : p < R.pages := by omega
    have h1 : R.has p = true := by
      unfold RoomS.err at he
      rw [if_pos hin, Int.toNat_natCast] at he
      cases hc : R.has p with
      | true => rfl
      | false => rw [hc] at he; cases he
    rw [he]
    exact (on_free h hlen p hp h1).mono fun _ _ ⟨he2, R', hr, hl, ha⟩ => ⟨R', he2, hr, hl, .inr ⟨p, rfl, hp, h1, ha⟩⟩
  · exact (on_free_bad h i he).mono fun _ _ ⟨he2, hr⟩ => ⟨R, he2, hr, Like.refl R, .inl ⟨he, rfl⟩⟩
end Go.Proofs.YtalgheocjnajlaaGreatDoor
