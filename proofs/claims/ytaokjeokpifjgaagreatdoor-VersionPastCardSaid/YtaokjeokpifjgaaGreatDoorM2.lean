/-
  Texts of this claim, one behind the other: Rooms7 NdM Rdr Parse NdS Lay9 Find Way Text TrW Ins Insert.
-/
import Derived.Test.YtaokjeokpifjgaaGreatDoorM1
import Derived.Shelf.Spec.SearchS
namespace Go.Proofs.YtaokjeokpifjgaaGreatDoor
open Go.RowKit Go.MapKept
attribute [local go_sem] gives givesH
set_option maxRecDepth 100000

set_option maxHeartbeats 300000 in
theorem wide7_any (n : Nat) (h1 : 4 ≤ n) (h2 : n ≤ 65335) (w : World) :
    Calls Tryz.prog 28 #[.int .i64 n] w fun e w' => ∃ bd bl L, e = .returned (.tuple #[.pointer (some ⟨bd, 0, none⟩), .pointer (some ⟨bl, 0, none⟩)]) ∧
      LogIn w.heap.size w' bl L (dFresh (201 + n)) 0 n 200 (fun _ => zeros 512) ∧ Below w.heap.size w w' := by
  have H1 := Hd (new5_any (201 + n) (by omega) (by omega) w)
  have e1 : ((201 : Int) + (n : Int)) = ((201 + n : Nat) : Int) := by omega
  have e2 : IntKind.i64.wrap ((201 + n : Nat) : Int) = ((201 + n : Nat) : Int) := wrapI (by omega) (by omega)
  have e3 : max (n : Int) 4 = n := by omega
  have hn4 : (4 : Int) ≤ n := by omega
  obtain ⟨m, hm⟩ : ∃ m, 201 + n = m := ⟨_, rfl⟩
  rw [hm] at H1 e1 e2
  rw [hm]
  have HM := Hd hm
  clear hm
  go_enter Tryz.func28, Tryz.ntmps28
  go_wp2_with (go_at_call 78; refine (H1.out).mono ?_; rintro e w1 ⟨bd, D, rfl, hf⟩
               have HF := Hd hf
               have HO := Hd (open5_any hf.at_ hf.dk rfl rfl 200 (by decide) (by decide) (homes := n) (by rw [hf.size]; have := HM.out; omega) (by omega) (by decide) (dFresh_bears m 200 n (by have := HM.out; omega)))
               clear hf)
  refine (HO.out).mono ?_
  rintro e w2 ⟨bl, L, rfl, ho⟩
  go_wp2
  go_ret2
  obtain ⟨hl, hb⟩ := log_new (homes := n) HF.out ho (by have := HM.out; omega) (Nat.le_refl _)
  exact ⟨bd, bl, L, rfl, hl, hb⟩
theorem wide_any (n : Nat) (h1 : 4 ≤ n) (h2 : n ≤ 65335) (w : World) :
    Calls Tryz.prog 28 #[.int .i64 n] w fun e w' => ∃ bd bl, e = .returned (.tuple #[.pointer (some ⟨bd, 0, none⟩), .pointer (some ⟨bl, 0, none⟩)]) ∧
      LogView w' bl n (fun _ => zeros 512) (fun k => w.heap.size ≤ k ∧ k < w'.heap.size) ∧ Below w.heap.size w w' :=
  (wide7_any n h1 h2 w).mono fun e w' ⟨bd, bl, L, he, hl, hb⟩ => ⟨bd, bl, he, by
    obtain ⟨L', g1, g2, g3, g4, g5, g6, g7⟩ := hl.view
    exact ⟨L', g1, g2, g3, g4, g5, fun k hk => ⟨hl.newer k (g6 k hk), g7 k (g6 k hk)⟩, fun k hk => hk.2⟩, hb⟩
end Go.Proofs.YtaokjeokpifjgaaGreatDoor

namespace Go.Proofs.YtaokjeokpifjgaaGreatDoor
open Go.RowKit Go.MapKept
attribute [local go_sem] gives givesH
set_option maxRecDepth 100000

def pagesOf (h : Int) : Int := if h < 3 then 0 else (min h 1048576 - 1) / 4097 * 4096 + max ((min h 1048576 - 1) % 4097 - 1) 0
theorem pagesOf_bd (h : Int) : 0 ≤ pagesOf h ∧ pagesOf h ≤ 1048576 := by
  unfold pagesOf
  split
  · omega
  · omega
theorem roomPages_any (h : Int) (w : World) :
    Calls Tryz.prog 80 #[.int .i64 h] w fun e w' => e = .returned (.int .i64 (pagesOf h)) ∧ w = w' := by
  by_cases h3 : h < 3
  · have e1 : decide (h < 3) = true := by simpa using h3
    have e2 : pagesOf h = 0 := by unfold pagesOf; rw [if_pos h3]
    rw [e2]
    clear e2
    go_enter Tryz.func80, Tryz.ntmps80
    go_wp2
    go_ret
    exact ⟨rfl, rfl⟩
  · have e1 : decide (h < 3) = false := by simpa using h3
    obtain ⟨m, hm⟩ : ∃ m, min h 1048576 = m := ⟨_, rfl⟩
    have hm3 : 3 ≤ m := by omega
    have hm4 : m ≤ 1048576 := by omega
    have e2 : pagesOf h = (m - 1) / 4097 * 4096 + max ((m - 1) % 4097 - 1) 0 := by unfold pagesOf; rw [if_neg h3, hm]
    rw [e2]
    clear e2 h3
    go_enter Tryz.func80, Tryz.ntmps80
    go_wp2
    go_ret
    exact ⟨rfl, rfl⟩

theorem mapsOf_any (p : Int) (h0 : 0 ≤ p) (h1 : p ≤ 1048576) (w : World) :
    Calls Tryz.prog 82 #[.int .i64 p] w fun e w' => e = .returned (.int .i64 ((p + 4095) / 4096)) ∧ w = w' := by
  go_enter Tryz.func82, Tryz.ntmps82
  go_wp2
  go_ret
  refine ⟨?_, rfl⟩
  show Ending.returned (Value.int IntKind.i64 ((p + 4096 - 1) / 4096)) = _
  rw [show p + 4096 - 1 = p + 4095 by omega]

theorem bit_any (p H K M : Nat) (hp : p < 1073741824) (hH : H = 1 + p / 4096) (hK : K = p % 4096 / 8) (hM : M = 2 ^ (p % 8)) (w : World) :
    Calls Tryz.prog 260 #[.int .i64 p] w fun e w' => e = .returned (.tuple #[.int .i64 H, .int .i64 K, .int .u8 M]) ∧ Below w.heap.size w w' := by
  have e1 : (1 : Int) + (p : Int) / 4096 = (H : Int) := by omega
  have e2 : (p : Int) % 4096 / 8 = (K : Int) := by omega
  have e3 : ((2 : Int) ^ (p % 8) % 256) = (M : Int) := by
    have h8 : p % 8 < 8 := Nat.mod_lt _ (by decide)
    subst hM
    have : (2 ^ (p % 8) : Nat) < 256 := Nat.pow_lt_pow_right (n := 8) (by decide) h8
    rw [show ((2 : Int) ^ (p % 8)) = ((2 ^ (p % 8) : Nat) : Int) by simp]
    generalize 2 ^ (p % 8) = x at *
    omega
  have E1 := Hd e1
  have E2 := Hd e2
  have E3 := Hd e3
  clear e1 e2 e3 hH hK hM
  go_enter Tryz.func260, Tryz.ntmps260
  go_wp2
  go_quiet (fail)
  go_wp2
  rw [E1.out, E2.out, E3.out]
  go_ret3
  exact ⟨rfl, ⟨rfl, rfl, rfl, Nat.le_refl _, fun _ _ => rfl⟩⟩

structure RoomS where
  bt : Nat
  T : TxS
  maps : Nat
  pages : Nat

structure RoomAt (w : World) (br : Nat) (R : RoomS) : Prop where
  cells : w.heap[br]? = some (.cells #[.pointer (some ⟨R.bt, 0, none⟩), .int .i64 R.maps, .int .i64 R.pages] 165 (0, 0))
  tx : TxAt w R.bt R.T
  apart : ¬ R.T.foot R.bt br
  fit : R.maps = (R.pages + 4095) / 4096 ∧ 1 + R.maps + R.pages ≤ R.T.n

def RoomS.foot (R : RoomS) (br k : Nat) : Prop := k = br ∨ R.T.foot R.bt k
theorem RoomAt.keep {w w' : World} {br : Nat} {R : RoomS} (h : RoomAt w br R) {S : Nat → Prop} (hk : Keep S w w') (hn : ∀ k, R.foot br k → ¬ S k) : RoomAt w' br R :=
  ⟨hk.at h.cells (hn _ (.inl rfl)), h.tx.keep hk (fun k hf => hn k (.inr hf)), h.apart, h.fit⟩
theorem RoomAt.still {w u : World} {br : Nat} {R : RoomS} (h : RoomAt w br R) (hb : Below w.heap.size w u) : RoomAt u br R := h.keep (Keep.still hb) (fun _ _ h => h)

structure RoomStep (br : Nat) (w : World) (R : RoomS) (w' : World) (R' : RoomS) : Prop where
  at_ : RoomAt w' br R'
  bt : R'.bt = R.bt
  maps : R'.maps = R.maps
  pages : R'.pages = R.pages
  tx : TxStep R.bt w R.T w' R'.T
theorem RoomStep.refl {br : Nat} {w : World} {R : RoomS} (h : RoomAt w br R) : RoomStep br w R w R := ⟨h, rfl, rfl, rfl, TxStep.refl h.tx⟩
theorem RoomStep.still {br : Nat} {w u : World} {R : RoomS} (h : RoomAt w br R) (hb : Below w.heap.size w u) : RoomStep br w R u R := ⟨h.still hb, rfl, rfl, rfl, TxStep.still h.tx hb⟩
theorem RoomStep.trans {br : Nat} {w w' w'' : World} {R R' R'' : RoomS} (h : RoomStep br w R w' R') (k : RoomStep br w' R' w'' R'') : RoomStep br w R w'' R'' :=
  ⟨k.at_, k.bt.trans h.bt, k.maps.trans h.maps, k.pages.trans h.pages, h.tx.trans (h.bt ▸ k.tx)⟩
def RoomS.turned (R : RoomS) (T : TxS) : RoomS := { R with T := T }
theorem TxAt.foot_lt {w : World} {bt : Nat} {T : TxS} (h : TxAt w bt T) {k : Nat} (hk : T.foot bt k) : k < w.heap.size := by
  rcases hk with hk | hk | hk | hk | hk
  · exact h.own_lt (.inl hk)
  · exact h.own_lt (.inr (.inl hk))
  · exact h.log.lt hk
  · exact h.own_lt (.inr (.inr (.inl hk)))
  · exact h.own_lt (.inr (.inr (.inr hk)))
theorem TxStep.foot {bt : Nat} {w w' : World} {T T' : TxS} (h : TxStep bt w T w' T') {k : Nat} (hk : T'.foot bt k) : T.foot bt k ∨ w.heap.size ≤ k := by
  rcases hk with hk | hk | hk | hk | hk
  · exact (h.own k (.inl hk)).imp TxS.own_foot id
  · exact (h.own k (.inr (.inl hk))).imp TxS.own_foot id
  · exact .inl (.inr (.inr (.inl (h.Fl ▸ hk))))
  · exact (h.own k (.inr (.inr (.inl hk)))).imp TxS.own_foot id
  · exact (h.own k (.inr (.inr (.inr hk)))).imp TxS.own_foot id
theorem RoomAt.step {w w' : World} {br : Nat} {R : RoomS} (h : RoomAt w br R) {T' : TxS} (hs : TxStep R.bt w R.T w' T') : RoomStep br w R w' (R.turned T') := by
  have hlt : br < w.heap.size := (Gl h.cells)
  refine ⟨⟨hs.keep.at h.cells (fun e => h.apart (TxS.own_foot e)), hs.at_, fun e => ?_, ⟨h.fit.1, by show 1 + R.maps + R.pages ≤ T'.n; rw [hs.n]; exact h.fit.2⟩⟩, rfl, rfl, rfl, hs⟩
  rcases hs.foot e with e | e
  · exact h.apart e
  · omega

def RoomS.home (R : RoomS) (i : Int) : ByteArray := R.T.read i
theorem home_any {w : World} {br : Nat} {R : RoomS} (h : RoomAt w br R) {i : Int} (hi : (Lit.int .i64 i).wf = true) :
    Calls Tryz.prog 114 #[.pointer (some ⟨br, 0, none⟩), .int .i64 i] w fun e w' => e = .returned (.tuple #[.string (homeStr R.T.n R.T.read i), .int .i64 (homeErr R.T.n i)]) ∧ Below w.heap.size w w' := by
  have H := Hd (txRead_any h.tx hi)
  obtain ⟨⟨c0, c1, c2⟩, _⟩ := tCells h.cells
  unfold TxS.says homeSays at H
  generalize homeStr R.T.n R.T.read i = s at *
  generalize homeErr R.T.n i = c at *
  go_enter Tryz.func114, Tryz.ntmps114
  go_wp2_with (go_at_call 179; refine (H.out).mono ?_; rintro e w1 ⟨rfl, hb⟩)
  go_ret2
  exact ⟨rfl, hb⟩
theorem home_in {w : World} {br : Nat} {R : RoomS} (h : RoomAt w br R) {i : Nat} (hi : i < R.T.n) :
    Calls Tryz.prog 114 #[.pointer (some ⟨br, 0, none⟩), .int .i64 i] w fun e w' => e = .returned (.tuple #[.string (R.home i), .int .i64 0]) ∧ Below w.heap.size w w' := by
  have := home_any h (i := (i : Int)) (keyOk (by omega) (by have := h.tx.log.small; omega))
  rwa [homeStr_in (by omega), homeErr_in (by omega)] at this
theorem RoomAt.pos {w : World} {br : Nat} {R : RoomS} (h : RoomAt w br R) : 0 < R.T.n := by have := h.fit.2; omega

theorem roomDead_any {w : World} {br : Nat} {R : RoomS} (h : RoomAt w br R) :
    Calls Tryz.prog 113 #[.pointer (some ⟨br, 0, none⟩)] w fun e w' => e = .returned (.bool false) ∧ Below w.heap.size w w' := by
  have H := Hd (home_in h h.pos)
  go_enter Tryz.func113, Tryz.ntmps113
  go_wp2_with (go_at_call 114; refine (H.out).mono ?_; rintro e w1 ⟨rfl, hb⟩)
  go_ret
  exact ⟨rfl, hb⟩

theorem roomAtPage_any {w : World} {br : Nat} {R : RoomS} (h : RoomAt w br R) (p : Nat) (hp : p < R.pages) :
    Calls Tryz.prog 224 #[.pointer (some ⟨br, 0, none⟩), .int .i64 p] w fun e w' => e = .returned (.int .i64 (1 + R.maps + p : Nat)) ∧ w = w' := by
  obtain ⟨⟨c0, c1, c2⟩, _⟩ := tCells h.cells
  have hf := h.fit
  have hn := h.tx.log.small
  have e1 : (1 : Int) + (R.maps : Int) + (p : Int) = ((1 + R.maps + p : Nat) : Int) := by omega
  have hm : (R.maps : Int) ≤ 65536 := by omega
  have hp2 : (p : Int) ≤ 65536 := by omega
  have E1 := Hd e1
  clear e1 hf
  go_enter Tryz.func224, Tryz.ntmps224
  go_wp2
  rw [E1.out]
  go_ret
  exact ⟨rfl, rfl⟩

theorem pagesOf_fit (n : Nat) (hn : n ≤ 65536) (h1 : 1 ≤ n) : 1 + ((pagesOf n).toNat + 4095) / 4096 + (pagesOf n).toNat ≤ n := by
  unfold pagesOf
  split
  · simp; omega
  · omega
theorem of_any {w : World} {bt : Nat} {T : TxS} (h : TxAt w bt T) (h1 : 1 ≤ T.n) :
    Calls Tryz.prog 29 #[.pointer (some ⟨bt, 0, none⟩)] w fun e w' => ∃ br R, e = .returned (.pointer (some ⟨br, 0, none⟩)) ∧ RoomAt w' br R ∧ R.bt = bt ∧ R.T = T ∧ R.pages = (pagesOf T.n).toNat ∧ w.heap.size ≤ br ∧ Below w.heap.size w w' := by
  have hsm := h.log.small
  have H1 := Hd (txHomes_any h)
  have H2 := Hd (fun w => roomPages_any T.n w)
  have hbd := pagesOf_bd T.n
  have hfit := pagesOf_fit T.n hsm h1
  have H3 := Hd (fun w => mapsOf_any (pagesOf T.n) hbd.1 hbd.2 w)
  obtain ⟨pg, hpg⟩ : ∃ pg : Nat, pagesOf T.n = (pg : Int) := ⟨(pagesOf T.n).toNat, by omega⟩
  rw [hpg] at H2 H3 hfit ⊢
  have e1 : ((pg : Int) + 4095) / 4096 = (((pg + 4095) / 4096 : Nat) : Int) := by omega
  rw [e1] at H3
  have H := Hd h
  have HF := Hd hfit
  clear h hfit hbd hpg e1
  generalize hmp : (pg + 4095) / 4096 = mp at *
  have HMP := Hd hmp
  clear hmp
  go_enter Tryz.func29, Tryz.ntmps29
  go_wp2_with (first
    | (go_at_call 81; refine (H1.out).mono ?_; rintro e w1 ⟨rfl, hb⟩)
    | (go_at_call 80; refine (H2.out _).mono ?_; rintro e w2 ⟨rfl, rfl⟩)
    | (go_at_call 82; refine (H3.out _).mono ?_; rintro e w2 ⟨rfl, rfl⟩))
  go_ret
  have hb2 : Below w.heap.size w (w1.alloc (Obj.cells #[.pointer (some ⟨bt, 0, none⟩), .int .i64 mp, .int .i64 pg] 165)) := hb.alloc hb.size _
  refine ⟨w1.heap.size, ⟨bt, T, mp, pg⟩, rfl, ⟨heap_alloc_new w1 _, H.out.still hb2, fun hf => ?_, ⟨HMP.out.symm, ?_⟩⟩, rfl, rfl, by simp, hb.size, hb2⟩
  · have := H.out.foot_lt hf; have := hb.size; omega
  · have := HF.out; have := HMP.out; show 1 + mp + pg ≤ T.n; omega
end Go.Proofs.YtaokjeokpifjgaaGreatDoor

namespace Go.Proofs.YtaokjeokpifjgaaGreatDoor
open Go.RowKit Go.MapKept
attribute [local go_sem] gives givesH
set_option maxRecDepth 100000

theorem TxAt.read_size {w : World} {bt : Nat} {T : TxS} (h : TxAt w bt T) (i : Int) (h0 : 0 ≤ i) (hn : i < T.n) : (T.read i).size = 512 := by
  unfold TxS.read
  by_cases hp : posns T.puts i = []
  · rw [seen_none _ _ _ hp]; exact h.log.size i h0 hn
  · obtain ⟨hk, hpk⟩ := seen_last T.puts T.f i _ _ (List.dropLast_concat_getLast hp).symm
    exact (h.good _ (List.mem_of_getElem? hpk)).2.2
theorem RoomAt.home_size {w : World} {br : Nat} {R : RoomS} (h : RoomAt w br R) {i : Nat} (hi : i < R.T.n) : (R.home (i : Int)).size = 512 := h.tx.read_size i (by omega) (by omega)

theorem turn_any {w : World} {br : Nat} {R : RoomS} (h : RoomAt w br R) (hlen : R.T.puts.length < 1000000000000) (p : Nat) (hp : p < R.pages) :
    Calls Tryz.prog 223 #[.pointer (some ⟨br, 0, none⟩), .int .i64 p] w fun e w' => e = .returned (.int .i64 0) ∧ ∃ R', RoomStep br w R w' R' ∧
      R'.T.puts = R.T.puts ++ [(((1 + p / 4096 : Nat) : Int), xorAt (R.home (1 + p / 4096 : Nat)) (p % 4096 / 8) (2 ^ (p % 8)))] := by
  have hf := h.fit
  have hn := h.tx.log.small
  have hp2 : p < 1073741824 := by omega
  obtain ⟨H, hH⟩ : ∃ H, H = 1 + p / 4096 := ⟨_, rfl⟩
  obtain ⟨K, hK⟩ : ∃ K, K = p % 4096 / 8 := ⟨_, rfl⟩
  obtain ⟨M, hM⟩ : ∃ M, M = 2 ^ (p % 8) := ⟨_, rfl⟩
  have B := Hd (fun w => bit_any p H K M hp2 hH hK hM w)
  have hHn : H < R.T.n := by omega
  have HM := Hd (fun u (hu : RoomAt u br R) => home_in hu hHn)
  have hK5 : K < 512 := by omega
  rw [← hH, ← hK, ← hM]
  have hsz : (R.home H).size = 512 := h.home_size (by omega)
  have hM8 : M < 256 := by rw [hM]; exact pow8_lt p
  generalize hs : R.home H = s at *
  have HHs := Hd hs
  have HR := Hd h
  clear h hf hH hK hM hs
  go_enter Tryz.func223, Tryz.ntmps223
  go_wp2_with (first
    | (go_at_call 260; refine (B.out _).mono ?_; rintro e w1 ⟨rfl, hb1⟩
       have HR1 := Hd (HR.out.still hb1)
       have HB1 := Hd hb1
       clear hb1)
    | (go_at_call 114; refine (HM.out _ HR1.out).mono ?_; rintro e w2 ⟨rfl, hb2⟩
       have HR2 := Hd (HR1.out.still hb2)
       have HB2 := Hd hb2
       obtain ⟨c, w3, hcv, hb3, hz3, hc3, ⟨cs, hcs, hcl⟩, hcell⟩ := conv_bytes (P := Tryz.prog) w2 9 121 5 s Tryz.underlying9 Tryz.underlying121 Tryz.underlying5
       have hk3 := hcell K (by omega)
       rw [byteN_get] at hk3
       have f3 : w3.frozen? ⟨w2.heap.size, K, none⟩ = false := by simp [World.frozen?, hcs]; omega
       have hx := bits_xor_u8 (byteN s K) M (byteN_lt _ _) hM8
       have hK0 : (0 : Int) ≤ (K : Int) := by omega
       have hK1 : (K : Int) < 512 := by omega
       have HCs := Hd hcs
       have HCell := Hd hcell
       have HB3 := Hd hb3
       have HZ3 := Hd hz3
       rw [hsz] at hcv
       clear hb2 hcs hcell hb3 hz3))
  have hbW : Below w.heap.size w (w3.setCell ⟨w2.heap.size, K, none⟩ (.int .u8 (byteN s K ^^^ M : Nat))) := by
    have b2 := HB1.out.trans (HB2.out.mono HB1.out.size)
    have b3 := b2.trans (HB3.out.mono b2.size)
    exact b3.setCell (p := ⟨w2.heap.size, K, none⟩) b2.size _
  have hBy : Lib.Bytes (w3.setCell ⟨w2.heap.size, K, none⟩ (.int .u8 (byteN s K ^^^ M : Nat))) w2.heap.size 0 (xorAt s K M) := by
    intro i hi
    rw [xorAt_size] at hi
    rw [Nat.zero_add, byteN_get _ i (by rw [xorAt_size]; exact hi), byteN_xorAt _ _ _ _ hM8 (by omega)]
    by_cases hik : i = K
    · subst hik
      rw [if_pos rfl]
      exact World.cell?_setCell_same (h := hk3) ..
    · have hne : (⟨w2.heap.size, K, none⟩ : Addr) ≠ ⟨w2.heap.size, i, none⟩ := fun e => hik (by cases e; rfl)
      rw [if_neg hik, World.cell?_setCell_other (h := hne) .., HCell.out i hi, byteN_get]
  have HRW := Hd (HR.out.still hbW)
  have HBW := Hd hbW
  have HBy := Hd hBy
  clear hbW hBy hcv hk3 f3 hx
  generalize w3.setCell ⟨w2.heap.size, K, none⟩ (.int .u8 (byteN s K ^^^ M : Nat)) = W at *
  have hx5 : (xorAt s K M).size = 512 := by rw [xorAt_size]; exact hsz
  have HW := Hd (txWrite_ok (HRW.out.tx) hlen (i := (H : Int)) (by omega) (xorAt s K M) (by omega))
  rw [fullS_same _ hx5] at HW
  have HCV := Hd (fun u (hu : Lib.Bytes u w2.heap.size 0 (xorAt s K M)) => Lib.run_convert_whole (P := Tryz.prog) u 121 5 9 Tryz.underlying121 Tryz.underlying5 Tryz.underlying9 w2.heap.size 0 (xorAt s K M) hu c)
  rw [hx5] at HCV
  generalize hs2 : xorAt s K M = s2 at *
  have HS2 := Hd hs2
  clear hs2
  have hHn2 : (H : Int) < 65536 := by omega
  obtain ⟨S, hS⟩ : ∃ S : World → Prop, ∀ u, S u ↔ Keep (fun _ => False) (W) u := ⟨fun u => Keep (fun _ => False) (W) u, fun _ => Iff.rfl⟩
  have HS := Hd hS
  clear hS
  refine wp_region_ord 7 [(0, true), (1, true), (2, true), (3, true), (4, true), (5, true), (6, true)] S (by kernel_rfl) (by kernel_rfl) ((HS.out _).2 (Keep.refl _ _).drew) ?_
  iterate 7
    first
      | (refine wpH_passed rfl (by rfl) (fun K hK => ?_); go_simp; refine hK _ ?_; clear hK K)
      | (first
           | refine wpH_read rfl rfl (fun K hK => ?_)
           | refine wpH_readw rfl (by rfl) (fun K hK => ?_)
         apply Exists.intro
         refine ⟨fun u hu => ?_, ?_⟩
         · have hu := (HS.out u).1 hu
           obtain ⟨⟨c0, c1, c2⟩, _⟩ := tCells (hu.at HRW.out.cells (fun e => e))
           have l1 := HCV.out u (fun i hi => (World.cell?_of_block (hu.block _ (World.block_lt_of_cell? _ _ (HBy.out i hi)) (fun e => e))).trans (HBy.out i hi))
           clear hu
           go_simp
           exact ⟨rfl, rfl⟩
         go_simp
         refine hK _ ?_
         clear hK K)
  refine wpH_nil ?_
  simp only [List.drop_succ_cons, List.drop_zero]
  have HWd := Hd (txWrite_ok ((HRW.out.tx).keep (Keep.refl (fun _ => False) W).drew (fun _ _ e => e)) hlen (i := (H : Int)) (by omega) s2 (by omega))
  rw [fullS_same _ hx5] at HWd
  clear S HS HCV HBy HW
  go_wp2_with (go_at_call 217; refine (HWd.out).mono ?_; rintro e w5 ⟨rfl, T', hst, hpp⟩)
  go_ret
  refine ⟨rfl, R.turned T', ?_, by rw [HS2.out]; exact hpp⟩
  have hbd : Below w.heap.size w W.drew := HBW.out.drew
  exact (RoomStep.still HR.out hbd).trans ((HR.out.still hbd).step hst)
end Go.Proofs.YtaokjeokpifjgaaGreatDoor

namespace Go.Proofs.YtaokjeokpifjgaaGreatDoor
open Go.RowKit Go.MapKept
attribute [local go_sem] gives givesH
set_option maxRecDepth 100000

def FreeSays (f : Int → ByteArray) (pages : Nat) (r : Int) : Prop :=
  (r = -1 ∧ ∀ q, q < pages → bitOf f q = true) ∨ ∃ p : Nat, r = p ∧ p < pages ∧ bitOf f p = false ∧ ∀ q, q < p → bitOf f q = true
def FreePost (f : Int → ByteArray) (pages : Nat) (w : World) (e : Ending) (w' : World) : Prop := ∃ r : Int, FreeSays f pages r ∧ e = .returned (.tuple #[.int .i64 r, .int .i64 0]) ∧ Below w.heap.size w w'

theorem freeAt {f : Int → ByteArray} {pages m k : Nat} (hk : k < 512) (hall : ∀ q, q < m * 4096 + 8 * k → bitOf f q = true) (hb : byteN (f ((1 + m : Nat) : Int)) k ≠ 255) (t : Nat) (ht : t = Lib.trailingZeros8 (255 - byteN (f ((1 + m : Nat) : Int)) k)) :
    t < 8 ∧ FreeSays f pages (if m * 4096 + 8 * k + t < pages then ((m * 4096 + 8 * k + t : Nat) : Int) else -1) := by
  obtain ⟨h1, h2, h3⟩ := tz_spec ⟨_, byteN_lt (f ((1 + m : Nat) : Int)) k⟩ hb
  simp only at h1 h2 h3
  rw [← ht] at h1 h2 h3
  have hp : bitOf f (m * 4096 + 8 * k + t) = false := by rw [bitOf_split f m k t hk h1]; exact h2
  have hq : ∀ q, q < m * 4096 + 8 * k + t → bitOf f q = true := fun q hq => by
    by_cases h : q < m * 4096 + 8 * k
    · exact hall q h
    · obtain ⟨j, rfl⟩ : ∃ j, q = m * 4096 + 8 * k + j := ⟨q - (m * 4096 + 8 * k), by omega⟩
      rw [bitOf_split f m k j hk (by omega)]
      exact h3 ⟨j, by omega⟩ (by show j < t; omega)
  refine ⟨h1, ?_⟩
  split
  · exact .inr ⟨_, rfl, by assumption, hp, hq⟩
  · exact .inl ⟨rfl, fun q hqp => hq q (by omega)⟩
theorem full255 {f : Int → ByteArray} {m k : Nat} (hk : k < 512) (hall : ∀ q, q < m * 4096 + 8 * k → bitOf f q = true) (hb : byteN (f ((1 + m : Nat) : Int)) k = 255) :
    ∀ q, q < m * 4096 + 8 * (k + 1) → bitOf f q = true := fun q hq => by
  by_cases h : q < m * 4096 + 8 * k
  · exact hall q h
  · obtain ⟨j, rfl⟩ : ∃ j, q = m * 4096 + 8 * k + j := ⟨q - (m * 4096 + 8 * k), by omega⟩
    rw [bitOf_split f m k j hk (by omega), hb]
    exact all_255 ⟨j, by omega⟩

set_option maxHeartbeats 1000000 in
theorem free_any {w : World} {br : Nat} {R : RoomS} (h : RoomAt w br R) :
    Calls Tryz.prog 222 #[.pointer (some ⟨br, 0, none⟩)] w (FreePost R.home R.pages w) := by
  have hf := h.fit
  have hn := h.tx.log.small
  obtain ⟨⟨c0, c1, c2⟩, _⟩ := tCells h.cells
  have HM := Hd (fun (i : Nat) (hi : i < R.T.n) u (hu : RoomAt u br R) => home_in hu hi)
  have HSz := Hd (fun (i : Nat) (hi : i < R.T.n) => h.home_size hi)
  have HR := Hd h
  have HF := Hd hf
  have hmaps : R.maps ≤ 17 := by omega
  clear h hf
  go_enter Tryz.func222, Tryz.ntmps222
  go_wp2
  go_loopw [13] (fun i wr => (∃ m : Nat, m ≤ R.maps ∧ i = .int .i64 m ∧ ∀ q, q < m * 4096 → bitOf R.home q = true) ∧ Below w.heap.size w wr) (fun i _ => R.maps - (intOf i).toNat)
  case atStart => exact ⟨⟨0, by omega, rfl, fun q hq => by omega⟩, Below.refl _ _⟩
  case round =>
    obtain ⟨⟨m, hm, rfl, hall⟩, hb⟩ := hrel
    have HA := Hd hall
    have HB := Hd hb
    clear hall hb
    by_cases hlt : m < R.maps
    · have e1 : decide ((m : Int) < (R.maps : Int)) = true := by simp; omega
      have e2 : (1 : Int) + (m : Int) = ((1 + m : Nat) : Int) := by omega
      have hin : 1 + m < R.T.n := by have := HF.out; omega
      have hsz : (R.home ((1 + m : Nat) : Int)).size = 512 := HSz.out _ hin
      have HM1 := Hd (HM.out (1 + m) hin)
      generalize hs : R.home ((1 + m : Nat) : Int) = s at *
      have HS := Hd hs
      have HE2 := Hd e2
      clear hs e2
      go_wp2_with (fail)
      rw [HE2.out]
      refine (HM1.out _ (HR.out.still HB.out)).mono ?_
      rintro e w1 ⟨rfl, hb1⟩
      have HB1 := Hd (HB.out.trans (hb1.mono HB.out.size))
      obtain ⟨⟨d0, d1, d2⟩, _⟩ := tCells (HR.out.still HB1.out).cells
      clear hb1
      go_wp2_with (fail)
      go_loop [28] (fun i => ∃ k : Nat, k ≤ 512 ∧ i = .int .i64 k ∧ ∀ q, q < m * 4096 + 8 * k → bitOf R.home q = true) (fun i => 512 - (intOf i).toNat)
      case atStart => exact ⟨0, by omega, rfl, fun q hq => HA.out q (by omega)⟩
      case round =>
        obtain ⟨k, hk, rfl, hall⟩ := hrel
        have HK := Hd hall
        clear hall
        by_cases hk5 : k < 512
        · have f1 : decide ((k : Int) < 512) = true := by simp; omega
          have hk0 : (0 : Int) ≤ (k : Int) := by omega
          have hk1 : (k : Int) < 512 := by omega
          have hbn := byteN_get s k (by omega)
          have hbl := byteN_lt s k
          by_cases hbb : byteN s k = 255
          · have f2 : ((byteN s k : Int) == 255) = true := by simp; omega
            have hnext := full255 hk5 HK.out (by rw [HS.out]; exact hbb)
            have HN := Hd hnext
            clear hnext
            go_wp2
            go_round
            case rel => exact ⟨k + 1, by omega, by go_num, HN.out⟩
            case measure => simp [intOf]; omega
          · have f2 : ((byteN s k : Int) == 255) = false := by simp; omega
            have hx := xor_max (byteN s k) hbl
            obtain ⟨t, ht⟩ : ∃ t, t = Lib.trailingZeros8 (255 - byteN s k) := ⟨_, rfl⟩
            obtain ⟨ht8, hsay⟩ := freeAt (f := R.home) (pages := R.pages) hk5 HK.out (by rw [HS.out]; exact hbb) t (by rw [HS.out]; exact ht)
            have hz := fun w => Tryz.bits_TrailingZeros8 ((255 - byteN s k : Nat) : Int) w (by omega) (by omega)
            rw [Int.toNat_natCast, ← ht] at hz
            have HZ := Hd hz
            have HSay := Hd hsay
            clear hz ht hsay hbb
            generalize hb : byteN s k = b at *
            have HBB := Hd hb
            clear hb
            go_wp2_with (fail)
            refine (HZ.out _).mono ?_
            rintro e w2 ⟨rfl, rfl⟩
            have ht0 : (0 : Int) ≤ (t : Int) := by omega
            by_cases hpp : m * 4096 + 8 * k + t < R.pages
            · have g1 : decide ((m : Int) * 4096 + 8 * (k : Int) + (t : Int) < (R.pages : Int)) = true := by simp; omega
              have hsay := HSay.out
              rw [if_pos hpp] at hsay
              have HSay2 := Hd hsay
              have eP : (m : Int) * 4096 + 8 * (k : Int) + (t : Int) = ((m * 4096 + 8 * k + t : Nat) : Int) := by omega
              have EP := Hd eP
              clear hsay hpp eP
              go_wp2
              go_ret2
              exact ⟨_, HSay2.out, by rw [← EP.out]; rfl, HB1.out⟩
            · have g1 : decide ((m : Int) * 4096 + 8 * (k : Int) + (t : Int) < (R.pages : Int)) = false := by simp; omega
              have hsay := HSay.out
              rw [if_neg hpp] at hsay
              have HSay2 := Hd hsay
              clear hsay hpp
              go_wp2
              go_ret2
              exact ⟨_, HSay2.out, rfl, HB1.out⟩
        · obtain rfl : k = 512 := by omega
          have hall2 : ∀ q, q < (m + 1) * 4096 → bitOf R.home q = true := fun q hq => HK.out q (by omega)
          have HA2 := Hd hall2
          clear hall2
          go_wp2
          go_roundw
          case rel => exact ⟨⟨m + 1, by omega, by go_num, HA2.out⟩, HB1.out⟩
          case measure => simp [intOf]; omega
    · obtain rfl : m = R.maps := by omega
      have hall2 : ∀ q, q < R.pages → bitOf R.home q = true := fun q hq => HA.out q (by have := HF.out; omega)
      have HA2 := Hd hall2
      clear hall2
      go_wp2
      go_ret2
      exact ⟨-1, .inl ⟨rfl, HA2.out⟩, rfl, HB.out⟩
end Go.Proofs.YtaokjeokpifjgaaGreatDoor

namespace Go.Proofs.YtaokjeokpifjgaaGreatDoor
open Go.RowKit Go.MapKept
attribute [local go_sem] gives givesH
set_option maxRecDepth 100000

def RoomS.has (R : RoomS) (p : Nat) : Bool := bitOf R.home p
def RoomS.text (R : RoomS) (p : Nat) : ByteArray := R.home ((1 + R.maps + p : Nat) : Int)
def RoomS.hasAt (R : RoomS) (i : Int) : Bool := decide (0 ≤ i ∧ i < R.pages) && R.has i.toNat
def RoomS.hasErr (R : RoomS) (i : Int) : Int := if 0 ≤ i ∧ i < R.pages then 0 else 2
def RoomS.err (R : RoomS) (i : Int) : Int := if 0 ≤ i ∧ i < R.pages then (if R.has i.toNat then 0 else 6) else 2

theorem has_any {w : World} {br : Nat} {R : RoomS} (h : RoomAt w br R) (i : Int) :
    Calls Tryz.prog 261 #[.pointer (some ⟨br, 0, none⟩), .int .i64 i] w fun e w' => e = .returned (.tuple #[.bool (R.hasAt i), .int .i64 (R.hasErr i)]) ∧ Below w.heap.size w w' := by
  have hf := h.fit
  have hn := h.tx.log.small
  have HD := Hd (fun u (hu : RoomAt u br R) => roomDead_any hu)
  have HR := Hd h
  by_cases h0 : i < 0
  · have d1 : decide (i < 0) = true := by simpa using h0
    have e1 : R.hasAt i = false := by unfold RoomS.hasAt; rw [decide_eq_false (by omega)]; rfl
    have e2 : R.hasErr i = 2 := by unfold RoomS.hasErr; rw [if_neg (by omega)]
    rw [e1, e2]
    clear e1 e2 hf h
    go_enter Tryz.func261, Tryz.ntmps261
    go_wp2_with (first
      | (go_at_call 113; refine (HD.out _ HR.out).mono ?_; rintro e w1 ⟨rfl, hb1⟩
         obtain ⟨⟨c0, c1, c2⟩, _⟩ := tCells (HR.out.still hb1).cells))
    go_ret2
    exact ⟨rfl, hb1⟩
  · have d1 : decide (i < 0) = false := by simpa using h0
    by_cases hge : (R.pages : Int) ≤ i
    · have d2 : decide ((R.pages : Int) ≤ i) = true := by simpa using hge
      have e1 : R.hasAt i = false := by unfold RoomS.hasAt; rw [decide_eq_false (by omega)]; rfl
      have e2 : R.hasErr i = 2 := by unfold RoomS.hasErr; rw [if_neg (by omega)]
      rw [e1, e2]
      clear e1 e2 hf h
      go_enter Tryz.func261, Tryz.ntmps261
      go_wp2_with (first
        | (go_at_call 113; refine (HD.out _ HR.out).mono ?_; rintro e w1 ⟨rfl, hb1⟩
           obtain ⟨⟨c0, c1, c2⟩, _⟩ := tCells (HR.out.still hb1).cells))
      go_ret2
      exact ⟨rfl, hb1⟩
    · have d2 : decide ((R.pages : Int) ≤ i) = false := by simpa using hge
      obtain ⟨p, rfl⟩ : ∃ p : Nat, i = p := ⟨i.toNat, by omega⟩
      have hp : p < R.pages := by omega
      have e1 : R.hasAt p = bitOf R.home p := by unfold RoomS.hasAt; rw [decide_eq_true (by omega)]; rfl
      have e2 : R.hasErr p = 0 := by unfold RoomS.hasErr; rw [if_pos (by omega)]
      rw [e1, e2]
      obtain ⟨H, hH⟩ : ∃ H, H = 1 + p / 4096 := ⟨_, rfl⟩
      obtain ⟨K, hK⟩ : ∃ K, K = p % 4096 / 8 := ⟨_, rfl⟩
      obtain ⟨M, hM⟩ : ∃ M, M = 2 ^ (p % 8) := ⟨_, rfl⟩
      have B := Hd (fun w => bit_any p H K M (by omega) hH hK hM w)
      have hHn : H < R.T.n := by omega
      have HM := Hd (fun u (hu : RoomAt u br R) => home_in hu hHn)
      have hK5 : K < 512 := by omega
      have hM8 : M < 256 := by rw [hM]; exact pow8_lt p
      have hsz : (R.home H).size = 512 := h.home_size (by omega)
      have e3 : bitOf R.home p = (byteN (R.home H) K &&& M != 0) := by
        unfold bitOf; rw [← hH, ← hK, hM, and_two_pow]
      rw [e3]
      generalize R.home H = s at *
      have hKs : K < s.size := by omega
      have hbn := byteN_get s K hKs
      have hx := bits_and_u8 (byteN s K) M (byteN_lt _ _) hM8
      have hx2 : (((byteN s K &&& M : Nat) : Int) != 0) = (byteN s K &&& M != 0) := by
        generalize byteN s K &&& M = x
        cases x
        · rfl
        · simp; omega
      have HX2 := Hd hx2
      have hK0 : (0 : Int) ≤ (K : Int) := by omega
      have hK1 : (K : Int) < 512 := by omega
      clear e1 e2 e3 hf h hx2 hH hK hM
      go_enter Tryz.func261, Tryz.ntmps261
      go_wp2_with (first
        | (go_at_call 113; refine (HD.out _ HR.out).mono ?_; rintro e w1 ⟨rfl, hb1⟩
           have HR1 := Hd (HR.out.still hb1)
           have HB1 := Hd hb1
           obtain ⟨⟨c0, c1, c2⟩, _⟩ := tCells HR1.out.cells
           clear hb1)
        | (go_at_call 260; refine (B.out _).mono ?_; rintro e w2 ⟨rfl, hb2⟩
           have HR2 := Hd (HR1.out.still hb2)
           have HB2 := Hd (HB1.out.trans (hb2.mono HB1.out.size))
           clear hb2)
        | (go_at_call 114; refine (HM.out _ HR2.out).mono ?_; rintro e w3 ⟨rfl, hb3⟩
           have HB3 := Hd (HB2.out.trans (hb3.mono HB2.out.size))
           clear hb3))
      go_ret2
      exact ⟨by rw [← HX2.out]; rfl, HB3.out⟩

theorem hasAt_in {R : RoomS} {p : Nat} (hp : p < R.pages) : R.hasAt p = R.has p := by unfold RoomS.hasAt; rw [decide_eq_true (by omega)]; rfl
theorem err_eq (R : RoomS) (i : Int) : R.err i = if R.hasErr i = 0 then (if R.hasAt i then 0 else 6) else R.hasErr i := by
  unfold RoomS.err RoomS.hasErr RoomS.hasAt
  by_cases h : 0 ≤ i ∧ i < R.pages
  · simp [h]
  · simp [h]
theorem taken_any {w : World} {br : Nat} {R : RoomS} (h : RoomAt w br R) (i : Int) :
    Calls Tryz.prog 225 #[.pointer (some ⟨br, 0, none⟩), .int .i64 i] w fun e w' => e = .returned (.int .i64 (R.err i)) ∧ Below w.heap.size w w' := by
  have H1 := Hd (has_any h i)
  rw [err_eq]
  generalize R.hasAt i = b at *
  have h2 : R.hasErr i = 0 ∨ R.hasErr i = 2 := by unfold RoomS.hasErr; split <;> simp
  generalize R.hasErr i = c at *
  clear h
  rcases h2 with rfl | rfl
  · cases b
    all_goals
      go_enter Tryz.func225, Tryz.ntmps225
      go_wp2_with (first
        | (go_at_call 261; refine (H1.out).mono ?_; rintro e w1 ⟨rfl, hb1⟩))
      go_ret
      exact ⟨rfl, hb1⟩
  · go_enter Tryz.func225, Tryz.ntmps225
    go_wp2_with (first
      | (go_at_call 261; refine (H1.out).mono ?_; rintro e w1 ⟨rfl, hb1⟩))
    go_ret
    exact ⟨rfl, hb1⟩
end Go.Proofs.YtaokjeokpifjgaaGreatDoor

namespace Go.Proofs.YtaokjeokpifjgaaGreatDoor
open Go.RowKit Go.MapKept
attribute [local go_sem] gives givesH
set_option maxRecDepth 100000

theorem home_snoc {R R' : RoomS} {i : Int} {s : ByteArray} (hf : R'.T.f = R.T.f) (hp : R'.T.puts = R.T.puts ++ [(i, s)]) (j : Int) : R'.home j = if i = j then s else R.home j := by
  unfold RoomS.home TxS.read
  rw [hf, hp, seen_snoc]

structure Alloced (R R' : RoomS) (p : Nat) : Prop where
  has : ∀ q, q < R.maps * 4096 → R'.has q = (decide (q = p) || R.has q)
  text : ∀ q, q < R.pages → R'.text q = if q = p then zeros 512 else R.text q
  zero : R'.home 0 = R.home 0
  puts : ∃ a, R'.T.puts = R.T.puts ++ a ∧ a.length ≤ 2

structure Wrote (R R' : RoomS) (p : Nat) (s : ByteArray) : Prop where
  has : ∀ q, q < R.maps * 4096 → R'.has q = R.has q
  text : ∀ q, q < R.pages → R'.text q = if q = p then s else R.text q
  zero : R'.home 0 = R.home 0
  puts : ∃ a, R'.T.puts = R.T.puts ++ a ∧ a.length ≤ 1
theorem turned_of {w : World} {br : Nat} {R R1 : RoomS} (h : RoomAt w br R) {p : Nat} (hp : p < R.pages) (hf1 : R1.T.f = R.T.f) (hm : R1.maps = R.maps)
    (hp1 : R1.T.puts = R.T.puts ++ [(((1 + p / 4096 : Nat) : Int), xorAt (R.home (1 + p / 4096 : Nat)) (p % 4096 / 8) (2 ^ (p % 8)))]) :
    (∀ q, R1.has q = if q = p then !R.has p else R.has q) ∧ (∀ q, q < R.pages → R1.text q = R.text q) ∧ R1.home 0 = R.home 0 := by
  have hfit := h.fit
  have hh := home_snoc hf1 hp1
  refine ⟨fun q => ?_, fun q hq => ?_, ?_⟩
  · refine bitOf_turn (h.home_size (by omega)) ?_ (fun hne => ?_)
    · rw [hh, if_pos rfl]
    · rw [hh, if_neg (by omega)]
  · unfold RoomS.text
    rw [hm, hh, if_neg (by omega)]
  · rw [hh, if_neg (by omega)]
theorem wrote_of {R R1 : RoomS} {p : Nat} {s : ByteArray} (hf1 : R1.T.f = R.T.f) (hm : R1.maps = R.maps) (hp1 : R1.T.puts = R.T.puts ++ [(((1 + R.maps + p : Nat) : Int), s)]) : Wrote R R1 p s := by
  have hh := home_snoc hf1 hp1
  refine ⟨fun q hq => ?_, fun q hq => ?_, ?_, _, hp1, by simp⟩
  · unfold RoomS.has bitOf
    rw [hh, if_neg (by omega)]
  · unfold RoomS.text
    rw [hm, hh]
    by_cases hqp : q = p
    · rw [if_pos hqp, if_pos (by omega)]
    · rw [if_neg hqp, if_neg (by omega)]
  · rw [hh, if_neg (by omega)]
theorem alloced_of {w : World} {br : Nat} {R R1 R2 : RoomS} (h : RoomAt w br R) {p : Nat} (hp : p < R.pages) (h0 : R.has p = false) (hf1 : R1.T.f = R.T.f) (hm1 : R1.maps = R.maps) (hg1 : R1.pages = R.pages)
    (hp1 : R1.T.puts = R.T.puts ++ [(((1 + p / 4096 : Nat) : Int), xorAt (R.home (1 + p / 4096 : Nat)) (p % 4096 / 8) (2 ^ (p % 8)))])
    (hf2 : R2.T.f = R1.T.f) (hm2 : R2.maps = R1.maps) (hp2 : R2.T.puts = R1.T.puts ++ [(((1 + R.maps + p : Nat) : Int), zeros 512)]) : Alloced R R2 p := by
  obtain ⟨t1, t2, t3⟩ := turned_of h hp hf1 hm1 hp1
  have W := wrote_of (R := R1) (R1 := R2) (p := p) hf2 hm2 (by rw [hm1]; exact hp2)
  refine ⟨fun q hq => ?_, fun q hq => ?_, W.zero.trans t3, _, by rw [hp2, hp1, List.append_assoc], by simp⟩
  · rw [W.has q (by rw [hm1]; exact hq), t1]
    by_cases hqp : q = p
    · subst hqp; simp [h0]
    · simp [hqp]
  · rw [W.text q (by rw [hg1]; exact hq)]
    by_cases hqp : q = p
    · rw [if_pos hqp, if_pos hqp]
    · rw [if_neg hqp, if_neg hqp, t2 q hq]

theorem freeSays_eq {f : Int → ByteArray} {pages : Nat} {r : Int} (h : FreeSays f pages r) {p : Nat} (hp : p < pages) (h0 : bitOf f p = false) (h1 : ∀ q, q < p → bitOf f q = true) : r = p := by
  rcases h with ⟨_, h2⟩ | ⟨p', rfl, hp', h2, h3⟩
  · rw [h2 p hp] at h0; cases h0
  · rcases Nat.lt_trichotomy p p' with h | h | h
    · rw [h3 p h] at h0; cases h0
    · rw [h]
    · rw [h1 p' h] at h2; cases h2
theorem freeSays_none {f : Int → ByteArray} {pages : Nat} {r : Int} (h : FreeSays f pages r) (h1 : ∀ q, q < pages → bitOf f q = true) : r = -1 := by
  rcases h with ⟨h2, _⟩ | ⟨p', rfl, hp', h2, h3⟩
  · exact h2
  · rw [h1 p' hp'] at h2; cases h2

theorem alloc_full {w : World} {br : Nat} {R : RoomS} (h : RoomAt w br R) (hall : ∀ q, q < R.pages → R.has q = true) :
    Calls Tryz.prog 172 #[.pointer (some ⟨br, 0, none⟩)] w fun e w' => e = .returned (.tuple #[.int .i64 0, .int .i64 4]) ∧ Below w.heap.size w w' := by
  have HD := Hd (roomDead_any h)
  have HF := Hd (fun u (hu : RoomAt u br R) => free_any hu)
  have HA := Hd hall
  have HR := Hd h
  clear h hall
  go_enter Tryz.func172, Tryz.ntmps172
  go_wp2_with (first
    | (go_at_call 113; refine (HD.out).mono ?_; rintro e w1 ⟨rfl, hb1⟩
       have HB1 := Hd hb1
       clear hb1)
    | (go_at_call 222; refine (HF.out _ (HR.out.still HB1.out)).mono ?_; rintro e w2 ⟨r, hr, rfl, hb2⟩
       obtain rfl := freeSays_none hr HA.out
       have HB2 := Hd (HB1.out.trans (hb2.mono HB1.out.size))
       clear hr hb2))
  go_ret2
  exact ⟨rfl, HB2.out⟩

set_option maxHeartbeats 1000000 in
theorem alloc_ok {w : World} {br : Nat} {R : RoomS} (h : RoomAt w br R) (hlen : R.T.puts.length + 1 < 1000000000000) (p : Nat) (hp : p < R.pages) (h0 : R.has p = false) (h1 : ∀ q, q < p → R.has q = true) :
    Calls Tryz.prog 172 #[.pointer (some ⟨br, 0, none⟩)] w fun e w' => e = .returned (.tuple #[.int .i64 p, .int .i64 0]) ∧ ∃ R', RoomStep br w R w' R' ∧ Alloced R R' p := by
  have hf := h.fit
  have hn := h.tx.log.small
  have HD := Hd (roomDead_any h)
  have HF := Hd (fun u (hu : RoomAt u br R) => free_any hu)
  have HT := Hd (fun u (hu : RoomAt u br R) => turn_any hu (by omega) p hp)
  obtain ⟨A, hA⟩ : ∃ A, A = 1 + R.maps + p := ⟨_, rfl⟩
  have HAt := Hd (fun u R1 (hu : RoomAt u br R1) (hm : R1.maps = R.maps) (hg : R1.pages = R.pages) => (by
    have := roomAtPage_any hu p (by omega)
    rw [hm, ← hA] at this
    exact this : Calls Tryz.prog 224 #[.pointer (some ⟨br, 0, none⟩), .int .i64 p] u fun e w' => e = .returned (.int .i64 A) ∧ u = w'))
  have HU := Hd (fun r hr => freeSays_eq (r := r) hr hp h0 h1)
  have HR := Hd h
  have HH0 := Hd h0
  have HA := Hd hA
  have HFit := Hd hf
  have hp0 : (0 : Int) ≤ (p : Int) := by omega
  clear h h0 h1 hA hf
  go_enter Tryz.func172, Tryz.ntmps172
  go_wp2_with (first
    | (go_at_call 113; refine (HD.out).mono ?_; rintro e w1 ⟨rfl, hb1⟩
       have HB1 := Hd hb1
       clear hb1)
    | (go_at_call 222; refine (HF.out _ (HR.out.still HB1.out)).mono ?_; rintro e w2 ⟨r, hr, rfl, hb2⟩
       obtain rfl := HU.out r hr
       have HB2 := Hd (HB1.out.trans (hb2.mono HB1.out.size))
       clear hr hb2)
    | (go_at_call 223; refine (HT.out _ (HR.out.still HB2.out)).mono ?_; rintro e w3 ⟨rfl, R1, hst, hpp⟩
       have HST := Hd ((RoomStep.still HR.out HB2.out).trans hst)
       have HPP := Hd hpp
       clear hst hpp))
  obtain ⟨S, hS⟩ : ∃ S : World → Prop, ∀ u, S u ↔ Keep (fun _ => False) (w3) u := ⟨fun u => Keep (fun _ => False) (w3) u, fun _ => Iff.rfl⟩
  have HS := Hd hS
  clear hS
  refine wp_region_ord 7 [(0, true), (1, true), (2, true), (3, true), (4, true), (5, true), (6, false)] S (by kernel_rfl) (by kernel_rfl) ((HS.out _).2 (Keep.refl _ _).drew) ?_
  iterate 6
    first
      | (refine wpH_passed rfl (by rfl) (fun K hK => ?_); go_simp; refine hK _ ?_; clear hK K)
      | (first
           | refine wpH_read rfl rfl (fun K hK => ?_)
           | refine wpH_readw rfl (by rfl) (fun K hK => ?_)
         apply Exists.intro
         refine ⟨fun u hu => ?_, ?_⟩
         · have hu := (HS.out u).1 hu
           obtain ⟨⟨c0, c1, c2⟩, _⟩ := tCells (hu.at HST.out.at_.cells (fun e => e))
           rw [HST.out.bt] at c0
           clear hu
           go_simp
           exact ⟨rfl, rfl⟩
         go_simp
         refine hK _ ?_
         clear hK K)
  first | refine wpH_do rfl rfl (fun K hK => ?_) | refine wpH_dow rfl (by rfl) (fun K hK => ?_)
  go_simp
  go_at_call 224
  refine (HAt.out _ R1 (HST.out.at_.keep (Keep.refl (fun _ => False) w3).drew (fun _ _ e => e)) HST.out.maps HST.out.pages).mono ?_
  rintro e u5 ⟨rfl, rfl⟩
  refine hK _ _ ((HS.out _).2 (Keep.refl _ _).drew) ?_
  clear hK K
  refine wpH_nil ?_
  simp only [List.drop_succ_cons, List.drop_zero]
  clear S HS
  have hw3 : RoomAt w3.drew br R1 := HST.out.at_.keep (Keep.refl (fun _ => False) w3).drew (fun _ _ e => e)
  have hpl : R1.T.puts.length = R.T.puts.length + 1 := by rw [HPP.out]; simp
  have hn1 : R1.T.n = R.T.n := HST.out.tx.n
  have hz0 : (⟨#[]⟩ : ByteArray).size = 0 := rfl
  have HW := Hd (txWrite_ok hw3.tx (by omega) (i := (A : Int)) (by have := HA.out; have := HFit.out; omega) ⟨#[]⟩ (by omega))
  rw [HST.out.bt] at HW
  have HW3 := Hd hw3
  clear hw3 hpl hn1 hz0
  go_wp2_with (go_at_call 217; refine (HW.out).mono ?_; rintro e w5 ⟨rfl, T', hst, hpp⟩)
  go_ret2
  have hs1 : RoomStep br w R w3.drew R1 := HST.out.trans (RoomStep.still HST.out.at_ (Below.refl _ _).drew)
  have hst2 := HW3.out.step (T' := T') (by rw [HST.out.bt]; exact hst)
  refine ⟨rfl, _, hs1.trans hst2, ?_⟩
  have hfe : fullS ⟨#[]⟩ = zeros 512 := fullS_empty
  rw [hfe] at hpp
  exact alloced_of HR.out hp HH0.out HST.out.tx.f HST.out.maps HST.out.pages HPP.out hst.f rfl (by rw [← HA.out]; exact hpp)

theorem err_taken {R : RoomS} {p : Nat} (hp : p < R.pages) (h1 : R.has p = true) : R.err p = 0 := by
  unfold RoomS.err; rw [if_pos (by omega), Int.toNat_natCast, h1]; rfl
theorem read_ok {w : World} {br : Nat} {R : RoomS} (h : RoomAt w br R) (p : Nat) (hp : p < R.pages) (h1 : R.has p = true) :
    Calls Tryz.prog 204 #[.pointer (some ⟨br, 0, none⟩), .int .i64 p] w fun e w' => e = .returned (.tuple #[.string (R.text p), .int .i64 0]) ∧ Below w.heap.size w w' := by
  have hf := h.fit
  have H1 := Hd (taken_any h p)
  rw [err_taken hp h1] at H1
  have H2 := Hd (fun u (hu : RoomAt u br R) => roomAtPage_any hu p hp)
  have hin : 1 + R.maps + p < R.T.n := by omega
  have H3 := Hd (fun u (hu : RoomAt u br R) => home_in hu hin)
  unfold RoomS.text
  generalize 1 + R.maps + p = A at *
  generalize R.home (A : Int) = s at *
  have HR := Hd h
  clear h h1 hf
  go_enter Tryz.func204, Tryz.ntmps204
  go_wp2_with (first
    | (go_at_call 225; refine (H1.out).mono ?_; rintro e w1 ⟨rfl, hb1⟩
       have HB1 := Hd hb1
       clear hb1)
    | (go_at_call 224; refine (H2.out _ (HR.out.still HB1.out)).mono ?_; rintro e w2 ⟨rfl, rfl⟩)
    | (go_at_call 114; refine (H3.out _ (HR.out.still HB1.out)).mono ?_; rintro e w3 ⟨rfl, hb3⟩))
  go_ret2
  exact ⟨rfl, HB1.out.trans (hb3.mono HB1.out.size)⟩

theorem write_ok {w : World} {br : Nat} {R : RoomS} (h : RoomAt w br R) (hlen : R.T.puts.length < 1000000000000) (p : Nat) (hp : p < R.pages) (h1 : R.has p = true) (s : ByteArray) (hs : s.size ≤ 9223372036854775807) :
    Calls Tryz.prog 173 #[.pointer (some ⟨br, 0, none⟩), .int .i64 p, .string s] w fun e w' => e = .returned (.int .i64 (if 512 < s.size then 5 else 0)) ∧
      ∃ R', RoomStep br w R w' R' ∧ ((512 < s.size ∧ R'.T.puts = R.T.puts) ∨ (s.size ≤ 512 ∧ Wrote R R' p (fullS s))) := by
  have hf := h.fit
  have H1 := Hd (taken_any h p)
  rw [err_taken hp h1] at H1
  have H2 := Hd (fun u (hu : RoomAt u br R) => roomAtPage_any hu p hp)
  obtain ⟨A, hA⟩ : ∃ A, A = 1 + R.maps + p := ⟨_, rfl⟩
  rw [← hA] at H2
  have hin : (A : Int) < R.T.n := by omega
  have HW := Hd (fun u (hu : TxAt u R.bt R.T) => txWrite_any hu hlen (i := (A : Int)) s hs)
  have e1 : writeErr R.T.n (A : Int) s = if 512 < s.size then 5 else 0 := by unfold writeErr; rw [if_pos ⟨by omega, hin⟩]
  rw [e1] at HW
  have HR := Hd h
  have HA := Hd hA
  have HIn := Hd hin
  clear h h1 hf e1 hA hin
  generalize hcc : (if 512 < s.size then 5 else 0 : Int) = c at *
  have HCC := Hd hcc
  clear hcc
  go_enter Tryz.func173, Tryz.ntmps173
  go_wp2_with (first
    | (go_at_call 225; refine (H1.out).mono ?_; rintro e w1 ⟨rfl, hb1⟩
       have HB1 := Hd hb1
       clear hb1))
  obtain ⟨S, hS⟩ : ∃ S : World → Prop, ∀ u, S u ↔ Keep (fun _ => False) (w1) u := ⟨fun u => Keep (fun _ => False) (w1) u, fun _ => Iff.rfl⟩
  have HS := Hd hS
  clear hS
  refine wp_region_ord 8 [(0, true), (1, true), (2, true), (3, true), (4, true), (5, true), (7, true), (6, false)] S (by kernel_rfl) (by kernel_rfl) ((HS.out _).2 (Keep.refl _ _).drew) ?_
  iterate 7
    first
      | (refine wpH_passed rfl (by rfl) (fun K hK => ?_); go_simp; refine hK _ ?_; clear hK K)
      | (first
           | refine wpH_read rfl rfl (fun K hK => ?_)
           | refine wpH_readw rfl (by rfl) (fun K hK => ?_)
         apply Exists.intro
         refine ⟨fun u hu => ?_, ?_⟩
         · have hu := (HS.out u).1 hu
           obtain ⟨⟨c0, c1, c2⟩, _⟩ := tCells (hu.at (HR.out.still HB1.out).cells (fun e => e))
           clear hu
           go_simp
           exact ⟨rfl, rfl⟩
         go_simp
         refine hK _ ?_
         clear hK K)
  first | refine wpH_do rfl rfl (fun K hK => ?_) | refine wpH_dow rfl (by rfl) (fun K hK => ?_)
  go_simp
  go_at_call 224
  refine (H2.out _ ((HR.out.still HB1.out).keep (Keep.refl (fun _ => False) w1).drew (fun _ _ e => e))).mono ?_
  rintro e u5 ⟨rfl, rfl⟩
  refine hK _ _ ((HS.out _).2 (Keep.refl _ _).drew) ?_
  clear hK K
  refine wpH_nil ?_
  simp only [List.drop_succ_cons, List.drop_zero]
  clear S HS
  have HW3 := Hd (HR.out.still HB1.out.drew)
  go_wp2_with (go_at_call 217; refine (HW.out _ HW3.out.tx).mono ?_; rintro e w5 ⟨rfl, T', hst, hpp⟩)
  go_ret
  refine ⟨rfl, ?_⟩
  have hst2 := (RoomStep.still HR.out HB1.out.drew).trans (HW3.out.step hst)
  by_cases h5 : 512 < s.size
  · have e2 : putsOf R.T.n (A : Int) s = [] := by unfold putsOf; rw [if_neg (by omega)]
    rw [e2, List.append_nil] at hpp
    exact ⟨_, hst2, .inl ⟨h5, hpp⟩⟩
  · have e2 : putsOf R.T.n (A : Int) s = [((A : Int), fullS s)] := by unfold putsOf; rw [if_pos ⟨by omega, HIn.out, by omega⟩]
    rw [e2] at hpp
    exact ⟨_, hst2, .inr ⟨by omega, wrote_of hst.f rfl (by rw [← HA.out]; exact hpp)⟩⟩
end Go.Proofs.YtaokjeokpifjgaaGreatDoor

namespace Go.Proofs.YtaokjeokpifjgaaGreatDoor
open Go.RowKit Go.MapKept
attribute [local go_sem] gives givesH
set_option maxRecDepth 100000

theorem cnt_add (f : Nat → Bool) (a b : Nat) : cnt f (a + b) = cnt f a + ((List.range b).filter (fun j => f (a + j))).length := by
  induction b with
  | zero => simp
  | succ b ih =>
    rw [← Nat.add_assoc, cnt_succ, ih, List.range_succ, List.filter_append, List.length_append, Nat.add_assoc]
    congr 2
    by_cases h : f (a + b) <;> simp [h]
theorem cnt_byte {f : Int → ByteArray} {m k : Nat} (hk : k < 512) : cnt (bitOf f) (m * 4096 + 8 * (k + 1)) = cnt (bitOf f) (m * 4096 + 8 * k) + Lib.onesCount (byteN (f ((1 + m : Nat) : Int)) k) := by
  rw [show m * 4096 + 8 * (k + 1) = m * 4096 + 8 * k + 8 by omega, cnt_add, ones_spec ⟨_, byteN_lt (f ((1 + m : Nat) : Int)) k⟩]
  congr 2
  apply List.filter_congr
  intro j hj
  exact bitOf_split f m k j hk (by simpa using hj)

def RoomS.used (R : RoomS) : Nat := cnt R.has (R.maps * 4096)

set_option maxHeartbeats 1000000 in
theorem used_any {w : World} {br : Nat} {R : RoomS} (h : RoomAt w br R) :
    Calls Tryz.prog 49 #[.pointer (some ⟨br, 0, none⟩)] w fun e w' => e = .returned (.tuple #[.int .i64 R.used, .int .i64 0]) ∧ Below w.heap.size w w' := by
  have hf := h.fit
  have hn := h.tx.log.small
  have HD := Hd (roomDead_any h)
  have HM := Hd (fun (i : Nat) (hi : i < R.T.n) u (hu : RoomAt u br R) => home_in hu hi)
  have HSz := Hd (fun (i : Nat) (hi : i < R.T.n) => h.home_size hi)
  have HR := Hd h
  have HF := Hd hf
  have hmaps : R.maps ≤ 17 := by omega
  have hus : R.used = cnt (bitOf R.home) (R.maps * 4096) := rfl
  rw [hus]
  clear h hf hus
  go_enter Tryz.func49, Tryz.ntmps49
  go_wp2_with (go_at_call 113; refine (HD.out).mono ?_; rintro e w1 ⟨rfl, hb1⟩
               obtain ⟨⟨c0, c1, c2⟩, _⟩ := tCells (HR.out.still hb1).cells)
  have HB0 := Hd hb1
  clear hb1
  go_loopw [4, 15] (fun n i wr => (∃ m : Nat, m ≤ R.maps ∧ i = .int .i64 m ∧ n = .int .i64 (cnt (bitOf R.home) (m * 4096))) ∧ Below w.heap.size w wr) (fun _ i _ => R.maps - (intOf i).toNat)
  case atStart => exact ⟨⟨0, by omega, rfl, rfl⟩, HB0.out⟩
  case round =>
    obtain ⟨⟨m, hm, rfl, rfl⟩, hb⟩ := hrel
    have HB := Hd hb
    clear hb
    by_cases hlt : m < R.maps
    · have e1 : decide ((m : Int) < (R.maps : Int)) = true := by simp; omega
      have e2 : (1 : Int) + (m : Int) = ((1 + m : Nat) : Int) := by omega
      have hin : 1 + m < R.T.n := by have := HF.out; omega
      have hsz : (R.home ((1 + m : Nat) : Int)).size = 512 := HSz.out _ hin
      have HM1 := Hd (HM.out (1 + m) hin)
      generalize hs : R.home ((1 + m : Nat) : Int) = s at *
      have HS := Hd hs
      have HE2 := Hd e2
      clear hs e2
      go_wp2_with (fail)
      rw [HE2.out]
      refine (HM1.out _ (HR.out.still HB.out)).mono ?_
      rintro e w2 ⟨rfl, hb2⟩
      have HB1 := Hd (HB.out.trans (hb2.mono HB.out.size))
      clear hb2
      go_wp2_with (fail)
      go_loop [4, 30] (fun n i => ∃ k : Nat, k ≤ 512 ∧ i = .int .i64 k ∧ n = .int .i64 (cnt (bitOf R.home) (m * 4096 + 8 * k))) (fun _ i => 512 - (intOf i).toNat)
      case atStart => exact ⟨0, by omega, rfl, rfl⟩
      case round =>
        obtain ⟨k, hk, rfl, rfl⟩ := hrel
        by_cases hk5 : k < 512
        · have f1 : decide ((k : Int) < 512) = true := by simp; omega
          have hk0 : (0 : Int) ≤ (k : Int) := by omega
          have hk1 : (k : Int) < 512 := by omega
          have hbn := byteN_get s k (by omega)
          have hbl := byteN_lt s k
          have hnext := cnt_byte (f := R.home) (m := m) hk5
          rw [HS.out] at hnext
          have hc := cnt_le (bitOf R.home) (m * 4096 + 8 * k)
          have hz := fun w => Tryz.bits_OnesCount8 ((byteN s k : Nat) : Int) w (by omega) (by omega)
          rw [Int.toNat_natCast] at hz
          have ho : Lib.onesCount (byteN s k) ≤ 8 := Lib.onesCount_le8 ⟨_, hbl⟩
          generalize Lib.onesCount (byteN s k) = o at *
          generalize hcc : cnt (bitOf R.home) (m * 4096 + 8 * k) = cc at *
          have HZ := Hd hz
          have HN := Hd hnext
          clear hz hnext hcc
          have hcb : (cc : Int) ≤ 100000 := by omega
          have hob : (o : Int) ≤ 8 := by omega
          go_wp2_with (fail)
          refine (HZ.out _).mono ?_
          rintro e w3 ⟨rfl, rfl⟩
          go_wp2
          go_round
          case rel => exact ⟨k + 1, by omega, by go_num, by rw [HN.out]; go_num⟩
          case measure => simp [intOf]; omega
        · obtain rfl : k = 512 := by omega
          go_wp2
          go_roundw
          case rel => exact ⟨⟨m + 1, by omega, by go_num, by rw [show (m + 1) * 4096 = m * 4096 + 8 * 512 by omega]⟩, HB1.out⟩
          case measure => simp [intOf]; omega
    · obtain rfl : m = R.maps := by omega
      go_wp2
      go_ret2
      exact ⟨rfl, HB.out⟩

end Go.Proofs.YtaokjeokpifjgaaGreatDoor

namespace Go.Proofs.YtaokjeokpifjgaaGreatDoor
open Go.RowKit Go.MapKept
attribute [local go_sem] gives givesH
set_option maxRecDepth 100000

set_option maxHeartbeats 1000000 in
theorem writeByte_any {w : World} {B b : Nat} {bs : List Value} (h : IsB B b bs w) (hB : B ≤ w.heap.size) (hlen : bs.length + 1 ≤ 140737488355328) (c : Int) :
    Calls Tryz.prog 102 #[.pointer (some ⟨b, 0, none⟩), .int .u8 c] w fun e w' => e = .returned .nilIface ∧
      IsB B b (bs ++ [.int .u8 c]) w' ∧ Below B w w' ∧ Lib.OthersKept 5 (some b) w w' := by
  have HC := Hd (copyCheck_any h)
  obtain ⟨i0, hi, hz0, hz1, hz2⟩ := info_parts infoU8
  have HI := Hd hi
  have Hz0 := Hd hz0
  have Hz1 := Hd hz1
  have Hz2 := Hd hz2
  clear h hi hz0 hz1 hz2
  go_enter Tryz.func102, Tryz.ntmps102
  go_wp2_with (fail)
  refine (HC.out).mono ?_
  rintro e w1 ⟨rfl, ⟨hBb, v, hbk, hown, hne⟩, hb1, ho1⟩
  obtain ⟨⟨c0, c1⟩, f0, f1, _⟩ := bldCells hbk
  have hlt : b < w1.heap.size := (Gl hbk)
  have HO := Hd hown
  have HBK := Hd hbk
  have HB1 := Hd hb1
  have HO1 := Hd ho1
  have HNE := Hd hne
  have HLT := Hd hlt
  clear hown hbk hb1 ho1 hne hlt
  go_wp2_with (at_builtin
               refine wpList_append_own_at _ (by rfl) _ _ 121 (by rfl) B 5 i0 (.int .u8 0) 1 1 Tryz.underlying121 HI.out Hz0.out Hz1.out Hz2.out (by rfl) (by decide) v _ _ (by rfl) (HO.out.alloc _) ⟨w1.heap.size, 0, none⟩ 1 1 [.int .u8 c] (by rfl) (by rfl) (cell_one_new _ _ _) (ints_oneCell .u8 [c]) (by unfold maxLen; omega) (by omega) ?_ ?_
               · have := HB1.out.size; simp; omega
               intro v' w2 hown2 hg2 hnil hloc
               obtain ⟨a2, c2, hv2⟩ := slice_formB hown2
               have hb2 : w2.heap[b]? = some (.cells #[.pointer (some ⟨b, 0, none⟩), v] 123 (0, 0)) := by
                 rw [hg2.block b (by have := HLT.out; simp; omega) (fun e => HNE.out e.symm)]
                 exact ((World.grownBy_alloc w1 _ none).block b HLT.out (by simp)).trans HBK.out
               obtain ⟨⟨d0, d1⟩, g0, g1, _⟩ := bldCells hb2
               subst hv2
               have HO2 := Hd hown2
               have HB2 := Hd hb2
               have HG2 := Hd hg2
               clear hown2 hb2 hg2 hnil hloc)
  go_wp2
  go_ret
  refine ⟨rfl, .inr (Lib.BuilderAt.put hBb HB2.out (by simpa using HO2.out) (by decide)), ?_, ?_⟩
  · exact ((HB1.out.alloc (by have := HB1.out.size; omega) _).grown HG2.out (by have := HB1.out.size; simp; omega) (fun k hk => (HO.out.lt k hk).1)).setCell (p := ⟨b, 1, none⟩) hBb _
  · exact ((HO1.out.alloc _).grown HG2.out (row_form (HO.out.alloc _))).setCell ⟨b, 1, none⟩ rfl _

end Go.Proofs.YtaokjeokpifjgaaGreatDoor

namespace Go.Proofs.YtaokjeokpifjgaaGreatDoor
open Go.RowKit Go.MapKept
attribute [local go_sem] gives givesH
set_option maxRecDepth 100000

structure Fresh (R : RoomS) (n : Nat) : Prop where
  n_ : R.T.n = n
  puts : R.T.puts = []
  f : ∀ i, R.T.f i = zeros 512
  pages : R.pages = (pagesOf n).toNat
theorem Fresh.home {R : RoomS} {n : Nat} (h : Fresh R n) (i : Int) : R.home i = zeros 512 := by
  unfold RoomS.home TxS.read
  rw [h.puts]
  exact h.f i
theorem Fresh.has {R : RoomS} {n : Nat} (h : Fresh R n) (q : Nat) : R.has q = false := by
  unfold RoomS.has bitOf
  rw [h.home, byteN_zeros]
  exact Nat.zero_testBit _

section on
variable {w0 w : World} {br : Nat} {R : RoomS}
end on
theorem byteN_fullS (s : ByteArray) (k : Nat) : byteN (fullS s) k = byteN s k := by
  unfold byteN fullS
  simp only [Array.toList_append, List.getD, List.getElem?_append]
  split
  · rfl
  · rename_i h
    rw [List.getElem?_eq_none (l := s.data.toList) (by omega), List.getElem?_replicate]
    split <;> rfl
end Go.Proofs.YtaokjeokpifjgaaGreatDoor

namespace Go.Proofs.YtaokjeokpifjgaaGreatDoor
open Go.RowKit Go.MapKept
attribute [local go_sem] gives givesH
set_option maxRecDepth 100000

end Go.Proofs.YtaokjeokpifjgaaGreatDoor

namespace Go.Proofs.YtaokjeokpifjgaaGreatDoor
open Go.RowKit Go.MapKept
attribute [local go_sem] gives givesH
set_option maxRecDepth 100000

def rootUp (s : ByteArray) (k i : Nat) : Nat := (List.range i).foldl (fun x j => x * 256 % 18446744073709551616 + byteN s (8 * k + j)) 0
theorem rootUp_succ (s : ByteArray) (k i : Nat) : rootUp s k (i + 1) = rootUp s k i * 256 % 18446744073709551616 + byteN s (8 * k + i) := by
  unfold rootUp
  rw [List.range_succ, List.foldl_append]
  rfl
def RoomS.root (R : RoomS) (k : Nat) : Nat := rootUp (R.home 0) k 8
theorem orR (x : Nat) (c : Nat) (hc : c < 256) : bits .or .u64 (IntKind.u64.wrap ((x : Int) * 256)) (c : Int) = ((x * 256 % 18446744073709551616 + c : Nat) : Int) := by
  have := orT x (UInt8.ofNat c)
  unfold stepT at this
  have e : (UInt8.ofNat c).toNat = c := by simp; omega
  rwa [e] at this

set_option maxHeartbeats 1000000 in
theorem root_any {w : World} {br : Nat} {R : RoomS} (h : RoomAt w br R) (k : Nat) (hk : k < 16) :
    Calls Tryz.prog 165 #[.pointer (some ⟨br, 0, none⟩), .int .i64 k] w fun e w' => e = .returned (.tuple #[.int .u64 (R.root k), .int .i64 0]) ∧ Below w.heap.size w w' := by
  have HM := Hd (home_in h h.pos)
  have hsz : (R.home ((0 : Nat) : Int)).size = 512 := h.home_size h.pos
  have e1 : decide ((k : Int) < 0) = false := by simp
  have e2 : decide ((16 : Int) ≤ (k : Int)) = false := by simp; omega
  have hroot : R.root k = rootUp (R.home ((0 : Nat) : Int)) k 8 := rfl
  rw [hroot]
  generalize R.home ((0 : Nat) : Int) = s at *
  clear h hroot
  go_enter Tryz.func165, Tryz.ntmps165
  go_wp2_with (fail)
  refine (HM.out).mono ?_
  rintro e w1 ⟨rfl, hb1⟩
  go_wp2
  go_loop [8, 26] (fun x i => ∃ j : Nat, j ≤ 8 ∧ i = .int .i64 j ∧ x = .int .u64 (rootUp s k j)) (fun _ i => 8 - (intOf i).toNat)
  case atStart => exact ⟨0, by omega, rfl, rfl⟩
  case round =>
    obtain ⟨j, hj, rfl, rfl⟩ := hrel
    by_cases hlt : j < 8
    · have f1 : decide ((j : Int) < 8) = true := by simp; omega
      have hs1 := rootUp_succ s k j
      obtain ⟨q, hq⟩ : ∃ q, q = 8 * k + j := ⟨_, rfl⟩
      have hx := orR (rootUp s k j) (byteN s q) (byteN_lt _ _)
      have hkj : q < s.size := by omega
      have hbn := byteN_get s q hkj
      have hw : IntKind.u64.wrap ((byteN s q : Nat) : Int) = ((byteN s q : Nat) : Int) := by have := byteN_lt s q; rw [IntKind.wrap_u64]; omega
      rw [← hq] at hs1
      generalize byteN s q = c at *
      generalize rootUp s k j = x at *
      generalize x * 256 % 18446744073709551616 + c = y at *
      have HS1 := Hd hs1
      have e5 : (8 : Int) * (k : Int) + (j : Int) = (q : Int) := by omega
      have hj0 : (0 : Int) ≤ (j : Int) := by omega
      have hk16 : (k : Int) < 16 := by omega
      have hq0 : (0 : Int) ≤ (q : Int) := by omega
      have hq1 : (q : Int) < 512 := by omega
      clear hs1 hq
      go_wp2
      go_round
      case rel => exact ⟨j + 1, by omega, by go_num, by rw [HS1.out]⟩
      case measure => simp [intOf]; omega
    · obtain rfl : j = 8 := by omega
      go_wp2
      go_ret2
      exact ⟨rfl, hb1⟩
end Go.Proofs.YtaokjeokpifjgaaGreatDoor

namespace Go.Proofs.YtaokjeokpifjgaaGreatDoor
open Go.RowKit Go.MapKept
attribute [local go_sem] gives givesH
set_option maxRecDepth 100000

def be (n j : Nat) : List UInt8 := (List.range j).map (fun t => UInt8.ofNat (n / 2 ^ (56 - 8 * t) % 256))
theorem be_succ (n j : Nat) : be n (j + 1) = be n j ++ [UInt8.ofNat (n / 2 ^ (56 - 8 * j) % 256)] := by
  unfold be
  rw [List.range_succ, List.map_append]
  rfl
theorem be_length (n j : Nat) : (be n j).length = j := by unfold be; simp
theorem isB_drew {B b : Nat} {bs : List Value} {w : World} (h : IsB B b bs w) : IsB B b bs w.drew :=
  h.imp (fun ⟨a, v, hb, ho, hn⟩ => ⟨a, v, hb, ho.drew, hn⟩) (fun ⟨a, v, hb, ho, hn⟩ => ⟨a, v, hb, ho.drew, hn⟩)
theorem Keep.over {B : Nat} {w w' : World} (h : Below B w w') : Keep (fun k => B ≤ k) w w' := ⟨h.os, h.tape, h.output, h.size, fun k _ hn => h.block k (by omega)⟩
def setRootS (s : ByteArray) (k n : Nat) : ByteArray := ⟨((s.extract 0 (8 * k)).data.toList ++ be n 8 ++ (s.extract (8 * k + 8) s.size).data.toList).toArray⟩

theorem ext_len (s : ByteArray) (a b : Nat) (h : b ≤ s.size) : (s.extract a b).data.toList.length = b - a := by
  have : (s.extract a b).size = b - a := by rw [ByteArray.size_extract]; omega
  rw [← this, Array.length_toList]
  rfl
theorem setRootS_size {s : ByteArray} (hs : s.size = 512) {k : Nat} (hk : k < 16) (n : Nat) : (setRootS s k n).size = 512 := by
  show ((s.extract 0 (8 * k)).data.toList ++ be n 8 ++ (s.extract (8 * k + 8) s.size).data.toList).toArray.size = 512
  rw [List.size_toArray, List.length_append, List.length_append, ext_len _ _ _ (by omega), ext_len _ _ _ (Nat.le_refl _), be_length]
  omega

set_option maxHeartbeats 2000000 in
theorem setRoot_any {w : World} {br : Nat} {R : RoomS} (h : RoomAt w br R) (hlen : R.T.puts.length < 1000000000000) (k : Nat) (hk : k < 16) (n : Nat) (hn : n < 18446744073709551616) :
    Calls Tryz.prog 166 #[.pointer (some ⟨br, 0, none⟩), .int .i64 k, .int .u64 n] w fun e w' => e = .returned (.int .i64 0) ∧ ∃ R', RoomStep br w R w' R' ∧
      R'.T.puts = R.T.puts ++ [(((0 : Nat) : Int), setRootS (R.home 0) k n)] := by
  have HM := Hd (home_in h h.pos)
  have hsz : (R.home ((0 : Nat) : Int)).size = 512 := h.home_size h.pos
  have e1 : decide ((k : Int) < 0) = false := by simp
  have e2 : decide ((16 : Int) ≤ (k : Int)) = false := by simp; omega
  have hg : R.home 0 = R.home ((0 : Nat) : Int) := rfl
  rw [hg]
  generalize hs : R.home ((0 : Nat) : Int) = s at *
  obtain ⟨q, hq⟩ : ∃ q, q = 8 * k := ⟨_, rfl⟩
  have e5 : (8 : Int) * (k : Int) = (q : Int) := by omega
  have e6 : (q : Int) + 8 = ((q + 8 : Nat) : Int) := by omega
  have hq0 : (0 : Int) ≤ (q : Int) := by omega
  have hq1 : (q : Int) ≤ 120 := by omega
  have hk16 : (k : Int) < 16 := by omega
  have HR := Hd h
  have HQ := Hd hq
  have HS0 := Hd hs
  have HN := Hd hn
  clear h hg hq hs hn e6
  go_enter Tryz.func166, Tryz.ntmps166
  go_wp2_with (fail)
  refine (HM.out).mono ?_
  rintro e w1 ⟨rfl, hb1⟩
  have HB1 := Hd hb1
  clear hb1
  have hf0 : IsB w1.heap.size w1.heap.size [] (w1.alloc (.cells #[.pointer none, .slice none 0 0] 123)) := Lib.fresh_isBuilder _ _ w1
  have A1 := Hd (writeString_any hf0 (by simp) (s.extract 0 q) (by rw [ByteArray.size_extract]; simp; omega))
  clear hf0
  go_wp2_with (fail)
  refine (A1.out).mono ?_
  rintro e w2 ⟨rfl, hi2, hb2, ho2⟩
  have hbb : Below w1.heap.size w1 w2 := ((Below.refl _ _).alloc (Nat.le_refl _) _).trans (hb2.mono (Nat.le_refl _))
  have HI2 := Hd hi2
  have HB2 := Hd hbb
  clear hi2 hb2 ho2 hbb
  go_wp2
  go_loopw [10] (fun i wr => ∃ j : Nat, j ≤ 8 ∧ i = .int .i64 (56 - 8 * (j : Int)) ∧ IsB w1.heap.size w1.heap.size (Lib.strCells (s.extract 0 q) ++ Lib.byteCells (be n j)) wr ∧ Below w1.heap.size w1 wr) (fun i _ => (intOf i + 16).toNat)
  case atStart => exact ⟨0, by omega, rfl, by have := HI2.out; simpa [be, Lib.byteCells] using this, HB2.out⟩
  case round =>
    obtain ⟨j, hj, rfl, hib, hbj⟩ := hrel
    have HIB := Hd hib
    have HBJ := Hd hbj
    clear hib hbj
    by_cases hlt : j < 8
    · obtain ⟨sh, hsh⟩ : ∃ sh : Nat, (56 : Int) - 8 * (j : Int) = (sh : Int) := ⟨56 - 8 * j, by omega⟩
      rw [hsh]
      have hshn : sh = 56 - 8 * j := by omega
      have f1 : decide ((0 : Int) ≤ (sh : Int)) = true := by simp
      have hsh56 : sh ≤ 56 := by omega
      have HSH := Hd hsh
      have HSN := Hd hshn
      clear hsh hshn
      have hcl : (Lib.strCells (s.extract 0 q) ++ Lib.byteCells (be n j)).length ≤ 1000 := by
        rw [List.length_append, Lib.strCells_length, ByteArray.size_extract]
        simp [Lib.byteCells, be_length]
        omega
      have A2 := Hd (writeByte_any HIB.out (Nat.le_trans (Nat.le_refl _) HBJ.out.size) (by omega) ((n : Int) / 2 ^ sh % 256))
      have hce : ((n : Int) / 2 ^ sh % 256) = ((UInt8.ofNat (n / 2 ^ sh % 256)).toNat : Int) := by
        have h1 : (n / 2 ^ sh % 256) < 256 := Nat.mod_lt _ (by decide)
        have h2 : (UInt8.ofNat (n / 2 ^ sh % 256)).toNat = n / 2 ^ sh % 256 := by simp
        rw [h2]
        simp
      have HCE := Hd hce
      clear hcl hce
      go_wp2_with (fail)
      refine (A2.out).mono ?_
      rintro e w3 ⟨rfl, hi3, hb3, ho3⟩
      rw [HCE.out, List.append_assoc, ← byteCells_snoc] at hi3
      have hi4 : IsB w1.heap.size w1.heap.size (Lib.strCells (s.extract 0 q) ++ Lib.byteCells (be n (j + 1))) w3 := by
        rw [be_succ, ← HSN.out]; exact hi3
      have HI4 := Hd hi4
      have HB4 := Hd (HBJ.out.trans hb3)
      clear hi3 hi4 hb3 ho3
      go_wp2
      go_roundw
      case rel => exact ⟨j + 1, by omega, by have := HSH.out; congr 1; omega, HI4.out, HB4.out⟩
      case measure => simp [intOf]; omega
    · obtain rfl : j = 8 := by omega
      rw [show (56 : Int) - 8 * ((8 : Nat) : Int) = -8 by omega]
      have hcl : (Lib.strCells (s.extract 0 q) ++ Lib.byteCells (be n 8)).length ≤ 1000 := by
        rw [List.length_append, Lib.strCells_length, ByteArray.size_extract]
        simp [Lib.byteCells, be_length]
        omega
      have A3 := Hd (writeString_any HIB.out (Nat.le_trans (Nat.le_refl _) HBJ.out.size) (s.extract (q + 8) 512) (by rw [ByteArray.size_extract]; omega))
      have e7 : (q : Int) + 8 = ((q + 8 : Nat) : Int) := by omega
      clear hcl e7
      go_wp2_with (fail)
      refine (A3.out).mono ?_
      rintro e w4 ⟨rfl, hi4, hb4, ho4⟩
      rw [strCells_eq, strCells_eq, ← byteCells_append, ← byteCells_append] at hi4
      have hl2 : setRootS s k n = ⟨((s.extract 0 q).data.toList ++ be n 8 ++ (s.extract (q + 8) 512).data.toList).toArray⟩ := by
        unfold setRootS
        rw [← HQ.out, hsz]
      generalize (s.extract 0 q).data.toList ++ be n 8 ++ (s.extract (q + 8) 512).data.toList = l at *
      have HL2 := Hd hl2
      have HI5 := Hd (isB_drew hi4)
      have hbw : Below w1.heap.size w1 w4 := HBJ.out.trans hb4
      have HBW := Hd hbw
      have HRW := Hd (HR.out.still (HB1.out.trans (hbw.mono HB1.out.size)))
      have HSt := Hd (fun (hB : w1.heap.size ≤ w4.drew.heap.size) => Tryz.Builder_String_any_k w1.heap.size w1.heap.size l w4.drew (Lib.IsBuilderF.of HI5.out) hB)
      clear hi4 hb4 ho4 hbw hl2
      go_wp2
      obtain ⟨S, hS⟩ : ∃ S : World → Prop, ∀ u, S u ↔ Keep (fun k => w1.heap.size ≤ k) (w4) u := ⟨fun u => Keep (fun k => w1.heap.size ≤ k) (w4) u, fun _ => Iff.rfl⟩
      have HS := Hd hS
      clear hS
      refine wp_region_ord 5 [(0, true), (1, true), (2, true), (3, true), (4, false)] S (by kernel_rfl) (by kernel_rfl) ((HS.out _).2 (Keep.refl _ _).drew) ?_
      iterate 4
        first
          | (refine wpH_passed rfl (by rfl) (fun K hK => ?_); go_simp; refine hK _ ?_; clear hK K)
          | (first
               | refine wpH_read rfl rfl (fun K hK => ?_)
               | refine wpH_readw rfl (by rfl) (fun K hK => ?_)
             apply Exists.intro
             refine ⟨fun u hu => ?_, ?_⟩
             · have hu := (HS.out u).1 hu
               obtain ⟨⟨c0, c1, c2⟩, _⟩ := tCells (hu.at HRW.out.cells (fun e => by have h1 := HB1.out.size; have h2 := (Gl HR.out.cells); omega))
               clear hu
               go_simp
               exact ⟨rfl, rfl⟩
             go_simp
             refine hK _ ?_
             clear hK K)
      first | refine wpH_do rfl rfl (fun K hK => ?_) | refine wpH_dow rfl (by rfl) (fun K hK => ?_)
      go_simp
      go_at_call 57
      refine (HSt.out (Nat.le_trans HBW.out.size (Nat.le_refl _))).mono ?_
      rintro e u5 ⟨rfl, hi5, hb5, ho5⟩
      have HB5 := Hd (HBW.out.drew.trans hb5)
      refine hK _ _ ((HS.out _).2 ((Keep.refl _ _).drew.trans (Keep.over hb5) (fun _ _ h => h))) ?_
      clear hK K hi5 hb5 ho5
      refine wpH_nil ?_
      simp only [List.drop_succ_cons, List.drop_zero]
      clear S HS
      have hl5 : (⟨l.toArray⟩ : ByteArray).size = 512 := by rw [← HL2.out]; exact setRootS_size hsz hk n
      have hbu : Below w.heap.size w u5 := HB1.out.trans (HB5.out.mono HB1.out.size)
      have HU := Hd (HR.out.still hbu)
      have HW := Hd (txWrite_ok HU.out.tx hlen (i := 0) ⟨by omega, by have := HU.out.pos; omega⟩ ⟨l.toArray⟩ (by omega))
      rw [fullS_same _ hl5] at HW
      have HBU := Hd hbu
      clear hbu hl5
      go_wp2_with (go_at_call 217; refine (HW.out).mono ?_; rintro e w6 ⟨rfl, T', hst, hpp⟩)
      go_ret
      exact ⟨rfl, R.turned T', (RoomStep.still HR.out HBU.out).trans (HU.out.step hst), by rw [HL2.out]; exact hpp⟩
end Go.Proofs.YtaokjeokpifjgaaGreatDoor

namespace Go.Proofs.YtaokjeokpifjgaaGreatDoor
open Go.RowKit Go.MapKept
set_option maxRecDepth 100000

theorem ext_get (s : ByteArray) (a b i : Nat) (hb : b ≤ s.size) (hi : i < b - a) : (s.extract a b).data.toList.getD i 0 = s.data.toList.getD (a + i) 0 := by
  have h1 : i < (s.extract a b).size := by rw [ByteArray.size_extract]; omega
  have h2 : a + i < s.size := by omega
  have e1 := byteN_get (s.extract a b) i h1
  have e2 := byteN_get s (a + i) h2
  have e3 : (s.extract a b)[i] = s[a + i] := by rw [ByteArray.getElem_extract]
  rw [e3, e2] at e1
  unfold byteN at e1
  exact UInt8.toNat_inj.1 e1.symm
theorem byteN_setRoot {s : ByteArray} (hs : s.size = 512) {k : Nat} (hk : k < 16) (n i : Nat) :
    byteN (setRootS s k n) i = if 8 * k ≤ i ∧ i < 8 * k + 8 then n / 2 ^ (56 - 8 * (i - 8 * k)) % 256 else byteN s i := by
  have hA := ext_len s 0 (8 * k) (by omega)
  have hC := ext_len s (8 * k + 8) s.size (Nat.le_refl _)
  by_cases hi : i < 512
  · unfold byteN setRootS
    show (((s.extract 0 (8 * k)).data.toList ++ be n 8 ++ (s.extract (8 * k + 8) s.size).data.toList).getD i 0).toNat = _
    rw [List.getD, List.append_assoc, List.getElem?_append]
    by_cases h1 : i < 8 * k
    · rw [if_pos (by omega), if_neg (by omega)]
      have := ext_get s 0 (8 * k) i (by omega) (by omega)
      rw [Nat.zero_add] at this
      rw [← List.getD, this]
    · rw [if_neg (by omega), List.getElem?_append, hA, be_length]
      by_cases h2 : i < 8 * k + 8
      · rw [if_pos (by omega), if_pos ⟨by omega, h2⟩]
        have h3 : (be n 8)[i - (8 * k - 0)]? = some (UInt8.ofNat (n / 2 ^ (56 - 8 * (i - 8 * k)) % 256)) := by
          unfold be
          rw [List.getElem?_map, List.getElem?_range (by omega)]
          simp
        rw [h3]
        simp
      · rw [if_neg (by omega), if_neg (by omega)]
        have := ext_get s (8 * k + 8) s.size (i - (8 * k - 0) - 8) (Nat.le_refl _) (by omega)
        rw [← List.getD, this, show 8 * k + 8 + (i - (8 * k - 0) - 8) = i by omega]
  · rw [byteN_out _ _ (by rw [setRootS_size hs hk]; omega), if_neg (by omega), byteN_out _ _ (by omega)]
theorem rootUp_congr {s t : ByteArray} {k : Nat} (j : Nat) (h : ∀ i, i < j → byteN s (8 * k + i) = byteN t (8 * k + i)) : rootUp s k j = rootUp t k j := by
  induction j with
  | zero => rfl
  | succ j ih => rw [rootUp_succ, rootUp_succ, ih (fun i hi => h i (by omega)), h j (by omega)]
theorem root_set {s : ByteArray} (hs : s.size = 512) {k : Nat} (hk : k < 16) {n : Nat} (hn : n < 18446744073709551616) : rootUp (setRootS s k n) k 8 = n := by
  have h : ∀ j, j ≤ 8 → rootUp (setRootS s k n) k j = n / 2 ^ (64 - 8 * j) := by
    intro j hj
    induction j with
    | zero => show 0 = n / 2 ^ 64; rw [Nat.div_eq_of_lt (by simpa using hn)]
    | succ j ih =>
      rw [rootUp_succ, ih (by omega), byteN_setRoot hs hk, if_pos ⟨by omega, by omega⟩, show 8 * k + j - 8 * k = j by omega]
      have e1 : 64 - 8 * j = (56 - 8 * j) + 8 := by omega
      have e2 : 64 - 8 * (j + 1) = 56 - 8 * j := by omega
      rw [e1, e2, Nat.pow_add, ← Nat.div_div_eq_div_mul]
      have e3 : n / 2 ^ (56 - 8 * j) ≤ n := Nat.div_le_self _ _
      generalize n / 2 ^ (56 - 8 * j) = m at *
      omega
  have := h 8 (Nat.le_refl _)
  simpa using this
theorem root_other {s : ByteArray} (hs : s.size = 512) {k k' : Nat} (hk : k < 16) (hne : k' ≠ k) (n : Nat) : rootUp (setRootS s k n) k' 8 = rootUp s k' 8 := by
  refine rootUp_congr 8 (fun i hi => ?_)
  rw [byteN_setRoot hs hk, if_neg (by omega)]

structure Rooted (R R' : RoomS) (k n : Nat) : Prop where
  has : ∀ q, q < R.maps * 4096 → R'.has q = R.has q
  text : ∀ q, q < R.pages → R'.text q = R.text q
  root : ∀ k', R'.root k' = if k' = k then n else R.root k'
  puts : ∃ a, R'.T.puts = R.T.puts ++ a ∧ a.length ≤ 1
theorem rooted_of {w : World} {br : Nat} {R R' : RoomS} (h : RoomAt w br R) {k n : Nat} (hk : k < 16) (hn : n < 18446744073709551616) (hf : R'.T.f = R.T.f) (hm : R'.maps = R.maps)
    (hp : R'.T.puts = R.T.puts ++ [(((0 : Nat) : Int), setRootS (R.home 0) k n)]) : Rooted R R' k n := by
  have hh := home_snoc hf hp
  refine ⟨fun q hq => ?_, fun q hq => ?_, fun k' => ?_, _, hp, by simp⟩
  · unfold RoomS.has bitOf
    rw [hh, if_neg (by omega)]
  · unfold RoomS.text
    rw [hm, hh, if_neg (by omega)]
  · unfold RoomS.root
    rw [hh, if_pos (show ((0 : Nat) : Int) = 0 from rfl)]
    by_cases hkk : k' = k
    · subst hkk
      rw [if_pos rfl]
      exact root_set (h.home_size (i := 0) h.pos) hk hn
    · rw [if_neg hkk]
      exact root_other (h.home_size (i := 0) h.pos) hk hkk n
section on
variable {w0 w : World} {br : Nat} {R : RoomS}
end on
end Go.Proofs.YtaokjeokpifjgaaGreatDoor

namespace Go.Proofs.YtaokjeokpifjgaaGreatDoor
open Go.RowKit Go.MapKept
set_option maxRecDepth 100000

def strV (l : List ByteArray) : List Value := l.map Value.string
def intV (l : List Nat) : List Value := l.map (fun (n : Nat) => Value.int .i64 (n : Int))
theorem strV_one (l : List ByteArray) : ∀ u ∈ strV l, u.oneCell' = true := by
  intro u hu
  obtain ⟨x, _, rfl⟩ := List.mem_map.1 hu
  rfl
theorem intV_one (l : List Nat) : ∀ u ∈ intV l, u.oneCell' = true := by
  intro u hu
  obtain ⟨x, _, rfl⟩ := List.mem_map.1 hu
  rfl
def RowAt (w : World) (v : Value) (l : List Value) : Prop :=
  ∃ a b off c, v = .slice a l.length c ∧ (0 < l.length → a = some ⟨b, off, none⟩ ∧ b < w.heap.size) ∧ ∀ (j : Nat) u, l[j]? = some u → w.cell? ⟨b, off + j, none⟩ = some u
theorem RowAt.keep {S : Nat → Prop} {w w' : World} {v : Value} {l : List Value} (h : RowAt w v l) (hk : Keep S w w') (hn : ∀ k, v.ownBlock = some k → ¬ S k) : RowAt w' v l := by
  obtain ⟨a, b, off, c, rfl, h1, h2⟩ := h
  refine ⟨a, b, off, c, rfl, fun h0 => ⟨(h1 h0).1, Nat.lt_of_lt_of_le (h1 h0).2 hk.size⟩, fun j u hj => ?_⟩
  have h0 : 0 < l.length := by have := (List.getElem?_eq_some_iff.1 hj).1; omega
  obtain ⟨rfl, hb⟩ := h1 h0
  rw [hk.cell (p := ⟨b, off + j, none⟩) hb (hn b rfl)]
  exact h2 j u hj
theorem RowAt.still {w w' : World} {v : Value} {l : List Value} (h : RowAt w v l) (hb : Below w.heap.size w w') : RowAt w' v l := h.keep (Keep.still hb) (fun _ _ e => e)
theorem row_read {w : World} {e : TypeId} {v : Value} {n : Nat} {l : List Value} (h : w.ownsRow 0 e 1 v n l) : RowAt w v l := by
  obtain ⟨hl, h2⟩ := h
  rw [Nat.mul_one] at hl
  rcases h2 with ⟨rfl, rfl⟩ | ⟨g, cap, cur, rfl, _, hg, hc, _, _, ht⟩
  · rw [List.length_eq_zero_iff.1 hl]
    exact ⟨none, 0, 0, 0, rfl, fun h => absurd h (by simp), fun j u hj => by simp at hj⟩
  · rw [← hl]
    refine ⟨some ⟨g, 0, none⟩, g, 0, cap, rfl, fun _ => ⟨rfl, (Gl hg)⟩, fun j u hj => ?_⟩
    rw [Nat.zero_add]
    have hj2 : j < n := by have := (List.getElem?_eq_some_iff.1 hj).1; omega
    rw [Lib.cell_of_heap hg j]
    rw [← ht, List.getElem?_take, if_pos (by omega)] at hj
    simpa using hj
structure NdR (w : World) (b : Nat) (x : Nd) : Prop where
  lt : b < w.heap.size
  node : ∃ kv vv cv, w.cell? ⟨b, 0, none⟩ = some (.bool x.leaf) ∧ w.cell? ⟨b, 1, none⟩ = some kv ∧ w.cell? ⟨b, 2, none⟩ = some vv ∧ w.cell? ⟨b, 3, none⟩ = some cv ∧ RowAt w kv (strV x.keys) ∧ RowAt w vv (strV x.vals) ∧ RowAt w cv (intV x.kids)
theorem NdR.still {w w' : World} {b : Nat} {x : Nd} (h : NdR w b x) (hb : Below w.heap.size w w') : NdR w' b x := by
  obtain ⟨kv, vv, cv, c0, c1, c2, c3, r1, r2, r3⟩ := h.node
  have hc : ∀ k, w'.cell? ⟨b, k, none⟩ = w.cell? ⟨b, k, none⟩ := fun k => hb.cell (p := ⟨b, k, none⟩) h.lt
  exact ⟨Nat.lt_of_lt_of_le h.lt hb.size, kv, vv, cv, by rw [hc]; exact c0, by rw [hc]; exact c1, by rw [hc]; exact c2, by rw [hc]; exact c3, r1.still hb, r2.still hb, r3.still hb⟩
structure NdAt (w : World) (b : Nat) (kv vv cv : Value) (x : Nd) : Prop where
  cells : w.heap[b]? = some (.cells #[.bool x.leaf, kv, vv, cv] 247 (0, 0))
  keys : w.ownsRow 0 9 1 kv x.keys.length (strV x.keys)
  vals : w.ownsRow 0 9 1 vv x.vals.length (strV x.vals)
  kids : w.ownsRow 0 3 1 cv x.kids.length (intV x.kids)
  ne : kv.ownBlock ≠ some b ∧ vv.ownBlock ≠ some b ∧ cv.ownBlock ≠ some b
  apart : (∀ k, kv.ownBlock = some k → vv.ownBlock ≠ some k ∧ cv.ownBlock ≠ some k) ∧ ∀ k, vv.ownBlock = some k → cv.ownBlock ≠ some k
def ndOwn (b : Nat) (kv vv cv : Value) (k : Nat) : Prop := k = b ∨ kv.ownBlock = some k ∨ vv.ownBlock = some k ∨ cv.ownBlock = some k
section
variable {w w' : World} {b : Nat} {kv vv cv : Value} {x : Nd}
theorem NdAt.keep {S : Nat → Prop} (h : NdAt w b kv vv cv x) (hk : Keep S w w') (hn : ∀ k, ndOwn b kv vv cv k → ¬ S k) : NdAt w' b kv vv cv x :=
  ⟨hk.at h.cells (hn _ (.inl rfl)), hk.ownsRow h.keys (fun k e => hn k (.inr (.inl e))), hk.ownsRow h.vals (fun k e => hn k (.inr (.inr (.inl e)))), hk.ownsRow h.kids (fun k e => hn k (.inr (.inr (.inr e)))), h.ne, h.apart⟩
theorem NdAt.still (h : NdAt w b kv vv cv x) (hb : Below w.heap.size w w') : NdAt w' b kv vv cv x := h.keep (Keep.still hb) (fun _ _ e => e)
theorem NdAt.lt (h : NdAt w b kv vv cv x) {k : Nat} (hk : ndOwn b kv vv cv k) : k < w.heap.size := by
  rcases hk with e | e | e | e
  · subst e; exact (Gl h.cells)
  · exact (h.keys.lt k e).2
  · exact (h.vals.lt k e).2
  · exact (h.kids.lt k e).2
theorem NdAt.read (h : NdAt w b kv vv cv x) : NdR w b x :=
  ⟨h.lt (.inl rfl), kv, vv, cv, Lib.cell_of_heap h.cells 0, Lib.cell_of_heap h.cells 1, Lib.cell_of_heap h.cells 2, Lib.cell_of_heap h.cells 3, row_read h.keys, row_read h.vals, row_read h.kids⟩
end
section
variable {w w' : World} {b : Nat} {kv vv cv : Value} {x : Nd}
theorem NdAt.putKeys {w8 : World} {kv' : Value} {l : List ByteArray} (h : NdAt w b kv vv cv x) (K1 : Keep (fun k => kv.ownBlock = some k) w w8) (hrow : w8.ownsRow 0 9 1 kv' l.length (strV l)) (hloc : ∀ k, kv'.ownBlock = some k → kv.ownBlock = some k ∨ w.heap.size ≤ k) :
    NdAt (w8.setCell ⟨b, 1, none⟩ kv') b kv' vv cv { x with keys := l } ∧ Keep (ndOwn b kv vv cv) w (w8.setCell ⟨b, 1, none⟩ kv') := by
  have hlt : b < w.heap.size := h.lt (.inl rfl)
  have hb' : kv'.ownBlock ≠ some b := fun e => (hloc b e).elim (fun n => h.ne.1 n) (fun n => by omega)
  have K2 : Keep (fun k => k = b) w8 (w8.setCell ⟨b, 1, none⟩ kv') := (Keep.refl (fun k => k = b) w8).setCell (p := ⟨b, 1, none⟩) (fun _ => rfl) _
  have hc := K1.at h.cells (fun e => h.ne.1 e)
  refine ⟨⟨by simp [World.setCell, Array.getElem?_modify, hc], K2.ownsRow hrow (fun k e e2 => hb' (by rw [e, e2])), K2.ownsRow (K1.ownsRow h.vals (fun k e e2 => (h.apart.1 k e2).1 e)) (fun k e e2 => h.ne.2.1 (by rw [e, e2])), K2.ownsRow (K1.ownsRow h.kids (fun k e e2 => (h.apart.1 k e2).2 e)) (fun k e e2 => h.ne.2.2 (by rw [e, e2])), ⟨hb', h.ne.2.1, h.ne.2.2⟩, ⟨fun k e => ⟨fun e2 => (hloc k e).elim (fun n => (h.apart.1 k n).1 e2) (fun n => by have := (h.vals.lt k e2).2; omega), fun e2 => (hloc k e).elim (fun n => (h.apart.1 k n).2 e2) (fun n => by have := (h.kids.lt k e2).2; omega)⟩, h.apart.2⟩⟩, ?_⟩
  exact (K1.mono (S' := ndOwn b kv vv cv) (fun k _ e => .inr (.inl e))).trans K2 (fun k _ e => .inl e)
theorem NdAt.putVals {w8 : World} {vv' : Value} {l : List ByteArray} (h : NdAt w b kv vv cv x) (K1 : Keep (fun k => vv.ownBlock = some k) w w8) (hrow : w8.ownsRow 0 9 1 vv' l.length (strV l)) (hloc : ∀ k, vv'.ownBlock = some k → vv.ownBlock = some k ∨ w.heap.size ≤ k) :
    NdAt (w8.setCell ⟨b, 2, none⟩ vv') b kv vv' cv { x with vals := l } ∧ Keep (ndOwn b kv vv cv) w (w8.setCell ⟨b, 2, none⟩ vv') := by
  have hlt : b < w.heap.size := h.lt (.inl rfl)
  have hb' : vv'.ownBlock ≠ some b := fun e => (hloc b e).elim (fun n => h.ne.2.1 n) (fun n => by omega)
  have K2 : Keep (fun k => k = b) w8 (w8.setCell ⟨b, 2, none⟩ vv') := (Keep.refl (fun k => k = b) w8).setCell (p := ⟨b, 2, none⟩) (fun _ => rfl) _
  have hc := K1.at h.cells (fun e => h.ne.2.1 e)
  refine ⟨⟨by simp [World.setCell, Array.getElem?_modify, hc], K2.ownsRow (K1.ownsRow h.keys (fun k e e2 => (h.apart.1 k e).1 e2)) (fun k e e2 => h.ne.1 (by rw [e, e2])), K2.ownsRow hrow (fun k e e2 => hb' (by rw [e, e2])), K2.ownsRow (K1.ownsRow h.kids (fun k e e2 => h.apart.2 k e2 e)) (fun k e e2 => h.ne.2.2 (by rw [e, e2])), ⟨h.ne.1, hb', h.ne.2.2⟩, ⟨fun k e => ⟨fun e2 => (hloc k e2).elim (fun n => (h.apart.1 k e).1 n) (fun n => by have := (h.keys.lt k e).2; omega), (h.apart.1 k e).2⟩, fun k e e2 => (hloc k e).elim (fun n => h.apart.2 k n e2) (fun n => by have := (h.kids.lt k e2).2; omega)⟩⟩, ?_⟩
  exact (K1.mono (S' := ndOwn b kv vv cv) (fun k _ e => .inr (.inr (.inl e)))).trans K2 (fun k _ e => .inl e)
theorem NdAt.putKids {w8 : World} {cv' : Value} {l : List Nat} (h : NdAt w b kv vv cv x) (K1 : Keep (fun k => cv.ownBlock = some k) w w8) (hrow : w8.ownsRow 0 3 1 cv' l.length (intV l)) (hloc : ∀ k, cv'.ownBlock = some k → cv.ownBlock = some k ∨ w.heap.size ≤ k) :
    NdAt (w8.setCell ⟨b, 3, none⟩ cv') b kv vv cv' { x with kids := l } ∧ Keep (ndOwn b kv vv cv) w (w8.setCell ⟨b, 3, none⟩ cv') := by
  have hlt : b < w.heap.size := h.lt (.inl rfl)
  have hb' : cv'.ownBlock ≠ some b := fun e => (hloc b e).elim (fun n => h.ne.2.2 n) (fun n => by omega)
  have K2 : Keep (fun k => k = b) w8 (w8.setCell ⟨b, 3, none⟩ cv') := (Keep.refl (fun k => k = b) w8).setCell (p := ⟨b, 3, none⟩) (fun _ => rfl) _
  have hc := K1.at h.cells (fun e => h.ne.2.2 e)
  refine ⟨⟨by simp [World.setCell, Array.getElem?_modify, hc], K2.ownsRow (K1.ownsRow h.keys (fun k e e2 => (h.apart.1 k e).2 e2)) (fun k e e2 => h.ne.1 (by rw [e, e2])), K2.ownsRow (K1.ownsRow h.vals (fun k e e2 => h.apart.2 k e e2)) (fun k e e2 => h.ne.2.1 (by rw [e, e2])), K2.ownsRow hrow (fun k e e2 => hb' (by rw [e, e2])), ⟨h.ne.1, h.ne.2.1, hb'⟩, ⟨fun k e => ⟨(h.apart.1 k e).1, fun e2 => (hloc k e2).elim (fun n => (h.apart.1 k e).2 n) (fun n => by have := (h.keys.lt k e).2; omega)⟩, fun k e e2 => (hloc k e2).elim (fun n => h.apart.2 k e n) (fun n => by have := (h.vals.lt k e).2; omega)⟩⟩, ?_⟩
  exact (K1.mono (S' := ndOwn b kv vv cv) (fun k _ e => .inr (.inr (.inr e)))).trans K2 (fun k _ e => .inl e)
end
theorem fullS_text (x : Nd) : fullS x.text = bs (x.bytes ++ List.replicate (512 - x.size) 0) := by
  unfold fullS Nd.text Nd.size
  rw [bs_size]
  apply ByteArray.ext
  simp [bs]
end Go.Proofs.YtaokjeokpifjgaaGreatDoor

namespace Go.Proofs.YtaokjeokpifjgaaGreatDoor
open Go.RowKit Go.MapKept
attribute [local go_sem] gives givesH
set_option maxRecDepth 100000

def RdAt (w : World) (b : Nat) (s : ByteArray) : Prop := w.heap[b]? = some (.cells #[.string s, .bool false] 329 (0, 0))
section
variable {w w' : World} {b n : Nat} {A B : List UInt8}
theorem take_any (h : RdAt w b (bs (A ++ B))) (hn : A.length = n) (hsz : (A ++ B).length ≤ 9223372036854775807) :
    Calls Tryz.prog 242 #[.pointer (some ⟨b, 0, none⟩), .int .i64 n] w fun e w' => e = .returned (.string (bs A)) ∧ RdAt w' b (bs B) ∧ Keep (fun k => k = b) w w' := by
  have x1 : (bs (A ++ B)).extract 0 n = bs A := by rw [← hn]; exact bs_take A B
  have x2 : (bs (A ++ B)).extract n (bs (A ++ B)).size = bs B := by rw [← hn]; exact bs_drop A B _ (bs_size _)
  have x3 : n ≤ (bs (A ++ B)).size := by rw [bs_size, List.length_append]; omega
  have x4 : (bs (A ++ B)).size ≤ 9223372036854775807 := by rw [bs_size]; exact hsz
  generalize bs (A ++ B) = s at *
  unfold RdAt at h
  have c0 : w.cell? ⟨b, 0, none⟩ = some (.string s) := Lib.cell_of_heap h 0
  have c1 : w.cell? ⟨b, 1, none⟩ = some (.bool false) := Lib.cell_of_heap h 1
  have fz : w.frozen? ⟨b, 0, none⟩ = false := by simp [World.frozen?, h]
  obtain ⟨m, hm⟩ : ∃ m, s.size = m := ⟨_, rfl⟩
  have d1 : decide ((m : Int) < (n : Int)) = false := by simp; omega
  have d2 : decide (m < n) = false := by simp; omega
  have HH := Hd h
  rw [hm] at x2 x3 x4
  go_enter Tryz.func242, Tryz.ntmps242
  go_wp2
  go_ret
  exact ⟨rfl, by simp [RdAt, World.setCell, Array.getElem?_modify, HH.out], ((Keep.refl (fun k => k = b) w).setCell (p := ⟨b, 0, none⟩) (fun _ => rfl) _)⟩
theorem or_i64 (a b : Nat) (ha : a < 2 ^ 62) (hb : b < 2 ^ 62) : bits .or .i64 a b = ((a ||| b : Nat) : Int) := by
  exact (bits_nat .i64 62 (by decide) (fun n h0 h1 => by rw [IntKind.wrap_i64]; omega) a b ha hb).2
theorem or_byte (x c : Nat) (hx : x < 16777216) (hc : c < 256) : bits .or .i64 ((x : Int) * 256) (c : Int) = ((x * 256 + c : Nat) : Int) := by
  have h1 : x * 256 ||| c = x * 256 + c := by
    have := Nat.shiftLeft_add_eq_or_of_lt (i := 8) (a := x) (b := c) (by omega)
    rw [Nat.shiftLeft_eq] at this
    exact this.symm
  have h2 := or_i64 (x * 256) c (by omega) (by omega)
  rw [h1] at h2
  rw [← h2]
  push_cast
  rfl
set_option maxHeartbeats 1000000 in
theorem num_any (h : RdAt w b (bs (A ++ B))) (hn : A.length = n) (h4 : n ≤ 4) (hsz : (A ++ B).length ≤ 9223372036854775807) :
    Calls Tryz.prog 243 #[.pointer (some ⟨b, 0, none⟩), .int .i64 n] w fun e w' => e = .returned (.int .i64 (beN A)) ∧ RdAt w' b (bs B) ∧ Keep (fun k => k = b) w w' := by
  have HT := Hd (take_any h hn hsz)
  obtain ⟨s, hs⟩ : ∃ s, bs A = s := ⟨_, rfl⟩
  have hsl : s.data.toList = A := by rw [← hs]; exact bs_data A
  have hss : s.size = n := by rw [← hs, bs_size, hn]
  rw [hs] at HT
  have HSl := Hd hsl
  have HSs := Hd hss
  have HN := Hd hn
  clear h hs hsl hss hn
  go_enter Tryz.func243, Tryz.ntmps243
  go_wp2_with (go_at_call 242; refine (HT.out).mono ?_; rintro e w1 ⟨rfl, hr, hk⟩
               obtain ⟨cc, wc, hcv, hbc, _, _, _, hcc⟩ := conv_bytes (P := Tryz.prog) w1 9 121 5 s Tryz.underlying9 Tryz.underlying121 Tryz.underlying5
               rw [HSs.out] at hcv
               have HCc := Hd hcc
               have HR := Hd hr
               have HK := Hd hk
               have HBc := Hd hbc
               clear hcc hr hk hbc)
  go_loop [5, 13] (fun x i => ∃ j : Nat, j ≤ n ∧ i = .int .i64 j ∧ x = .int .i64 (beN (A.take j))) (fun _ i => n - (intOf i).toNat)
  case atStart => exact ⟨0, by omega, rfl, rfl⟩
  case round =>
    obtain ⟨j, hj, rfl, rfl⟩ := hrel
    by_cases hlt : j < n
    · have g1 : decide ((j : Int) < (n : Int)) = true := by simp; omega
      have g1' : decide (j < n) = true := by simpa using hlt
      have hj0 : (0 : Int) ≤ (j : Int) := by omega
      have hj1 : (j : Int) < (n : Int) := by omega
      have hs : j < s.size := by rw [HSs.out]; exact hlt
      have q0 := HCc.out j hs
      have hA : A[j]? = some s[j] := by
        rw [← HSl.out, Array.getElem?_toList]
        exact Array.getElem?_eq_getElem hs
      have hA2 : A.take (j + 1) = A.take j ++ [s[j]] := by rw [List.take_add_one, hA]; rfl
      obtain ⟨x, hx⟩ : ∃ x, beN (A.take j) = x := ⟨_, rfl⟩
      have hx2 : x < 16777216 := by
        have h1 := beN_lt (A.take j)
        have h2 : (A.take j).length = j := by rw [List.length_take, HN.out]; omega
        rw [hx, h2] at h1
        have h3 : 256 ^ j ≤ 256 ^ 3 := Nat.pow_le_pow_right (by decide) (by omega)
        have h4 : (256 : Nat) ^ 3 = 16777216 := rfl
        omega
      obtain ⟨c, hc⟩ : ∃ c, s[j].toNat = c := ⟨_, rfl⟩
      have hc2 : c < 256 := by rw [← hc]; exact s[j].toNat_lt
      have hnew : beN (A.take (j + 1)) = x * 256 + c := by rw [hA2, beN_snoc, hx, hc]
      rw [hc] at q0
      rw [hx]
      have o1 := or_byte x c hx2 hc2
      have x0 : (0 : Int) ≤ (x : Int) := by omega
      have x1 : (x : Int) ≤ 16777215 := by omega
      have c0 : (0 : Int) ≤ (c : Int) := by omega
      have c1 : (c : Int) ≤ 255 := by omega
      have HNw := Hd hnew
      clear hA hA2 hx hc hnew
      go_wp2
      go_round
      case rel => exact ⟨j + 1, by omega, by go_num, by rw [HNw.out]; go_num⟩
      case measure => simp [intOf]; omega
    · have g1 : decide ((j : Int) < (n : Int)) = false := by simp; omega
      have g1' : decide (j < n) = false := by simpa using hlt
      have hjn : j = n := by omega
      have hA : A.take j = A := by rw [hjn, ← HN.out, List.take_length]
      rw [hA]
      go_wp2
      go_ret
      exact ⟨rfl, (Keep.still HBc.out).at HR.out (fun e => e), HK.out.trans (Keep.ofBelow (S := fun k => k = b) HBc.out) (fun _ _ e => e)⟩
theorem rtext_any {t : List UInt8} {s : ByteArray} (h : RdAt w b (bs (lenB s ++ t))) (hs : s.size < 256) (hsz : (lenB s ++ t).length ≤ 9223372036854775807) :
    Calls Tryz.prog 244 #[.pointer (some ⟨b, 0, none⟩)] w fun e w' => e = .returned (.string s) ∧ RdAt w' b (bs t) ∧ Keep (fun k => k = b) w w' := by
  have e1 : lenB s ++ t = [UInt8.ofNat s.size] ++ (s.data.toList ++ t) := rfl
  have e2 : beN [UInt8.ofNat s.size] = s.size := by
    unfold beN
    simp only [List.foldl_cons, List.foldl_nil, u8_toNat]
    omega
  have hl : (s.data.toList ++ t).length ≤ 9223372036854775807 := by
    rw [e1, List.length_append, List.length_singleton] at hsz
    omega
  rw [e1] at h hsz
  have H1 := Hd (num_any (n := 1) h rfl (by decide) hsz)
  rw [e2] at H1
  have H2 := Hd (fun u (hu : RdAt u b (bs (s.data.toList ++ t))) => take_any hu (n := s.size) (by rw [Array.length_toList]; rfl) hl)
  rw [bs_toList] at H2
  obtain ⟨n, hn⟩ : ∃ n, s.size = n := ⟨_, rfl⟩
  rw [hn] at H1 H2
  clear h e1 e2 hl hsz hs hn
  go_enter Tryz.func244, Tryz.ntmps244
  go_wp2_with (fail)
  refine (H1.out).mono ?_
  rintro e w1 ⟨rfl, hr1, hk1⟩
  have HK1 := Hd hk1
  have H3 := Hd (H2.out _ hr1)
  clear hr1 hk1
  go_wp2_with (fail)
  refine (H3.out).mono ?_
  rintro e w2 ⟨rfl, hr2, hk2⟩
  go_wp2
  go_ret
  exact ⟨rfl, hr2, HK1.out.trans hk2 (fun _ _ e => e)⟩
end
end Go.Proofs.YtaokjeokpifjgaaGreatDoor

namespace Go.Proofs.YtaokjeokpifjgaaGreatDoor
open Go.RowKit Go.MapKept
attribute [local go_sem] gives givesH
set_option maxRecDepth 100000

theorem infoStr9 : (Tryz.prog.info? 9).map (fun i => (i.zero, i.size, i.bytes)) = some (some (.string ⟨#[]⟩), 1, 16) := by kernel_rfl
theorem infoInt9 : (Tryz.prog.info? 3).map (fun i => (i.zero, i.size, i.bytes)) = some (some (.int .i64 0), 1, 8) := by kernel_rfl
def Nd.rest (x : Nd) (i : Nat) : List UInt8 := entsB x.leaf (x.keys.drop i) (x.vals.drop i) (x.kids.drop i)
theorem Nd.rest_all (x : Nd) : x.rest x.keys.length = [] := by unfold Nd.rest; rw [List.drop_length]; rfl
theorem Nd.rest_one (x : Nd) (i : Nat) (hi : i < x.keys.length) : x.rest i = lenB (x.keys.getD i ⟨#[]⟩) ++ ((if x.leaf then lenB (x.vals.getD i ⟨#[]⟩) else be4 (x.kids.getD i 0)) ++ x.rest (i + 1)) := by
  unfold Nd.rest
  rw [entsB_drop x.leaf x.keys x.vals x.kids i hi, getD_of_lt x.keys i ⟨#[]⟩ hi]
  unfold entB
  rw [List.append_assoc]
theorem Nd.upto_ge (x : Nd) (i : Nat) : 3 ≤ x.upto i := by
  induction i with
  | zero => exact Nat.le_refl _
  | succ i ih => exact Nat.le_trans ih (Nat.le_add_right _ _)
theorem Nd.rest_le (x : Nd) (k : Nat) (hk : k ≤ x.keys.length) : (x.rest k).length ≤ (x.rest 0).length := by
  have h1 := x.ents_split k hk
  have h2 := x.ents_split 0 (Nat.zero_le _)
  have h3 := x.upto_ge k
  have h4 : x.upto 0 = 3 := rfl
  unfold Nd.rest
  omega
theorem take_snoc {α : Type} (l : List α) (i : Nat) (d : α) (h : i < l.length) : l.take (i + 1) = l.take i ++ [l.getD i d] := by
  rw [List.take_add_one, List.getElem?_eq_getElem h, ← getD_of_lt l i d h]
  rfl
structure PInv (w wr : World) (rb nb : Nat) (kv vv cv : Value) (x : Nd) (t : List UInt8) (i : Nat) : Prop where
  nd : NdAt wr nb kv vv cv (x.take i)
  rd : RdAt wr rb (bs (x.rest i ++ t))
  new : ∀ k, ndOwn nb kv vv cv k → w.heap.size ≤ k ∧ k ≠ rb
  below : Below w.heap.size w wr
  rbn : w.heap.size ≤ rb
set_option maxHeartbeats 4000000 in
theorem parse_any (x : Nd) (ok : x.ok) (hne : x.keys ≠ []) (hm : x.keys.length < 65536) (t : List UInt8) (hsz : (x.bytes ++ t).length ≤ 4611686018427387904) (w : World) :
    Calls Tryz.prog 205 #[.string (bs (x.bytes ++ t))] w fun e w' => ∃ nb kv vv cv, e = .returned (.tuple #[.pointer (some ⟨nb, 0, none⟩), .bool true]) ∧ NdAt w' nb kv vv cv x ∧ (∀ k, ndOwn nb kv vv cv k → w.heap.size ≤ k) ∧ Below w.heap.size w w' := by
  obtain ⟨i0, hi0, hz0, hz1, hz2⟩ := info_parts infoStr9
  have HI := Hd hi0
  have Hz0 := Hd hz0
  have Hz1 := Hd hz1
  have Hz2 := Hd hz2
  obtain ⟨j0, hj0, hy0, hy1, hy2⟩ := info_parts infoInt9
  have HJ := Hd hj0
  have Hy0 := Hd hy0
  have Hy1 := Hd hy1
  have Hy2 := Hd hy2
  clear hi0 hz0 hz1 hz2 hj0 hy0 hy1 hy2
  obtain ⟨m, hmm⟩ : ∃ m, x.keys.length = m := ⟨_, rfl⟩
  have hm0 : 0 < m := by rw [← hmm]; exact List.length_pos_iff.2 hne
  rw [hmm] at hm
  have e0 : x.bytes ++ t = [if x.leaf then 76 else 78] ++ ([UInt8.ofNat (m / 256), UInt8.ofNat m] ++ (x.rest 0 ++ t)) := by
    unfold Nd.bytes Nd.rest
    rw [List.drop_zero, List.drop_zero, List.drop_zero, hmm]
    rfl
  have e2 : beN [UInt8.ofNat (m / 256), UInt8.ofNat m] = m := by
    unfold beN
    simp only [List.foldl_cons, List.foldl_nil, u8_toNat]
    omega
  rw [e0] at hsz ⊢
  have hsz1 : ([UInt8.ofNat (m / 256), UInt8.ofNat m] ++ (x.rest 0 ++ t)).length ≤ 4611686018427387904 := by
    rw [List.length_append, List.length_singleton] at hsz
    omega
  have hsz2 : (x.rest 0 ++ t).length ≤ 4611686018427387904 := by
    rw [List.length_append] at hsz1
    omega
  have HT1 := Hd (fun u b (hu : RdAt u b (bs ([if x.leaf then 76 else 78] ++ ([UInt8.ofNat (m / 256), UInt8.ofNat m] ++ (x.rest 0 ++ t))))) => take_any (n := 1) hu rfl (by omega))
  have HT2 := Hd (fun u b (hu : RdAt u b (bs ([UInt8.ofNat (m / 256), UInt8.ofNat m] ++ (x.rest 0 ++ t)))) => num_any (n := 2) hu rfl (by decide) (by omega))
  rw [e2] at HT2
  have HE0 := Hd e0
  have HM := Hd hmm
  have HOk := Hd ok
  have HSz := Hd hsz2
  obtain ⟨s, hs⟩ : ∃ s, bs ([if x.leaf then 76 else 78] ++ ([UInt8.ofNat (m / 256), UInt8.ofNat m] ++ (x.rest 0 ++ t))) = s := ⟨_, rfl⟩
  rw [hs] at HT1 ⊢
  clear hs e0 e2 hsz hsz1 hsz2 hmm ok hne
  have hrd : RdAt (w.alloc (.cells #[.string s, .bool false] 329)) w.heap.size s := heap_alloc_new w _
  have HA := Hd (HT1.out _ _ hrd)
  have HBa := Hd ((Below.refl w.heap.size w).alloc (Nat.le_refl _) (.cells #[.string s, .bool false] 329))
  clear hrd
  have hk : ∃ kd, bs [if x.leaf then 76 else 78] = kd := ⟨_, rfl⟩
  obtain ⟨lf, hlf⟩ : ∃ lf, x.leaf = lf := ⟨_, rfl⟩
  rw [hlf] at HA
  have HLf := Hd hlf
  clear hlf hk
  cases lf with
  | true =>
    have hbk : bs [76] = ⟨#[76]⟩ := rfl
    simp only [if_true] at HA
    rw [hbk] at HA
    clear hbk
    go_enter Tryz.func205, Tryz.ntmps205
    go_wp2_with (fail)
    refine (HA.out).mono ?_
    rintro e w1 ⟨rfl, hr1, hk1⟩
    have hba : Below w.heap.size w (w1.alloc (.cells #[.bool true, .slice none 0 0, .slice none 0 0, .slice none 0 0] 247)) := by
      have h1 := HBa.out.trans (hk1.below HBa.out.size (fun i hi e => by omega))
      exact h1.alloc h1.size _
    have hlt1 : w.heap.size < w1.heap.size := by have := hk1.size; simp at this; omega
    have hrx : RdAt (w1.alloc (.cells #[.bool true, .slice none 0 0, .slice none 0 0, .slice none 0 0] 247)) w.heap.size _ := (Keep.still ((Below.refl w1.heap.size w1).alloc (Nat.le_refl _) (.cells #[.bool true, .slice none 0 0, .slice none 0 0, .slice none 0 0] 247))).at hr1 (fun e => e)
    have HT := Hd (HT2.out _ _ hrx)
    have HBb := Hd hba
    have hnn := heap_alloc_new w1 (.cells #[.bool true, .slice none 0 0, .slice none 0 0, .slice none 0 0] 247)
    obtain ⟨w2, hw2⟩ : ∃ w2, w1.alloc (.cells #[.bool true, .slice none 0 0, .slice none 0 0, .slice none 0 0] 247) = w2 := ⟨_, rfl⟩
    obtain ⟨nb, hnb⟩ : ∃ nb, w1.heap.size = nb := ⟨_, rfl⟩
    obtain ⟨rb, hrb⟩ : ∃ rb, w.heap.size = rb := ⟨_, rfl⟩
    rw [hw2, hnb] at hnn
    rw [hw2] at HBb HT
    rw [hnb, hrb] at hlt1
    rw [hrb] at HT
    have HNn := Hd hnn
    have HRb := Hd hrb
    clear hr1 hk1 hba hrx hnn
    go_wp2_with (fail)
    try rw [hw2]
    try rw [hnb]
    try rw [hrb]
    refine (HT.out).mono ?_
    rintro e w3 ⟨rfl, hr2, hk2⟩
    have HNe := Hd (show nb ≠ rb by omega)
    have hin : PInv w w3 rb nb (.slice none 0 0) (.slice none 0 0) (.slice none 0 0) x t 0 := by
      have h2 := hk2.at HNn.out HNe.out
      refine ⟨⟨by rw [h2]; show some (Obj.cells #[.bool true, _, _, _] _ _) = some (Obj.cells #[.bool x.leaf, _, _, _] _ _); rw [HLf.out], World.ownsRow_nil _ _ _ _, World.ownsRow_nil _ _ _ _, World.ownsRow_nil _ _ _ _, ⟨(fun e => by cases e), (fun e => by cases e), (fun e => by cases e)⟩, ⟨(fun k e => by cases e), (fun k e => by cases e)⟩⟩, hr2, fun k hk => ?_, HBb.out.trans (hk2.below HBb.out.size (fun i hi e => by have := HRb.out; omega)), Nat.le_of_eq HRb.out⟩
      rcases hk with e | e | e | e
      · have := HRb.out; omega
      · cases e
      · cases e
      · cases e
    have HIn := Hd hin
    clear hin hr2 hk2 hw2 hnb hrb HA HBa HT1 HT2 HNn
    go_wp2
    go_loopw [18] (fun i wr => ∃ (k : Nat) (kv vv cv : Value), k ≤ m ∧ i = .int .i64 k ∧ PInv w wr rb nb kv vv cv x t k) (fun i _ => m - (intOf i).toNat)
    case atStart => exact ⟨0, _, _, _, by omega, rfl, HIn.out⟩
    case round =>
      obtain ⟨k, kv, vv, cv, hk, rfl, hinv⟩ := hrel
      have HI2 := Hd hinv
      have cb : wr.cell? ⟨rb, 1, none⟩ = some (.bool false) := Lib.cell_of_heap hinv.rd 1
      by_cases hlt : k < m
      · have g1 : decide ((k : Int) < (m : Int)) = true := by simp; omega
        have g1' : decide (k < m) = true := by simpa using hlt
        have hr1 := x.rest_one k (by rw [HM.out]; exact hlt)
        rw [HLf.out] at hr1
        simp only [if_true] at hr1
        have hrl := x.rest_le k (by rw [HM.out]; omega)
        have hszk := HSz.out
        rw [List.length_append] at hszk
        obtain ⟨key, hkey⟩ : ∃ key, x.keys.getD k ⟨#[]⟩ = key := ⟨_, rfl⟩
        have hk96 : key.size ≤ 96 := by rw [← hkey]; exact HOk.out.k96 _ (getD_mem (by rw [HM.out]; exact hlt))
        have hrd := hinv.rd
        rw [hr1, hkey, List.append_assoc] at hrd
        rw [hr1, hkey] at hrl
        simp only [List.length_append] at hrl
        have hdr : Below wr.heap.size wr wr.drew := ⟨rfl, rfl, rfl, Nat.le_refl _, fun _ _ => rfl⟩
        have HXa := Hd (rtext_any ((Keep.still hdr).at hrd (fun e => e) : RdAt wr.drew rb _) (by omega) (by simp only [List.length_append]; omega))
        have HNa := Hd hinv.nd
        have HWa := Hd hinv.new
        have HLa := Hd (show (x.take k).keys.length = k by show (x.keys.take k).length = k; rw [List.length_take, HM.out]; omega)
        have HVa := Hd HM.out
        have HRl := Hd hrl
        have HSk := Hd hszk
        have HKey := Hd hkey
        clear hr1 hrd hrl hszk hkey hinv hdr
        go_wp2_with (fail)
        obtain ⟨S, hS⟩ : ∃ S : World → Prop, ∀ u, S u ↔ Keep (fun k => k = rb ∨ kv.ownBlock = some k) (wr) u := ⟨fun u => Keep (fun k => k = rb ∨ kv.ownBlock = some k) (wr) u, fun _ => Iff.rfl⟩
        have HS := Hd hS
        clear hS
        refine wp_region_ord 9 [(0, true), (1, true), (2, true), (3, true), (4, true), (5, true), (6, false), (7, false), (8, false)] S (by kernel_rfl) (by kernel_rfl) ((HS.out _).2 (Keep.refl _ _).drew) ?_
        iterate 6
          first
            | (refine wpH_passed rfl (by rfl) (fun K hK => ?_); go_simp; refine hK _ ?_; clear hK K)
            | (first
                 | refine wpH_read rfl rfl (fun K hK => ?_)
                 | refine wpH_readw rfl (by rfl) (fun K hK => ?_)
               apply Exists.intro
               refine ⟨fun u hu => ?_, ?_⟩
               · have hu := (HS.out u).1 hu
                 have hn := hu.at HNa.out.cells (fun e => e.elim HNe.out HNa.out.ne.1)
                 have c1 : u.cell? ⟨nb, 1, none⟩ = some kv := Lib.cell_of_heap hn 1
                 clear hu
                 go_simp
                 exact ⟨rfl, rfl⟩
               go_simp
               refine hK _ ?_
               clear hK K)
        first | refine wpH_do rfl rfl (fun K hK => ?_) | refine wpH_dow rfl (by rfl) (fun K hK => ?_)
        go_simp
        go_at_call 244
        refine (HXa.out).mono ?_
        rintro e wa3 ⟨rfl, hr3, hk3⟩
        have k3 : Keep (fun k => k = rb) wr wa3 := (Keep.refl (fun k => k = rb) wr).drew.trans hk3 (fun _ _ e => e)
        have HRa3 := Hd hr3
        have HKa3 := Hd k3
        refine hK _ _ ((HS.out _).2 (k3.mono (fun _ _ e => .inl e))) ?_
        clear hK K hr3 hk3 k3
        first | refine wpH_do rfl rfl (fun K hK => ?_) | refine wpH_dow rfl (by rfl) (fun K hK => ?_)
        go_simp
        refine hK _ _ ((HS.out _).2 ((HKa3.out.mono (fun _ _ e => .inl e)).alloc _)) ?_
        clear hK K
        have hna := (HNa.out.keep HKa3.out (fun k hk e => (HWa.out k hk).2 e)).still ((Below.refl _ _).alloc (Nat.le_refl _) (.cells #[.string key] 9))
        have HBa := Hd hna
        clear hna
        first | refine wpH_do rfl rfl (fun K hK => ?_) | refine wpH_dow rfl (by rfl) (fun K hK => ?_)
        refine wp_append_at _ _ 22 (by rfl) 0 9 i0 _ 1 16 Tryz.underlying22 HI.out Hz0.out Hz1.out Hz2.out (by rfl) (by decide) _ _ _ (by rfl) HBa.out.keys ⟨wa3.heap.size, 0, none⟩ 1 1 [.string key] (by rfl) (by rfl) (World.news_of_block (cs := #[.string key]) (t := 9) (fr := (0, 0)) (heap_alloc_new wa3 _)) (by simp [Value.oneCell']) (by rw [HLa.out]; unfold maxLen; omega) (by rw [HLa.out]; omega) (Nat.zero_le _) ?_
        intro va wa8 hown8 hg8 hloc
        have hown9 : wa8.ownsRow 0 9 1 va ((x.take k).keys.length + 1) (strV (x.take k).keys ++ [.string key]) := hown8
        rw [HLa.out] at hown9
        obtain ⟨saa, sca, hsl⟩ := slice_formB hown9
        subst hsl
        have HOa := Hd hown9
        have HGa := Hd hg8
        have HQa := Hd hloc
        have kga := (Keep.refl (fun k => kv.ownBlock = some k) _).grown hg8 (fun q _ e => e)
        have kqa : wa8.heap[nb]? = _ := kga.at HBa.out.cells (fun e => HBa.out.ne.1 e)
        have cza : wa8.cell? ⟨nb, 1, none⟩ = some kv := Lib.cell_of_heap kqa 1
        have cfa : wa8.frozen? ⟨nb, 1, none⟩ = false := by simp only [World.frozen?, kqa]; rfl
        refine hK _ _ ((HS.out _).2 (((HKa3.out.mono (fun _ _ e => .inl e)).alloc (.cells #[.string key] 9)).trans kga (fun _ _ e => .inr e))) ?_
        clear hK K hown8 hown9 hg8 hloc kqa kga
        refine wpH_nil ?_
        simp only [List.drop_succ_cons, List.drop_zero]
        clear S HS
        have hrowa : wa8.ownsRow 0 9 1 (.slice saa (k + 1) sca) (x.take (k + 1)).keys.length (strV (x.take (k + 1)).keys) := by
          have h1 := HOa.out
          rw [← HKey.out] at h1
          have e1 : (x.take (k + 1)).keys = (x.take k).keys ++ [x.keys.getD k ⟨#[]⟩] := take_snoc x.keys k ⟨#[]⟩ (by rw [HVa.out]; exact hlt)
          have e2 : (x.take (k + 1)).keys.length = k + 1 := by rw [e1, List.length_append, HLa.out]; rfl
          rw [e2, e1]
          unfold strV at h1 ⊢
          rw [List.map_append]
          exact h1
        obtain ⟨hpa, hkpa⟩ := HBa.out.putKeys ((Keep.refl (fun k => kv.ownBlock = some k) _).grown HGa.out (fun q _ e => e)) hrowa (fun q e => HQa.out.imp (fun e2 => by rw [← e2]; exact e) (fun e2 => by rw [e2] at e; exact Nat.le_of_eq (Option.some.inj e)))
        have hlen2 : x.vals.length = m := by have := HOk.out.vals; rw [HLf.out] at this; rw [← HM.out]; simpa using this
        have hra : RdAt (wa8.setCell ⟨nb, 1, none⟩ (.slice saa (k + 1) sca)) rb _ := hkpa.at ((Keep.still ((Below.refl wa3.heap.size wa3).alloc (Nat.le_refl _) (.cells #[.string key] 9))).at HRa3.out (fun e => e)) (fun e => (HWa.out rb e).2 rfl)
        have hsza : wr.heap.size ≤ wa3.heap.size := HKa3.out.size
        have hown2 : ∀ q, ndOwn nb (.slice saa (k + 1) sca) vv cv q → w.heap.size ≤ q ∧ q ≠ rb := fun q hq => by
          have hrlt : rb < wa3.heap.size := by have := (Gl HRa3.out); omega
          have hge : w.heap.size ≤ wr.heap.size := HI2.out.below.size
          rcases hq with e | e | e | e
          · exact HWa.out q (.inl e)
          · rcases HQa.out with e2 | e2
            · exact HWa.out q (.inr (.inl (by rw [← e2]; exact e)))
            · rw [e2] at e
              have e3 := Option.some.inj e
              simp at e3
              omega
          · exact HWa.out q (.inr (.inr (.inl e)))
          · exact HWa.out q (.inr (.inr (.inr e)))
        have hbel2 : Below w.heap.size w (wa8.setCell ⟨nb, 1, none⟩ (.slice saa (k + 1) sca)) := by
          have h1 := HI2.out.below.trans (HKa3.out.below HI2.out.below.size (fun i hi e => by have := HI2.out.rbn; omega))
          have h2 := h1.alloc h1.size (.cells #[.string key] 9)
          exact h2.trans (hkpa.below h2.size (fun i hi e => by have := (HWa.out i e).1; omega))
        obtain ⟨wm, hwm⟩ : ∃ wm, wa8.setCell ⟨nb, 1, none⟩ (.slice saa (k + 1) sca) = wm := ⟨_, rfl⟩
        rw [hwm] at hpa hra hbel2
        have cl : wm.cell? ⟨nb, 0, none⟩ = some (.bool true) := by
          have := Lib.cell_of_heap hpa.cells 0
          rw [show (#[Value.bool ({ x.take k with keys := (x.take (k + 1)).keys } : Nd).leaf, .slice saa (k + 1) sca, vv, cv])[0]? = some (.bool x.leaf) from rfl, HLf.out] at this
          exact this
        have HNb := Hd hpa
        have HRd2 := Hd hra
        have HWb := Hd hown2
        have HBl2 := Hd hbel2
        have HVb := Hd hlen2
        clear hpa hra hown2 hbel2 hlen2 hsza hrowa hkpa HOa HGa HQa HBa
        obtain ⟨val, hval⟩ : ∃ val, x.vals.getD k ⟨#[]⟩ = val := ⟨_, rfl⟩
        have hv56 : val.size ≤ 56 := by rw [← hval]; exact HOk.out.v56 _ (getD_mem (by rw [HVb.out]; exact hlt))
        have hrd := HRd2.out
        rw [hval, List.append_assoc] at hrd
        have hdr : Below wm.heap.size wm wm.drew := ⟨rfl, rfl, rfl, Nat.le_refl _, fun _ _ => rfl⟩
        have hrl := HRl.out
        have hszk := HSk.out
        rw [hval] at hrl
        have HXb := Hd (rtext_any ((Keep.still hdr).at hrd (fun e => e) : RdAt wm.drew rb _) (by omega) (by simp only [List.length_append]; omega))
        have HKv := Hd hval
        have HLb := Hd (show (x.take k).vals.length = k by show (x.vals.take k).length = k; rw [List.length_take, HVb.out]; omega)
        clear hval hrd hdr hrl hszk
        go_wp2_with (fail)
        obtain ⟨S, hS⟩ : ∃ S : World → Prop, ∀ u, S u ↔ Keep (fun k => k = rb ∨ vv.ownBlock = some k) (wm) u := ⟨fun u => Keep (fun k => k = rb ∨ vv.ownBlock = some k) (wm) u, fun _ => Iff.rfl⟩
        have HS := Hd hS
        clear hS
        refine wp_region_ord 9 [(0, true), (1, true), (2, true), (3, true), (4, true), (5, true), (6, false), (7, false), (8, false)] S (by kernel_rfl) (by kernel_rfl) ((HS.out _).2 (Keep.refl _ _).drew) ?_
        iterate 6
          first
            | (refine wpH_passed rfl (by rfl) (fun K hK => ?_); go_simp; refine hK _ ?_; clear hK K)
            | (first
                 | refine wpH_read rfl rfl (fun K hK => ?_)
                 | refine wpH_readw rfl (by rfl) (fun K hK => ?_)
               apply Exists.intro
               refine ⟨fun u hu => ?_, ?_⟩
               · have hu := (HS.out u).1 hu
                 have hn := hu.at HNb.out.cells (fun e => e.elim HNe.out HNb.out.ne.2.1)
                 have c1 : u.cell? ⟨nb, 2, none⟩ = some vv := Lib.cell_of_heap hn 2
                 clear hu
                 go_simp
                 exact ⟨rfl, rfl⟩
               go_simp
               refine hK _ ?_
               clear hK K)
        first | refine wpH_do rfl rfl (fun K hK => ?_) | refine wpH_dow rfl (by rfl) (fun K hK => ?_)
        go_simp
        go_at_call 244
        refine (HXb.out).mono ?_
        rintro e wb3 ⟨rfl, hr3, hk3⟩
        have k3 : Keep (fun k => k = rb) wm wb3 := (Keep.refl (fun k => k = rb) wm).drew.trans hk3 (fun _ _ e => e)
        have HRb3 := Hd hr3
        have HKb3 := Hd k3
        refine hK _ _ ((HS.out _).2 (k3.mono (fun _ _ e => .inl e))) ?_
        clear hK K hr3 hk3 k3
        first | refine wpH_do rfl rfl (fun K hK => ?_) | refine wpH_dow rfl (by rfl) (fun K hK => ?_)
        go_simp
        refine hK _ _ ((HS.out _).2 ((HKb3.out.mono (fun _ _ e => .inl e)).alloc _)) ?_
        clear hK K
        have hnb := (HNb.out.keep HKb3.out (fun k hk e => (HWb.out k hk).2 e)).still ((Below.refl _ _).alloc (Nat.le_refl _) (.cells #[.string val] 9))
        have HBb := Hd hnb
        clear hnb
        first | refine wpH_do rfl rfl (fun K hK => ?_) | refine wpH_dow rfl (by rfl) (fun K hK => ?_)
        refine wp_append_at _ _ 22 (by rfl) 0 9 i0 _ 1 16 Tryz.underlying22 HI.out Hz0.out Hz1.out Hz2.out (by rfl) (by decide) _ _ _ (by rfl) HBb.out.vals ⟨wb3.heap.size, 0, none⟩ 1 1 [.string val] (by rfl) (by rfl) (World.news_of_block (cs := #[.string val]) (t := 9) (fr := (0, 0)) (heap_alloc_new wb3 _)) (by simp [Value.oneCell']) (by show (x.take k).vals.length + 1 ≤ _; rw [HLb.out]; unfold maxLen; omega) (by show ((x.take k).vals.length + 1) * _ ≤ _; rw [HLb.out]; omega) (Nat.zero_le _) ?_
        intro vb wb8 hown8 hg8 hloc
        have hown9 : wb8.ownsRow 0 9 1 vb ((x.take k).vals.length + 1) (strV (x.take k).vals ++ [.string val]) := hown8
        rw [HLb.out] at hown9
        obtain ⟨sab, scb, hsl⟩ := slice_formB hown9
        subst hsl
        have HOb := Hd hown9
        have HGb := Hd hg8
        have HQb := Hd hloc
        have kgb := (Keep.refl (fun k => vv.ownBlock = some k) _).grown hg8 (fun q _ e => e)
        have kqb : wb8.heap[nb]? = _ := kgb.at HBb.out.cells (fun e => HBb.out.ne.2.1 e)
        have czb : wb8.cell? ⟨nb, 2, none⟩ = some vv := Lib.cell_of_heap kqb 2
        have cfb : wb8.frozen? ⟨nb, 2, none⟩ = false := by simp only [World.frozen?, kqb]; rfl
        refine hK _ _ ((HS.out _).2 (((HKb3.out.mono (fun _ _ e => .inl e)).alloc (.cells #[.string val] 9)).trans kgb (fun _ _ e => .inr e))) ?_
        clear hK K hown8 hown9 hg8 hloc kqb kgb
        refine wpH_nil ?_
        simp only [List.drop_succ_cons, List.drop_zero]
        clear S HS
        have hrowb : wb8.ownsRow 0 9 1 (.slice sab (k + 1) scb) (x.take (k + 1)).vals.length (strV (x.take (k + 1)).vals) := by
          have h1 := HOb.out
          rw [← HKv.out] at h1
          have e1 : (x.take (k + 1)).vals = (x.take k).vals ++ [x.vals.getD k ⟨#[]⟩] := take_snoc x.vals k ⟨#[]⟩ (by rw [HVb.out]; exact hlt)
          have e2 : (x.take (k + 1)).vals.length = k + 1 := by rw [e1, List.length_append, HLb.out]; rfl
          rw [e2, e1]
          unfold strV at h1 ⊢
          rw [List.map_append]
          exact h1
        obtain ⟨hpb, hkpb⟩ := HBb.out.putVals ((Keep.refl (fun k => vv.ownBlock = some k) _).grown HGb.out (fun q _ e => e)) hrowb (fun q e => HQb.out.imp (fun e2 => by rw [← e2]; exact e) (fun e2 => by rw [e2] at e; exact Nat.le_of_eq (Option.some.inj e)))
        have hxe : ({ ({ x.take k with keys := (x.take (k + 1)).keys } : Nd) with vals := (x.take (k + 1)).vals } : Nd) = x.take (k + 1) := by
          have h0 : x.kids = [] := List.length_eq_zero_iff.1 (by have := HOk.out.kids; rw [HLf.out] at this; simpa using this)
          unfold Nd.take
          rw [h0]
          simp
        have hfin : PInv w (wb8.setCell ⟨nb, 2, none⟩ (.slice sab (k + 1) scb)) rb nb (.slice saa (k + 1) sca) (.slice sab (k + 1) scb) cv x t (k + 1) := by
          rw [hxe] at hpb
          refine ⟨hpb, hkpb.at ((Keep.still ((Below.refl wb3.heap.size wb3).alloc (Nat.le_refl _) (.cells #[.string val] 9))).at HRb3.out (fun e => e)) (fun e => (HWb.out rb e).2 rfl), fun q hq => ?_, ?_, HI2.out.rbn⟩
          · have hrlt : rb < wb3.heap.size := by have := (Gl HRb3.out); omega
            have hge : w.heap.size ≤ wm.heap.size := HBl2.out.size
            have hge2 : wm.heap.size ≤ wb3.heap.size := HKb3.out.size
            have hnew : (Value.slice sab (k + 1) scb).ownBlock = some q → w.heap.size ≤ q ∧ q ≠ rb := fun e => by
              rcases HQb.out with e2 | e2
              · exact HWb.out q (.inr (.inr (.inl (by rw [← e2]; exact e))))
              · rw [e2] at e
                have e3 := Option.some.inj e
                simp at e3
                omega
            rcases hq with e | e | e | e
            · exact HWb.out q (.inl e)
            · exact HWb.out q (.inr (.inl e))
            · exact hnew e
            · exact HWb.out q (.inr (.inr (.inr e)))
          · have h1 := HBl2.out.trans (HKb3.out.below HBl2.out.size (fun i hi e => by have := HI2.out.rbn; omega))
            have h2 := h1.alloc h1.size (.cells #[.string val] 9)
            exact h2.trans (hkpb.below h2.size (fun i hi e => by have := (HWb.out i e).1; omega))
        have HFi := Hd hfin
        clear hfin hpb hkpb hxe hrowb
        go_wp2
        go_roundw
        case rel => exact ⟨k + 1, _, _, _, by omega, rfl, HFi.out⟩
        case measure => simp [intOf]; omega
      · have g1 : decide ((k : Int) < (m : Int)) = false := by simp; omega
        have g1' : decide (k < m) = false := by simpa using hlt
        have hkm : k = m := by omega
        have hnd := hinv.nd
        have htk : x.take k = x := by
          unfold Nd.take
          rw [hkm, ← HM.out, List.take_length, List.take_of_length_le (by have := HOk.out.vals; rw [HLf.out] at this; simp only [if_true] at this; omega), List.take_of_length_le (by have := HOk.out.kids; rw [HLf.out] at this; simp only [if_true] at this; omega)]
        rw [htk] at hnd
        have HNd := Hd hnd
        have HNw := Hd hinv.new
        have HBl := Hd hinv.below
        obtain ⟨ka, kc, hkv⟩ : ∃ a c, kv = .slice a m c := by
          obtain ⟨a, c, e, _⟩ := slice_form hnd.keys
          rw [HM.out] at e
          exact ⟨a, c, e⟩
        subst hkv
        have cl : wr.cell? ⟨nb, 0, none⟩ = some (.bool true) := by
          have := Lib.cell_of_heap hnd.cells 0
          rw [HLf.out] at this
          exact this
        have c1 : wr.cell? ⟨nb, 1, none⟩ = some (.slice ka m kc) := Lib.cell_of_heap hnd.cells 1
        have g2 : decide ((0 : Int) < (m : Int)) = true := by simp; omega
        have g2' : decide (0 < m) = true := by simpa using hm0
        clear hinv hnd htk
        go_wp2
        go_quiet (fail)
        go_wp2
        go_ret2
        exact ⟨nb, _, _, _, rfl, HNd.out.still ⟨rfl, rfl, rfl, Nat.le_refl _, fun _ _ => rfl⟩, fun q hq => (HNw.out q hq).1, HBl.out.trans (Below.mono ⟨rfl, rfl, rfl, Nat.le_refl _, fun _ _ => rfl⟩ HBl.out.size)⟩
  | false =>
    have hbk : bs [78] = ⟨#[78]⟩ := rfl
    simp only [Bool.false_eq_true, if_false] at HA
    rw [hbk] at HA
    clear hbk
    go_enter Tryz.func205, Tryz.ntmps205
    go_wp2_with (fail)
    refine (HA.out).mono ?_
    rintro e w1 ⟨rfl, hr1, hk1⟩
    have hba : Below w.heap.size w (w1.alloc (.cells #[.bool false, .slice none 0 0, .slice none 0 0, .slice none 0 0] 247)) := by
      have h1 := HBa.out.trans (hk1.below HBa.out.size (fun i hi e => by omega))
      exact h1.alloc h1.size _
    have hlt1 : w.heap.size < w1.heap.size := by have := hk1.size; simp at this; omega
    have hrx : RdAt (w1.alloc (.cells #[.bool false, .slice none 0 0, .slice none 0 0, .slice none 0 0] 247)) w.heap.size _ := (Keep.still ((Below.refl w1.heap.size w1).alloc (Nat.le_refl _) (.cells #[.bool false, .slice none 0 0, .slice none 0 0, .slice none 0 0] 247))).at hr1 (fun e => e)
    have HT := Hd (HT2.out _ _ hrx)
    have HBb := Hd hba
    have hnn := heap_alloc_new w1 (.cells #[.bool false, .slice none 0 0, .slice none 0 0, .slice none 0 0] 247)
    obtain ⟨w2, hw2⟩ : ∃ w2, w1.alloc (.cells #[.bool false, .slice none 0 0, .slice none 0 0, .slice none 0 0] 247) = w2 := ⟨_, rfl⟩
    obtain ⟨nb, hnb⟩ : ∃ nb, w1.heap.size = nb := ⟨_, rfl⟩
    obtain ⟨rb, hrb⟩ : ∃ rb, w.heap.size = rb := ⟨_, rfl⟩
    rw [hw2, hnb] at hnn
    rw [hw2] at HBb HT
    rw [hnb, hrb] at hlt1
    rw [hrb] at HT
    have HNn := Hd hnn
    have HRb := Hd hrb
    clear hr1 hk1 hba hrx hnn
    go_wp2_with (fail)
    try rw [hw2]
    try rw [hnb]
    try rw [hrb]
    refine (HT.out).mono ?_
    rintro e w3 ⟨rfl, hr2, hk2⟩
    have HNe := Hd (show nb ≠ rb by omega)
    have hin : PInv w w3 rb nb (.slice none 0 0) (.slice none 0 0) (.slice none 0 0) x t 0 := by
      have h2 := hk2.at HNn.out HNe.out
      refine ⟨⟨by rw [h2]; show some (Obj.cells #[.bool false, _, _, _] _ _) = some (Obj.cells #[.bool x.leaf, _, _, _] _ _); rw [HLf.out], World.ownsRow_nil _ _ _ _, World.ownsRow_nil _ _ _ _, World.ownsRow_nil _ _ _ _, ⟨(fun e => by cases e), (fun e => by cases e), (fun e => by cases e)⟩, ⟨(fun k e => by cases e), (fun k e => by cases e)⟩⟩, hr2, fun k hk => ?_, HBb.out.trans (hk2.below HBb.out.size (fun i hi e => by have := HRb.out; omega)), Nat.le_of_eq HRb.out⟩
      rcases hk with e | e | e | e
      · have := HRb.out; omega
      · cases e
      · cases e
      · cases e
    have HIn := Hd hin
    clear hin hr2 hk2 hw2 hnb hrb HA HBa HT1 HT2 HNn
    go_wp2
    go_loopw [18] (fun i wr => ∃ (k : Nat) (kv vv cv : Value), k ≤ m ∧ i = .int .i64 k ∧ PInv w wr rb nb kv vv cv x t k) (fun i _ => m - (intOf i).toNat)
    case atStart => exact ⟨0, _, _, _, by omega, rfl, HIn.out⟩
    case round =>
      obtain ⟨k, kv, vv, cv, hk, rfl, hinv⟩ := hrel
      have HI2 := Hd hinv
      have cb : wr.cell? ⟨rb, 1, none⟩ = some (.bool false) := Lib.cell_of_heap hinv.rd 1
      by_cases hlt : k < m
      · have g1 : decide ((k : Int) < (m : Int)) = true := by simp; omega
        have g1' : decide (k < m) = true := by simpa using hlt
        have hr1 := x.rest_one k (by rw [HM.out]; exact hlt)
        rw [HLf.out] at hr1
        simp only [Bool.false_eq_true, if_false] at hr1
        have hrl := x.rest_le k (by rw [HM.out]; omega)
        have hszk := HSz.out
        rw [List.length_append] at hszk
        obtain ⟨key, hkey⟩ : ∃ key, x.keys.getD k ⟨#[]⟩ = key := ⟨_, rfl⟩
        have hk96 : key.size ≤ 96 := by rw [← hkey]; exact HOk.out.k96 _ (getD_mem (by rw [HM.out]; exact hlt))
        have hrd := hinv.rd
        rw [hr1, hkey, List.append_assoc] at hrd
        rw [hr1, hkey] at hrl
        simp only [List.length_append] at hrl
        have hdr : Below wr.heap.size wr wr.drew := ⟨rfl, rfl, rfl, Nat.le_refl _, fun _ _ => rfl⟩
        have HXa := Hd (rtext_any ((Keep.still hdr).at hrd (fun e => e) : RdAt wr.drew rb _) (by omega) (by simp only [List.length_append]; omega))
        have HNa := Hd hinv.nd
        have HWa := Hd hinv.new
        have HLa := Hd (show (x.take k).keys.length = k by show (x.keys.take k).length = k; rw [List.length_take, HM.out]; omega)
        have HVa := Hd HM.out
        have HRl := Hd hrl
        have HSk := Hd hszk
        have HKey := Hd hkey
        clear hr1 hrd hrl hszk hkey hinv hdr
        go_wp2_with (fail)
        obtain ⟨S, hS⟩ : ∃ S : World → Prop, ∀ u, S u ↔ Keep (fun k => k = rb ∨ kv.ownBlock = some k) (wr) u := ⟨fun u => Keep (fun k => k = rb ∨ kv.ownBlock = some k) (wr) u, fun _ => Iff.rfl⟩
        have HS := Hd hS
        clear hS
        refine wp_region_ord 9 [(0, true), (1, true), (2, true), (3, true), (4, true), (5, true), (6, false), (7, false), (8, false)] S (by kernel_rfl) (by kernel_rfl) ((HS.out _).2 (Keep.refl _ _).drew) ?_
        iterate 6
          first
            | (refine wpH_passed rfl (by rfl) (fun K hK => ?_); go_simp; refine hK _ ?_; clear hK K)
            | (first
                 | refine wpH_read rfl rfl (fun K hK => ?_)
                 | refine wpH_readw rfl (by rfl) (fun K hK => ?_)
               apply Exists.intro
               refine ⟨fun u hu => ?_, ?_⟩
               · have hu := (HS.out u).1 hu
                 have hn := hu.at HNa.out.cells (fun e => e.elim HNe.out HNa.out.ne.1)
                 have c1 : u.cell? ⟨nb, 1, none⟩ = some kv := Lib.cell_of_heap hn 1
                 clear hu
                 go_simp
                 exact ⟨rfl, rfl⟩
               go_simp
               refine hK _ ?_
               clear hK K)
        first | refine wpH_do rfl rfl (fun K hK => ?_) | refine wpH_dow rfl (by rfl) (fun K hK => ?_)
        go_simp
        go_at_call 244
        refine (HXa.out).mono ?_
        rintro e wa3 ⟨rfl, hr3, hk3⟩
        have k3 : Keep (fun k => k = rb) wr wa3 := (Keep.refl (fun k => k = rb) wr).drew.trans hk3 (fun _ _ e => e)
        have HRa3 := Hd hr3
        have HKa3 := Hd k3
        refine hK _ _ ((HS.out _).2 (k3.mono (fun _ _ e => .inl e))) ?_
        clear hK K hr3 hk3 k3
        first | refine wpH_do rfl rfl (fun K hK => ?_) | refine wpH_dow rfl (by rfl) (fun K hK => ?_)
        go_simp
        refine hK _ _ ((HS.out _).2 ((HKa3.out.mono (fun _ _ e => .inl e)).alloc _)) ?_
        clear hK K
        have hna := (HNa.out.keep HKa3.out (fun k hk e => (HWa.out k hk).2 e)).still ((Below.refl _ _).alloc (Nat.le_refl _) (.cells #[.string key] 9))
        have HBa := Hd hna
        clear hna
        first | refine wpH_do rfl rfl (fun K hK => ?_) | refine wpH_dow rfl (by rfl) (fun K hK => ?_)
        refine wp_append_at _ _ 22 (by rfl) 0 9 i0 _ 1 16 Tryz.underlying22 HI.out Hz0.out Hz1.out Hz2.out (by rfl) (by decide) _ _ _ (by rfl) HBa.out.keys ⟨wa3.heap.size, 0, none⟩ 1 1 [.string key] (by rfl) (by rfl) (World.news_of_block (cs := #[.string key]) (t := 9) (fr := (0, 0)) (heap_alloc_new wa3 _)) (by simp [Value.oneCell']) (by rw [HLa.out]; unfold maxLen; omega) (by rw [HLa.out]; omega) (Nat.zero_le _) ?_
        intro va wa8 hown8 hg8 hloc
        have hown9 : wa8.ownsRow 0 9 1 va ((x.take k).keys.length + 1) (strV (x.take k).keys ++ [.string key]) := hown8
        rw [HLa.out] at hown9
        obtain ⟨saa, sca, hsl⟩ := slice_formB hown9
        subst hsl
        have HOa := Hd hown9
        have HGa := Hd hg8
        have HQa := Hd hloc
        have kga := (Keep.refl (fun k => kv.ownBlock = some k) _).grown hg8 (fun q _ e => e)
        have kqa : wa8.heap[nb]? = _ := kga.at HBa.out.cells (fun e => HBa.out.ne.1 e)
        have cza : wa8.cell? ⟨nb, 1, none⟩ = some kv := Lib.cell_of_heap kqa 1
        have cfa : wa8.frozen? ⟨nb, 1, none⟩ = false := by simp only [World.frozen?, kqa]; rfl
        refine hK _ _ ((HS.out _).2 (((HKa3.out.mono (fun _ _ e => .inl e)).alloc (.cells #[.string key] 9)).trans kga (fun _ _ e => .inr e))) ?_
        clear hK K hown8 hown9 hg8 hloc kqa kga
        refine wpH_nil ?_
        simp only [List.drop_succ_cons, List.drop_zero]
        clear S HS
        have hrowa : wa8.ownsRow 0 9 1 (.slice saa (k + 1) sca) (x.take (k + 1)).keys.length (strV (x.take (k + 1)).keys) := by
          have h1 := HOa.out
          rw [← HKey.out] at h1
          have e1 : (x.take (k + 1)).keys = (x.take k).keys ++ [x.keys.getD k ⟨#[]⟩] := take_snoc x.keys k ⟨#[]⟩ (by rw [HVa.out]; exact hlt)
          have e2 : (x.take (k + 1)).keys.length = k + 1 := by rw [e1, List.length_append, HLa.out]; rfl
          rw [e2, e1]
          unfold strV at h1 ⊢
          rw [List.map_append]
          exact h1
        obtain ⟨hpa, hkpa⟩ := HBa.out.putKeys ((Keep.refl (fun k => kv.ownBlock = some k) _).grown HGa.out (fun q _ e => e)) hrowa (fun q e => HQa.out.imp (fun e2 => by rw [← e2]; exact e) (fun e2 => by rw [e2] at e; exact Nat.le_of_eq (Option.some.inj e)))
        have hlen2 : x.kids.length = m := by have := HOk.out.kids; rw [HLf.out] at this; rw [← HM.out]; simpa using this
        have hra : RdAt (wa8.setCell ⟨nb, 1, none⟩ (.slice saa (k + 1) sca)) rb _ := hkpa.at ((Keep.still ((Below.refl wa3.heap.size wa3).alloc (Nat.le_refl _) (.cells #[.string key] 9))).at HRa3.out (fun e => e)) (fun e => (HWa.out rb e).2 rfl)
        have hsza : wr.heap.size ≤ wa3.heap.size := HKa3.out.size
        have hown2 : ∀ q, ndOwn nb (.slice saa (k + 1) sca) vv cv q → w.heap.size ≤ q ∧ q ≠ rb := fun q hq => by
          have hrlt : rb < wa3.heap.size := by have := (Gl HRa3.out); omega
          have hge : w.heap.size ≤ wr.heap.size := HI2.out.below.size
          rcases hq with e | e | e | e
          · exact HWa.out q (.inl e)
          · rcases HQa.out with e2 | e2
            · exact HWa.out q (.inr (.inl (by rw [← e2]; exact e)))
            · rw [e2] at e
              have e3 := Option.some.inj e
              simp at e3
              omega
          · exact HWa.out q (.inr (.inr (.inl e)))
          · exact HWa.out q (.inr (.inr (.inr e)))
        have hbel2 : Below w.heap.size w (wa8.setCell ⟨nb, 1, none⟩ (.slice saa (k + 1) sca)) := by
          have h1 := HI2.out.below.trans (HKa3.out.below HI2.out.below.size (fun i hi e => by have := HI2.out.rbn; omega))
          have h2 := h1.alloc h1.size (.cells #[.string key] 9)
          exact h2.trans (hkpa.below h2.size (fun i hi e => by have := (HWa.out i e).1; omega))
        obtain ⟨wm, hwm⟩ : ∃ wm, wa8.setCell ⟨nb, 1, none⟩ (.slice saa (k + 1) sca) = wm := ⟨_, rfl⟩
        rw [hwm] at hpa hra hbel2
        have cl : wm.cell? ⟨nb, 0, none⟩ = some (.bool false) := by
          have := Lib.cell_of_heap hpa.cells 0
          rw [show (#[Value.bool ({ x.take k with keys := (x.take (k + 1)).keys } : Nd).leaf, .slice saa (k + 1) sca, vv, cv])[0]? = some (.bool x.leaf) from rfl, HLf.out] at this
          exact this
        have HNb := Hd hpa
        have HRd2 := Hd hra
        have HWb := Hd hown2
        have HBl2 := Hd hbel2
        have HVb := Hd hlen2
        clear hpa hra hown2 hbel2 hlen2 hsza hrowa hkpa HOa HGa HQa HBa
        obtain ⟨kid, hval⟩ : ∃ kid, x.kids.getD k 0 = kid := ⟨_, rfl⟩
        have hv56 : kid < 65536 := by rw [← hval]; exact HOk.out.c32 _ (getD_mem (by rw [HVb.out]; exact hlt))
        have hrd := HRd2.out
        rw [hval, List.append_assoc] at hrd
        have hdr : Below wm.heap.size wm wm.drew := ⟨rfl, rfl, rfl, Nat.le_refl _, fun _ _ => rfl⟩
        have hrl := HRl.out
        have hszk := HSk.out
        rw [hval] at hrl
        have hxb := num_any (n := 4) ((Keep.still hdr).at hrd (fun e => e) : RdAt wm.drew rb _) rfl (by decide) (by simp only [List.length_append]; omega)
        rw [beN_be4 kid (by omega)] at hxb
        have HXb := Hd hxb
        have HKv := Hd hval
        clear hxb
        have HLb := Hd (show (x.take k).kids.length = k by show (x.kids.take k).length = k; rw [List.length_take, HVb.out]; omega)
        clear hval hrd hdr hrl hszk
        go_wp2_with (fail)
        obtain ⟨S, hS⟩ : ∃ S : World → Prop, ∀ u, S u ↔ Keep (fun k => k = rb ∨ cv.ownBlock = some k) (wm) u := ⟨fun u => Keep (fun k => k = rb ∨ cv.ownBlock = some k) (wm) u, fun _ => Iff.rfl⟩
        have HS := Hd hS
        clear hS
        refine wp_region_ord 9 [(0, true), (1, true), (2, true), (3, true), (4, true), (5, true), (6, false), (7, false), (8, false)] S (by kernel_rfl) (by kernel_rfl) ((HS.out _).2 (Keep.refl _ _).drew) ?_
        iterate 6
          first
            | (refine wpH_passed rfl (by rfl) (fun K hK => ?_); go_simp; refine hK _ ?_; clear hK K)
            | (first
                 | refine wpH_read rfl rfl (fun K hK => ?_)
                 | refine wpH_readw rfl (by rfl) (fun K hK => ?_)
               apply Exists.intro
               refine ⟨fun u hu => ?_, ?_⟩
               · have hu := (HS.out u).1 hu
                 have hn := hu.at HNb.out.cells (fun e => e.elim HNe.out HNb.out.ne.2.2)
                 have c1 : u.cell? ⟨nb, 3, none⟩ = some cv := Lib.cell_of_heap hn 3
                 clear hu
                 go_simp
                 exact ⟨rfl, rfl⟩
               go_simp
               refine hK _ ?_
               clear hK K)
        first | refine wpH_do rfl rfl (fun K hK => ?_) | refine wpH_dow rfl (by rfl) (fun K hK => ?_)
        go_simp
        go_at_call 243
        refine (HXb.out).mono ?_
        rintro e wb3 ⟨rfl, hr3, hk3⟩
        have k3 : Keep (fun k => k = rb) wm wb3 := (Keep.refl (fun k => k = rb) wm).drew.trans hk3 (fun _ _ e => e)
        have HRb3 := Hd hr3
        have HKb3 := Hd k3
        refine hK _ _ ((HS.out _).2 (k3.mono (fun _ _ e => .inl e))) ?_
        clear hK K hr3 hk3 k3
        first | refine wpH_do rfl rfl (fun K hK => ?_) | refine wpH_dow rfl (by rfl) (fun K hK => ?_)
        go_simp
        refine hK _ _ ((HS.out _).2 ((HKb3.out.mono (fun _ _ e => .inl e)).alloc _)) ?_
        clear hK K
        have hnb := (HNb.out.keep HKb3.out (fun k hk e => (HWb.out k hk).2 e)).still ((Below.refl _ _).alloc (Nat.le_refl _) (.cells #[.int .i64 (kid : Int)] 3))
        have HBb := Hd hnb
        clear hnb
        first | refine wpH_do rfl rfl (fun K hK => ?_) | refine wpH_dow rfl (by rfl) (fun K hK => ?_)
        refine wp_append_at _ _ 68 (by rfl) 0 3 j0 _ 1 8 Tryz.underlying68 HJ.out Hy0.out Hy1.out Hy2.out (by rfl) (by decide) _ _ _ (by rfl) HBb.out.kids ⟨wb3.heap.size, 0, none⟩ 1 1 [.int .i64 (kid : Int)] (by rfl) (by rfl) (World.news_of_block (cs := #[.int .i64 (kid : Int)]) (t := 3) (fr := (0, 0)) (heap_alloc_new wb3 _)) (by simp [Value.oneCell']) (by show (x.take k).kids.length + 1 ≤ _; rw [HLb.out]; unfold maxLen; omega) (by show ((x.take k).kids.length + 1) * _ ≤ _; rw [HLb.out]; omega) (Nat.zero_le _) ?_
        intro vb wb8 hown8 hg8 hloc
        have hown9 : wb8.ownsRow 0 3 1 vb ((x.take k).kids.length + 1) (intV (x.take k).kids ++ [.int .i64 (kid : Int)]) := hown8
        rw [HLb.out] at hown9
        obtain ⟨sab, scb, hsl⟩ := slice_formB hown9
        subst hsl
        have HOb := Hd hown9
        have HGb := Hd hg8
        have HQb := Hd hloc
        have kgb := (Keep.refl (fun k => cv.ownBlock = some k) _).grown hg8 (fun q _ e => e)
        have kqb : wb8.heap[nb]? = _ := kgb.at HBb.out.cells (fun e => HBb.out.ne.2.2 e)
        have czb : wb8.cell? ⟨nb, 3, none⟩ = some cv := Lib.cell_of_heap kqb 3
        have cfb : wb8.frozen? ⟨nb, 3, none⟩ = false := by simp only [World.frozen?, kqb]; rfl
        refine hK _ _ ((HS.out _).2 (((HKb3.out.mono (fun _ _ e => .inl e)).alloc (.cells #[.int .i64 (kid : Int)] 3)).trans kgb (fun _ _ e => .inr e))) ?_
        clear hK K hown8 hown9 hg8 hloc kqb kgb
        refine wpH_nil ?_
        simp only [List.drop_succ_cons, List.drop_zero]
        clear S HS
        have hrowb : wb8.ownsRow 0 3 1 (.slice sab (k + 1) scb) (x.take (k + 1)).kids.length (intV (x.take (k + 1)).kids) := by
          have h1 := HOb.out
          rw [← HKv.out] at h1
          have e1 : (x.take (k + 1)).kids = (x.take k).kids ++ [x.kids.getD k 0] := take_snoc x.kids k 0 (by rw [HVb.out]; exact hlt)
          have e2 : (x.take (k + 1)).kids.length = k + 1 := by rw [e1, List.length_append, HLb.out]; rfl
          rw [e2, e1]
          unfold intV at h1 ⊢
          rw [List.map_append]
          exact h1
        obtain ⟨hpb, hkpb⟩ := HBb.out.putKids ((Keep.refl (fun k => cv.ownBlock = some k) _).grown HGb.out (fun q _ e => e)) hrowb (fun q e => HQb.out.imp (fun e2 => by rw [← e2]; exact e) (fun e2 => by rw [e2] at e; exact Nat.le_of_eq (Option.some.inj e)))
        have hxe : ({ ({ x.take k with keys := (x.take (k + 1)).keys } : Nd) with kids := (x.take (k + 1)).kids } : Nd) = x.take (k + 1) := by
          have h0 : x.vals = [] := List.length_eq_zero_iff.1 (by have := HOk.out.vals; rw [HLf.out] at this; simpa using this)
          unfold Nd.take
          rw [h0]
          simp
        have hfin : PInv w (wb8.setCell ⟨nb, 3, none⟩ (.slice sab (k + 1) scb)) rb nb (.slice saa (k + 1) sca) vv (.slice sab (k + 1) scb) x t (k + 1) := by
          rw [hxe] at hpb
          refine ⟨hpb, hkpb.at ((Keep.still ((Below.refl wb3.heap.size wb3).alloc (Nat.le_refl _) (.cells #[.int .i64 (kid : Int)] 3))).at HRb3.out (fun e => e)) (fun e => (HWb.out rb e).2 rfl), fun q hq => ?_, ?_, HI2.out.rbn⟩
          · have hrlt : rb < wb3.heap.size := by have := (Gl HRb3.out); omega
            have hge : w.heap.size ≤ wm.heap.size := HBl2.out.size
            have hge2 : wm.heap.size ≤ wb3.heap.size := HKb3.out.size
            have hnew : (Value.slice sab (k + 1) scb).ownBlock = some q → w.heap.size ≤ q ∧ q ≠ rb := fun e => by
              rcases HQb.out with e2 | e2
              · exact HWb.out q (.inr (.inr (.inr (by rw [← e2]; exact e))))
              · rw [e2] at e
                have e3 := Option.some.inj e
                simp at e3
                omega
            rcases hq with e | e | e | e
            · exact HWb.out q (.inl e)
            · exact HWb.out q (.inr (.inl e))
            · exact HWb.out q (.inr (.inr (.inl e)))
            · exact hnew e
          · have h1 := HBl2.out.trans (HKb3.out.below HBl2.out.size (fun i hi e => by have := HI2.out.rbn; omega))
            have h2 := h1.alloc h1.size (.cells #[.int .i64 (kid : Int)] 3)
            exact h2.trans (hkpb.below h2.size (fun i hi e => by have := (HWb.out i e).1; omega))
        have HFi := Hd hfin
        clear hfin hpb hkpb hxe hrowb
        go_wp2
        go_roundw
        case rel => exact ⟨k + 1, _, _, _, by omega, rfl, HFi.out⟩
        case measure => simp [intOf]; omega
      · have g1 : decide ((k : Int) < (m : Int)) = false := by simp; omega
        have g1' : decide (k < m) = false := by simpa using hlt
        have hkm : k = m := by omega
        have hnd := hinv.nd
        have htk : x.take k = x := by
          unfold Nd.take
          rw [hkm, ← HM.out, List.take_length, List.take_of_length_le (by have := HOk.out.vals; rw [HLf.out] at this; simp only [Bool.false_eq_true, if_false] at this; omega), List.take_of_length_le (by have := HOk.out.kids; rw [HLf.out] at this; simp only [Bool.false_eq_true, if_false] at this; omega)]
        rw [htk] at hnd
        have HNd := Hd hnd
        have HNw := Hd hinv.new
        have HBl := Hd hinv.below
        obtain ⟨ka, kc, hkv⟩ : ∃ a c, kv = .slice a m c := by
          obtain ⟨a, c, e, _⟩ := slice_form hnd.keys
          rw [HM.out] at e
          exact ⟨a, c, e⟩
        subst hkv
        have cl : wr.cell? ⟨nb, 0, none⟩ = some (.bool false) := by
          have := Lib.cell_of_heap hnd.cells 0
          rw [HLf.out] at this
          exact this
        have c1 : wr.cell? ⟨nb, 1, none⟩ = some (.slice ka m kc) := Lib.cell_of_heap hnd.cells 1
        have g2 : decide ((0 : Int) < (m : Int)) = true := by simp; omega
        have g2' : decide (0 < m) = true := by simpa using hm0
        clear hinv hnd htk
        go_wp2
        go_quiet (fail)
        go_wp2
        go_ret2
        exact ⟨nb, _, _, _, rfl, HNd.out.still ⟨rfl, rfl, rfl, Nat.le_refl _, fun _ _ => rfl⟩, fun q hq => (HNw.out q hq).1, HBl.out.trans (Below.mono ⟨rfl, rfl, rfl, Nat.le_refl _, fun _ _ => rfl⟩ HBl.out.size)⟩
end Go.Proofs.YtaokjeokpifjgaaGreatDoor

namespace Go.Proofs.YtaokjeokpifjgaaGreatDoor
open Go.RowKit Go.MapKept
attribute [local go_sem] gives givesH
set_option maxRecDepth 100000

theorem strV_length (l : List ByteArray) : (strV l).length = l.length := by unfold strV; rw [List.length_map]
theorem intV_length (l : List Nat) : (intV l).length = l.length := by unfold intV; rw [List.length_map]
theorem strV_get (l : List ByteArray) (i : Nat) (h : i < l.length) : (strV l)[i]? = some (.string (l.getD i ⟨#[]⟩)) := by
  unfold strV
  rw [List.getElem?_map, List.getElem?_eq_getElem h, getD_of_lt l i ⟨#[]⟩ h]
  rfl
theorem intV_get (l : List Nat) (i : Nat) (h : i < l.length) : (intV l)[i]? = some (.int .i64 ((l.getD i 0 : Nat) : Int)) := by
  unfold intV
  rw [List.getElem?_map, List.getElem?_eq_getElem h, getD_of_lt l i 0 h]
  rfl
theorem Nd.upto_succ (x : Nd) (i : Nat) : x.upto (i + 1) = x.upto i + (1 + (x.keys.getD i ⟨#[]⟩).size + (if x.leaf then 1 + (x.vals.getD i ⟨#[]⟩).size else 4)) := by
  show x.upto i + (x.ent i).length = _
  unfold Nd.ent
  rw [entB_length]
theorem NdR.rows {w : World} {b : Nat} {x : Nd} (h : NdR w b x) : ∃ kv vv cv, w.cell? ⟨b, 0, none⟩ = some (.bool x.leaf) ∧ w.cell? ⟨b, 1, none⟩ = some kv ∧ w.cell? ⟨b, 2, none⟩ = some vv ∧ w.cell? ⟨b, 3, none⟩ = some cv ∧
    (∃ a b1 o c, kv = .slice a x.keys.length c ∧ (0 < x.keys.length → a = some ⟨b1, o, none⟩ ∧ b1 < w.heap.size) ∧ ∀ i, i < x.keys.length → w.cell? ⟨b1, o + i, none⟩ = some (.string (x.keys.getD i ⟨#[]⟩))) ∧
    (∃ a b1 o c, vv = .slice a x.vals.length c ∧ (0 < x.vals.length → a = some ⟨b1, o, none⟩ ∧ b1 < w.heap.size) ∧ ∀ i, i < x.vals.length → w.cell? ⟨b1, o + i, none⟩ = some (.string (x.vals.getD i ⟨#[]⟩))) ∧
    ∃ a b1 o c, cv = .slice a x.kids.length c ∧ (0 < x.kids.length → a = some ⟨b1, o, none⟩ ∧ b1 < w.heap.size) ∧ ∀ i, i < x.kids.length → w.cell? ⟨b1, o + i, none⟩ = some (.int .i64 ((x.kids.getD i 0 : Nat) : Int)) := by
  obtain ⟨kv, vv, cv, c0, c1, c2, c3, ⟨a1, b1, o1, p1, e1, h1, q1⟩, ⟨a2, b2, o2, p2, e2, h2, q2⟩, ⟨a3, b3, o3, p3, e3, h3, q3⟩⟩ := h.node
  rw [strV_length] at e1 h1 e2 h2
  rw [intV_length] at e3 h3
  exact ⟨kv, vv, cv, c0, c1, c2, c3, ⟨a1, b1, o1, p1, e1, h1, fun i hi => q1 i _ (strV_get _ i hi)⟩, ⟨a2, b2, o2, p2, e2, h2, fun i hi => q2 i _ (strV_get _ i hi)⟩, ⟨a3, b3, o3, p3, e3, h3, fun i hi => q3 i _ (intV_get _ i hi)⟩⟩
set_option maxHeartbeats 1000000 in
theorem size_any {w : World} {b : Nat} {x : Nd} (h : NdR w b x) (ok : x.okS) (hl : x.keys.length < 65536) :
    Calls Tryz.prog 212 #[.pointer (some ⟨b, 0, none⟩)] w fun e w' => e = .returned (.int .i64 x.size) ∧ w = w' := by
  obtain ⟨kv, vv, cv, c0, c1, c2, c3, ⟨a1, b1, o1, p1, rfl, h1, q1⟩, ⟨a2, b2, o2, p2, rfl, h2, q2⟩, _⟩ := h.rows
  obtain ⟨m, hm⟩ : ∃ m, x.keys.length = m := ⟨_, rfl⟩
  have hup : ∀ j, j ≤ m → x.upto j ≤ 3 + 154 * 65536 := fun j hj => by
    have h3 := (Nd.upto_le ok 0 j (Nat.zero_le _) (by omega)).2
    have h4 : x.upto 0 = 3 := rfl
    have h5 : x.most ≤ 154 := by unfold Nd.most; split <;> omega
    have h6 : x.most * (j - 0) ≤ 154 * 65536 := Nat.mul_le_mul h5 (by omega)
    omega
  have hsz := x.size_upto
  rw [hm] at hl h1 q1 hsz c1
  have HU := Hd hup
  have HS := Hd (fun j => x.upto_succ j)
  have H1 := Hd h1
  have H2 := Hd h2
  have Q1 := Hd q1
  have Q2 := Hd q2
  have HSz := Hd hsz
  have HOk := Hd ok
  have HM := Hd hm
  clear h hup h1 h2 q1 q2 hsz ok hm
  go_enter Tryz.func212, Tryz.ntmps212
  go_wp2
  go_loop [3, 11] (fun s i => ∃ j : Nat, j ≤ m ∧ i = .int .i64 j ∧ s = .int .i64 (x.upto j)) (fun _ i => m - (intOf i).toNat)
  case atStart => exact ⟨0, by omega, rfl, rfl⟩
  case round =>
    obtain ⟨j, hj, rfl, rfl⟩ := hrel
    by_cases hlt : j < m
    · have g1 : decide ((j : Int) < (m : Int)) = true := by simp; omega
      have g1' : decide (j < m) = true := by simpa using hlt
      have j0 : (0 : Int) ≤ (j : Int) := by omega
      have j1 : (j : Int) < (m : Int) := by omega
      obtain ⟨rfl, _⟩ := H1.out (by omega)
      have hq := Q1.out j hlt
      have hs := HS.out j
      have hu := HU.out j (by omega)
      have hu2 := HU.out (j + 1) (by omega)
      obtain ⟨key, hk⟩ : ∃ key, x.keys.getD j ⟨#[]⟩ = key := ⟨_, rfl⟩
      have hk96 : key.size ≤ 96 := by rw [← hk]; exact HOk.out.k96 _ (getD_mem (by rw [HM.out]; exact hlt))
      rw [hk] at hs hq
      obtain ⟨u, hu0⟩ : ∃ u, x.upto j = u := ⟨_, rfl⟩
      rw [hu0] at hs hu ⊢
      obtain ⟨ks, hks⟩ : ∃ ks, key.size = ks := ⟨_, rfl⟩
      rw [hks] at hs hk96
      have u0 : (0 : Int) ≤ (u : Int) := by omega
      have u1 : (u : Int) ≤ 20000000 := by omega
      have s0 : (0 : Int) ≤ (ks : Int) := by omega
      have s1 : (ks : Int) ≤ 96 := by omega
      cases hlf : x.leaf with
      | true =>
        have hvl : x.vals.length = m := by rw [HOk.out.vals hlf, HM.out]
        rw [hlf] at hs c0
        simp only [if_true] at hs
        rw [hvl] at c2
        obtain ⟨rfl, _⟩ := H2.out (by omega)
        have hv := Q2.out j (by omega)
        obtain ⟨v, hv0⟩ : ∃ v, x.vals.getD j ⟨#[]⟩ = v := ⟨_, rfl⟩
        have hv56 : v.size ≤ 56 := by rw [← hv0]; exact HOk.out.v56 _ (getD_mem (by omega))
        rw [hv0] at hs hv
        obtain ⟨vs, hvs⟩ : ∃ vs, v.size = vs := ⟨_, rfl⟩
        rw [hvs] at hs hv56
        have v0 : (0 : Int) ≤ (vs : Int) := by omega
        have v1 : (vs : Int) ≤ 56 := by omega
        have HSs := Hd hs
        clear hs hk hv0 hvl hu0 hu2
        go_wp2
        go_round
        case rel => exact ⟨j + 1, by omega, by go_num, by rw [HSs.out]; go_num⟩
        case measure => simp [intOf]; omega
      | false =>
        rw [hlf] at hs c0
        simp only [Bool.false_eq_true, if_false] at hs
        have HSs := Hd hs
        clear hs hk hu0 hu2
        go_wp2
        go_round
        case rel => exact ⟨j + 1, by omega, by go_num, by rw [HSs.out]; go_num⟩
        case measure => simp [intOf]; omega
    · have g1 : decide ((j : Int) < (m : Int)) = false := by simp; omega
      have g1' : decide (j < m) = false := by simpa using hlt
      have hjm : j = m := by omega
      have hz : x.upto j = x.size := by rw [hjm]; exact HSz.out
      rw [hz]
      go_wp2
      go_ret
      exact ⟨rfl, rfl⟩
end Go.Proofs.YtaokjeokpifjgaaGreatDoor

namespace Go.Proofs
open Go.Shelf
def Tryz.bins_ren : Go.Shelf.Ren := ⟨fun | 26 => 206 | 33 => 245 | 34 => 246 | 38 => 272 | n => n, fun | 24 => 22 | 9 => 9 | 3 => 3 | 4 => 4 | 40 => 284 | 0 => 0 | n => n, fun | n => n⟩
theorem Tryz.bins : Go.Proofs.Lays2.n26 Tryz.prog Tryz.bins_ren := {
  mixed := by kernel_rfl
  f26 := Tryz.func206.trans (congrArg some (by kernel_rfl))
  f33 := Tryz.func245.trans (congrArg some (by kernel_rfl))
  f34 := Tryz.func246.trans (congrArg some (by kernel_rfl))
  f38 := Tryz.func272.trans (congrArg some (by kernel_rfl))
  t0 := Tryz.underlying0
  a0 := Tryz.isAgg0
  z0 := Tryz.sizeOf0
  v0 := Tryz.zeroValue0
  t3 := Tryz.underlying3
  a3 := Tryz.isAgg3
  z3 := Tryz.sizeOf3
  v3 := Tryz.zeroValue3
  t4 := Tryz.underlying4
  a4 := Tryz.isAgg4
  z4 := Tryz.sizeOf4
  v4 := Tryz.zeroValue4
  t9 := Tryz.underlying9
  a9 := Tryz.isAgg9
  z9 := Tryz.sizeOf9
  v9 := Tryz.zeroValue9
  t24 := Tryz.underlying22
  a24 := Tryz.isAgg22
  z24 := Tryz.sizeOf22
  v24 := Tryz.zeroValue22
  t40 := Tryz.underlying284
  a40 := Tryz.isAgg284
  z40 := Tryz.sizeOf284
  v40 := Tryz.zeroValue284 }
end Go.Proofs

namespace Go.Proofs.YtaokjeokpifjgaaGreatDoor
open Go.RowKit Go.MapKept
attribute [local go_sem] gives givesH
set_option maxRecDepth 100000

theorem bLess_eq (s t : ByteArray) : Op.bytesLess s.toList t.toList = decide (bLt s t) := by
  rw [bytesLess_eq, Lib.toList_data, Lib.toList_data]
  rfl
theorem bins_any {w : World} {a : Option Addr} {b1 o1 p1 : Nat} {l : List ByteArray} {key : ByteArray} {l1 l2 : List ByteArray} (hr : 0 < l.length → a = some ⟨b1, o1, none⟩) (q : ∀ i, i < l.length → w.cell? ⟨b1, o1 + i, none⟩ = some (.string (l.getD i ⟨#[]⟩)))
    (he : l = l1 ++ l2) (h1 : ∀ k ∈ l1, bLt k key) (h2 : ∀ k ∈ l2, ¬ bLt k key) (hl : l.length < 65536) :
    Calls Tryz.prog 206 #[.slice a l.length p1, .string key] w fun e w' => e = .returned (.tuple #[.int .i64 l1.length, .bool (decide (l2.head? = some key))]) ∧ Below w.heap.size w w' := by
  have hlen : l.length = l1.length + l2.length := by rw [he, List.length_append]
  obtain ⟨n, hn⟩ : ∃ n, l.length = n := ⟨_, rfl⟩
  obtain ⟨m, hm⟩ : ∃ m, l1.length = m := ⟨_, rfl⟩
  rw [hn] at hr q hl hlen ⊢
  rw [hm] at hlen ⊢
  rcases Nat.eq_zero_or_pos n with e0 | e0
  · have h20 : l2 = [] := List.length_eq_zero_iff.1 (by omega)
    obtain rfl : m = 0 := by omega
    rw [h20, e0]
    exact (Any2.slices_BinarySearch_string_empty Tryz.bins a p1 key w).mono fun e w' hh => ⟨hh.1, by rw [hh.2]; exact Below.refl _ _⟩
  · obtain rfl := hr e0
    have hg1 : ∀ t, t < m → l.getD t ⟨#[]⟩ = l1.getD t ⟨#[]⟩ := fun t ht => by
      rw [he, List.getD_eq_getElem?_getD, List.getElem?_append_left (by omega), ← List.getD_eq_getElem?_getD]
    have hg2 : ∀ t, m ≤ t → l.getD t ⟨#[]⟩ = l2.getD (t - m) ⟨#[]⟩ := fun t ht => by
      rw [he, List.getD_eq_getElem?_getD, List.getElem?_append_right (by omega), ← List.getD_eq_getElem?_getD, hm]
    obtain ⟨S0, hS⟩ : ∃ S0 : Nat → ByteArray, ∀ t, S0 t = if t < n then l.getD t ⟨#[]⟩ else key := ⟨fun t => if t < n then l.getD t ⟨#[]⟩ else key, fun _ => rfl⟩
    have hb : Lib.bsGo (fun t => Op.bytesLess (S0 t).toList key.toList) n 0 n = m := by
      refine Lib.bsGo_spec _ m (fun t ht => ?_) (fun t ht => ?_) _ _ _ (by omega) (Nat.zero_le _) (by omega)
      · rw [bLess_eq, hS, if_pos (by omega), hg1 t ht]
        exact decide_eq_true (h1 _ (getD_mem (by omega)))
      · rw [bLess_eq, hS]
        by_cases h3 : t < n
        · rw [if_pos h3, hg2 t ht]
          exact decide_eq_false (h2 _ (getD_mem (by omega)))
        · rw [if_neg h3]
          exact decide_eq_false (bLt_irrefl key)
    have H := Any2.slices_BinarySearch_string Tryz.bins b1 o1 n p1 S0 key w (by omega) (fun j hj => by rw [hS, if_pos hj]; exact q j hj)
    rw [hb] at H
    refine H.mono fun e w' hh => ?_
    obtain ⟨he2, r, hr2⟩ := hh
    refine ⟨?_, by rw [hr2]; exact ⟨rfl, rfl, rfl, Nat.le_refl _, fun _ _ => rfl⟩⟩
    have hd : decide (m < n ∧ S0 m = key) = decide (l2.head? = some key) := by
      by_cases h3 : m < n
      · rw [hS, if_pos h3, hg2 m (Nat.le_refl _), Nat.sub_self]
        have h4 : 0 < l2.length := by omega
        rw [List.head?_eq_getElem?, List.getD_eq_getElem?_getD, List.getElem?_eq_getElem h4]
        simp [h3]
      · have h4 : l2 = [] := List.length_eq_zero_iff.1 (by omega)
        rw [h4]
        simp [h3]
    rw [he2, hd]
theorem find_any {w : World} {b : Nat} {x : Nd} {key : ByteArray} {l1 l2 : List ByteArray} (h : NdR w b x) (he : x.keys = l1 ++ l2) (h1 : ∀ k ∈ l1, bLt k key) (h2 : ∀ k ∈ l2, ¬ bLt k key) (hl : x.keys.length < 65536) :
    Calls Tryz.prog 148 #[.pointer (some ⟨b, 0, none⟩), .string key] w fun e w' => e = .returned (.tuple #[.int .i64 l1.length, .bool (decide (l2.head? = some key))]) ∧ Below w.heap.size w w' := by
  obtain ⟨kv, vv, cv, c0, c1, c2, c3, ⟨a1, b1, o1, p1, rfl, hr1, q1⟩, _⟩ := h.rows
  have HB := Hd (bins_any (p1 := p1) (fun h => (hr1 h).1) q1 he h1 h2 hl)
  generalize decide (l2.head? = some key) = fd at *
  obtain ⟨n, hn⟩ : ∃ n, x.keys.length = n := ⟨_, rfl⟩
  rw [hn] at HB c1
  clear h h1 h2 hr1 q1 hl hn he
  go_enter Tryz.func148, Tryz.ntmps148
  go_wp2_with (fail)
  refine (HB.out).mono ?_
  rintro e w1 ⟨rfl, hb1⟩
  go_wp2
  go_ret2
  exact ⟨rfl, hb1⟩
end Go.Proofs.YtaokjeokpifjgaaGreatDoor

namespace Go.Proofs.YtaokjeokpifjgaaGreatDoor
open Go.RowKit Go.MapKept Go.Sort
attribute [local go_sem] gives givesH
set_option maxRecDepth 100000

theorem below_grow (w : World) (m : Nat) (os : Array Obj) : Below w.heap.size w (grow (w.drewN m) os) := by
  refine ⟨rfl, rfl, rfl, ?_, fun k hk => ?_⟩
  · show w.heap.size ≤ (w.heap ++ os).size
    rw [Array.size_append]; omega
  · show (w.heap ++ os)[k]? = w.heap[k]?
    rw [Array.getElem?_append_left hk]
theorem bGtr_eq (s t : ByteArray) : (!(Op.bytesLess s.toList t.toList || s.toList == t.toList)) = decide (bLt t s) := by
  rw [bLess_eq]
  have e : (s.toList == t.toList) = decide (s = t) := by
    rw [Lib.toList_data, Lib.toList_data]
    by_cases h : s = t
    · subst h; simp
    · rw [decide_eq_false h]
      refine beq_false_of_ne (fun e => h (ByteArray.ext (Array.toList_inj.1 e)))
  rw [e]
  rcases bLt_tri s t with h | h | h
  · rw [decide_eq_true h, decide_eq_false (bLt_asymm h)]; rfl
  · subst h
    rw [decide_eq_false (bLt_irrefl s)]; simp
  · rw [decide_eq_false (bLt_asymm h), decide_eq_true h, decide_eq_false (fun e => by rw [e] at h; exact bLt_irrefl _ h)]; rfl
theorem count_lt (m n : Nat) (h : m ≤ n) : (List.range n).countP (fun i => decide (i < m)) = m := by
  obtain ⟨k, rfl⟩ : ∃ k, n = m + k := ⟨n - m, by omega⟩
  rw [List.range_add, List.countP_append, List.countP_eq_length.2 (fun i hi => decide_eq_true (List.mem_range.1 hi)), List.countP_eq_zero.2 (fun i hi => by
    obtain ⟨j, _, rfl⟩ := List.mem_map.1 hi
    simp), List.length_range]
  omega
theorem way1_any {w : World} {b pn pk b1 o1 p1 n i : Nat} {key k : ByteArray} (hn : w.cell? ⟨pn, 0, none⟩ = some (.pointer (some ⟨b, 0, none⟩))) (hk : w.cell? ⟨pk, 0, none⟩ = some (.string key)) (c1 : w.cell? ⟨b, 1, none⟩ = some (.slice (some ⟨b1, o1, none⟩) n p1))
    (hi : i < n) (q : w.cell? ⟨b1, o1 + i, none⟩ = some (.string k)) :
    Calls Tryz.prog 208 #[.int .i64 i, .pointer (some ⟨pn, 0, none⟩), .pointer (some ⟨pk, 0, none⟩)] w fun e w' => e = .returned (.bool (decide (bLt key k))) ∧ ∃ q, w' = w.drewN q := by
  have i0 : (0 : Int) ≤ (i : Int) := by omega
  have i1 : (i : Int) < (n : Int) := by omega
  have hg := bGtr_eq k key
  go_enter Tryz.func208, Tryz.ntmps208
  go_wp2
  go_quiet (fail)
  go_wp2
  go_ret
  exact ⟨rfl, _, rfl⟩
theorem way_any {w : World} {b : Nat} {x : Nd} {key : ByteArray} {l1 l2 : List ByteArray} (h : NdR w b x) (he : x.keys = l1 ++ l2) (h1 : ∀ k ∈ l1, ¬ bLt key k) (h2 : ∀ k ∈ l2, bLt key k) (hl : x.keys.length < 65536) :
    Calls Tryz.prog 149 #[.pointer (some ⟨b, 0, none⟩), .string key] w fun e w' => e = .returned (.int .i64 ((l1.length - 1 : Nat) : Int)) ∧ Below w.heap.size w w' := by
  obtain ⟨kv, vv, cv, c0, c1, c2, c3, ⟨a1, b1, o1, p1, rfl, hr1, q1⟩, _⟩ := h.rows
  have hlen : x.keys.length = l1.length + l2.length := by rw [he, List.length_append]
  have hp : ∀ i, i < x.keys.length → decide (bLt key (x.keys.getD i ⟨#[]⟩)) = decide (l1.length ≤ i) := fun i hi => by
    by_cases hi2 : l1.length ≤ i
    · rw [decide_eq_true hi2]
      refine decide_eq_true (h2 _ ?_)
      rw [he, List.getD_eq_getElem?_getD, List.getElem?_append_right hi2, ← List.getD_eq_getElem?_getD]
      exact getD_mem (by omega)
    · rw [decide_eq_false hi2]
      refine decide_eq_false (h1 _ ?_)
      rw [he, List.getD_eq_getElem?_getD, List.getElem?_append_left (by omega), ← List.getD_eq_getElem?_getD]
      exact getD_mem (by omega)
  obtain ⟨n, hn⟩ : ∃ n, x.keys.length = n := ⟨_, rfl⟩
  obtain ⟨m, hm⟩ : ∃ m, l1.length = m := ⟨_, rfl⟩
  rw [hn] at hr1 q1 hl hlen hp c1
  rw [hm] at hlen hp ⊢
  have hb1 : Below w.heap.size w ((w.alloc (.cells #[.pointer (some ⟨b, 0, none⟩)] 244)).alloc (.cells #[.string key] 9)) := ((Below.refl _ _).alloc (Nat.le_refl _) _).alloc (by simp) _
  have e1 : ((w.alloc (.cells #[.pointer (some ⟨b, 0, none⟩)] 244)).alloc (.cells #[.string key] 9)).cell? ⟨w.heap.size, 0, none⟩ = some (.pointer (some ⟨b, 0, none⟩)) :=
    Lib.cell_of_heap ((Keep.still ((Below.refl _ _).alloc (Nat.le_refl _) (.cells #[.string key] 9))).at (heap_alloc_new w (.cells #[.pointer (some ⟨b, 0, none⟩)] 244)) (fun e => e)) 0
  have e2 : ((w.alloc (.cells #[.pointer (some ⟨b, 0, none⟩)] 244)).alloc (.cells #[.string key] 9)).cell? ⟨w.heap.size + 1, 0, none⟩ = some (.string key) := by
    have := Lib.cell_of_heap (heap_alloc_new (w.alloc (.cells #[.pointer (some ⟨b, 0, none⟩)] 244)) (.cells #[.string key] 9)) 0
    rw [World.size_alloc] at this
    exact this
  obtain ⟨w1, hw1⟩ : ∃ w1, (w.alloc (.cells #[.pointer (some ⟨b, 0, none⟩)] 244)).alloc (.cells #[.string key] 9) = w1 := ⟨_, rfl⟩
  rw [hw1] at hb1 e1 e2
  have hs1 : w.heap.size + 2 ≤ w1.heap.size := by rw [← hw1]; simp
  have c1' : w1.cell? ⟨b, 1, none⟩ = some (.slice a1 n p1) := by rw [hb1.cell (p := ⟨b, 1, none⟩) h.lt]; exact c1
  have hcount : (List.range n).countP (fun i => !decide (bLt key (x.keys.getD i ⟨#[]⟩))) = m := by
    have h3 : (List.range n).countP (fun i => !decide (bLt key (x.keys.getD i ⟨#[]⟩))) = (List.range n).countP (fun i => decide (i < m)) := by
      refine List.countP_congr (fun i hi => ?_)
      rw [hp i (List.mem_range.1 hi)]
      by_cases h4 : i < m
      · simp [h4]
      · simp [h4]
    rw [h3]
    exact count_lt m n (by omega)
  have HS := Any.sort_Search Tryz.search 208 #[.pointer (some ⟨w.heap.size, 0, none⟩), .pointer (some ⟨w.heap.size + 1, 0, none⟩)] n (fun i => decide (bLt key (x.keys.getD i ⟨#[]⟩))) w1 (enters_of Tryz.func208 (by kernel_rfl) rfl) (by omega)
    (fun m' os i hi => by
      have hg := below_grow w1 m' os
      obtain ⟨rfl, hlt1⟩ := hr1 (by omega)
      refine (way1_any (b1 := b1) (o1 := o1) (p1 := p1) (n := n) (key := key) (k := x.keys.getD i ⟨#[]⟩) (by rw [hg.cell (p := ⟨w.heap.size, 0, none⟩) (by show w.heap.size < _; omega)]; exact e1) (by rw [hg.cell (p := ⟨w.heap.size + 1, 0, none⟩) (by show w.heap.size + 1 < _; omega)]; exact e2)
        (by rw [hg.cell (p := ⟨b, 1, none⟩) (Nat.lt_of_lt_of_le h.lt hb1.size)]; exact c1') hi (by rw [hg.cell (p := ⟨b1, o1 + i, none⟩) (Nat.lt_of_lt_of_le hlt1 hb1.size), hb1.cell (p := ⟨b1, o1 + i, none⟩) hlt1]; exact q1 i hi)).mono fun e w' ⟨he, q, hq⟩ => ⟨he, q, #[], by rw [hq, grow_empty]⟩)
    (fun i j hij hj hi => by
      rw [hp i (by omega)] at hi
      rw [hp j hj]
      simp at hi ⊢
      omega)
  rw [hcount] at HS
  have HH := Hd HS
  have HB := Hd hb1
  have hmf : ∀ (fn : Fn) (first cap : Array Value) (w : World), (Instr.makeFunc fn first cap).run Tryz.prog w = .ok (.func fn first cap) w := fun _ _ _ _ => rfl
  obtain ⟨ws, hws⟩ : ∃ ws, w.heap.size = ws := ⟨_, rfl⟩
  rw [hws] at e1 HH
  have hm0 : (0 : Int) ≤ (m : Int) := by omega
  have hm1 : (m : Int) ≤ 65536 := by omega
  clear HS hb1 hcount hp h1 h2 he hlen e2 q1 hr1 hn hm
  go_enter Tryz.func149, Tryz.ntmps149
  go_wp2_with (fail)
  refine (HH.out).mono ?_
  rintro e w2 ⟨rfl, q, os, rfl⟩
  have HB2 := Hd (HB.out.trans ((below_grow w1 q os).mono HB.out.size))
  have hmx : max ((m : Int) - 1) 0 = ((m - 1 : Nat) : Int) := by omega
  go_wp2
  go_ret
  exact ⟨rfl, HB2.out⟩
end Go.Proofs.YtaokjeokpifjgaaGreatDoor

namespace Go.Proofs.YtaokjeokpifjgaaGreatDoor
open Go.RowKit Go.MapKept
attribute [local go_sem] gives givesH
set_option maxRecDepth 100000

def u8V (l : List UInt8) : List Value := l.map (fun b => Value.int .u8 b.toNat)
theorem strCells_u8 (s : ByteArray) : Lib.strCells s = u8V s.data.toList := rfl
theorem u8V_append (a b : List UInt8) : u8V (a ++ b) = u8V a ++ u8V b := by unfold u8V; rw [List.map_append]
theorem addr_add9 (g j : Nat) : (⟨g, 0, none⟩ : Addr).add j = ⟨g, j, none⟩ := by unfold Addr.add; split <;> simp_all
theorem wrap_ofNat (n : Nat) : IntKind.u8.wrap (n : Int) = ((UInt8.ofNat n).toNat : Int) := by
  rw [u8_toNat]
  show (n : Int) % 256 = _
  omega
theorem u8_bytes {w : World} {B : Nat} {v : Value} {n : Nat} {l : List UInt8} (h : w.ownsRow B 5 1 v n (u8V l)) (hn : 0 < n) : ∃ g cap, v = .slice (some ⟨g, 0, none⟩) n cap ∧ Lib.Bytes w g 0 (bs l) ∧ B ≤ g := by
  obtain ⟨g, c, e1, _, _, hg⟩ := row_posB h hn
  refine ⟨g, c, e1, fun i hi => ?_, hg⟩
  have hi2 : i < l.length := by rw [← bs_size]; exact hi
  have h1 := h.cells (by rw [e1]; rfl) i (.int .u8 (l[i].toNat : Int)) (by unfold u8V; rw [List.getElem?_map, List.getElem?_eq_getElem hi2]; rfl)
  rw [addr_add9] at h1
  rw [Nat.zero_add, h1]
  congr 3
def Nd.head (x : Nd) : List UInt8 := [if x.leaf then 76 else 78, UInt8.ofNat (x.keys.length / 256), UInt8.ofNat x.keys.length]
def Nd.pre (x : Nd) : Nat → List UInt8
  | 0 => x.head
  | i + 1 => x.pre i ++ x.ent i
theorem Nd.pre_rest (x : Nd) (i : Nat) (hi : i ≤ x.keys.length) : x.pre i ++ x.rest i = x.bytes := by
  induction i with
  | zero =>
    show x.head ++ entsB x.leaf (x.keys.drop 0) (x.vals.drop 0) (x.kids.drop 0) = x.bytes
    rw [List.drop_zero, List.drop_zero, List.drop_zero]
    rfl
  | succ i ih =>
    rw [← ih (by omega), x.rest_one i (by omega)]
    show x.pre i ++ x.ent i ++ x.rest (i + 1) = _
    unfold Nd.ent entB
    simp only [List.append_assoc]
theorem Nd.pre_all (x : Nd) : x.pre x.keys.length = x.bytes := by rw [← x.pre_rest _ (Nat.le_refl _), x.rest_all, List.append_nil]
set_option maxHeartbeats 2000000 in
theorem text_any {w : World} {b : Nat} {x : Nd} (h : NdR w b x) (ok : x.ok) (hl : x.keys.length < 65536) :
    Calls Tryz.prog 248 #[.pointer (some ⟨b, 0, none⟩)] w fun e w' => e = .returned (.string x.text) ∧ Below w.heap.size w w' := by
  obtain ⟨i0, hi0, hz0, hz1, hz2⟩ := info_parts infoU8
  have HI := Hd hi0
  have Hz0 := Hd hz0
  have Hz1 := Hd hz1
  have Hz2 := Hd hz2
  clear hi0 hz0 hz1 hz2
  have hR := h.rows
  obtain ⟨kv, vv, cv, c0, c1, c2, c3, ⟨a1, b1, o1, p1, rfl, h1, q1⟩, ⟨a2, b2, o2, p2, rfl, h2, q2⟩, ⟨a3, b3, o3, p3, rfl, h3, q3⟩⟩ := hR
  obtain ⟨m, hm⟩ : ∃ m, x.keys.length = m := ⟨_, rfl⟩
  have hup : ∀ j, j ≤ m → x.upto j ≤ 3 + 154 * 65536 := fun j hj => by
    have h3 := (Nd.upto_le ok.s 0 j (Nat.zero_le _) (by omega)).2
    have h4 : x.upto 0 = 3 := rfl
    have h5 : x.most ≤ 154 := by unfold Nd.most; split <;> omega
    have h6 : x.most * (j - 0) ≤ 154 * 65536 := Nat.mul_le_mul h5 (by omega)
    omega
  rw [hm] at c1 hl h1 q1
  have HR := Hd h
  have HUp := Hd hup
  have HOk := Hd ok
  have HM := Hd hm
  have m0 : (0 : Int) ≤ (m : Int) := by omega
  have m1 : (m : Int) ≤ 65535 := by omega
  obtain ⟨ba, hba⟩ : ∃ ba, UInt8.ofNat (m / 256) = ba := ⟨_, rfl⟩
  obtain ⟨bb, hbb⟩ : ∃ bb, UInt8.ofNat m = bb := ⟨_, rfl⟩
  have HHd := Hd (show x.head = [if x.leaf then 76 else 78, ba, bb] by unfold Nd.head; rw [hm, hba, hbb])
  have wa : IntKind.u8.wrap ((m : Int) / 256) = (ba.toNat : Int) := by rw [← hba, ← wrap_ofNat]; rfl
  have wb : IntKind.u8.wrap (m : Int) = (bb.toNat : Int) := by rw [← hbb, ← wrap_ofNat]
  have H1 := Hd h1
  have Q1 := Hd q1
  have C1 := Hd c1
  clear h ok hup h1 q1 hba hbb c1
  obtain ⟨lf, hlf⟩ : ∃ lf, x.leaf = lf := ⟨_, rfl⟩
  rw [hlf] at c0
  have C0 := Hd c0
  have HLf := Hd hlf
  clear hlf c0
  cases lf with
  | true =>
    have hvl : x.vals.length = m := by have := HOk.out.vals; rw [HLf.out, HM.out] at this; exact this
    rw [hvl] at c2 h2 q2
    have C2 := Hd c2
    have H2 := Hd h2
    have Q2 := Hd q2
    clear c2 c3 h2 h3 q2 q3 hvl hm
    have hhd : u8V x.head = [.int .u8 76, .int .u8 (ba.toNat : Int), .int .u8 (bb.toNat : Int)] := by rw [HHd.out, HLf.out]; rfl
    have HH := Hd hhd
    have c0 := C0.out
    go_enter Tryz.func248, Tryz.ntmps248
    go_wp2_with (fail)
    obtain ⟨S, hS⟩ : ∃ S : World → Prop, ∀ u, S u ↔ Keep (fun _ => False) (w) u := ⟨fun u => Keep (fun _ => False) (w) u, fun _ => Iff.rfl⟩
    have HS := Hd hS
    clear hS
    refine wp_region_ord 14 [(0, true), (1, true), (2, true), (3, true), (4, true), (5, true), (6, true), (7, true), (8, true), (9, true), (10, true), (11, true), (12, true), (13, true)] S (by kernel_rfl) (by kernel_rfl) ((HS.out _).2 (Keep.refl _ _).drew) ?_
    iterate 14
      first
        | (refine wpH_passed rfl (by rfl) (fun K hK => ?_); go_simp; refine hK _ ?_; clear hK K)
        | (first
             | refine wpH_read rfl rfl (fun K hK => ?_)
             | refine wpH_readw rfl (by rfl) (fun K hK => ?_)
           apply Exists.intro
           refine ⟨fun u hu => ?_, ?_⟩
           · have hu := (HS.out u).1 hu
             have c0 : u.cell? ⟨b, 0, none⟩ = some (.bool true) := by rw [hu.cell (p := ⟨b, 0, none⟩) HR.out.lt (fun e => e)]; exact C0.out
             have c1 : u.cell? ⟨b, 1, none⟩ = some (.slice a1 m p1) := by rw [hu.cell (p := ⟨b, 1, none⟩) HR.out.lt (fun e => e)]; exact C1.out
             clear hu
             go_simp
             exact ⟨rfl, rfl⟩
           go_simp
           refine hK _ ?_
           clear hK K)
    refine wpH_nil ?_
    simp only [List.drop_succ_cons, List.drop_zero]
    clear S HS
    have hb0 : Below w.heap.size w (w.alloc (.cells #[.int .u8 76, .int .u8 (ba.toNat : Int), .int .u8 (bb.toNat : Int)] 5)) := (Below.refl _ _).alloc (Nat.le_refl _) _
    have c1 : (w.alloc (.cells #[.int .u8 76, .int .u8 (ba.toNat : Int), .int .u8 (bb.toNat : Int)] 5)).cell? ⟨b, 1, none⟩ = some (.slice a1 m p1) := by rw [hb0.cell (p := ⟨b, 1, none⟩) HR.out.lt]; exact C1.out
    have hrow0 : ((w.alloc (.cells #[.int .u8 76, .int .u8 (ba.toNat : Int), .int .u8 (bb.toNat : Int)] 5)).drew).ownsRow w.heap.size 5 1 (.slice (some ⟨w.heap.size, 0, none⟩) 3 3) 3 (u8V x.head) := by
      rw [HH.out]
      exact ⟨rfl, .inr ⟨w.heap.size, 3, _, rfl, Nat.le_refl _, heap_alloc_new w _, Nat.le_refl _, by unfold maxLen; omega, rfl, rfl⟩⟩
    have HRow0 := Hd hrow0
    have HB0 := Hd (show Below w.heap.size w ((w.alloc (.cells #[.int .u8 76, .int .u8 (ba.toNat : Int), .int .u8 (bb.toNat : Int)] 5)).drew) from ⟨hb0.os, hb0.tape, hb0.output, hb0.size, hb0.block⟩)
    clear hb0 hrow0 hhd
    go_wp2_with (fail)
    go_loopw [4, 32] (fun v i wr => ∃ j : Nat, j ≤ m ∧ i = .int .i64 j ∧ wr.ownsRow w.heap.size 5 1 v (x.upto j) (u8V (x.pre j)) ∧ Below w.heap.size w wr) (fun _ i _ => m - (intOf i).toNat)
    case atStart => exact ⟨0, by omega, rfl, HRow0.out, HB0.out⟩
    case round =>
      obtain ⟨j, hj, rfl, hrow, hbel⟩ := hrel
      have HRow := Hd hrow
      have HB := Hd hbel
      clear hrow hbel
      by_cases hlt : j < m
      · have g1 : decide ((j : Int) < (m : Int)) = true := by simp; omega
        have g1' : decide (j < m) = true := by simpa using hlt
        have j0 : (0 : Int) ≤ (j : Int) := by omega
        have j1 : (j : Int) < (m : Int) := by omega
        obtain ⟨rfl, hlt1⟩ := H1.out (by omega)
        obtain ⟨key, hkey⟩ : ∃ key, x.keys.getD j ⟨#[]⟩ = key := ⟨_, rfl⟩
        have hk96 : key.size ≤ 96 := by rw [← hkey]; exact HOk.out.k96 _ (getD_mem (by rw [HM.out]; exact hlt))
        have q1 : wr.cell? ⟨b1, o1 + j, none⟩ = some (.string key) := by rw [HB.out.cell (p := ⟨b1, o1 + j, none⟩) hlt1, ← hkey]; exact Q1.out j hlt
        have hup := HUp.out j (by omega)
        obtain ⟨n0, hn0⟩ : ∃ n0, x.upto j = n0 := ⟨_, rfl⟩
        have hrw := HRow.out
        rw [hn0] at hup hrw
        have HRw := Hd hrw
        obtain ⟨ks, hks⟩ : ∃ ks, key.size = ks := ⟨_, rfl⟩
        rw [hks] at hk96
        obtain ⟨kb, hkb⟩ : ∃ kb, UInt8.ofNat key.size = kb := ⟨_, rfl⟩
        have wk : IntKind.u8.wrap (ks : Int) = (kb.toNat : Int) := by rw [← hkb, wrap_ofNat, hks]
        have s0 : (0 : Int) ≤ (ks : Int) := by omega
        have hsucc := x.upto_succ j
        rw [hn0, hkey, hks, HLf.out] at hsucc
        have HNx := Hd hsucc
        have HN0 := Hd hn0
        have HKey := Hd hkey
        have HKb := Hd hkb
        have HKs := Hd hks
        clear hrw hkb hsucc hn0 hkey
        obtain ⟨val, hval⟩ : ∃ val, x.vals.getD j ⟨#[]⟩ = val := ⟨_, rfl⟩
        have hvl : x.vals.length = m := by have := HOk.out.vals; rw [HLf.out, HM.out] at this; exact this
        have hv56 : val.size ≤ 56 := by rw [← hval]; exact HOk.out.v56 _ (getD_mem (by omega))
        obtain ⟨rfl, hlt2⟩ := H2.out (by omega)
        have HV := Hd (show w.cell? ⟨b2, o2 + j, none⟩ = some (.string val) by rw [← hval]; exact Q2.out j (by omega))
        have HB2 := Hd hlt2
        obtain ⟨vs, hvs⟩ : ∃ vs, val.size = vs := ⟨_, rfl⟩
        rw [hvs] at hv56
        obtain ⟨yv, hvb⟩ : ∃ yv, UInt8.ofNat val.size = yv := ⟨_, rfl⟩
        have wv : IntKind.u8.wrap (vs : Int) = (yv.toNat : Int) := by rw [← hvb, wrap_ofNat, hvs]
        have v0 : (0 : Int) ≤ (vs : Int) := by omega
        have HVal := Hd hval
        have HVb := Hd hvb
        have HVs := Hd hvs
        clear hval hvb hvl
        go_wp2_with (first
          | (at_builtin
             refine wpList_append_own_at _ (by rfl) _ _ 121 (by rfl) w.heap.size 5 i0 _ 1 1 Tryz.underlying121 HI.out Hz0.out Hz1.out Hz2.out (by rfl) (by decide) _ _ _ (by rfl) (HRw.out.alloc _) ⟨wr.heap.size, 0, none⟩ 1 1 [.int .u8 (kb.toNat : Int)] (by rfl) (by rfl) (World.news_of_block (cs := #[.int .u8 (kb.toNat : Int)]) (t := 5) (fr := (0, 0)) (heap_alloc_new wr _)) (by simp [Value.oneCell']) (by unfold maxLen; omega) (by omega) (by have := HB.out.size; simp; omega) ?_
             intro va wa hown8 hg8 hnil hloc
             have HOa := Hd hown8
             have hb : Below w.heap.size w wa := (((Keep.ofBelow (S := fun k => w.heap.size ≤ k) HB.out).alloc _).grown hg8 (fun j hj e => (HRw.out.lt j e).1)).below (Nat.le_refl _) (fun i hi e => by omega)
             have HBla := Hd hb
             clear hown8 hg8 hnil hloc
             have c0 : wa.cell? ⟨b, 0, none⟩ = some (.bool true) := by rw [hb.cell (p := ⟨b, 0, none⟩) HR.out.lt]; exact C0.out
             have c2 : wa.cell? ⟨b, 2, none⟩ = some (.slice (some ⟨b2, o2, none⟩) m p2) := by rw [hb.cell (p := ⟨b, 2, none⟩) HR.out.lt]; exact C2.out
             have q2 : wa.cell? ⟨b2, o2 + j, none⟩ = some (.string val) := by rw [hb.cell (p := ⟨b2, o2 + j, none⟩) HB2.out]; exact HV.out
             clear hb)
          | (at_builtin
             refine Lib.wpList_append_own_string _ (by rfl) _ _ 121 9 (by rfl) w.heap.size 5 i0 Tryz.underlying121 Tryz.underlying9 HI.out Hz0.out Hz1.out Hz2.out _ _ _ (by rfl) HOa.out key (by rfl) (by unfold maxLen; omega) (by omega) (by have := HBla.out.size; omega) ?_
             intro vb wb hown8 hg8 hnil
             have HOb := Hd hown8
             have hb : Below w.heap.size w wb := ((Keep.ofBelow (S := fun k => w.heap.size ≤ k) HBla.out).grown hg8 (fun j hj e => (HOa.out.lt j e).1)).below (Nat.le_refl _) (fun i hi e => by omega)
             have HBlb := Hd hb
             clear hown8 hg8 hnil
             have c0 : wb.cell? ⟨b, 0, none⟩ = some (.bool true) := by rw [hb.cell (p := ⟨b, 0, none⟩) HR.out.lt]; exact C0.out
             have c2 : wb.cell? ⟨b, 2, none⟩ = some (.slice (some ⟨b2, o2, none⟩) m p2) := by rw [hb.cell (p := ⟨b, 2, none⟩) HR.out.lt]; exact C2.out
             have q2 : wb.cell? ⟨b2, o2 + j, none⟩ = some (.string val) := by rw [hb.cell (p := ⟨b2, o2 + j, none⟩) HB2.out]; exact HV.out
             clear hb)
          | (at_builtin
             refine wpList_append_own_at _ (by rfl) _ _ 121 (by rfl) w.heap.size 5 i0 _ 1 1 Tryz.underlying121 HI.out Hz0.out Hz1.out Hz2.out (by rfl) (by decide) _ _ _ (by rfl) (HOb.out.alloc _) ⟨wb.heap.size, 0, none⟩ 1 1 [.int .u8 (yv.toNat : Int)] (by rfl) (by rfl) (World.news_of_block (cs := #[.int .u8 (yv.toNat : Int)]) (t := 5) (fr := (0, 0)) (heap_alloc_new wb _)) (by simp [Value.oneCell']) (by unfold maxLen; omega) (by omega) (by have := HBlb.out.size; simp; omega) ?_
             intro vc wc hown8 hg8 hnil hloc
             have HOc := Hd hown8
             have hb : Below w.heap.size w wc := (((Keep.ofBelow (S := fun k => w.heap.size ≤ k) HBlb.out).alloc _).grown hg8 (fun j hj e => (HOb.out.lt j e).1)).below (Nat.le_refl _) (fun i hi e => by omega)
             have HBlc := Hd hb
             clear hown8 hg8 hnil hloc
             have c0 : wc.cell? ⟨b, 0, none⟩ = some (.bool true) := by rw [hb.cell (p := ⟨b, 0, none⟩) HR.out.lt]; exact C0.out
             have c2 : wc.cell? ⟨b, 2, none⟩ = some (.slice (some ⟨b2, o2, none⟩) m p2) := by rw [hb.cell (p := ⟨b, 2, none⟩) HR.out.lt]; exact C2.out
             have q2 : wc.cell? ⟨b2, o2 + j, none⟩ = some (.string val) := by rw [hb.cell (p := ⟨b2, o2 + j, none⟩) HB2.out]; exact HV.out
             clear hb)
          | (at_builtin
             refine Lib.wpList_append_own_string _ (by rfl) _ _ 121 9 (by rfl) w.heap.size 5 i0 Tryz.underlying121 Tryz.underlying9 HI.out Hz0.out Hz1.out Hz2.out _ _ _ (by rfl) HOc.out val (by rfl) (by unfold maxLen; omega) (by omega) (by have := HBlc.out.size; omega) ?_
             intro vd wd hown8 hg8 hnil
             have HOd := Hd hown8
             have hb : Below w.heap.size w wd := ((Keep.ofBelow (S := fun k => w.heap.size ≤ k) HBlc.out).grown hg8 (fun j hj e => (HOc.out.lt j e).1)).below (Nat.le_refl _) (fun i hi e => by omega)
             have HBld := Hd hb
             clear hown8 hg8 hnil
             have c0 : wd.cell? ⟨b, 0, none⟩ = some (.bool true) := by rw [hb.cell (p := ⟨b, 0, none⟩) HR.out.lt]; exact C0.out
             have c2 : wd.cell? ⟨b, 2, none⟩ = some (.slice (some ⟨b2, o2, none⟩) m p2) := by rw [hb.cell (p := ⟨b, 2, none⟩) HR.out.lt]; exact C2.out
             have q2 : wd.cell? ⟨b2, o2 + j, none⟩ = some (.string val) := by rw [hb.cell (p := ⟨b2, o2 + j, none⟩) HB2.out]; exact HV.out
             clear hb))
        have hnew : wd.ownsRow w.heap.size 5 1 vd (x.upto (j + 1)) (u8V (x.pre (j + 1))) := by
          have e1 : x.upto (j + 1) = n0 + 1 + key.size + 1 + val.size := by rw [HNx.out, HVal.out, HVs.out, HKs.out]; simp only [if_true]; omega
          have e2 : u8V (x.pre (j + 1)) = _ := rfl
          have h1 := HOd.out
          rw [e1]
          have e3 : x.pre (j + 1) = x.pre j ++ (lenB key ++ lenB val) := by
            show x.pre j ++ x.ent j = _
            unfold Nd.ent entB
            rw [HKey.out, HVal.out, HLf.out]
            rfl
          rw [e3]
          unfold lenB
          rw [HKb.out, HVb.out]
          simp only [u8V_append, strCells_u8, List.append_assoc] at h1 ⊢
          exact h1
        have HNw := Hd hnew
        clear hnew
        go_roundw
        case rel => exact ⟨j + 1, by omega, rfl, HNw.out, HBld.out⟩
        case measure => simp [intOf]; omega
      · have g1 : decide ((j : Int) < (m : Int)) = false := by simp; omega
        have g1' : decide (j < m) = false := by simpa using hlt
        have hjm : j = x.keys.length := by rw [HM.out]; omega
        have hrw := HRow.out
        rw [hjm, x.pre_all, x.size_upto] at hrw
        obtain ⟨g, cap, hv, hby, _⟩ := u8_bytes hrw (by have := x.ents_split 0 (Nat.zero_le _); have : x.upto 0 = 3 := rfl; omega)
        subst hv
        have hcv := Lib.run_convert_whole (P := Tryz.prog) wr 121 5 9 Tryz.underlying121 Tryz.underlying5 Tryz.underlying9 g 0 x.text hby cap
        have hts : x.text.size = x.size := bs_size _
        rw [hts] at hcv
        clear hrw hby hts
        go_wp2
        go_ret
        exact ⟨rfl, HB.out⟩
  | false =>
    have hvl : x.kids.length = m := by have := HOk.out.kids; rw [HLf.out, HM.out] at this; exact this
    rw [hvl] at c3 h3 q3
    have C2 := Hd c3
    have H2 := Hd h3
    have Q2 := Hd q3
    clear c2 c3 h2 h3 q2 q3 hvl hm
    have hhd : u8V x.head = [.int .u8 78, .int .u8 (ba.toNat : Int), .int .u8 (bb.toNat : Int)] := by rw [HHd.out, HLf.out]; rfl
    have HH := Hd hhd
    have c0 := C0.out
    go_enter Tryz.func248, Tryz.ntmps248
    go_wp2_with (fail)
    obtain ⟨S, hS⟩ : ∃ S : World → Prop, ∀ u, S u ↔ Keep (fun _ => False) (w) u := ⟨fun u => Keep (fun _ => False) (w) u, fun _ => Iff.rfl⟩
    have HS := Hd hS
    clear hS
    refine wp_region_ord 14 [(0, true), (1, true), (2, true), (3, true), (4, true), (5, true), (6, true), (7, true), (8, true), (9, true), (10, true), (11, true), (12, true), (13, true)] S (by kernel_rfl) (by kernel_rfl) ((HS.out _).2 (Keep.refl _ _).drew) ?_
    iterate 14
      first
        | (refine wpH_passed rfl (by rfl) (fun K hK => ?_); go_simp; refine hK _ ?_; clear hK K)
        | (first
             | refine wpH_read rfl rfl (fun K hK => ?_)
             | refine wpH_readw rfl (by rfl) (fun K hK => ?_)
           apply Exists.intro
           refine ⟨fun u hu => ?_, ?_⟩
           · have hu := (HS.out u).1 hu
             have c0 : u.cell? ⟨b, 0, none⟩ = some (.bool false) := by rw [hu.cell (p := ⟨b, 0, none⟩) HR.out.lt (fun e => e)]; exact C0.out
             have c1 : u.cell? ⟨b, 1, none⟩ = some (.slice a1 m p1) := by rw [hu.cell (p := ⟨b, 1, none⟩) HR.out.lt (fun e => e)]; exact C1.out
             clear hu
             go_simp
             exact ⟨rfl, rfl⟩
           go_simp
           refine hK _ ?_
           clear hK K)
    refine wpH_nil ?_
    simp only [List.drop_succ_cons, List.drop_zero]
    clear S HS
    have hb0 : Below w.heap.size w (w.alloc (.cells #[.int .u8 78, .int .u8 (ba.toNat : Int), .int .u8 (bb.toNat : Int)] 5)) := (Below.refl _ _).alloc (Nat.le_refl _) _
    have c1 : (w.alloc (.cells #[.int .u8 78, .int .u8 (ba.toNat : Int), .int .u8 (bb.toNat : Int)] 5)).cell? ⟨b, 1, none⟩ = some (.slice a1 m p1) := by rw [hb0.cell (p := ⟨b, 1, none⟩) HR.out.lt]; exact C1.out
    have hrow0 : ((w.alloc (.cells #[.int .u8 78, .int .u8 (ba.toNat : Int), .int .u8 (bb.toNat : Int)] 5)).drew).ownsRow w.heap.size 5 1 (.slice (some ⟨w.heap.size, 0, none⟩) 3 3) 3 (u8V x.head) := by
      rw [HH.out]
      exact ⟨rfl, .inr ⟨w.heap.size, 3, _, rfl, Nat.le_refl _, heap_alloc_new w _, Nat.le_refl _, by unfold maxLen; omega, rfl, rfl⟩⟩
    have HRow0 := Hd hrow0
    have HB0 := Hd (show Below w.heap.size w ((w.alloc (.cells #[.int .u8 78, .int .u8 (ba.toNat : Int), .int .u8 (bb.toNat : Int)] 5)).drew) from ⟨hb0.os, hb0.tape, hb0.output, hb0.size, hb0.block⟩)
    clear hb0 hrow0 hhd
    go_wp2_with (fail)
    go_loopw [4, 32] (fun v i wr => ∃ j : Nat, j ≤ m ∧ i = .int .i64 j ∧ wr.ownsRow w.heap.size 5 1 v (x.upto j) (u8V (x.pre j)) ∧ Below w.heap.size w wr) (fun _ i _ => m - (intOf i).toNat)
    case atStart => exact ⟨0, by omega, rfl, HRow0.out, HB0.out⟩
    case round =>
      obtain ⟨j, hj, rfl, hrow, hbel⟩ := hrel
      have HRow := Hd hrow
      have HB := Hd hbel
      clear hrow hbel
      by_cases hlt : j < m
      · have g1 : decide ((j : Int) < (m : Int)) = true := by simp; omega
        have g1' : decide (j < m) = true := by simpa using hlt
        have j0 : (0 : Int) ≤ (j : Int) := by omega
        have j1 : (j : Int) < (m : Int) := by omega
        obtain ⟨rfl, hlt1⟩ := H1.out (by omega)
        obtain ⟨key, hkey⟩ : ∃ key, x.keys.getD j ⟨#[]⟩ = key := ⟨_, rfl⟩
        have hk96 : key.size ≤ 96 := by rw [← hkey]; exact HOk.out.k96 _ (getD_mem (by rw [HM.out]; exact hlt))
        have q1 : wr.cell? ⟨b1, o1 + j, none⟩ = some (.string key) := by rw [HB.out.cell (p := ⟨b1, o1 + j, none⟩) hlt1, ← hkey]; exact Q1.out j hlt
        have hup := HUp.out j (by omega)
        obtain ⟨n0, hn0⟩ : ∃ n0, x.upto j = n0 := ⟨_, rfl⟩
        have hrw := HRow.out
        rw [hn0] at hup hrw
        have HRw := Hd hrw
        obtain ⟨ks, hks⟩ : ∃ ks, key.size = ks := ⟨_, rfl⟩
        rw [hks] at hk96
        obtain ⟨kb, hkb⟩ : ∃ kb, UInt8.ofNat key.size = kb := ⟨_, rfl⟩
        have wk : IntKind.u8.wrap (ks : Int) = (kb.toNat : Int) := by rw [← hkb, wrap_ofNat, hks]
        have s0 : (0 : Int) ≤ (ks : Int) := by omega
        have hsucc := x.upto_succ j
        rw [hn0, hkey, hks, HLf.out] at hsucc
        have HNx := Hd hsucc
        have HN0 := Hd hn0
        have HKey := Hd hkey
        have HKb := Hd hkb
        have HKs := Hd hks
        clear hrw hkb hsucc hn0 hkey
        obtain ⟨kid, hkid⟩ : ∃ kid, x.kids.getD j 0 = kid := ⟨_, rfl⟩
        have hvl : x.kids.length = m := by have := HOk.out.kids; rw [HLf.out, HM.out] at this; exact this
        have hv56 : kid < 65536 := by rw [← hkid]; exact HOk.out.c32 _ (getD_mem (by omega))
        obtain ⟨rfl, hlt2⟩ := H2.out (by omega)
        have HV := Hd (show w.cell? ⟨b3, o3 + j, none⟩ = some (.int .i64 (kid : Int)) by rw [← hkid]; exact Q2.out j (by omega))
        have HB2 := Hd hlt2
        obtain ⟨y0, hy0⟩ : ∃ y, UInt8.ofNat (kid / 16777216) = y := ⟨_, rfl⟩
        obtain ⟨y1, hy1⟩ : ∃ y, UInt8.ofNat (kid / 65536) = y := ⟨_, rfl⟩
        obtain ⟨y2, hy2⟩ : ∃ y, UInt8.ofNat (kid / 256) = y := ⟨_, rfl⟩
        obtain ⟨y3, hy3⟩ : ∃ y, UInt8.ofNat kid = y := ⟨_, rfl⟩
        have z0 : IntKind.u8.wrap ((kid : Int) / 16777216) = (y0.toNat : Int) := by rw [← hy0, ← wrap_ofNat]; rfl
        have z1 : IntKind.u8.wrap ((kid : Int) / 65536) = (y1.toNat : Int) := by rw [← hy1, ← wrap_ofNat]; rfl
        have z2 : IntKind.u8.wrap ((kid : Int) / 256) = (y2.toNat : Int) := by rw [← hy2, ← wrap_ofNat]; rfl
        have z3 : IntKind.u8.wrap (kid : Int) = (y3.toNat : Int) := by rw [← hy3, ← wrap_ofNat]
        have v0 : (0 : Int) ≤ (kid : Int) := by omega
        have v1 : (kid : Int) ≤ 65535 := by omega
        have HBe := Hd (show be4 kid = [y0, y1, y2, y3] by unfold be4; rw [hy0, hy1, hy2, hy3])
        have HVal := Hd hkid
        clear hkid hvl hy0 hy1 hy2 hy3
        go_wp2_with (first
          | (at_builtin
             refine wpList_append_own_at _ (by rfl) _ _ 121 (by rfl) w.heap.size 5 i0 _ 1 1 Tryz.underlying121 HI.out Hz0.out Hz1.out Hz2.out (by rfl) (by decide) _ _ _ (by rfl) (HRw.out.alloc _) ⟨wr.heap.size, 0, none⟩ 1 1 [.int .u8 (kb.toNat : Int)] (by rfl) (by rfl) (World.news_of_block (cs := #[.int .u8 (kb.toNat : Int)]) (t := 5) (fr := (0, 0)) (heap_alloc_new wr _)) (by simp [Value.oneCell']) (by unfold maxLen; omega) (by omega) (by have := HB.out.size; simp; omega) ?_
             intro va wa hown8 hg8 hnil hloc
             have HOa := Hd hown8
             have hb : Below w.heap.size w wa := (((Keep.ofBelow (S := fun k => w.heap.size ≤ k) HB.out).alloc _).grown hg8 (fun j hj e => (HRw.out.lt j e).1)).below (Nat.le_refl _) (fun i hi e => by omega)
             have HBla := Hd hb
             clear hown8 hg8 hnil hloc
             have c0 : wa.cell? ⟨b, 0, none⟩ = some (.bool false) := by rw [hb.cell (p := ⟨b, 0, none⟩) HR.out.lt]; exact C0.out
             have c3 : wa.cell? ⟨b, 3, none⟩ = some (.slice (some ⟨b3, o3, none⟩) m p3) := by rw [hb.cell (p := ⟨b, 3, none⟩) HR.out.lt]; exact C2.out
             have q2 : wa.cell? ⟨b3, o3 + j, none⟩ = some (.int .i64 (kid : Int)) := by rw [hb.cell (p := ⟨b3, o3 + j, none⟩) HB2.out]; exact HV.out
             clear hb)
          | (at_builtin
             refine Lib.wpList_append_own_string _ (by rfl) _ _ 121 9 (by rfl) w.heap.size 5 i0 Tryz.underlying121 Tryz.underlying9 HI.out Hz0.out Hz1.out Hz2.out _ _ _ (by rfl) HOa.out key (by rfl) (by unfold maxLen; omega) (by omega) (by have := HBla.out.size; omega) ?_
             intro vb wb hown8 hg8 hnil
             have HOb := Hd hown8
             have hb : Below w.heap.size w wb := ((Keep.ofBelow (S := fun k => w.heap.size ≤ k) HBla.out).grown hg8 (fun j hj e => (HOa.out.lt j e).1)).below (Nat.le_refl _) (fun i hi e => by omega)
             have HBlb := Hd hb
             clear hown8 hg8 hnil
             have c0 : wb.cell? ⟨b, 0, none⟩ = some (.bool false) := by rw [hb.cell (p := ⟨b, 0, none⟩) HR.out.lt]; exact C0.out
             have c3 : wb.cell? ⟨b, 3, none⟩ = some (.slice (some ⟨b3, o3, none⟩) m p3) := by rw [hb.cell (p := ⟨b, 3, none⟩) HR.out.lt]; exact C2.out
             have q2 : wb.cell? ⟨b3, o3 + j, none⟩ = some (.int .i64 (kid : Int)) := by rw [hb.cell (p := ⟨b3, o3 + j, none⟩) HB2.out]; exact HV.out
             clear hb)
          | (at_builtin
             refine wpList_append_own_at _ (by rfl) _ _ 121 (by rfl) w.heap.size 5 i0 _ 1 1 Tryz.underlying121 HI.out Hz0.out Hz1.out Hz2.out (by rfl) (by decide) _ _ _ (by rfl) (HOb.out.alloc _) ⟨wb.heap.size, 0, none⟩ 4 4 [.int .u8 (y0.toNat : Int), .int .u8 (y1.toNat : Int), .int .u8 (y2.toNat : Int), .int .u8 (y3.toNat : Int)] (by rfl) (by rfl) (World.news_of_block (cs := #[.int .u8 (y0.toNat : Int), .int .u8 (y1.toNat : Int), .int .u8 (y2.toNat : Int), .int .u8 (y3.toNat : Int)]) (t := 5) (fr := (0, 0)) (heap_alloc_new wb _)) (by simp [Value.oneCell']) (by unfold maxLen; omega) (by omega) (by have := HBlb.out.size; simp; omega) ?_
             intro vd wd hown8 hg8 hnil hloc
             have HOd := Hd hown8
             have hb : Below w.heap.size w wd := (((Keep.ofBelow (S := fun k => w.heap.size ≤ k) HBlb.out).alloc _).grown hg8 (fun j hj e => (HOb.out.lt j e).1)).below (Nat.le_refl _) (fun i hi e => by omega)
             have HBld := Hd hb
             clear hown8 hg8 hnil hloc
             have c0 : wd.cell? ⟨b, 0, none⟩ = some (.bool false) := by rw [hb.cell (p := ⟨b, 0, none⟩) HR.out.lt]; exact C0.out
             have c3 : wd.cell? ⟨b, 3, none⟩ = some (.slice (some ⟨b3, o3, none⟩) m p3) := by rw [hb.cell (p := ⟨b, 3, none⟩) HR.out.lt]; exact C2.out
             have q2 : wd.cell? ⟨b3, o3 + j, none⟩ = some (.int .i64 (kid : Int)) := by rw [hb.cell (p := ⟨b3, o3 + j, none⟩) HB2.out]; exact HV.out
             clear hb))
        have hnew : wd.ownsRow w.heap.size 5 1 vd (x.upto (j + 1)) (u8V (x.pre (j + 1))) := by
          have e1 : x.upto (j + 1) = n0 + 1 + key.size + 4 := by rw [HNx.out, HKs.out]; simp only [Bool.false_eq_true, if_false]; omega
          have e2 : u8V (x.pre (j + 1)) = _ := rfl
          have h1 := HOd.out
          rw [e1]
          have e3 : x.pre (j + 1) = x.pre j ++ (lenB key ++ be4 kid) := by
            show x.pre j ++ x.ent j = _
            unfold Nd.ent entB
            rw [HKey.out, HVal.out, HLf.out]
            rfl
          rw [e3]
          rw [HBe.out]; unfold lenB
          rw [HKb.out]
          simp only [u8V_append, strCells_u8, List.append_assoc] at h1 ⊢
          exact h1
        have HNw := Hd hnew
        clear hnew
        go_roundw
        case rel => exact ⟨j + 1, by omega, rfl, HNw.out, HBld.out⟩
        case measure => simp [intOf]; omega
      · have g1 : decide ((j : Int) < (m : Int)) = false := by simp; omega
        have g1' : decide (j < m) = false := by simpa using hlt
        have hjm : j = x.keys.length := by rw [HM.out]; omega
        have hrw := HRow.out
        rw [hjm, x.pre_all, x.size_upto] at hrw
        obtain ⟨g, cap, hv, hby, _⟩ := u8_bytes hrw (by have := x.ents_split 0 (Nat.zero_le _); have : x.upto 0 = 3 := rfl; omega)
        subst hv
        have hcv := Lib.run_convert_whole (P := Tryz.prog) wr 121 5 9 Tryz.underlying121 Tryz.underlying5 Tryz.underlying9 g 0 x.text hby cap
        have hts : x.text.size = x.size := bs_size _
        rw [hts] at hcv
        clear hrw hby hts
        go_wp2
        go_ret
        exact ⟨rfl, HB.out⟩
end Go.Proofs.YtaokjeokpifjgaaGreatDoor

namespace Go.Proofs.YtaokjeokpifjgaaGreatDoor
open Go.RowKit Go.MapKept
attribute [local go_sem] gives givesH
set_option maxRecDepth 100000

theorem must_ok (w : World) : Calls Tryz.prog 203 #[.int .i64 0] w fun e w' => e = .returned (.tuple #[]) ∧ w = w' := by
  go_enter Tryz.func203, Tryz.ntmps203
  go_wp2
  go_end0
  exact ⟨rfl, rfl⟩
structure TreeAt (w : World) (tb br pl : Nat) : Prop where
  cells : w.heap[tb]? = some (.cells #[.pointer (some ⟨br, 0, none⟩), .int .i64 pl] 242 (0, 0))
def PageIs (R : RoomS) (p : Nat) (x : Nd) : Prop := p < R.pages ∧ R.has p = true ∧ R.text p = fullS x.text ∧ x.ok ∧ x.keys ≠ [] ∧ x.size ≤ 512
theorem Nd.keys_lt {x : Nd} (ok : x.ok) (h : x.size ≤ 666) : x.keys.length < 65536 := by
  have := (Nd.upto_le ok.s 0 x.keys.length (Nat.zero_le _) (Nat.le_refl _)).1
  rw [x.size_upto] at this
  omega
theorem tread_any {w : World} {tb br pl : Nat} {R : RoomS} {p : Nat} {x : Nd} (ht : TreeAt w tb br pl) (hr : RoomAt w br R) (hp : PageIs R p x) :
    Calls Tryz.prog 147 #[.pointer (some ⟨tb, 0, none⟩), .int .i64 p] w fun e w' => ∃ nb kv vv cv, e = .returned (.pointer (some ⟨nb, 0, none⟩)) ∧ NdAt w' nb kv vv cv x ∧ (∀ k, ndOwn nb kv vv cv k → w.heap.size ≤ k) ∧ Below w.heap.size w w' := by
  obtain ⟨hp1, hp2, hp3, hp4, hp5, hp6⟩ := hp
  have HR := Hd (read_ok hr p hp1 hp2)
  rw [hp3, fullS_text] at HR
  have HP := Hd (fun u => parse_any x hp4 hp5 (x.keys_lt hp4 (by omega)) (List.replicate (512 - x.size) 0) (by rw [List.length_append, List.length_replicate]; have : x.bytes.length = x.size := rfl; omega) u)
  obtain ⟨s, hs⟩ : ∃ s, bs (x.bytes ++ List.replicate (512 - x.size) 0) = s := ⟨_, rfl⟩
  rw [hs] at HR HP
  have HM := Hd (fun u => must_ok u)
  have c0 : w.cell? ⟨tb, 0, none⟩ = some (.pointer (some ⟨br, 0, none⟩)) := Lib.cell_of_heap ht.cells 0
  clear hs hr hp1 hp2 hp3 hp4 hp5 hp6 ht
  go_enter Tryz.func147, Tryz.ntmps147
  go_wp2_with (fail)
  refine (HR.out).mono ?_
  rintro e w1 ⟨rfl, hb1⟩
  have HB1 := Hd hb1
  clear hb1
  go_wp2_with (go_at_call 203; refine (HM.out _).mono ?_; rintro e _ ⟨rfl, rfl⟩)
  refine (HP.out _).mono ?_
  rintro e w2 ⟨nb, kv, vv, cv, rfl, hnd, hnw, hb2⟩
  have HN := Hd hnd
  have HNw := Hd hnw
  have HB2 := Hd hb2
  clear hnd hnw hb2
  go_wp2
  go_ret
  exact ⟨nb, kv, vv, cv, rfl, HN.out, fun k hk => Nat.le_trans HB1.out.size (HNw.out k hk), HB1.out.trans (HB2.out.mono HB1.out.size)⟩
theorem twrite_any {w : World} {tb br pl : Nat} {R : RoomS} {p b : Nat} {x : Nd} (ht : TreeAt w tb br pl) (hr : RoomAt w br R) (hlen : R.T.puts.length < 1000000000000) (hp : p < R.pages) (h1 : R.has p = true) (hx : NdR w b x) (ok : x.ok) (hsz : x.size ≤ 512) :
    Calls Tryz.prog 210 #[.pointer (some ⟨tb, 0, none⟩), .int .i64 p, .pointer (some ⟨b, 0, none⟩)] w fun e w' => e = .returned (.tuple #[]) ∧ ∃ R', RoomStep br w R w' R' ∧ Wrote R R' p (fullS x.text) := by
  have hdw : Below w.heap.size w w.drew := ⟨rfl, rfl, rfl, Nat.le_refl _, fun _ _ => rfl⟩
  have HT := Hd (text_any (hx.still hdw) ok (x.keys_lt ok (by omega)))
  have hts : x.text.size = x.size := bs_size _
  have HW := Hd (fun u (hu : Below w.heap.size w u) => write_ok (hr.still hu) hlen p hp h1 x.text (by omega))
  have hif : ¬ 512 < x.text.size := by omega
  have HM := Hd (fun u => must_ok u)
  have c0 : w.cell? ⟨tb, 0, none⟩ = some (.pointer (some ⟨br, 0, none⟩)) := Lib.cell_of_heap ht.cells 0
  have HC := Hd ht.cells
  have HRm := Hd hr
  have HIf := Hd hif
  rw [if_neg hif] at HW
  clear hts hif hx ok hsz h1 hr ht
  go_enter Tryz.func210, Tryz.ntmps210
  go_wp2_with (fail)
  obtain ⟨S, hS⟩ : ∃ S : World → Prop, ∀ u, S u ↔ Keep (fun _ => False) (w) u := ⟨fun u => Keep (fun _ => False) (w) u, fun _ => Iff.rfl⟩
  have HS := Hd hS
  clear hS
  refine wp_region_ord 7 [(0, true), (1, true), (2, true), (3, true), (4, true), (5, true), (6, false)] S (by kernel_rfl) (by kernel_rfl) ((HS.out _).2 (Keep.refl _ _).drew) ?_
  iterate 6
    first
      | (refine wpH_passed rfl (by rfl) (fun K hK => ?_); go_simp; refine hK _ ?_; clear hK K)
      | (first
           | refine wpH_read rfl rfl (fun K hK => ?_)
           | refine wpH_readw rfl (by rfl) (fun K hK => ?_)
         apply Exists.intro
         refine ⟨fun u hu => ?_, ?_⟩
         · have hu := (HS.out u).1 hu
           have c0 : u.cell? ⟨tb, 0, none⟩ = some (.pointer (some ⟨br, 0, none⟩)) := Lib.cell_of_heap (hu.at HC.out (fun e => e)) 0
           clear hu
           go_simp
           exact ⟨rfl, rfl⟩
         go_simp
         refine hK _ ?_
         clear hK K)
  first | refine wpH_do rfl rfl (fun K hK => ?_) | refine wpH_dow rfl (by rfl) (fun K hK => ?_)
  go_simp
  go_at_call 248
  refine (HT.out).mono ?_
  rintro e w1 ⟨rfl, hb1⟩
  have hb1' : Below w.heap.size w w1 := ⟨hb1.os, hb1.tape, hb1.output, hb1.size, hb1.block⟩
  have HB1 := Hd hb1'
  refine hK _ _ ((HS.out _).2 (Keep.ofBelow hb1')) ?_
  clear hK K hb1 hb1'
  refine wpH_nil ?_
  simp only [List.drop_succ_cons, List.drop_zero]
  clear S HS
  have HW1 := Hd (HW.out w1 HB1.out)
  go_wp2_with (fail)
  refine (HW1.out).mono ?_
  rintro e w2 ⟨rfl, R', hs, hw⟩
  have HSt := Hd ((RoomStep.still HRm.out HB1.out).trans hs)
  have HWr := Hd (hw.resolve_left (fun e => HIf.out e.1)).2
  clear hs hw
  go_wp2_with (go_at_call 203; refine (HM.out _).mono ?_; rintro e _ ⟨rfl, rfl⟩)
  go_end0
  exact ⟨rfl, R', HSt.out, HWr.out⟩
structure Freshed (R R' : RoomS) (p : Nat) (s : ByteArray) : Prop where
  was : p < R.pages ∧ R.has p = false
  has : ∀ q, q < R.maps * 4096 → R'.has q = (decide (q = p) || R.has q)
  text : ∀ q, q < R.pages → R'.text q = if q = p then s else R.text q
  zero : R'.home 0 = R.home 0
  puts : ∃ a, R'.T.puts = R.T.puts ++ a ∧ a.length ≤ 3
theorem freshed_of {R R1 R2 : RoomS} {p : Nat} {s : ByteArray} (hp : p < R.pages) (h0 : R.has p = false) (hm : R1.maps = R.maps) (hpg : R1.pages = R.pages) (ha : Alloced R R1 p) (hw : Wrote R1 R2 p s) : Freshed R R2 p s := by
  obtain ⟨a, a1, a2⟩ := ha.puts
  obtain ⟨b, b1, b2⟩ := hw.puts
  refine ⟨⟨hp, h0⟩, fun q hq => ?_, fun q hq => ?_, hw.zero.trans ha.zero, a ++ b, by rw [b1, a1, List.append_assoc], by rw [List.length_append]; omega⟩
  · rw [hw.has q (by rw [hm]; exact hq), ha.has q hq]
  · rw [hw.text q (by rw [hpg]; exact hq), ha.text q hq]
    by_cases e : q = p
    · rw [if_pos e, if_pos e]
    · rw [if_neg e, if_neg e, if_neg e]
theorem least_free9 (R : RoomS) (h : ∃ q, q < R.pages ∧ R.has q = false) : ∃ p, p < R.pages ∧ R.has p = false ∧ ∀ i, i < p → R.has i = true := by
  obtain ⟨q, hq, hq0⟩ := h
  induction q using Nat.strongRecOn with
  | _ q ih =>
    by_cases hb : ∃ i, i < q ∧ R.has i = false
    · obtain ⟨i, hi, hi0⟩ := hb
      exact ih i hi (by omega) hi0
    · refine ⟨q, hq, hq0, fun i hi => ?_⟩
      cases hc : R.has i with
      | true => rfl
      | false => exact absurd ⟨i, hi, hc⟩ hb
theorem tfresh_any {w : World} {tb br pl : Nat} {R : RoomS} {b : Nat} {x : Nd} (ht : TreeAt w tb br pl) (htb : ¬ R.foot br tb) (hr : RoomAt w br R) (hlen : R.T.puts.length + 10 < 1000000000000) (hfree : ∃ q, q < R.pages ∧ R.has q = false) (hxa : ∀ w', Keep (R.foot br) w w' → NdR w' b x) (ok : x.ok) (hsz : x.size ≤ 512) :
    Calls Tryz.prog 156 #[.pointer (some ⟨tb, 0, none⟩), .pointer (some ⟨b, 0, none⟩)] w fun e w' => ∃ p R', e = .returned (.int .i64 (p : Nat)) ∧ RoomStep br w R w' R' ∧ Freshed R R' p (fullS x.text) := by
  obtain ⟨p, hp, h0, h1⟩ := least_free9 R hfree
  have HA := Hd (alloc_ok hr (by omega) p hp h0 h1)
  have HM := Hd (fun u => must_ok u)
  have c0 : w.cell? ⟨tb, 0, none⟩ = some (.pointer (some ⟨br, 0, none⟩)) := Lib.cell_of_heap ht.cells 0
  have HC := Hd ht.cells
  have HX := Hd hxa
  have HTb := Hd htb
  have HFit := Hd (show R.pages ≤ R.maps * 4096 by have := hr.fit.1; omega)
  clear ht htb hr hfree hxa h1
  go_enter Tryz.func156, Tryz.ntmps156
  go_wp2_with (fail)
  refine (HA.out).mono ?_
  rintro e w1 ⟨rfl, R1, hs, ha⟩
  have hk1 : Keep (R.foot br) w w1 := hs.tx.keep.mono (fun _ _ e => .inr (TxS.own_foot e))
  have hpl := ha.puts
  have HT1 := Hd (show TreeAt w1 tb br pl from ⟨hk1.at HC.out HTb.out⟩)
  have hW := twrite_any HT1.out hs.at_ (by obtain ⟨a, a1, a2⟩ := hpl; rw [a1, List.length_append]; omega) (p := p) (by rw [hs.pages]; exact hp) (by rw [ha.has p (by have := HFit.out; omega)]; simp) (HX.out w1 hk1) ok hsz
  have HW := Hd hW
  have HS1 := Hd hs
  have HAl := Hd ha
  clear hk1 hW hs ha hpl
  go_wp2_with (first
    | (go_at_call 203; refine (HM.out _).mono ?_; rintro e _ ⟨rfl, rfl⟩)
    | (go_at_call 210; refine (HW.out).mono ?_; rintro e w2 ⟨rfl, R2, hs2, hw2⟩))
  go_ret
  exact ⟨p, R2, rfl, HS1.out.trans hs2, freshed_of hp h0 HS1.out.maps HS1.out.pages HAl.out hw2⟩
theorem troot_any {w : World} {tb br pl : Nat} {R : RoomS} (ht : TreeAt w tb br pl) (hr : RoomAt w br R) (hpl : pl < 16) (hk : R.root pl ≤ 65536) :
    Calls Tryz.prog 146 #[.pointer (some ⟨tb, 0, none⟩)] w fun e w' => e = .returned (.int .i64 ((R.root pl : Int) - 1)) ∧ Below w.heap.size w w' := by
  have hdw : Below w.heap.size w w.drew := ⟨rfl, rfl, rfl, Nat.le_refl _, fun _ _ => rfl⟩
  have HR := Hd (root_any (hr.still hdw) pl hpl)
  obtain ⟨k, hk0⟩ : ∃ k, R.root pl = k := ⟨_, rfl⟩
  rw [hk0] at HR hk ⊢
  have HM := Hd (fun u => must_ok u)
  have HC := Hd ht.cells
  have c0 : w.cell? ⟨tb, 0, none⟩ = some (.pointer (some ⟨br, 0, none⟩)) := Lib.cell_of_heap ht.cells 0
  have c1 : w.cell? ⟨tb, 1, none⟩ = some (.int .i64 pl) := Lib.cell_of_heap ht.cells 1
  have d1 : decide ((65536 : Int) < (k : Int)) = false := by simp; omega
  have d2 : decide (65536 < k) = false := by simp; omega
  have k0 : (0 : Int) ≤ (k : Int) := by omega
  have k1 : (k : Int) ≤ 65536 := by omega
  clear hk0 hr ht
  go_enter Tryz.func146, Tryz.ntmps146
  go_wp2_with (fail)
  obtain ⟨S, hS⟩ : ∃ S : World → Prop, ∀ u, S u ↔ Keep (fun _ => False) (w) u := ⟨fun u => Keep (fun _ => False) (w) u, fun _ => Iff.rfl⟩
  have HS := Hd hS
  clear hS
  refine wp_region_ord 13 [(0, true), (1, true), (2, true), (3, true), (4, true), (5, true), (6, true), (7, true), (8, false), (9, true), (10, true), (11, true), (12, true)] S (by kernel_rfl) (by kernel_rfl) ((HS.out _).2 (Keep.refl _ _).drew) ?_
  iterate 8
    first
      | (refine wpH_passed rfl (by rfl) (fun K hK => ?_); go_simp; refine hK _ ?_; clear hK K)
      | (first
           | refine wpH_read rfl rfl (fun K hK => ?_)
           | refine wpH_readw rfl (by rfl) (fun K hK => ?_)
         apply Exists.intro
         refine ⟨fun u hu => ?_, ?_⟩
         · have hu := (HS.out u).1 hu
           have c0 : u.cell? ⟨tb, 0, none⟩ = some (.pointer (some ⟨br, 0, none⟩)) := Lib.cell_of_heap (hu.at HC.out (fun e => e)) 0
           have c1 : u.cell? ⟨tb, 1, none⟩ = some (.int .i64 pl) := Lib.cell_of_heap (hu.at HC.out (fun e => e)) 1
           clear hu
           go_simp
           exact ⟨rfl, rfl⟩
         go_simp
         refine hK _ ?_
         clear hK K)
  first | refine wpH_do rfl rfl (fun K hK => ?_) | refine wpH_dow rfl (by rfl) (fun K hK => ?_)
  go_simp
  go_at_call 165
  refine (HR.out).mono ?_
  rintro e w1 ⟨rfl, hb1⟩
  have HB1 := Hd (show Below w.heap.size w w1 from ⟨hb1.os, hb1.tape, hb1.output, hb1.size, hb1.block⟩)
  refine hK _ _ ((HS.out _).2 (Keep.ofBelow HB1.out)) ?_
  clear hK K hb1
  iterate 4
    first
      | (refine wpH_passed rfl (by rfl) (fun K hK => ?_); go_simp; refine hK _ ?_; clear hK K)
      | (first
           | refine wpH_read rfl rfl (fun K hK => ?_)
           | refine wpH_readw rfl (by rfl) (fun K hK => ?_)
         apply Exists.intro
         refine ⟨fun u hu => ?_, ?_⟩
         · have hu := (HS.out u).1 hu
           have c0 : u.cell? ⟨tb, 0, none⟩ = some (.pointer (some ⟨br, 0, none⟩)) := Lib.cell_of_heap (hu.at HC.out (fun e => e)) 0
           have c1 : u.cell? ⟨tb, 1, none⟩ = some (.int .i64 pl) := Lib.cell_of_heap (hu.at HC.out (fun e => e)) 1
           clear hu
           go_simp
           exact ⟨rfl, rfl⟩
         go_simp
         refine hK _ ?_
         clear hK K)
  refine wpH_nil ?_
  simp only [List.drop_succ_cons, List.drop_zero]
  clear S HS
  go_wp2_with (go_at_call 203; refine (HM.out _).mono ?_; rintro e _ ⟨rfl, rfl⟩)
  go_ret
  exact ⟨rfl, HB1.out⟩
theorem tsetRoot_any {w : World} {tb br pl : Nat} {R : RoomS} {p : Nat} (ht : TreeAt w tb br pl) (hr : RoomAt w br R) (hlen : R.T.puts.length < 1000000000000) (hpl : pl < 16) (hp : p < 65536) :
    Calls Tryz.prog 155 #[.pointer (some ⟨tb, 0, none⟩), .int .i64 p] w fun e w' => e = .returned (.tuple #[]) ∧ ∃ R', RoomStep br w R w' R' ∧ Rooted R R' pl (p + 1) := by
  have hdw : Below w.heap.size w w.drew := ⟨rfl, rfl, rfl, Nat.le_refl _, fun _ _ => rfl⟩
  have HStl := Hd (RoomStep.still hr hdw)
  have HR := Hd (setRoot_any (hr.still hdw) hlen pl hpl (p + 1) (by omega))
  have HRt := Hd (fun (R' : RoomS) (w' : World) (hs : RoomStep br w R w' R') (hp2 : R'.T.puts = R.T.puts ++ [(((0 : Nat) : Int), setRootS (R.home 0) pl (p + 1))]) => rooted_of hr hpl (by omega) hs.tx.f hs.maps hp2)
  have HM := Hd (fun u => must_ok u)
  have HC := Hd ht.cells
  have c0 : w.cell? ⟨tb, 0, none⟩ = some (.pointer (some ⟨br, 0, none⟩)) := Lib.cell_of_heap ht.cells 0
  have c1 : w.cell? ⟨tb, 1, none⟩ = some (.int .i64 pl) := Lib.cell_of_heap ht.cells 1
  have p0 : (0 : Int) ≤ (p : Int) := by omega
  have p1 : (p : Int) ≤ 65535 := by omega
  have e1 : (((p + 1 : Nat) : Int)) = (p : Int) + 1 := by omega
  rw [e1] at HR
  clear ht hr e1
  go_enter Tryz.func155, Tryz.ntmps155
  go_wp2_with (fail)
  obtain ⟨S, hS⟩ : ∃ S : World → Prop, ∀ u, S u ↔ Keep (fun _ => False) (w) u := ⟨fun u => Keep (fun _ => False) (w) u, fun _ => Iff.rfl⟩
  have HS := Hd hS
  clear hS
  refine wp_region_ord 11 [(0, true), (1, true), (2, true), (3, true), (4, true), (5, true), (6, true), (7, true), (8, true), (9, true), (10, true)] S (by kernel_rfl) (by kernel_rfl) ((HS.out _).2 (Keep.refl _ _).drew) ?_
  iterate 11
    first
      | (refine wpH_passed rfl (by rfl) (fun K hK => ?_); go_simp; refine hK _ ?_; clear hK K)
      | (first
           | refine wpH_read rfl rfl (fun K hK => ?_)
           | refine wpH_readw rfl (by rfl) (fun K hK => ?_)
         apply Exists.intro
         refine ⟨fun u hu => ?_, ?_⟩
         · have hu := (HS.out u).1 hu
           have c0 : u.cell? ⟨tb, 0, none⟩ = some (.pointer (some ⟨br, 0, none⟩)) := Lib.cell_of_heap (hu.at HC.out (fun e => e)) 0
           have c1 : u.cell? ⟨tb, 1, none⟩ = some (.int .i64 pl) := Lib.cell_of_heap (hu.at HC.out (fun e => e)) 1
           clear hu
           go_simp
           exact ⟨rfl, rfl⟩
         go_simp
         refine hK _ ?_
         clear hK K)
  refine wpH_nil ?_
  simp only [List.drop_succ_cons, List.drop_zero]
  clear S HS
  go_wp2_with (first
    | (go_at_call 166; refine (HR.out).mono ?_; rintro e w1 ⟨rfl, R', hs, hp2⟩)
    | (go_at_call 203; refine (HM.out _).mono ?_; rintro e _ ⟨rfl, rfl⟩))
  go_end0
  exact ⟨rfl, R', HStl.out.trans hs, HRt.out R' _ (HStl.out.trans hs) hp2⟩
end Go.Proofs.YtaokjeokpifjgaaGreatDoor

namespace Go.Proofs.YtaokjeokpifjgaaGreatDoor
open Go.RowKit Go.MapKept
set_option maxRecDepth 100000

theorem keep_setCells (b : Nat) {a : World} : ∀ (vs : List Value) (o : Nat) (w : World), Keep (fun k => k = b) a w → Keep (fun k => k = b) a (w.setCells b o vs)
  | [], _, _, h => h
  | v :: r, o, _, h => keep_setCells b r (o + 1) _ (h.setCell (p := ⟨b, o, none⟩) (fun _ => rfl) v)
theorem heap_setCells (b : Nat) (T : TypeId) : ∀ (vs : List Value) (o : Nat) (w : World) (cs : Array Value), w.heap[b]? = some (.cells cs T (0, 0)) →
    ∃ cs', (w.setCells b o vs).heap[b]? = some (.cells cs' T (0, 0)) ∧ cs'.size = cs.size ∧ ∀ j, j < cs.size → cs'[j]? = if o ≤ j ∧ j < o + vs.length then vs[j - o]? else cs[j]?
  | [], o, w, cs, h => ⟨cs, h, rfl, fun j _ => by rw [if_neg (by simp only [List.length_nil]; omega)]⟩
  | v :: r, o, w, cs, h => by
    obtain ⟨cs', h1, h2, h3⟩ := heap_setCells b T r (o + 1) _ _ (heap_setCell_same w b o cs T v h)
    rw [Array.size_setIfInBounds] at h2 h3
    refine ⟨cs', h1, h2, fun j hj => ?_⟩
    rw [h3 j hj]
    by_cases e : o = j
    · subst e
      rw [if_neg (by omega), if_pos ⟨Nat.le_refl _, by simp⟩, Nat.sub_self]
      simp [hj]
    · by_cases e2 : o + 1 ≤ j ∧ j < o + 1 + r.length
      · rw [if_pos e2, if_pos ⟨by omega, by simp; omega⟩]
        obtain ⟨q, rfl⟩ : ∃ q, j = o + 1 + q := ⟨j - (o + 1), by omega⟩
        rw [show o + 1 + q - (o + 1) = q by omega, show o + 1 + q - o = q + 1 by omega]
        rfl
      · rw [if_neg e2, if_neg (by simp; omega)]
        simp [e]
theorem row_of_cells {w : World} {b n c : Nat} {cs : Array Value} {T : TypeId} {l : List Value} (hb : w.heap[b]? = some (.cells cs T (0, 0))) (hs : cs.size = c) (hn : n ≤ c) (hc : c ≤ maxLen) (hl : l.length = n) (hj : ∀ j, j < n → cs[j]? = l[j]?) : w.ownsRow 0 T 1 (.slice (some ⟨b, 0, none⟩) n c) n l := by
  refine ⟨by omega, .inr ⟨b, c, cs, rfl, Nat.zero_le _, hb, hn, hc, by omega, ?_⟩⟩
  apply List.ext_getElem?
  intro j
  rw [Nat.mul_one, List.getElem?_take]
  by_cases h : j < n
  · rw [if_pos h, ← hj j h, Array.getElem?_toList]
  · rw [if_neg h, List.getElem?_eq_none (by omega)]
theorem ins_get {α : Type} (l : List α) (k : α) (i j : Nat) (hi : i ≤ l.length) : (l.take i ++ k :: l.drop i)[j]? = if j < i then l[j]? else if j = i then some k else l[j - 1]? := by
  by_cases h : j < i
  · rw [if_pos h, List.getElem?_append_left (by rw [List.length_take]; omega), List.getElem?_take, if_pos h]
  · rw [if_neg h, List.getElem?_append_right (by rw [List.length_take]; omega), List.length_take, Nat.min_eq_left hi]
    by_cases h2 : j = i
    · subst h2
      rw [if_pos rfl, Nat.sub_self]; rfl
    · rw [if_neg h2]
      obtain ⟨q, rfl⟩ : ∃ q, j = i + 1 + q := ⟨j - (i + 1), by omega⟩
      rw [show i + 1 + q - i = q + 1 by omega, List.getElem?_cons_succ, List.getElem?_drop, show i + 1 + q - 1 = i + q by omega]
theorem shape_of {w : World} {b : Nat} {cs : Array Value} {T : TypeId} {f : Nat × Nat} (h : w.heap[b]? = some (.cells cs T f)) : w.shape? b = some (T, cs.size) := by unfold World.shape?; rw [h]
theorem froz_of {w : World} {b j : Nat} {cs : Array Value} {T : TypeId} (h : w.heap[b]? = some (.cells cs T (0, 0))) : w.frozen? ⟨b, j, none⟩ = false := frozen_of_row w b j cs T h

theorem insS_any {w : World} {v : Value} {n i vb : Nat} {l : List ByteArray} {key : ByteArray} (hr : w.ownsRow 0 9 1 v n (strV l)) (hl : l.length = n) (hn : n < 65536) (hi : i ≤ n) (hvb : w.heap[vb]? = some (.cells #[Value.string key] 9 (0, 0))) (hne : v.ownBlock ≠ some vb) :
    Calls Tryz.prog 249 #[v, .int .i64 i, .slice (some ⟨vb, 0, none⟩) 1 1] w fun e w' => ∃ v', e = .returned v' ∧ w'.ownsRow 0 9 1 v' (n + 1) (strV (l.take i ++ key :: l.drop i)) ∧ Keep (fun k => v.ownBlock = some k) w w' ∧ (∀ k, v'.ownBlock = some k → v.ownBlock = some k ∨ w.heap.size ≤ k) := by
  have hcs : (strV l).length = n := by rw [strV_length]; exact hl
  have e0 : strV (l.take i ++ key :: l.drop i) = (strV l).take i ++ Value.string key :: (strV l).drop i := by
    unfold strV
    rw [List.map_append, List.map_cons, List.map_take, List.map_drop]
  rw [e0]
  have hnl : ((strV l).take i ++ Value.string key :: (strV l).drop i).length = n + 1 := by rw [List.length_append, List.length_take, List.length_cons, List.length_drop]; omega
  have h1c : ∀ u ∈ strV l, u.oneCell' = true := strV_one l
  have h1v : ∀ u ∈ [Value.string key], u.oneCell' = true := fun u hu => by rw [List.mem_singleton.1 hu]; rfl
  have hvs : ∀ (j : Nat) u, [Value.string key][j]? = some u → w.cell? ⟨vb, 0 + j, none⟩ = some u := fun j u hj => by
    rw [Nat.zero_add, Lib.cell_of_heap hvb j]
    simpa using hj
  have hg := grownCap_ge w (n + 1)
  obtain ⟨cs, hcse⟩ : ∃ cs, strV l = cs := ⟨_, rfl⟩
  rw [hcse] at hr hcs hnl h1c ⊢
  clear e0 hcse hl
  have zlen : ∀ q, (Builtin.zeroCells (Value.string ⟨#[]⟩).cells q).size = q := fun q => by rw [size_zeroCells]; exact Nat.mul_one q
  have hin : ∀ j, (cs.take i ++ Value.string key :: cs.drop i)[j]? = if j < i then cs[j]? else if j = i then some (Value.string key) else cs[j - 1]? := fun j => ins_get cs _ i j (by omega)
  have endGrow : ∀ (base : Option Addr) (c : Nat), i = n → n ≤ c → c < n + 1 → (base = none → n = 0) → (∀ a, base = some a → ∀ (j : Nat) u, cs[j]? = some u → w.cell? (a.add j) = some u) →
      Calls Tryz.prog 249 #[.slice base n c, .int .i64 i, .slice (some ⟨vb, 0, none⟩) 1 1] w fun e w' => ∃ v', e = .returned v' ∧ w'.ownsRow 0 9 1 v' (n + 1) (cs.take i ++ Value.string key :: cs.drop i) ∧ Keep (fun _ => False) w w' ∧ (∀ k, v'.ownBlock = some k → w.heap.size ≤ k) := fun base c hin2 hnc hroom hnil hcc => by
    subst hin2
    refine (Any2.slices_Insert_string_end_grow Tryz.insS base i c vb 0 1 1 cs [Value.string key] w (by decide) hnc hroom (by omega) hcs rfl hnil hcc hvs h1v).mono fun e w' hh => ?_
    obtain ⟨he, hw⟩ := hh
    refine ⟨_, he, ?_, by rw [hw]; exact (Keep.refl _ w).drew.alloc _, fun k e => by cases e; exact Nat.le_refl _⟩
    have hcap := hg c 9
    have hcm := grownCap_le_maxLen w (i + 1) c 9 (by unfold maxLen; omega)
    rw [hw]
    refine row_of_cells (heap_alloc_new w.drew _) ?_ hcap hcm hnl (fun j hj => ?_)
    · rw [Array.size_append, zlen, List.size_toArray, List.length_append, hcs, List.length_singleton]
      show i + 1 + (grownCap w (i + 1) c 9 - (i + 1)) = grownCap w (i + 1) c 9
      omega
    · rw [Array.getElem?_append_left (by rw [List.size_toArray, List.length_append, hcs, List.length_singleton]; omega), List.getElem?_toArray, hin j]
      by_cases h3 : j < i
      · rw [if_pos h3, List.getElem?_append_left (by omega)]
      · obtain rfl : j = i := by omega
        rw [if_neg h3, if_pos rfl, List.getElem?_append_right (by omega), hcs, Nat.sub_self]
        rfl
  rcases hr.2 with ⟨rfl, rfl⟩ | ⟨g, c, cur, rfl, _, hgc, hnc, hcm, hsz, htk⟩
  · refine (endGrow none 0 (by omega) (Nat.le_refl _) (by omega) (fun _ => rfl) (fun a ha => by cases ha)).mono fun e w' hh => ?_
    obtain ⟨v', h1, h2, h3, h4⟩ := hh
    exact ⟨v', h1, h2, h3.mono (fun _ _ e => e.elim), fun k e => .inr (h4 k e)⟩
  · rw [Nat.mul_one] at hsz htk
    have hcur : ∀ j, j < n → cur[j]? = cs[j]? := fun j hj => by rw [← htk, List.getElem?_take, if_pos hj, Array.getElem?_toList]
    have hcells : ∀ (j : Nat) u, cs[j]? = some u → w.cell? ⟨g, 0 + j, none⟩ = some u := fun j u hj => by
      have hj2 : j < n := by have := (List.getElem?_eq_some_iff.1 hj).1; omega
      rw [Nat.zero_add, Lib.cell_of_heap hgc j, hcur j hj2]
      exact hj
    have hthere : ∀ j, j < c → (w.cell? ⟨g, j, none⟩).isSome = true := fun j hj => by
      rw [Lib.cell_of_heap hgc j, Array.getElem?_eq_getElem (by omega)]; rfl
    have hgv : g ≠ vb := fun e => hne (by rw [e]; rfl)
    by_cases hroom : n + 1 ≤ c
    · by_cases hin2 : i < n
      · refine (Any2.slices_Insert_string_shift Tryz.insS g 0 n c i vb 0 1 1 cs [Value.string key] w hin2 (by decide) hroom (by unfold maxLen at hcm; omega) (fun e => hgv e.symm) hcs rfl hcells (fun j hj => by rw [Nat.zero_add]; exact hthere j (by omega)) (fun j hj => froz_of hgc) hvs h1c h1v _ _ _ _ (shape_of hvb) (shape_of hgc) (by omega) (froz_of hvb) (froz_of hvb)).mono fun e w' hh => ?_
        obtain ⟨he, hw⟩ := hh
        have hg1 : w.drew.heap[g]? = some (.cells cur 9 (0, 0)) := hgc
        obtain ⟨c1, a1, a2, a3⟩ := heap_setCells g 9 (cs.drop i) (0 + (i + 1)) w.drew cur hg1
        obtain ⟨c2, b1, b2, b3⟩ := heap_setCells g 9 [Value.string key] (0 + i) _ c1 a1
        refine ⟨_, he, ?_, ?_, fun k e => .inl e⟩
        · rw [hw]
          refine row_of_cells b1 (by omega) hroom hcm hnl (fun j hj => ?_)
          rw [b3 j (by omega), hin j, List.length_singleton]
          by_cases h3 : j = i
          · subst h3
            rw [if_pos (by omega), if_neg (by omega), if_pos rfl, Nat.zero_add, Nat.sub_self]; rfl
          · rw [if_neg (by omega), a3 j (by omega), List.length_drop, hcs]
            by_cases h4 : j < i
            · rw [if_neg (by omega), if_pos h4, hcur j (by omega)]
            · rw [if_pos (by omega), if_neg h4, if_neg h3, List.getElem?_drop]
              congr 1
              omega
        · rw [hw]
          exact (keep_setCells g _ _ _ (keep_setCells g _ _ _ (Keep.refl _ w).drew)).mono (fun k _ e => by rw [e]; rfl)
      · obtain rfl : i = n := by omega
        refine (Any2.slices_Insert_string_end_room Tryz.insS g 0 i c vb 0 1 1 [Value.string key] w (by decide) hroom (by unfold maxLen at hcm; omega) rfl (fun j hj => by rw [Nat.zero_add]; exact hthere _ (by omega)) (fun j hj => froz_of hgc) hvs h1v).mono fun e w' hh => ?_
        obtain ⟨he, hw⟩ := hh
        obtain ⟨c1, a1, a2, a3⟩ := heap_setCells g 9 [Value.string key] (0 + i) w cur hgc
        refine ⟨_, he, ?_, ?_, fun k e => .inl e⟩
        · rw [hw]
          refine row_of_cells a1 (by omega) hroom hcm hnl (fun j hj => ?_)
          rw [a3 j (by omega), hin j, List.length_singleton]
          by_cases h3 : j < i
          · rw [if_neg (by omega), if_pos h3, hcur j h3]
          · obtain rfl : j = i := by omega
            rw [if_pos (by omega), if_neg h3, if_pos rfl, Nat.zero_add, Nat.sub_self]; rfl
        · rw [hw]
          exact (keep_setCells g _ _ _ (Keep.refl _ w)).mono (fun k _ e => by rw [e]; rfl)
    · by_cases hin2 : i < n
      · refine (Any2.slices_Insert_string_grow Tryz.insS g 0 n c i vb 0 1 1 cs [Value.string key] w hin2 (by decide) hnc (by omega) (by omega) hcs rfl hcells hvs h1c h1v).mono fun e w' hh => ?_
        obtain ⟨he, hw⟩ := hh
        have hcap := hg c 9
        have hcm2 := grownCap_le_maxLen w (n + 1) c 9 (by unfold maxLen; omega)
        have hnew := heap_alloc_new w (.cells ((cs.take i).toArray ++ Builtin.zeroCells (Value.string ⟨#[]⟩).cells (n + 1 - i) ++ Builtin.zeroCells (Value.string ⟨#[]⟩).cells (grownCap w (n + 1) c 9 - (n + 1))) 9)
        obtain ⟨A, hA⟩ : ∃ A, (cs.take i).toArray ++ Builtin.zeroCells (Value.string ⟨#[]⟩).cells (n + 1 - i) ++ Builtin.zeroCells (Value.string ⟨#[]⟩).cells (grownCap w (n + 1) c 9 - (n + 1)) = A := ⟨_, rfl⟩
        have hAs : A.size = grownCap w (n + 1) c 9 := by
          rw [← hA, Array.size_append, Array.size_append, zlen, zlen, List.size_toArray, List.length_take]
          omega
        have hAj : ∀ j, j < i → A[j]? = cs[j]? := fun j hj => by
          rw [← hA, Array.getElem?_append_left (by rw [Array.size_append, List.size_toArray, List.length_take]; omega), Array.getElem?_append_left (by rw [List.size_toArray, List.length_take]; omega), List.getElem?_toArray, List.getElem?_take, if_pos hj]
        have hw2 : w' = (((w.alloc (.cells A 9)).drew.setCells w.heap.size i [Value.string key]).drew).setCells w.heap.size (i + 1) (cs.drop i) := by rw [hw, ← hA]; rfl
        rw [hA] at hnew
        have hn1 : (w.alloc (.cells A 9)).drew.heap[w.heap.size]? = some (.cells A 9 (0, 0)) := hnew
        obtain ⟨c1, a1, a2, a3⟩ := heap_setCells w.heap.size 9 [Value.string key] i _ A hn1
        have a1' : (((w.alloc (.cells A 9)).drew.setCells w.heap.size i [Value.string key]).drew).heap[w.heap.size]? = some (.cells c1 9 (0, 0)) := a1
        obtain ⟨c2, b1, b2, b3⟩ := heap_setCells w.heap.size 9 (cs.drop i) (i + 1) _ c1 a1'
        refine ⟨_, he, ?_, ?_, fun k e => .inr (by cases e; exact Nat.le_refl _)⟩
        · rw [hw2]
          refine row_of_cells b1 (by rw [b2, a2, hAs]; rfl) hcap hcm2 hnl (fun j hj => ?_)
          rw [b3 j (by omega), hin j, List.length_drop, hcs]
          by_cases h4 : i + 1 ≤ j
          · rw [if_pos (by omega), if_neg (by omega), if_neg (by omega), List.getElem?_drop]
            congr 1
            omega
          · rw [if_neg (by omega), a3 j (by omega), List.length_singleton]
            by_cases h3 : j = i
            · subst h3
              rw [if_pos (by omega), if_neg (by omega), if_pos rfl, Nat.sub_self]; rfl
            · rw [if_neg (by omega), if_pos (by omega), hAj j (by omega)]
        · rw [hw2]
          have k1 : Keep (fun k => k = w.heap.size) w (w.alloc (.cells A 9)).drew := ((Keep.refl _ w).alloc _).drew
          have k2 : Keep (fun k => k = w.heap.size) w ((w.alloc (.cells A 9)).drew.setCells w.heap.size i [Value.string key]).drew := (keep_setCells w.heap.size _ _ _ k1).drew
          exact (keep_setCells w.heap.size _ _ _ k2).mono (fun k hk e => by omega)
      · refine (endGrow (some ⟨g, 0, none⟩) c (by omega) hnc (by omega) (fun e => by cases e) (fun a ha j u hj => by
          cases ha
          have := hcells j u hj
          rw [Nat.zero_add] at this
          rw [addr_add9]
          exact this)).mono fun e w' hh => ?_
        obtain ⟨v', h1, h2, h3, h4⟩ := hh
        exact ⟨v', h1, h2, h3.mono (fun _ _ e => e.elim), fun k e => .inr (h4 k e)⟩

theorem insI_any {w : World} {v : Value} {n i vb : Nat} {l : List Nat} {key : Nat} (hr : w.ownsRow 0 3 1 v n (intV l)) (hl : l.length = n) (hn : n < 65536) (hi : i ≤ n) (hvb : w.heap[vb]? = some (.cells #[Value.int .i64 (key : Int)] 3 (0, 0))) (hne : v.ownBlock ≠ some vb) :
    Calls Tryz.prog 250 #[v, .int .i64 i, .slice (some ⟨vb, 0, none⟩) 1 1] w fun e w' => ∃ v', e = .returned v' ∧ w'.ownsRow 0 3 1 v' (n + 1) (intV (l.take i ++ key :: l.drop i)) ∧ Keep (fun k => v.ownBlock = some k) w w' ∧ (∀ k, v'.ownBlock = some k → v.ownBlock = some k ∨ w.heap.size ≤ k) := by
  have hcs : (intV l).length = n := by rw [intV_length]; exact hl
  have e0 : intV (l.take i ++ key :: l.drop i) = (intV l).take i ++ Value.int .i64 (key : Int) :: (intV l).drop i := by
    unfold intV
    rw [List.map_append, List.map_cons, List.map_take, List.map_drop]
  rw [e0]
  have hnl : ((intV l).take i ++ Value.int .i64 (key : Int) :: (intV l).drop i).length = n + 1 := by rw [List.length_append, List.length_take, List.length_cons, List.length_drop]; omega
  have h1c : ∀ u ∈ intV l, u.oneCell' = true := intV_one l
  have h1v : ∀ u ∈ [Value.int .i64 (key : Int)], u.oneCell' = true := fun u hu => by rw [List.mem_singleton.1 hu]; rfl
  have hvs : ∀ (j : Nat) u, [Value.int .i64 (key : Int)][j]? = some u → w.cell? ⟨vb, 0 + j, none⟩ = some u := fun j u hj => by
    rw [Nat.zero_add, Lib.cell_of_heap hvb j]
    simpa using hj
  have hg := grownCap_ge w (n + 1)
  obtain ⟨cs, hcse⟩ : ∃ cs, intV l = cs := ⟨_, rfl⟩
  rw [hcse] at hr hcs hnl h1c ⊢
  clear e0 hcse hl
  have zlen : ∀ q, (Builtin.zeroCells (Value.int .i64 0).cells q).size = q := fun q => by rw [size_zeroCells]; exact Nat.mul_one q
  have hin : ∀ j, (cs.take i ++ Value.int .i64 (key : Int) :: cs.drop i)[j]? = if j < i then cs[j]? else if j = i then some (Value.int .i64 (key : Int)) else cs[j - 1]? := fun j => ins_get cs _ i j (by omega)
  have endGrow : ∀ (base : Option Addr) (c : Nat), i = n → n ≤ c → c < n + 1 → (base = none → n = 0) → (∀ a, base = some a → ∀ (j : Nat) u, cs[j]? = some u → w.cell? (a.add j) = some u) →
      Calls Tryz.prog 250 #[.slice base n c, .int .i64 i, .slice (some ⟨vb, 0, none⟩) 1 1] w fun e w' => ∃ v', e = .returned v' ∧ w'.ownsRow 0 3 1 v' (n + 1) (cs.take i ++ Value.int .i64 (key : Int) :: cs.drop i) ∧ Keep (fun _ => False) w w' ∧ (∀ k, v'.ownBlock = some k → w.heap.size ≤ k) := fun base c hin2 hnc hroom hnil hcc => by
    subst hin2
    refine (Any2.slices_Insert_int_end_grow Tryz.insI base i c vb 0 1 1 cs [Value.int .i64 (key : Int)] w (by decide) hnc hroom (by omega) hcs rfl hnil hcc hvs h1v).mono fun e w' hh => ?_
    obtain ⟨he, hw⟩ := hh
    refine ⟨_, he, ?_, by rw [hw]; exact (Keep.refl _ w).drew.alloc _, fun k e => by cases e; exact Nat.le_refl _⟩
    have hcap := hg c 3
    have hcm := grownCap_le_maxLen w (i + 1) c 3 (by unfold maxLen; omega)
    rw [hw]
    refine row_of_cells (heap_alloc_new w.drew _) ?_ hcap hcm hnl (fun j hj => ?_)
    · rw [Array.size_append, zlen, List.size_toArray, List.length_append, hcs, List.length_singleton]
      show i + 1 + (grownCap w (i + 1) c 3 - (i + 1)) = grownCap w (i + 1) c 3
      omega
    · rw [Array.getElem?_append_left (by rw [List.size_toArray, List.length_append, hcs, List.length_singleton]; omega), List.getElem?_toArray, hin j]
      by_cases h3 : j < i
      · rw [if_pos h3, List.getElem?_append_left (by omega)]
      · obtain rfl : j = i := by omega
        rw [if_neg h3, if_pos rfl, List.getElem?_append_right (by omega), hcs, Nat.sub_self]
        rfl
  rcases hr.2 with ⟨rfl, rfl⟩ | ⟨g, c, cur, rfl, _, hgc, hnc, hcm, hsz, htk⟩
  · refine (endGrow none 0 (by omega) (Nat.le_refl _) (by omega) (fun _ => rfl) (fun a ha => by cases ha)).mono fun e w' hh => ?_
    obtain ⟨v', h1, h2, h3, h4⟩ := hh
    exact ⟨v', h1, h2, h3.mono (fun _ _ e => e.elim), fun k e => .inr (h4 k e)⟩
  · rw [Nat.mul_one] at hsz htk
    have hcur : ∀ j, j < n → cur[j]? = cs[j]? := fun j hj => by rw [← htk, List.getElem?_take, if_pos hj, Array.getElem?_toList]
    have hcells : ∀ (j : Nat) u, cs[j]? = some u → w.cell? ⟨g, 0 + j, none⟩ = some u := fun j u hj => by
      have hj2 : j < n := by have := (List.getElem?_eq_some_iff.1 hj).1; omega
      rw [Nat.zero_add, Lib.cell_of_heap hgc j, hcur j hj2]
      exact hj
    have hthere : ∀ j, j < c → (w.cell? ⟨g, j, none⟩).isSome = true := fun j hj => by
      rw [Lib.cell_of_heap hgc j, Array.getElem?_eq_getElem (by omega)]; rfl
    have hgv : g ≠ vb := fun e => hne (by rw [e]; rfl)
    by_cases hroom : n + 1 ≤ c
    · by_cases hin2 : i < n
      · refine (Any2.slices_Insert_int_shift Tryz.insI g 0 n c i vb 0 1 1 cs [Value.int .i64 (key : Int)] w hin2 (by decide) hroom (by unfold maxLen at hcm; omega) (fun e => hgv e.symm) hcs rfl hcells (fun j hj => by rw [Nat.zero_add]; exact hthere j (by omega)) (fun j hj => froz_of hgc) hvs h1c h1v _ _ _ _ (shape_of hvb) (shape_of hgc) (by omega) (froz_of hvb) (froz_of hvb)).mono fun e w' hh => ?_
        obtain ⟨he, hw⟩ := hh
        have hg1 : w.drew.heap[g]? = some (.cells cur 3 (0, 0)) := hgc
        obtain ⟨c1, a1, a2, a3⟩ := heap_setCells g 3 (cs.drop i) (0 + (i + 1)) w.drew cur hg1
        obtain ⟨c2, b1, b2, b3⟩ := heap_setCells g 3 [Value.int .i64 (key : Int)] (0 + i) _ c1 a1
        refine ⟨_, he, ?_, ?_, fun k e => .inl e⟩
        · rw [hw]
          refine row_of_cells b1 (by omega) hroom hcm hnl (fun j hj => ?_)
          rw [b3 j (by omega), hin j, List.length_singleton]
          by_cases h3 : j = i
          · subst h3
            rw [if_pos (by omega), if_neg (by omega), if_pos rfl, Nat.zero_add, Nat.sub_self]; rfl
          · rw [if_neg (by omega), a3 j (by omega), List.length_drop, hcs]
            by_cases h4 : j < i
            · rw [if_neg (by omega), if_pos h4, hcur j (by omega)]
            · rw [if_pos (by omega), if_neg h4, if_neg h3, List.getElem?_drop]
              congr 1
              omega
        · rw [hw]
          exact (keep_setCells g _ _ _ (keep_setCells g _ _ _ (Keep.refl _ w).drew)).mono (fun k _ e => by rw [e]; rfl)
      · obtain rfl : i = n := by omega
        refine (Any2.slices_Insert_int_end_room Tryz.insI g 0 i c vb 0 1 1 [Value.int .i64 (key : Int)] w (by decide) hroom (by unfold maxLen at hcm; omega) rfl (fun j hj => by rw [Nat.zero_add]; exact hthere _ (by omega)) (fun j hj => froz_of hgc) hvs h1v).mono fun e w' hh => ?_
        obtain ⟨he, hw⟩ := hh
        obtain ⟨c1, a1, a2, a3⟩ := heap_setCells g 3 [Value.int .i64 (key : Int)] (0 + i) w cur hgc
        refine ⟨_, he, ?_, ?_, fun k e => .inl e⟩
        · rw [hw]
          refine row_of_cells a1 (by omega) hroom hcm hnl (fun j hj => ?_)
          rw [a3 j (by omega), hin j, List.length_singleton]
          by_cases h3 : j < i
          · rw [if_neg (by omega), if_pos h3, hcur j h3]
          · obtain rfl : j = i := by omega
            rw [if_pos (by omega), if_neg h3, if_pos rfl, Nat.zero_add, Nat.sub_self]; rfl
        · rw [hw]
          exact (keep_setCells g _ _ _ (Keep.refl _ w)).mono (fun k _ e => by rw [e]; rfl)
    · by_cases hin2 : i < n
      · refine (Any2.slices_Insert_int_grow Tryz.insI g 0 n c i vb 0 1 1 cs [Value.int .i64 (key : Int)] w hin2 (by decide) hnc (by omega) (by omega) hcs rfl hcells hvs h1c h1v).mono fun e w' hh => ?_
        obtain ⟨he, hw⟩ := hh
        have hcap := hg c 3
        have hcm2 := grownCap_le_maxLen w (n + 1) c 3 (by unfold maxLen; omega)
        have hnew := heap_alloc_new w (.cells ((cs.take i).toArray ++ Builtin.zeroCells (Value.int .i64 0).cells (n + 1 - i) ++ Builtin.zeroCells (Value.int .i64 0).cells (grownCap w (n + 1) c 3 - (n + 1))) 3)
        obtain ⟨A, hA⟩ : ∃ A, (cs.take i).toArray ++ Builtin.zeroCells (Value.int .i64 0).cells (n + 1 - i) ++ Builtin.zeroCells (Value.int .i64 0).cells (grownCap w (n + 1) c 3 - (n + 1)) = A := ⟨_, rfl⟩
        have hAs : A.size = grownCap w (n + 1) c 3 := by
          rw [← hA, Array.size_append, Array.size_append, zlen, zlen, List.size_toArray, List.length_take]
          omega
        have hAj : ∀ j, j < i → A[j]? = cs[j]? := fun j hj => by
          rw [← hA, Array.getElem?_append_left (by rw [Array.size_append, List.size_toArray, List.length_take]; omega), Array.getElem?_append_left (by rw [List.size_toArray, List.length_take]; omega), List.getElem?_toArray, List.getElem?_take, if_pos hj]
        have hw2 : w' = (((w.alloc (.cells A 3)).drew.setCells w.heap.size i [Value.int .i64 (key : Int)]).drew).setCells w.heap.size (i + 1) (cs.drop i) := by rw [hw, ← hA]; rfl
        rw [hA] at hnew
        have hn1 : (w.alloc (.cells A 3)).drew.heap[w.heap.size]? = some (.cells A 3 (0, 0)) := hnew
        obtain ⟨c1, a1, a2, a3⟩ := heap_setCells w.heap.size 3 [Value.int .i64 (key : Int)] i _ A hn1
        have a1' : (((w.alloc (.cells A 3)).drew.setCells w.heap.size i [Value.int .i64 (key : Int)]).drew).heap[w.heap.size]? = some (.cells c1 3 (0, 0)) := a1
        obtain ⟨c2, b1, b2, b3⟩ := heap_setCells w.heap.size 3 (cs.drop i) (i + 1) _ c1 a1'
        refine ⟨_, he, ?_, ?_, fun k e => .inr (by cases e; exact Nat.le_refl _)⟩
        · rw [hw2]
          refine row_of_cells b1 (by rw [b2, a2, hAs]; rfl) hcap hcm2 hnl (fun j hj => ?_)
          rw [b3 j (by omega), hin j, List.length_drop, hcs]
          by_cases h4 : i + 1 ≤ j
          · rw [if_pos (by omega), if_neg (by omega), if_neg (by omega), List.getElem?_drop]
            congr 1
            omega
          · rw [if_neg (by omega), a3 j (by omega), List.length_singleton]
            by_cases h3 : j = i
            · subst h3
              rw [if_pos (by omega), if_neg (by omega), if_pos rfl, Nat.sub_self]; rfl
            · rw [if_neg (by omega), if_pos (by omega), hAj j (by omega)]
        · rw [hw2]
          have k1 : Keep (fun k => k = w.heap.size) w (w.alloc (.cells A 3)).drew := ((Keep.refl _ w).alloc _).drew
          have k2 : Keep (fun k => k = w.heap.size) w ((w.alloc (.cells A 3)).drew.setCells w.heap.size i [Value.int .i64 (key : Int)]).drew := (keep_setCells w.heap.size _ _ _ k1).drew
          exact (keep_setCells w.heap.size _ _ _ k2).mono (fun k hk e => by omega)
      · refine (endGrow (some ⟨g, 0, none⟩) c (by omega) hnc (by omega) (fun e => by cases e) (fun a ha j u hj => by
          cases ha
          have := hcells j u hj
          rw [Nat.zero_add] at this
          rw [addr_add9]
          exact this)).mono fun e w' hh => ?_
        obtain ⟨v', h1, h2, h3, h4⟩ := hh
        exact ⟨v', h1, h2, h3.mono (fun _ _ e => e.elim), fun k e => .inr (h4 k e)⟩
end Go.Proofs.YtaokjeokpifjgaaGreatDoor

namespace Go.Proofs.YtaokjeokpifjgaaGreatDoor
open Go.RowKit Go.MapKept
attribute [local go_sem] gives givesH
set_option maxRecDepth 100000

def Nd.ins (x : Nd) (i : Nat) (key val : ByteArray) (kid : Nat) : Nd :=
  ⟨x.leaf, x.keys.take i ++ key :: x.keys.drop i, if x.leaf then x.vals.take i ++ val :: x.vals.drop i else x.vals, if x.leaf then x.kids else x.kids.take i ++ kid :: x.kids.drop i⟩
structure NdStep (b : Nat) (w : World) (kv vv cv : Value) (w' : World) (kv' vv' cv' : Value) (x' : Nd) : Prop where
  nd : NdAt w' b kv' vv' cv' x'
  keep : Keep (ndOwn b kv vv cv) w w'
  own : ∀ k, ndOwn b kv' vv' cv' k → ndOwn b kv vv cv k ∨ w.heap.size ≤ k
set_option maxHeartbeats 1000000 in
theorem insert_any {w : World} {b : Nat} {kv vv cv : Value} {x : Nd} (h : NdAt w b kv vv cv x) (hl : x.keys.length < 65536) (hvl : x.vals.length = if x.leaf then x.keys.length else 0) (hcl : x.kids.length = if x.leaf then 0 else x.keys.length) (i : Nat) (hi : i ≤ x.keys.length) (key val : ByteArray) (kid : Nat) :
    Calls Tryz.prog 211 #[.pointer (some ⟨b, 0, none⟩), .int .i64 i, .string key, .string val, .int .i64 kid] w fun e w' => e = .returned (.tuple #[]) ∧ ∃ kv' vv' cv', NdStep b w kv vv cv w' kv' vv' cv' (x.ins i key val kid) := by
  have c1 : w.cell? ⟨b, 1, none⟩ = some kv := Lib.cell_of_heap h.cells 1
  obtain ⟨ka, kc, hkv⟩ := slice_formB h.keys
  obtain ⟨n, hn⟩ : ∃ n, x.keys.length = n := ⟨_, rfl⟩
  rw [hn] at hkv hl hi hvl hcl
  have hb0 : Below w.heap.size w (w.alloc (.cells #[.string key] 9)) := (Below.refl _ _).alloc (Nat.le_refl _) _
  have h0 := h.still hb0
  have hk0 := h0.keys
  rw [hn] at hk0
  have HA := Hd (insS_any (key := key) hk0 hn hl hi (heap_alloc_new w (.cells #[.string key] 9)) (fun e => by have := (h.keys.lt _ e).2; omega))
  have H0 := Hd h0
  have HB0 := Hd hb0
  have HN := Hd hn
  have hlt : b < w.heap.size := h.lt (.inl rfl)
  have i0 : (0 : Int) ≤ (i : Int) := by omega
  have HOw := Hd (fun k (hk : ndOwn b kv vv cv k) => h.lt hk)
  clear h h0 hk0 hb0 hn
  subst hkv
  obtain ⟨lf, hlf⟩ : ∃ lf, x.leaf = lf := ⟨_, rfl⟩
  rw [hlf] at hvl hcl
  have HLf := Hd hlf
  clear hlf
  cases lf with
  | false =>
    simp only [Bool.false_eq_true, if_false] at hvl hcl
    go_enter Tryz.func211, Tryz.ntmps211
    go_wp2_with (fail)
    refine (HA.out).mono ?_
    rintro e w1 ⟨v1, rfl, hr1, hk1, ho1⟩
    obtain ⟨ka1, kc1, hv1⟩ := slice_formB hr1
    subst hv1
    obtain ⟨hp1, hkp1⟩ := H0.out.putKeys (l := x.keys.take i ++ key :: x.keys.drop i) hk1 (by
      have e : (x.keys.take i ++ key :: x.keys.drop i).length = n + 1 := by rw [List.length_append, List.length_take, List.length_cons, List.length_drop, HN.out]; omega
      rw [e]
      exact hr1) ho1
    have hq1 := hk1.at H0.out.cells (fun e => H0.out.ne.1 e)
    have d1 : w1.cell? ⟨b, 1, none⟩ = some (.slice ka n kc) := Lib.cell_of_heap hq1 1
    have f1 : w1.frozen? ⟨b, 1, none⟩ = false := froz_of hq1
    obtain ⟨w2, hw2⟩ : ∃ w2, w1.setCell ⟨b, 1, none⟩ (.slice ka1 (n + 1) kc1) = w2 := ⟨_, rfl⟩
    rw [hw2] at hp1 hkp1
    have d0 : w2.cell? ⟨b, 0, none⟩ = some (.bool false) := by
      have := Lib.cell_of_heap hp1.cells 0
      rw [← HLf.out]
      exact this
    have d2 : w2.cell? ⟨b, 3, none⟩ = some cv := Lib.cell_of_heap hp1.cells 3
    have hb2 : Below w2.heap.size w2 (w2.alloc (.cells #[.int .i64 (kid : Int)] 3)) := (Below.refl _ _).alloc (Nat.le_refl _) _
    have h2 := hp1.still hb2
    have hv2 : (w2.alloc (.cells #[.int .i64 (kid : Int)] 3)).ownsRow 0 3 1 cv n (intV x.kids) := by
      have := h2.kids
      rw [show ({ x with keys := x.keys.take i ++ key :: x.keys.drop i } : Nd).kids = x.kids from rfl, hcl] at this
      exact this
    obtain ⟨va, vc, hvv⟩ := slice_formB hv2
    have HV := Hd (insI_any (key := kid) hv2 hcl hl hi (heap_alloc_new w2 (.cells #[.int .i64 (kid : Int)] 3)) (fun e => by have := (hp1.kids.lt _ e).2; omega))
    have H2 := Hd h2
    have HP1 := Hd hkp1
    have HOl := Hd ho1
    have HB2 := Hd hb2
    clear hp1 hkp1 hb2 h2 hv2 hr1 hk1 ho1 hq1
    subst hvv
    go_wp2_with (fail)
    refine (HV.out).mono ?_
    rintro e w3 ⟨v3, rfl, hr3, hk3, ho3⟩
    obtain ⟨va1, vc1, hv3⟩ := slice_formB hr3
    subst hv3
    obtain ⟨hp3, hkp3⟩ := H2.out.putKids (l := x.kids.take i ++ kid :: x.kids.drop i) hk3 (by
      have e : (x.kids.take i ++ kid :: x.kids.drop i).length = n + 1 := by rw [List.length_append, List.length_take, List.length_cons, List.length_drop, hcl]; omega
      rw [e]
      exact hr3) ho3
    have hq3 := hk3.at H2.out.cells (fun e => H2.out.ne.2.2 e)
    have d3 : w3.cell? ⟨b, 3, none⟩ = some (.slice va n vc) := Lib.cell_of_heap hq3 3
    have f3 : w3.frozen? ⟨b, 3, none⟩ = false := froz_of hq3
    have hx : ({ ({ x with keys := x.keys.take i ++ key :: x.keys.drop i } : Nd) with kids := x.kids.take i ++ kid :: x.kids.drop i } : Nd) = x.ins i key val kid := by
      unfold Nd.ins
      rw [HLf.out]
      simp only [Bool.false_eq_true, if_false]
    rw [hx] at hp3
    have ks1 : Keep (ndOwn b (.slice ka n kc) vv (.slice va n vc)) w w2 := (Keep.ofBelow HB0.out).trans HP1.out (fun _ _ e => e)
    have hz : w.heap.size ≤ w2.heap.size := ks1.size
    have hz0 : w.heap.size ≤ (w.alloc (.cells #[.string key] 9)).heap.size := HB0.out.size
    have own1 : ∀ q, (Value.slice ka1 (n + 1) kc1).ownBlock = some q → (Value.slice ka n kc).ownBlock = some q ∨ w.heap.size ≤ q := fun q e => (HOl.out q e).imp id (fun e2 => Nat.le_trans hz0 e2)
    have own3 : ∀ q, (Value.slice va1 (n + 1) vc1).ownBlock = some q → (Value.slice va n vc).ownBlock = some q ∨ w.heap.size ≤ q := fun q e => (ho3 q e).imp id (fun e2 => Nat.le_trans hz (Nat.le_trans HB2.out.size e2))
    have hst : NdStep b w (.slice ka n kc) vv (.slice va n vc) (w3.setCell ⟨b, 3, none⟩ (.slice va1 (n + 1) vc1)) (.slice ka1 (n + 1) kc1) vv (.slice va1 (n + 1) vc1) (x.ins i key val kid) := by
      refine ⟨hp3, (ks1.trans (Keep.ofBelow (S := fun _ => False) HB2.out) (fun _ _ e => e.elim)).trans hkp3 (fun q hq e => ?_), fun q e => ?_⟩
      · rcases e with e | e | e | e
        · exact .inl e
        · rcases own1 q e with e2 | e2
          · exact .inr (.inl e2)
          · omega
        · exact .inr (.inr (.inl e))
        · exact .inr (.inr (.inr e))
      · rcases e with e | e | e | e
        · exact .inl (.inl e)
        · exact (own1 q e).imp (fun e2 => .inr (.inl e2)) id
        · exact .inl (.inr (.inr (.inl e)))
        · exact (own3 q e).imp (fun e2 => .inr (.inr (.inr e2))) id
    have HSt := Hd hst
    clear hst hp3 hkp3 hx ks1 own1 own3 hq3 hr3 hk3 ho3
    go_wp2
    go_end0
    exact ⟨rfl, _, _, _, HSt.out⟩
  | true =>
    simp only [if_true] at hvl hcl
    go_enter Tryz.func211, Tryz.ntmps211
    go_wp2_with (fail)
    refine (HA.out).mono ?_
    rintro e w1 ⟨v1, rfl, hr1, hk1, ho1⟩
    obtain ⟨ka1, kc1, hv1⟩ := slice_formB hr1
    subst hv1
    obtain ⟨hp1, hkp1⟩ := H0.out.putKeys (l := x.keys.take i ++ key :: x.keys.drop i) hk1 (by
      have e : (x.keys.take i ++ key :: x.keys.drop i).length = n + 1 := by rw [List.length_append, List.length_take, List.length_cons, List.length_drop, HN.out]; omega
      rw [e]
      exact hr1) ho1
    have hq1 := hk1.at H0.out.cells (fun e => H0.out.ne.1 e)
    have d1 : w1.cell? ⟨b, 1, none⟩ = some (.slice ka n kc) := Lib.cell_of_heap hq1 1
    have f1 : w1.frozen? ⟨b, 1, none⟩ = false := froz_of hq1
    obtain ⟨w2, hw2⟩ : ∃ w2, w1.setCell ⟨b, 1, none⟩ (.slice ka1 (n + 1) kc1) = w2 := ⟨_, rfl⟩
    rw [hw2] at hp1 hkp1
    have d0 : w2.cell? ⟨b, 0, none⟩ = some (.bool true) := by
      have := Lib.cell_of_heap hp1.cells 0
      rw [← HLf.out]
      exact this
    have d2 : w2.cell? ⟨b, 2, none⟩ = some vv := Lib.cell_of_heap hp1.cells 2
    have hb2 : Below w2.heap.size w2 (w2.alloc (.cells #[.string val] 9)) := (Below.refl _ _).alloc (Nat.le_refl _) _
    have h2 := hp1.still hb2
    have hv2 : (w2.alloc (.cells #[.string val] 9)).ownsRow 0 9 1 vv n (strV x.vals) := by
      have := h2.vals
      rw [show ({ x with keys := x.keys.take i ++ key :: x.keys.drop i } : Nd).vals = x.vals from rfl, hvl] at this
      exact this
    obtain ⟨va, vc, hvv⟩ := slice_formB hv2
    have HV := Hd (insS_any (key := val) hv2 hvl hl hi (heap_alloc_new w2 (.cells #[.string val] 9)) (fun e => by have := (hp1.vals.lt _ e).2; omega))
    have H2 := Hd h2
    have HP1 := Hd hkp1
    have HOl := Hd ho1
    have HB2 := Hd hb2
    clear hp1 hkp1 hb2 h2 hv2 hr1 hk1 ho1 hq1
    subst hvv
    go_wp2_with (fail)
    refine (HV.out).mono ?_
    rintro e w3 ⟨v3, rfl, hr3, hk3, ho3⟩
    obtain ⟨va1, vc1, hv3⟩ := slice_formB hr3
    subst hv3
    obtain ⟨hp3, hkp3⟩ := H2.out.putVals (l := x.vals.take i ++ val :: x.vals.drop i) hk3 (by
      have e : (x.vals.take i ++ val :: x.vals.drop i).length = n + 1 := by rw [List.length_append, List.length_take, List.length_cons, List.length_drop, hvl]; omega
      rw [e]
      exact hr3) ho3
    have hq3 := hk3.at H2.out.cells (fun e => H2.out.ne.2.1 e)
    have d3 : w3.cell? ⟨b, 2, none⟩ = some (.slice va n vc) := Lib.cell_of_heap hq3 2
    have f3 : w3.frozen? ⟨b, 2, none⟩ = false := froz_of hq3
    have hx : ({ ({ x with keys := x.keys.take i ++ key :: x.keys.drop i } : Nd) with vals := x.vals.take i ++ val :: x.vals.drop i } : Nd) = x.ins i key val kid := by
      unfold Nd.ins
      rw [HLf.out]
      simp only [if_true]
    rw [hx] at hp3
    have ks1 : Keep (ndOwn b (.slice ka n kc) (.slice va n vc) cv) w w2 := (Keep.ofBelow HB0.out).trans HP1.out (fun _ _ e => e)
    have hz : w.heap.size ≤ w2.heap.size := ks1.size
    have hz0 : w.heap.size ≤ (w.alloc (.cells #[.string key] 9)).heap.size := HB0.out.size
    have own1 : ∀ q, (Value.slice ka1 (n + 1) kc1).ownBlock = some q → (Value.slice ka n kc).ownBlock = some q ∨ w.heap.size ≤ q := fun q e => (HOl.out q e).imp id (fun e2 => Nat.le_trans hz0 e2)
    have own3 : ∀ q, (Value.slice va1 (n + 1) vc1).ownBlock = some q → (Value.slice va n vc).ownBlock = some q ∨ w.heap.size ≤ q := fun q e => (ho3 q e).imp id (fun e2 => Nat.le_trans hz (Nat.le_trans HB2.out.size e2))
    have hst : NdStep b w (.slice ka n kc) (.slice va n vc) cv (w3.setCell ⟨b, 2, none⟩ (.slice va1 (n + 1) vc1)) (.slice ka1 (n + 1) kc1) (.slice va1 (n + 1) vc1) cv (x.ins i key val kid) := by
      refine ⟨hp3, (ks1.trans (Keep.ofBelow (S := fun _ => False) HB2.out) (fun _ _ e => e.elim)).trans hkp3 (fun q hq e => ?_), fun q e => ?_⟩
      · rcases e with e | e | e | e
        · exact .inl e
        · rcases own1 q e with e2 | e2
          · exact .inr (.inl e2)
          · omega
        · exact .inr (.inr (.inl e))
        · exact .inr (.inr (.inr e))
      · rcases e with e | e | e | e
        · exact .inl (.inl e)
        · exact (own1 q e).imp (fun e2 => .inr (.inl e2)) id
        · exact (own3 q e).imp (fun e2 => .inr (.inr (.inl e2))) id
        · exact .inl (.inr (.inr (.inr e)))
    have HSt := Hd hst
    clear hst hp3 hkp3 hx ks1 own1 own3 hq3 hr3 hk3 ho3
    go_wp2
    go_end0
    exact ⟨rfl, _, _, _, HSt.out⟩
end Go.Proofs.YtaokjeokpifjgaaGreatDoor
