/-
  THE LAWS of layer 7: RoomRuns walked.
-/
import Derived.Test.YtalgheocjnajlaaGreatDoorRefs7
import Derived.Deep.DeepCutAuto
import Derived.Deep.CutBlock
namespace Go.Proofs.YtalgheocjnajlaaGreatDoor
open Go.RowKit Go.MapKept
attribute [local go_sem] gives givesH
set_option maxRecDepth 100000

theorem RBase.start {w0 w w1 w2 : World} {bl : Nat} {L : LogS} {d : Dk} {N homes : Nat} {W : Int → ByteArray} {br : Nat} {R : RoomS} {X Y : DocS} (hr : RoomAt w br R) (ht : TxIn w0.heap.size w bl L d N homes 200 W R.bt R.T) (hge : w0.heap.size ≤ br) (hb : Below w0.heap.size w0 w)
    (hx : NewDoc w w1 X.b X.av X.rv X.D) (hy : NewDoc w1 w2 Y.b Y.av Y.rv Y.D) : RBase w0 w2 bl L d N homes W br R X Y := by
  have hb1 := hx.below.trans (hy.below.mono hx.below.size)
  exact ⟨hr.still hb1, ht.still hb1, hx.at_.still hy.below, hy.at_, hge, fun k e => ⟨Nat.le_trans hb.size (hx.new k e), fun e2 => by have := hx.new k e; have := hr.foot_lt e2; omega⟩,
    fun k e => ⟨Nat.le_trans hb.size (Nat.le_trans hx.below.size (hy.new k e)), fun e2 => by have := hy.new k e; have := hx.below.size; have := hr.foot_lt e2; omega⟩, fun k e e2 => by have := hy.new k e2; have := hx.at_.lt e; omega, hb.trans (hb1.mono hb.size)⟩
theorem wf_u64 {z : Int} (h : (Lit.int .u64 z).wf = true) : 0 ≤ z ∧ z < 18446744073709551616 := by
  have h2 : (decide (0 ≤ z) && decide (z ≤ 18446744073709551615)) = true := h
  simp at h2
  omega
theorem pagesOf_small (n : Nat) (h1 : 4 ≤ n) (h2 : n ≤ 40) : 0 < (pagesOf n).toNat ∧ (pagesOf n).toNat ≤ 1000 := by
  unfold pagesOf
  rw [if_neg (by omega)]
  omega

set_option maxHeartbeats 16000000 in
theorem roomruns_walk {homes : Int} {v : Value} {A : List Act7T} (w : World) (h : Acts7At w w.heap.size v A) :
    Calls Tryz.prog 6 #[.int .i64 homes, v] w fun e w' => e = .returned (.bool true) ∧ Below w.heap.size w w' := by
  have H1 := Lib.hid (awake7_any w)
  obtain ⟨pa, pb, po, pc, hv, hp63, hpp, hpc⟩ := h
  subst hv
  obtain ⟨pl, hpl⟩ : ∃ pl, A.length = pl := ⟨_, rfl⟩
  rw [hpl] at hpp hp63 ⊢
  unfold maxLen at hp63
  have HPp := Lib.hid hpp
  have HPc := Lib.hid hpc
  have HPl := Lib.hid hpl
  clear hpp hpc hpl
  by_cases c1 : homes < 4
  · have d1 : decide (homes < 4) = true := by simpa using c1
    go_enter Tryz.func6, Tryz.ntmps6
    go_wp2_with (go_at_call 28; refine (H1.out).mono ?_; rintro e w1 ⟨rfl, hb1⟩)
    go_ret
    exact ⟨rfl, hb1⟩
  have d1 : decide (homes < 4) = false := by simpa using c1
  by_cases c2 : 40 < homes
  · have d2 : decide (40 < homes) = true := by simpa using c2
    go_enter Tryz.func6, Tryz.ntmps6
    go_wp2_with (go_at_call 28; refine (H1.out).mono ?_; rintro e w1 ⟨rfl, hb1⟩)
    go_ret
    exact ⟨rfl, hb1⟩
  have d2 : decide (40 < homes) = false := by simpa using c2
  by_cases c3 : 80 < pl
  · have d3 : decide ((80 : Int) < (pl : Int)) = true := by simp; omega
    have d3' : decide (80 < pl) = true := by simpa using c3
    go_enter Tryz.func6, Tryz.ntmps6
    go_wp2_with (go_at_call 28; refine (H1.out).mono ?_; rintro e w1 ⟨rfl, hb1⟩)
    go_ret
    exact ⟨rfl, hb1⟩
  have d3 : decide ((80 : Int) < (pl : Int)) = false := by simp; omega
  have d3' : decide (80 < pl) = false := by simpa using c3
  obtain ⟨n, rfl⟩ : ∃ n : Nat, homes = n := ⟨homes.toNat, by omega⟩
  have hn4 : 4 ≤ n := by omega
  have hn40 : n ≤ 40 := by omega
  have HNw := Lib.hid (fun u => ref7New_any n u)
  have HPs := Lib.hid (pagesOf_small n hn4 hn40)
  go_enter Tryz.func6, Tryz.ntmps6
  go_wp2_with (go_at_call 28; refine (H1.out).mono ?_; rintro e w1 ⟨rfl, hb1⟩
               have HB1 := Lib.hid hb1
               have HW := Lib.hid (wide7_any n hn4 (by omega) w1)
               clear hb1)
  refine (HW.out).mono ?_
  rintro e w2 ⟨bd, bl, L, rfl, hl2, hb2⟩
  have hl : LogIn w.heap.size w2 bl L (dFresh (201 + n)) 0 n 200 (fun _ => zeros 512) := ⟨hl2.up, hl2.homes, hl2.ring, fun k hk => Nat.le_trans HB1.out.size (hl2.newer k hk), hl2.free⟩
  have HB2 := Lib.hid (HB1.out.trans (hb2.mono HB1.out.size))
  have HBg := Lib.hid (hl.begin HB2.out.size)
  clear hl2 hb2 hl
  go_wp2_with (fail)
  refine (HBg.out).mono ?_
  rintro e w3 ⟨bt, T, rfl, ht, hp, _, hb3⟩
  have HB3 := Lib.hid (HB2.out.trans (hb3.mono HB2.out.size))
  have HT := Lib.hid ht
  have HP := Lib.hid hp
  have HOf := Lib.hid (of_any ht.tx.at_ (by rw [ht.tx.nE]; omega))
  clear ht hp hb3
  go_wp2_with (fail)
  refine (HOf.out).mono ?_
  rintro e w4 ⟨br, R, rfl, hA, hbt, hRT, hpg, hbr, hb4⟩
  subst hRT hbt
  have HB4 := Lib.hid (HB3.out.trans (hb4.mono HB3.out.size))
  have HR := Lib.hid hA
  have HT4 := Lib.hid (HT.out.still hb4)
  have HGe := Lib.hid (Nat.le_trans HB3.out.size hbr)
  rw [HT.out.tx.nE] at hpg
  have HPg := Lib.hid hpg
  clear hA hpg hbr hb4
  go_wp2_with (fail)
  refine (HNw.out _).mono ?_
  rintro e w5 ⟨xb, xa, xr, rfl, hx⟩
  have HX := Lib.hid hx
  have HCp := Lib.hid (ref7Copy_any hx.at_ (by rw [List.length_replicate]; exact HPs.out.1) List.length_replicate (by rw [List.length_replicate]; have := HPs.out.2; omega))
  clear hx
  go_wp2_with (fail)
  refine (HCp.out).mono ?_
  rintro e w6 ⟨yb, ya, yr, rfl, hy⟩
  have hs0 : ∀ R' : RoomS, R'.T.n = n → R'.T.puts = [] → R'.T.f = (fun _ => zeros 512) → R'.pages = (pagesOf n).toNat → Says R' ⟨List.replicate (pagesOf n).toNat pg0, List.replicate 16 0⟩ := fun R' g1 g2 g3 g4 => by
    have := says_new (R := R') (n := n) ⟨g1, g2, fun i => by rw [g3], g4⟩
    rw [g4] at this
    exact this
  have hst : RRel w w6 bl L (dFresh (201 + n)) 0 n (fun _ => zeros 512) br R.bt R ⟨xb, xa, xr, ⟨List.replicate (pagesOf n).toNat pg0, List.replicate 16 0⟩⟩ ⟨yb, ya, yr, ⟨List.replicate (pagesOf n).toNat pg0, List.replicate 16 0⟩⟩ 0 :=
    ⟨RBase.start HR.out HT4.out HGe.out HB4.out HX.out hy, hs0 R HT4.out.tx.nE HP.out HT4.out.tx.fE HPg.out, hs0 R.empty HT4.out.tx.nE rfl HT4.out.tx.fE HPg.out, rfl, by rw [HPg.out]; exact HPs.out, by rw [HP.out]; exact Nat.zero_le _, Nat.le_refl _, hn40⟩
  obtain ⟨bt, hbt⟩ : ∃ bt, R.bt = bt := ⟨_, rfl⟩
  rw [hbt] at hst
  rw [hbt]
  have HSt := Lib.hid hst
  clear hst hs0 hy hbt
  go_wp2_with (fail)
  go_loopw [9, 10, 56] (fun xv yv i wr => ∃ k : Nat, k ≤ pl ∧ i = .int .i64 k ∧ ∃ L d N W R X Y, xv = .pointer (some ⟨DocS.b X, 0, none⟩) ∧ yv = .pointer (some ⟨DocS.b Y, 0, none⟩) ∧ RRel w wr bl L d N n W br bt R X Y k) (fun _ _ i _ => pl - (intOf i).toNat)
  case atStart => exact ⟨0, by omega, rfl, _, _, _, _, _, _, _, rfl, rfl, HSt.out⟩
  case round =>
    obtain ⟨k, hk, rfl, Lk, dk, Nk, Wk, Rk, X, Y, rfl, rfl, hrl⟩ := hrel
    have HT := Lib.hid hrl
    have HB := Lib.hid hrl.base.below
    clear hrl
    by_cases hlt : k < pl
    · have g1 : decide ((k : Int) < (pl : Int)) = true := by simp; omega
      have g1' : decide (k < pl) = true := by simpa using hlt
      obtain ⟨rfl, hb⟩ := HPp.out (by omega)
      obtain ⟨x, hx⟩ : ∃ x, A[k]? = some x := ⟨_, List.getElem?_eq_getElem (by rw [HPl.out]; exact hlt)⟩
      obtain ⟨q0, q1, q2, q3, hxw⟩ := HPc.out k x hx
      rw [← HB.out.cell (p := ⟨pb, po + k * 4, none⟩) hb] at q0
      rw [← HB.out.cell (p := ⟨pb, po + k * 4 + 1, none⟩) hb] at q1
      rw [← HB.out.cell (p := ⟨pb, po + k * 4 + 2, none⟩) hb] at q2
      rw [← HB.out.cell (p := ⟨pb, po + k * 4 + 3, none⟩) hb] at q3
      obtain ⟨xw, xa, xn, xt⟩ := x
      obtain ⟨hw1, hw2, hw3, hw4⟩ := hxw
      simp only at q0 q1 q2 q3 hw1 hw2 hw3 hw4
      have hk0 : (0 : Int) ≤ (k : Int) := by omega
      have hk1 : (k : Int) < (pl : Int) := by omega
      have hk80 : k ≤ 80 := by omega
      clear hx
      have hwb : Below wr.heap.size wr (wr.alloc (Obj.cells #[.int .i64 xw, .int .i64 xa, .int .u64 xn, .string xt] 73)) := (Below.refl _ _).alloc (Nat.le_refl _) _
      have hna := heap_alloc_new wr (Obj.cells #[.int .i64 xw, .int .i64 xa, .int .u64 xn, .string xt] 73)
      have hsz : wr.heap.size < (wr.alloc (Obj.cells #[.int .i64 xw, .int .i64 xa, .int .u64 xn, .string xt] 73)).heap.size := by simp
      obtain ⟨wx, hwx⟩ : ∃ wx, wr.alloc (Obj.cells #[.int .i64 xw, .int .i64 xa, .int .u64 xn, .string xt] 73) = wx := ⟨_, rfl⟩
      rw [hwx] at hwb hna hsz
      have HTx := Lib.hid (HT.out.still hwb)
      have HNa := Lib.hid hna
      have HSz := Lib.hid hsz
      have HAp := Lib.hid (show ¬ Rk.foot br wr.heap.size ∧ ¬ X.own wr.heap.size from ⟨fun e => by have := HT.out.base.room.foot_lt e; omega, fun e => by have := HT.out.base.doc.lt e; omega⟩)
      obtain ⟨ab, hab⟩ : ∃ ab, wr.heap.size = ab := ⟨_, rfl⟩
      rw [hab] at HNa HSz HAp
      clear hwb hna hsz
      have n0 : wx.cell? ⟨ab, 0, none⟩ = some (.int .i64 xw) := Lib.cell_of_heap HNa.out 0
      have n3 : wx.cell? ⟨ab, 3, none⟩ = some (.string xt) := Lib.cell_of_heap HNa.out 3
      by_cases c6 : 600 < xt.size
      · have f6 : decide ((600 : Int) < (xt.size : Int)) = true := by simp; omega
        have f6' : decide (600 < xt.size) = true := by simpa using c6
        go_wp2
        go_ret
        exact ⟨rfl, HTx.out.base.below⟩
      have f6 : decide ((600 : Int) < (xt.size : Int)) = false := by simp; omega
      have f6' : decide (600 < xt.size) = false := by simpa using c6
      by_cases x0 : xw = 0
      · as_aux_lemma =>
          subst x0
          have HA := Lib.hid (HTx.out.alloc hk80)
          go_wp2_with (fail)
          refine (HA.out).mono ?_
          rintro e w1 ⟨p, c, rfl, _, hnext⟩
          have HA2 := Lib.hid (hnext _ (Below.refl _ _))
          clear hnext
          go_wp2_with (fail)
          refine (HA2.out).mono ?_
          rintro e w2 ⟨rfl, _, R', D', hrel⟩
          have HR2 := Lib.hid hrel
          clear hrel
          go_wp2
          go_roundw
          case rel => exact ⟨k + 1, by omega, rfl, _, _, _, _, _, ⟨X.b, X.av, X.rv, D'⟩, Y, rfl, rfl, HR2.out⟩
          case measure => simp [intOf]; omega
      have t0 : (xw == 0) = false := by simpa using x0
      by_cases x1 : xw = 1
      · as_aux_lemma =>
          subst x1
          have hbd : Below wx.heap.size wx wx.drew := ⟨rfl, rfl, rfl, Nat.le_refl _, fun _ _ => rfl⟩
          have HA := Lib.hid ((HTx.out.still hbd).free hk80 xa)
          have HBd := Lib.hid hbd
          clear hbd
          go_wp2_with (fail)
          obtain ⟨S, hS⟩ : ∃ S : World → Prop, ∀ u, S u ↔ Keep (fun q => q ≠ ab) (wx) u := ⟨fun u => Keep (fun q => q ≠ ab) (wx) u, fun _ => Iff.rfl⟩
          have HS := Lib.hid hS
          clear hS
          refine wp_region_ord 7 [(0, true), (1, true), (2, true), (4, true), (5, true), (6, true), (3, false)] S (by kernel_rfl) (by kernel_rfl) ((HS.out _).2 (Keep.refl _ _).drew) ?_
          iterate 6
            first
              | (refine wpH_passed rfl (by rfl) (fun K hK => ?_); go_simp; refine hK _ ?_; clear hK K)
              | (first
                   | refine wpH_read rfl rfl (fun K hK => ?_)
                   | refine wpH_readw rfl (by rfl) (fun K hK => ?_)
                 apply Exists.intro
                 refine ⟨fun u hu => ?_, ?_⟩
                 · have hu := (HS.out u).1 hu
                   have n1 : u.cell? ⟨ab, 1, none⟩ = some (.int .i64 xa) := Lib.cell_of_heap (hu.at HNa.out (fun e => e rfl)) 1
                   have n3 : u.cell? ⟨ab, 3, none⟩ = some (.string xt) := Lib.cell_of_heap (hu.at HNa.out (fun e => e rfl)) 3
                   clear hu
                   go_simp
                   exact ⟨rfl, rfl⟩
                 go_simp
                 refine hK _ ?_
                 clear hK K)
          refine wpH_do rfl rfl (fun K hK => ?_)
          go_simp
          go_at_call 35
          refine (HA.out).mono ?_
          rintro e w1 ⟨c, rfl, hk1, hnext⟩
          have HA2 := Lib.hid (hnext _ (Below.refl _ _))
          refine hK _ _ ((HS.out _).2 ((Keep.ofBelow (S := fun q => q ≠ ab) HBd.out).trans hk1 (fun i _ e e2 => HAp.out.1 (by rw [← e2]; exact e)))) ?_
          clear hK K hnext hk1
          refine wpH_nil ?_
          simp only [List.drop_succ_cons, List.drop_zero]
          clear S HS
          go_wp2_with (fail)
          refine (HA2.out).mono ?_
          rintro e w2 ⟨rfl, _, R', D', hrel⟩
          have HR2 := Lib.hid hrel
          clear hrel
          go_wp2
          go_roundw
          case rel => exact ⟨k + 1, by omega, rfl, _, _, _, _, _, ⟨X.b, X.av, X.rv, D'⟩, Y, rfl, rfl, HR2.out⟩
          case measure => simp [intOf]; omega
      have t1 : (xw == 1) = false := by simpa using x1
      by_cases x2 : xw = 2
      · as_aux_lemma =>
          subst x2
          have hbd : Below wx.heap.size wx wx.drew := ⟨rfl, rfl, rfl, Nat.le_refl _, fun _ _ => rfl⟩
          have HA := Lib.hid ((HTx.out.still hbd).write hk80 xa xt hw4)
          have HBd := Lib.hid hbd
          clear hbd
          go_wp2_with (fail)
          obtain ⟨S, hS⟩ : ∃ S : World → Prop, ∀ u, S u ↔ Keep (fun q => q ≠ ab) (wx) u := ⟨fun u => Keep (fun q => q ≠ ab) (wx) u, fun _ => Iff.rfl⟩
          have HS := Lib.hid hS
          clear hS
          refine wp_region_ord 11 [(0, true), (1, true), (2, true), (3, true), (4, true), (6, true), (7, true), (8, true), (9, true), (10, true), (5, false)] S (by kernel_rfl) (by kernel_rfl) ((HS.out _).2 (Keep.refl _ _).drew) ?_
          iterate 10
            first
              | (refine wpH_passed rfl (by rfl) (fun K hK => ?_); go_simp; refine hK _ ?_; clear hK K)
              | (first
                   | refine wpH_read rfl rfl (fun K hK => ?_)
                   | refine wpH_readw rfl (by rfl) (fun K hK => ?_)
                 apply Exists.intro
                 refine ⟨fun u hu => ?_, ?_⟩
                 · have hu := (HS.out u).1 hu
                   have n1 : u.cell? ⟨ab, 1, none⟩ = some (.int .i64 xa) := Lib.cell_of_heap (hu.at HNa.out (fun e => e rfl)) 1
                   have n3 : u.cell? ⟨ab, 3, none⟩ = some (.string xt) := Lib.cell_of_heap (hu.at HNa.out (fun e => e rfl)) 3
                   clear hu
                   go_simp
                   exact ⟨rfl, rfl⟩
                 go_simp
                 refine hK _ ?_
                 clear hK K)
          refine wpH_do rfl rfl (fun K hK => ?_)
          go_simp
          go_at_call 37
          refine (HA.out).mono ?_
          rintro e w1 ⟨c, rfl, hk1, hnext⟩
          have HA2 := Lib.hid (hnext _ (Below.refl _ _))
          refine hK _ _ ((HS.out _).2 ((Keep.ofBelow (S := fun q => q ≠ ab) HBd.out).trans hk1 (fun i _ e e2 => HAp.out.1 (by rw [← e2]; exact e)))) ?_
          clear hK K hnext hk1
          refine wpH_nil ?_
          simp only [List.drop_succ_cons, List.drop_zero]
          clear S HS
          go_wp2_with (fail)
          refine (HA2.out).mono ?_
          rintro e w2 ⟨rfl, _, R', D', hrel⟩
          have HR2 := Lib.hid hrel
          clear hrel
          go_wp2
          go_roundw
          case rel => exact ⟨k + 1, by omega, rfl, _, _, _, _, _, ⟨X.b, X.av, X.rv, D'⟩, Y, rfl, rfl, HR2.out⟩
          case measure => simp [intOf]; omega
      have t2 : (xw == 2) = false := by simpa using x2
      by_cases x3 : xw = 3
      · as_aux_lemma =>
          subst x3
          obtain ⟨s, c, r1, r2⟩ := HTx.out.read xa
          obtain ⟨t, c2, r3, r4⟩ := HTx.out.has xa
          have HR1 := Lib.hid r1
          have HR2 := Lib.hid r2
          have HR3 := Lib.hid r3
          have HR4 := Lib.hid r4
          clear r1 r2 r3 r4
          have n1 : wx.cell? ⟨ab, 1, none⟩ = some (.int .i64 xa) := Lib.cell_of_heap HNa.out 1
          go_wp2_with (fail)
          refine (HR1.out _ (Below.refl _ _)).mono ?_
          rintro e w1 ⟨rfl, hb1⟩
          have HB1 := Lib.hid hb1
          have n1 : w1.cell? ⟨ab, 1, none⟩ = some (.int .i64 xa) := Lib.cell_of_heap ((Keep.still hb1).at HNa.out (fun e => e)) 1
          clear hb1
          go_wp2_with (fail)
          refine (HR2.out _ HB1.out).mono ?_
          rintro e _ ⟨rfl, rfl⟩
          go_wp2_with (fail)
          refine (HR3.out _ HB1.out).mono ?_
          rintro e w2 ⟨rfl, hb2⟩
          have HB2 := Lib.hid (HB1.out.trans (hb2.mono HB1.out.size))
          have n1 : w2.cell? ⟨ab, 1, none⟩ = some (.int .i64 xa) := Lib.cell_of_heap ((Keep.still HB2.out).at HNa.out (fun e => e)) 1
          clear hb2
          go_wp2_with (fail)
          refine (HR4.out _ HB2.out).mono ?_
          rintro e _ ⟨rfl, rfl⟩
          go_wp2
          go_roundw
          case rel => exact ⟨k + 1, by omega, rfl, _, _, _, _, _, _, _, rfl, rfl, (HTx.out.still HB2.out).mono (Nat.le_succ k)⟩
          case measure => simp [intOf]; omega
      have t3 : (xw == 3) = false := by simpa using x3
      by_cases x4 : xw = 4
      · as_aux_lemma =>
          subst x4
          have hn2 : 0 ≤ xn ∧ xn < 18446744073709551616 := wf_u64 hw3
          have HA := Lib.hid (HTx.out.setRoot hk80 xa xn hn2)
          have n1 : wx.cell? ⟨ab, 1, none⟩ = some (.int .i64 xa) := Lib.cell_of_heap HNa.out 1
          have n2 : wx.cell? ⟨ab, 2, none⟩ = some (.int .u64 xn) := Lib.cell_of_heap HNa.out 2
          go_wp2_with (fail)
          refine (HA.out).mono ?_
          rintro e w1 ⟨c, rfl, hk1, hcase⟩
          have hna1 := hk1.at HNa.out HAp.out.1
          have n1 : w1.cell? ⟨ab, 1, none⟩ = some (.int .i64 xa) := Lib.cell_of_heap hna1 1
          have HNa1 := Lib.hid hna1
          clear hna1 hk1
          rcases hcase with ⟨h0, h16, rfl, g, cp, hrv, hd, R', D', hrel⟩ | ⟨hno, rfl, hrel⟩
          · obtain ⟨q, rfl⟩ : ∃ q : Nat, xa = q := ⟨xa.toNat, by omega⟩
            have f1 : decide ((0 : Int) ≤ (q : Int)) = true := by simp
            have f2 : decide ((q : Int) < 16) = true := by simpa using h16
            have f2' : decide (q < 16) = true := by simp; omega
            have HR2 := Lib.hid hrel
            rw [Int.toNat_natCast] at HR2
            rw [hrv] at hd
            have HD := Lib.hid hd
            clear hrel hd hrv
            go_wp2_with (fail)
            obtain ⟨S, hS⟩ : ∃ S : World → Prop, ∀ u, S u ↔ Keep (fun _ => False) (w1) u := ⟨fun u => Keep (fun _ => False) (w1) u, fun _ => Iff.rfl⟩
            have HS := Lib.hid hS
            clear hS
            refine wp_region_ord 9 [(0, true), (1, true), (2, true), (3, true), (4, true), (5, true), (6, true), (7, true), (8, true)] S (by kernel_rfl) (by kernel_rfl) ((HS.out _).2 (Keep.refl _ _).drew) ?_
            iterate 9
              first
                | (refine wpH_passed rfl (by rfl) (fun K hK => ?_); go_simp; refine hK _ ?_; clear hK K)
                | (first
                     | refine wpH_read rfl rfl (fun K hK => ?_)
                     | refine wpH_readw rfl (by rfl) (fun K hK => ?_)
                   apply Exists.intro
                   refine ⟨fun u hu => ?_, ?_⟩
                   · have hu := (HS.out u).1 hu
                     obtain ⟨k0, k1⟩ := (HD.out.keep hu (fun _ _ e => e)).cell
                     have n1 : u.cell? ⟨ab, 1, none⟩ = some (.int .i64 (q : Int)) := Lib.cell_of_heap (hu.at HNa1.out (fun e => e)) 1
                     have n2 : u.cell? ⟨ab, 2, none⟩ = some (.int .u64 xn) := Lib.cell_of_heap (hu.at HNa1.out (fun e => e)) 2
                     clear hu
                     go_simp
                     exact ⟨rfl, rfl⟩
                   go_simp
                   refine hK _ ?_
                   clear hK K)
            refine wpH_nil ?_
            simp only [List.drop_succ_cons, List.drop_zero]
            clear S HS
            have fz : w1.frozen? ⟨g, q, none⟩ = false := by
              have hr := HD.out.roots
              rw [HTx.out.says.rlen] at hr
              exact hr.frozenAt _
            obtain ⟨m0, hm0⟩ : ∃ m, X.D.roots[q]? = some m := ⟨_, List.getElem?_eq_getElem (by rw [HTx.out.says.rlen]; omega)⟩
            have cq := HD.out.root hm0
            clear hm0
            go_wp2
            go_roundw
            case rel => exact ⟨k + 1, by omega, rfl, _, _, _, _, _, ⟨X.b, X.av, X.rv, D'⟩, Y, rfl, rfl, HR2.out.still ⟨rfl, rfl, rfl, Nat.le_refl _, fun _ _ => rfl⟩⟩
            case measure => simp [intOf]; omega
          · have HR2 := Lib.hid hrel
            clear hrel
            by_cases h0 : 0 ≤ xa
            · have f1 : decide ((0 : Int) ≤ xa) = true := by simpa using h0
              have f2 : decide (xa < 16) = false := by simp; omega
              go_wp2
              go_roundw
              case rel => exact ⟨k + 1, by omega, rfl, _, _, _, _, _, _, _, rfl, rfl, HR2.out⟩
              case measure => simp [intOf]; omega
            · have f1 : decide ((0 : Int) ≤ xa) = false := by simpa using h0
              go_wp2
              go_roundw
              case rel => exact ⟨k + 1, by omega, rfl, _, _, _, _, _, _, _, rfl, rfl, HR2.out⟩
              case measure => simp [intOf]; omega
      have t4 : (xw == 4) = false := by simpa using x4
      by_cases x5 : xw = 5
      · as_aux_lemma =>
          subst x5
          obtain ⟨m, c, hc0, hc2, hr⟩ := HTx.out.root xa
          have HA := Lib.hid (hr _ (Below.refl _ _))
          have n1 : wx.cell? ⟨ab, 1, none⟩ = some (.int .i64 xa) := Lib.cell_of_heap HNa.out 1
          clear hr
          go_wp2_with (fail)
          refine (HA.out).mono ?_
          rintro e w1 ⟨rfl, hb1⟩
          have HB1 := Lib.hid hb1
          have n1 : w1.cell? ⟨ab, 1, none⟩ = some (.int .i64 xa) := Lib.cell_of_heap ((Keep.still hb1).at HNa.out (fun e => e)) 1
          clear hb1
          by_cases hin : 0 ≤ xa ∧ xa < 16
          · obtain rfl : c = 0 := hc0.2 hin
            clear hc0 hc2
            have f1 : decide ((0 : Int) ≤ xa) = true := by simpa using hin.1
            have f2 : decide (xa < 16) = true := by simpa using hin.2
            go_wp2
            go_roundw
            case rel => exact ⟨k + 1, by omega, rfl, _, _, _, _, _, _, _, rfl, rfl, (HTx.out.still HB1.out).mono (Nat.le_succ k)⟩
            case measure => simp [intOf]; omega
          · obtain ⟨rfl, rfl⟩ : c = 2 ∧ m = 0 := hc2.resolve_left (fun e => hin (hc0.1 e))
            clear hc0 hc2
            by_cases h0 : 0 ≤ xa
            · have f1 : decide ((0 : Int) ≤ xa) = true := by simpa using h0
              have f2 : decide (xa < 16) = false := by simp; omega
              go_wp2
              go_roundw
              case rel => exact ⟨k + 1, by omega, rfl, _, _, _, _, _, _, _, rfl, rfl, (HTx.out.still HB1.out).mono (Nat.le_succ k)⟩
              case measure => simp [intOf]; omega
            · have f1 : decide ((0 : Int) ≤ xa) = false := by simpa using h0
              go_wp2
              go_roundw
              case rel => exact ⟨k + 1, by omega, rfl, _, _, _, _, _, _, _, rfl, rfl, (HTx.out.still HB1.out).mono (Nat.le_succ k)⟩
              case measure => simp [intOf]; omega
      have t5 : (xw == 5) = false := by simpa using x5
      by_cases x6 : xw = 6
      · as_aux_lemma =>
          subst x6
          have HA := Lib.hid (HTx.out.commit hk80)
          go_wp2_with (fail)
          refine (HA.out).mono ?_
          rintro e w1 ⟨rfl, _, hnext⟩
          have HA2 := Lib.hid (hnext _ (Below.refl _ _))
          clear hnext
          go_wp2_with (fail)
          refine (HA2.out).mono ?_
          rintro e w2 ⟨L', d', N', W', R', Y', rfl, _, hrel⟩
          have HR2 := Lib.hid hrel
          clear hrel
          go_wp2
          go_roundw
          case rel => exact ⟨k + 1, by omega, rfl, _, _, _, _, _, _, _, rfl, rfl, HR2.out⟩
          case measure => simp [intOf]; omega
      have t6 : (xw == 6) = false := by simpa using x6
      by_cases x7 : xw = 7
      · as_aux_lemma =>
          subst x7
          have HA := Lib.hid (HTx.out.drop hk80)
          go_wp2_with (fail)
          refine (HA.out).mono ?_
          rintro e w1 ⟨rfl, _, hnext⟩
          have HA2 := Lib.hid (hnext _ (Below.refl _ _))
          clear hnext
          go_wp2_with (fail)
          refine (HA2.out).mono ?_
          rintro e w2 ⟨R', X', rfl, _, hrel⟩
          have HR2 := Lib.hid hrel
          clear hrel
          go_wp2
          go_roundw
          case rel => exact ⟨k + 1, by omega, rfl, _, _, _, _, _, _, _, rfl, rfl, HR2.out⟩
          case measure => simp [intOf]; omega
      have t7 : (xw == 7) = false := by simpa using x7
      as_aux_lemma =>
        go_wp2
        go_roundw
        case rel => exact ⟨k + 1, by omega, rfl, _, _, _, _, _, _, _, rfl, rfl, HTx.out.mono (Nat.le_succ k)⟩
        case measure => simp [intOf]; omega
    · have g1 : decide ((k : Int) < (pl : Int)) = false := by simp; omega
      have g1' : decide (k < pl) = false := by simpa using hlt
      have HSm := Lib.hid (same_any HT.out)
      go_wp2_with (fail)
      refine (HSm.out).mono ?_
      rintro e w9 ⟨rfl, hb9⟩
      go_wp2
      go_ret
      exact ⟨rfl, HB.out.trans (hb9.mono HB.out.size)⟩
end Go.Proofs.YtalgheocjnajlaaGreatDoor
