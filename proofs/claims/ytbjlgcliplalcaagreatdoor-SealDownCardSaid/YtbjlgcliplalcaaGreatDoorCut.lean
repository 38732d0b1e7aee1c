/-
  THE WALKS of seal.Cut and of the reference's Of.
-/
import Derived.Test.YtbjlgcliplalcaaGreatDoorJoin
namespace Go.Proofs.YtbjlgcliplalcaaGreatDoor
set_option maxRecDepth 100000
open Go.RowKit
open flt
attribute [local go_sem] gives
theorem back_pos (n : Int) (h : 0 ≤ n) (hn : n < 9223372036854775808) (w : World) :
    Calls Tryz.prog 26 #[.int .i64 n] w fun e w' => e = .returned (.int .u32 (crc.it (backN n.toNat) crc.one : Nat)) ∧ w = w' := by
  obtain ⟨N, rfl⟩ := Int.eq_ofNat_of_zero_le h
  exact back_nat N (by omega) w
theorem back_neg (n : Int) (h : n < 0) (w : World) :
    Calls Tryz.prog 26 #[.int .i64 0] w fun e w' => e = .returned (.int .u32 (crc.it (backN n.toNat) crc.one : Nat)) ∧ w = w' := by
  rw [show n.toNat = 0 by omega]
  exact back_nat 0 (by omega) w

set_option maxHeartbeats 1600000 in
theorem cut_any (a1 a2 ac an b1 b2 bc bn : Int) (w : World) (ha1 : a1.natAbs < 18446744073709551616) (ha2 : a2.natAbs < 18446744073709551616)
    (hb1 : b1.natAbs < 18446744073709551616) (hb2 : b2.natAbs < 18446744073709551616) (hac : 0 ≤ ac ∧ ac < 4294967296) (hbc : 0 ≤ bc ∧ bc < 4294967296)
    (hbn : bn < 9223372036854775808) :
    Calls Tryz.prog 10 #[sealV a1 a2 ac an, sealV b1 b2 bc bn] w fun e w' =>
      e = .returned (sealV (wholeF (lessF (sumF a1 a2) (sumF b1 b2) bn).1) (wholeF (lessF (sumF a1 a2) (sumF b1 b2) bn).2)
        (crc.times (ac.toNat ^^^ bc.toNat) (crc.it (backN bn.toNat) crc.one) : Nat) (IntKind.i64.wrap (an - bn))) ∧ Below w.heap.size w w' := by
  obtain ⟨A, rfl⟩ := Int.eq_ofNat_of_zero_le hac.1
  obtain ⟨Bc, rfl⟩ := Int.eq_ofNat_of_zero_le hbc.1
  have hA : A < 4294967296 := by omega
  have hBc : Bc < 4294967296 := by omega
  rw [Int.toNat_natCast, Int.toNat_natCast]
  have g1 := sealSum_any a1 a2 (A : Nat) an
  have g2 := sealSum_any b1 b2 (Bc : Nat) bn
  have g3 := turnLess_any (sumF a1 a2).1 (sumF a1 a2).2 (sumF b1 b2).1 (sumF b1 b2).2 bn (fin_int _ ha1) (fin_int _ ha2) (fin_int _ hb1) (fin_int _ hb2)
  have hxl : A ^^^ Bc < 4294967296 := Nat.xor_lt_two_pow (n := 32) hA hBc
  have g5 := times_any (A ^^^ Bc) (crc.it (backN bn.toNat) crc.one) hxl (crc.it_lt _ _ crc.one_lt)
  have g6 := told_any (lessF (sumF a1 a2) (sumF b1 b2) bn).1 (lessF (sumF a1 a2) (sumF b1 b2) bn).2 (crc.times (A ^^^ Bc) (crc.it (backN bn.toNat) crc.one) : Nat) (IntKind.i64.wrap (an - bn))
  have hx := bits_xor_u32 A Bc hA hBc
  clear hac hbc
  generalize lessF (sumF a1 a2) (sumF b1 b2) bn = j at *
  generalize sumF a1 a2 = sa at *
  generalize sumF b1 b2 = sb at *
  generalize hnn : IntKind.i64.wrap (an - bn) = nn at *
  rcases Int.lt_or_le bn 0 with hneg | hpos
  case' inl => have g4 := back_neg bn hneg
  case' inr => have g4 := back_pos bn hpos hbn
  all_goals
    generalize crc.times (A ^^^ Bc) (crc.it (backN bn.toNat) crc.one) = m at *
    generalize crc.it (backN bn.toNat) crc.one = pw at *
    generalize A ^^^ Bc = ab at *
    have G1 := Lib.hid g1
    have G2 := Lib.hid g2
    have G3 := Lib.hid g3
    have G4 := Lib.hid g4
    have G5 := Lib.hid g5
    have G6 := Lib.hid g6
    clear g1 g2 g3 g4 g5 g6 ha1 ha2 hb1 hb2 hA hBc hbn hxl
    unfold sealV at *
    go_enter Tryz.func10, Tryz.ntmps10
    go_wp2
    have e1 : ((w.alloc (Obj.cells #[.int .i64 a1, .int .i64 a2, .int .u32 (A : Nat), .int .i64 an] 26)).alloc (Obj.cells #[.int .i64 b1, .int .i64 b2, .int .u32 (Bc : Nat), .int .i64 bn] 26)).heap.size = w.heap.size + 1 + 1 := by simp
    have h1 := new3 w (Obj.cells #[.int .i64 a1, .int .i64 a2, .int .u32 (A : Nat), .int .i64 an] 26) (Obj.cells #[.int .i64 b1, .int .i64 b2, .int .u32 (Bc : Nat), .int .i64 bn] 26) (Obj.cells #[.int .i64 0, .int .i64 0, .int .u32 0, .int .i64 0] 26)
    clear e1
    generalize (((w.alloc (Obj.cells #[.int .i64 a1, .int .i64 a2, .int .u32 (A : Nat), .int .i64 an] 26)).alloc (Obj.cells #[.int .i64 b1, .int .i64 b2, .int .u32 (Bc : Nat), .int .i64 bn] 26)).alloc (Obj.cells #[.int .i64 0, .int .i64 0, .int .u32 0, .int .i64 0] 26)) = W at *
    obtain ⟨h1, h2, h3, hbel⟩ := h1
    obtain ⟨C, hC⟩ : ∃ C : World → Prop, ∀ u, C u ↔ Below W.heap.size W u := ⟨fun u => Below W.heap.size W u, fun _ => Iff.rfl⟩
    have l3 : w.heap.size + 1 + 1 < W.heap.size := (Array.getElem?_eq_some_iff.1 h3).1
    have F : ∀ u, C u → u.heap[w.heap.size]? = some (Obj.cells #[.int .i64 a1, .int .i64 a2, .int .u32 (A : Nat), .int .i64 an] 26) ∧ u.heap[w.heap.size + 1]? = some (Obj.cells #[.int .i64 b1, .int .i64 b2, .int .u32 (Bc : Nat), .int .i64 bn] 26) ∧
        u.heap[w.heap.size + 1 + 1]? = some (Obj.cells #[.int .i64 0, .int .i64 0, .int .u32 0, .int .i64 0] 26) := fun u hu => by
      have hu := (hC u).1 hu
      exact ⟨(hu.block _ (by omega)).trans h1, (hu.block _ (by omega)).trans h2, (hu.block _ l3).trans h3⟩
    have step : ∀ u u', C u → Below u.heap.size u u' → C u' := fun u u' hu hb => (hC u').2 (((hC u).1 hu).trans (hb.mono ((hC u).1 hu).size))
    have HC := Lib.hid hC
    have FF := Lib.hid F
    have HH3 := Lib.hid h3
    clear hC F h1 h2 h3
    refine wp_region_inv 21 C (by kernel_rfl) (by kernel_rfl) ((HC.out _).2 (Below.refl _ _).drew) ?_
    simp only [List.take_succ_cons, List.take_zero, List.drop_succ_cons, List.drop_zero]
    repeat
      (refine wpInv_plain rfl (fun K hK => ?_)
       apply Exists.intro
       refine ⟨fun u hu => ?_, ?_⟩
       · have HU := Lib.hid hu
         obtain ⟨f1, f2, f3⟩ := FF.out u hu
         clear hu
         obtain ⟨⟨c1, c2, c3, c4⟩, d1, d2, d3, d4⟩ := cells4Of f1
         obtain ⟨⟨k1, k2, k3, k4⟩, o1, o2, o3, o4⟩ := cells4Of f2
         clear f1 f2 f3 d1 d2 d3 d4 o1 o2 o3 o4
         go_simp
         first
           | exact ⟨HU.out, rfl⟩
           | (go_at_call 25; with_reducible refine (G3.out _).mono ?_; rintro e w' ⟨rfl, rfl⟩; exact ⟨rfl, HU.out⟩)
           | (go_at_call 26; with_reducible refine (G4.out _).mono ?_; rintro e w' ⟨rfl, rfl⟩; exact ⟨rfl, HU.out⟩)
           | (go_at_call 23; with_reducible refine (G5.out _).mono ?_; rintro e w' ⟨rfl, rfl⟩; exact ⟨rfl, HU.out⟩)
           | (go_at_call 16; with_reducible refine (G6.out _).mono ?_; rintro e w' ⟨rfl, hb⟩; exact ⟨rfl, step _ _ HU.out hb⟩)
           | (go_at_call 22; with_reducible refine (G1.out _).mono ?_; rintro e w' ⟨rfl, hb⟩; exact ⟨rfl, step _ _ HU.out hb⟩)
           | (go_at_call 22; with_reducible refine (G2.out _).mono ?_; rintro e w' ⟨rfl, hb⟩; exact ⟨rfl, step _ _ HU.out hb⟩)
       go_simp
       refine hK _ ?_
       clear hK K)
    refine wpInv_nil ?_
    intro w' hw'
    obtain ⟨f1, f2, f3⟩ := FF.out w' hw'
    clear f1 f2
    have hb := hbel.trans (((HC.out _).1 hw').mono hbel.size)
    obtain ⟨⟨c1, c2, c3, c4⟩, d1, d2, d3, d4⟩ := cells4Of f3
    have F3 := Lib.hid f3
    clear f3
    go_wp2
    obtain ⟨⟨f1, f2, f3, f4⟩, _⟩ := cells4Of (set4 F3.out (.int .i64 (wholeF j.1)) (.int .i64 (wholeF j.2)) (.int .u32 (m : Nat)) (.int .i64 nn))
    exact bodyPost_ret (v := sealV (wholeF j.1) (wholeF j.2) (m : Nat) nn) (by simp [results, Tryz.results10, go_sem, f1, f2, f3, f4, sealV]) rfl ⟨rfl, below_set4 hb (by omega) _ _ _ _⟩

theorem cells2Of {w : World} {b : Nat} {x y : Value} {t : TypeId} (h : w.heap[b]? = some (.cells #[x, y] t (0, 0))) :
    w.cell? ⟨b, 0, none⟩ = some x ∧ w.cell? ⟨b, 1, none⟩ = some y := by
  simp [World.cell?, h]

set_option maxHeartbeats 1600000 in
theorem refOf_any (s : ByteArray) (hs : s.size ≤ 1099511627776) (w : World) :
    Calls Tryz.prog 8 #[.string s] w fun e w' =>
      e = .returned (sealV (rs (bl s) s.size s.size).1 (rs (bl s) s.size s.size).2 (crc.check (bl s) : Nat) (s.size : Nat)) ∧ Below w.heap.size w w' := by
  have g1 := refSum_any s hs
  have g2 := refCheck_any s (by unfold maxLen; omega)
  generalize rs (bl s) s.size s.size = z at *
  generalize crc.check (bl s) = c at *
  have G1 := Lib.hid g1
  have G2 := Lib.hid g2
  clear g1 g2
  go_enter Tryz.func8, Tryz.ntmps8
  go_wp2_with (go_at_call 19; refine (G1.out _).mono ?_; rintro e w1 ⟨rfl, hb1⟩)
  have hsz := hb1.size
  simp only [World.size_alloc] at hsz
  have h1 : (w1.alloc (Obj.cells #[.int .i64 z.1, .int .i64 z.2] 54)).heap[w.heap.size]? = some (.cells #[.int .i64 0, .int .i64 0, .int .u32 0, .int .i64 0] 26 (0, 0)) := by
    rw [Below.heap_alloc _ _ _ (by omega), hb1.block _ (by simp)]; exact heap_alloc_new _ _
  have h2 := heap_alloc_new w1 (Obj.cells #[.int .i64 z.1, .int .i64 z.2] 54)
  have hbel : Below w.heap.size w (w1.alloc (Obj.cells #[.int .i64 z.1, .int .i64 z.2] 54)) := ((((Below.refl _ _).alloc (Nat.le_refl _) _).trans (hb1.mono (by simp)))).alloc (by omega) _
  clear hb1
  have hl : w1.heap.size < (w1.alloc (Obj.cells #[.int .i64 z.1, .int .i64 z.2] 54)).heap.size := by simp
  generalize w1.alloc (Obj.cells #[.int .i64 z.1, .int .i64 z.2] 54) = W at *
  generalize w1.heap.size = zb at *
  obtain ⟨C, hC⟩ : ∃ C : World → Prop, ∀ u, C u ↔ Below W.heap.size W u := ⟨fun u => Below W.heap.size W u, fun _ => Iff.rfl⟩
  have F : ∀ u, C u → u.heap[w.heap.size]? = some (.cells #[.int .i64 0, .int .i64 0, .int .u32 0, .int .i64 0] 26 (0, 0)) ∧ u.heap[zb]? = some (Obj.cells #[.int .i64 z.1, .int .i64 z.2] 54) := fun u hu => by
    have hu := (hC u).1 hu
    exact ⟨(hu.block _ (by omega)).trans h1, (hu.block _ hl).trans h2⟩
  have HC := Lib.hid hC
  have FF := Lib.hid F
  clear hC F h1 h2
  refine wp_region_inv 9 C (by kernel_rfl) (by kernel_rfl) ((HC.out _).2 (Below.refl _ _).drew) ?_
  simp only [List.take_succ_cons, List.take_zero, List.drop_succ_cons, List.drop_zero]
  repeat
    (refine wpInv_plain rfl (fun K hK => ?_)
     apply Exists.intro
     refine ⟨fun u hu => ?_, ?_⟩
     · have HU := Lib.hid hu
       obtain ⟨f1, f2⟩ := FF.out u hu
       clear hu
       obtain ⟨c1, c2⟩ := cells2Of f2
       clear f1 f2
       go_simp
       first
         | exact ⟨HU.out, rfl⟩
         | (go_at_call 20; with_reducible refine (G2.out _).mono ?_; rintro e w' ⟨rfl, rfl⟩; exact ⟨rfl, HU.out⟩)
     go_simp
     refine hK _ ?_
     clear hK K)
  refine wpInv_nil ?_
  intro w' hw'
  obtain ⟨f1, f2⟩ := FF.out w' hw'
  clear f2
  have hb := hbel.trans (((HC.out _).1 hw').mono hbel.size)
  obtain ⟨⟨c1, c2, c3, c4⟩, d1, d2, d3, d4⟩ := cells4Of f1
  have F3 := Lib.hid f1
  clear f1
  go_wp2
  obtain ⟨⟨f1, f2, f3, f4⟩, _⟩ := cells4Of (set4 F3.out (.int .i64 z.1) (.int .i64 z.2) (.int .u32 (c : Nat)) (.int .i64 (s.size : Nat)))
  exact bodyPost_ret (v := sealV z.1 z.2 (c : Nat) (s.size : Nat)) (by simp [results, Tryz.results8, go_sem, f1, f2, f3, f4, sealV]) rfl ⟨rfl, below_set4 hb (by omega) _ _ _ _⟩
end Go.Proofs.YtbjlgcliplalcaaGreatDoor
