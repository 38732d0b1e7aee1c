/-
  THE WALKS of seal.Of, the reference's Of, seal.Join, seal.Cut.
-/
import Derived.Test.YtbjlgcliplalcaaGreatDoorSum
import Derived.Test.YtbjlgcliplalcaaGreatDoorPower
import Derived.Test.YtbjlgcliplalcaaGreatDoorRegion
namespace Go.Proofs.YtbjlgcliplalcaaGreatDoor
set_option maxRecDepth 100000
open Go.RowKit
open flt

/-- a seal as a value -/
def sealV (re im c n : Int) : Value := .agg #[.int .i64 re, .int .i64 im, .int .u32 c, .int .i64 n]

theorem cells4Of {w : World} {b : Nat} {x y z u : Value} {t : TypeId} (h : w.heap[b]? = some (.cells #[x, y, z, u] t (0, 0))) :
    (w.cell? ⟨b, 0, none⟩ = some x ∧ w.cell? ⟨b, 1, none⟩ = some y ∧ w.cell? ⟨b, 2, none⟩ = some z ∧ w.cell? ⟨b, 3, none⟩ = some u) ∧
    (w.frozen? ⟨b, 0, none⟩ = false ∧ w.frozen? ⟨b, 1, none⟩ = false ∧ w.frozen? ⟨b, 2, none⟩ = false ∧ w.frozen? ⟨b, 3, none⟩ = false) := by
  simp [World.cell?, World.frozen?, h]
theorem set4 {w : World} {b : Nat} {x y z u : Value} {t : TypeId} (h : w.heap[b]? = some (.cells #[x, y, z, u] t (0, 0))) (x' y' z' u' : Value) :
    ((((w.setCell ⟨b, 0, none⟩ x').setCell ⟨b, 1, none⟩ y').setCell ⟨b, 2, none⟩ z').setCell ⟨b, 3, none⟩ u').heap[b]? = some (.cells #[x', y', z', u'] t (0, 0)) := by
  simp [World.setCell, Array.getElem?_modify, h]
theorem below_set4 {B : Nat} {a w : World} (h : Below B a w) {b : Nat} (hb : B ≤ b) (x' y' z' u' : Value) :
    Below B a ((((w.setCell ⟨b, 0, none⟩ x').setCell ⟨b, 1, none⟩ y').setCell ⟨b, 2, none⟩ z').setCell ⟨b, 3, none⟩ u') :=
  (((h.setCell hb _).setCell hb _).setCell hb _).setCell hb _

theorem of_any (s : ByteArray) (hs : s.size ≤ maxLen) (w : World) :
    Calls Tryz.prog 7 #[.string s] w fun e w' =>
      e = .returned (sealV (wholeF (turnSumF (bl s)).1) (wholeF (turnSumF (bl s)).2) (crc.check (bl s) : Nat) (s.size : Nat)) ∧ Below w.heap.size w w' := by
  have hsum := turnSum_any s hs
  have hchk := check_any s hs
  have htold := told_any (turnSumF (bl s)).1 (turnSumF (bl s)).2 (crc.check (bl s) : Nat) (s.size : Nat)
  generalize turnSumF (bl s) = z at *
  generalize crc.check (bl s) = c at *
  have H1 := Lib.hid hsum
  have H2 := Lib.hid hchk
  have H3 := Lib.hid htold
  clear hsum hchk htold
  go_enter Tryz.func7, Tryz.ntmps7
  go_wp2_with (first
    | (go_at_call 17; refine (H1.out _).mono ?_; rintro e w1 ⟨rfl, hb1⟩)
    | (go_at_call 18; refine (H2.out _).mono ?_; rintro e w' ⟨rfl, rfl⟩)
    | (go_at_call 16; refine (H3.out _).mono ?_; rintro e w2 ⟨rfl, hb2⟩
       have g : w2.heap[w.heap.size]? = some (.cells #[.int .i64 0, .int .i64 0, .int .u32 0, .int .i64 0] 26 (0, 0)) := by
         rw [hb2.block _ (by have := hb1.size; simp at this; omega), hb1.block _ (by simp)]; exact heap_alloc_new _ _
       have hb : Below w.heap.size w w2 := (((Below.refl _ _).alloc (Nat.le_refl _) _).trans (hb1.mono (by simp))).trans (hb2.mono (by have := hb1.size; simp at this; omega))
       clear hb1 hb2
       obtain ⟨⟨c1, c2, c3, c4⟩, d1, d2, d3, d4⟩ := cells4Of g
       have G := Lib.hid g
       clear g))
  obtain ⟨⟨f1, f2, f3, f4⟩, _⟩ := cells4Of (set4 G.out (.int .i64 (wholeF z.1)) (.int .i64 (wholeF z.2)) (.int .u32 (c : Nat)) (.int .i64 (s.size : Nat)))
  exact bodyPost_ret (v := sealV (wholeF z.1) (wholeF z.2) (c : Nat) (s.size : Nat)) (by simp [results, Tryz.results7, go_sem, f1, f2, f3, f4, sealV]) rfl ⟨rfl, below_set4 hb (Nat.le_refl _) _ _ _ _⟩

/-- three new blocks -/
theorem new3 (w : World) (o1 o2 o3 : Obj) : (((w.alloc o1).alloc o2).alloc o3).heap[w.heap.size]? = some o1 ∧ (((w.alloc o1).alloc o2).alloc o3).heap[w.heap.size + 1]? = some o2 ∧
    (((w.alloc o1).alloc o2).alloc o3).heap[w.heap.size + 1 + 1]? = some o3 ∧ Below w.heap.size w (((w.alloc o1).alloc o2).alloc o3) := by
  refine ⟨?_, ?_, ?_, ?_⟩
  · rw [Below.heap_alloc _ _ _ (by simp; omega), Below.heap_alloc _ _ _ (by simp), heap_alloc_new]
  · rw [Below.heap_alloc _ _ _ (by simp)]
    have := heap_alloc_new (w.alloc o1) o2
    rwa [World.size_alloc] at this
  · have := heap_alloc_new ((w.alloc o1).alloc o2) o3
    rwa [World.size_alloc, World.size_alloc] at this
  · exact (((Below.refl _ _).alloc (Nat.le_refl _) _).alloc (by simp) _).alloc (by simp; omega) _
attribute [local go_sem] gives

set_option maxHeartbeats 800000 in
theorem join_any (a1 a2 ac an b1 b2 bc bn : Int) (w : World) (ha1 : a1.natAbs < 18446744073709551616) (ha2 : a2.natAbs < 18446744073709551616)
    (hb1 : b1.natAbs < 18446744073709551616) (hb2 : b2.natAbs < 18446744073709551616) (hac : 0 ≤ ac ∧ ac < 4294967296) (hbc : 0 ≤ bc ∧ bc < 4294967296)
    (hbn : bn < 9223372036854775808) :
    Calls Tryz.prog 9 #[sealV a1 a2 ac an, sealV b1 b2 bc bn] w fun e w' =>
      e = .returned (sealV (wholeF (joinF (sumF a1 a2) (sumF b1 b2) bn).1) (wholeF (joinF (sumF a1 a2) (sumF b1 b2) bn).2)
        (crc.times ac.toNat (powN bn) ^^^ bc.toNat : Nat) (IntKind.i64.wrap (an + bn))) ∧ Below w.heap.size w w' := by
  obtain ⟨A, rfl⟩ := Int.eq_ofNat_of_zero_le hac.1
  obtain ⟨Bc, rfl⟩ := Int.eq_ofNat_of_zero_le hbc.1
  have hA : A < 4294967296 := by omega
  have hBc : Bc < 4294967296 := by omega
  rw [Int.toNat_natCast, Int.toNat_natCast]
  have g1 := sealSum_any a1 a2 (A : Nat) an
  have g2 := sealSum_any b1 b2 (Bc : Nat) bn
  have g3 := turnJoin_any (sumF a1 a2).1 (sumF a1 a2).2 (sumF b1 b2).1 (sumF b1 b2).2 bn (fin_int _ ha1) (fin_int _ ha2) (fin_int _ hb1) (fin_int _ hb2)
  have g4 := power_any bn hbn
  have g5 := times_any A (powN bn) hA (powN_lt bn)
  have g6 := told_any (joinF (sumF a1 a2) (sumF b1 b2) bn).1 (joinF (sumF a1 a2) (sumF b1 b2) bn).2 (crc.times A (powN bn) ^^^ Bc : Nat) (IntKind.i64.wrap (an + bn))
  have hx := bits_xor_u32 (crc.times A (powN bn)) Bc (crc.times_lt _ _ (powN_lt bn)) hBc
  clear hac hbc
  generalize joinF (sumF a1 a2) (sumF b1 b2) bn = j at *
  generalize crc.times A (powN bn) = m at *
  generalize powN bn = pw at *
  generalize sumF a1 a2 = sa at *
  generalize sumF b1 b2 = sb at *
  generalize hnn : IntKind.i64.wrap (an + bn) = nn at *
  have G1 := Lib.hid g1
  have G2 := Lib.hid g2
  have G3 := Lib.hid g3
  have G4 := Lib.hid g4
  have G5 := Lib.hid g5
  have G6 := Lib.hid g6
  clear g1 g2 g3 g4 g5 g6 ha1 ha2 hb1 hb2 hA hBc hbn
  unfold sealV at *
  go_enter Tryz.func9, Tryz.ntmps9
  go_wp2
  have e1 : ((w.alloc (Obj.cells #[.int .i64 a1, .int .i64 a2, .int .u32 (A : Nat), .int .i64 an] 26)).alloc (Obj.cells #[.int .i64 b1, .int .i64 b2, .int .u32 (Bc : Nat), .int .i64 bn] 26)).heap.size = w.heap.size + 1 + 1 := by simp
  have h1 := new3 w (Obj.cells #[.int .i64 a1, .int .i64 a2, .int .u32 (A : Nat), .int .i64 an] 26) (Obj.cells #[.int .i64 b1, .int .i64 b2, .int .u32 (Bc : Nat), .int .i64 bn] 26) (Obj.cells #[.int .i64 0, .int .i64 0, .int .u32 0, .int .i64 0] 26)
  clear e1
  generalize (((w.alloc (Obj.cells #[.int .i64 a1, .int .i64 a2, .int .u32 (A : Nat), .int .i64 an] 26)).alloc (Obj.cells #[.int .i64 b1, .int .i64 b2, .int .u32 (Bc : Nat), .int .i64 bn] 26)).alloc (Obj.cells #[.int .i64 0, .int .i64 0, .int .u32 0, .int .i64 0] 26)) = W at *
  obtain ⟨h1, h2, h3, hbel⟩ := h1
  obtain ⟨C, hC⟩ : ∃ C : World → Prop, ∀ u, C u ↔ Below W.heap.size W u := ⟨fun u => Below W.heap.size W u, fun _ => Iff.rfl⟩
  have l3 : w.heap.size + 1 + 1 < W.heap.size := (Array.getElem?_eq_some_iff.1 h3).1
  have F : ∀ u, C u → u.heap[w.heap.size]? = some (Obj.cells #[.int .i64 a1, .int .i64 a2, .int .u32 (A : Nat), .int .i64 an] 26) ∧ u.heap[w.heap.size + 1]? = some (Obj.cells #[.int .i64 b1, .int .i64 b2, .int .u32 (Bc : Nat), .int .i64 bn] 26) ∧
      u.heap[w.heap.size + 1 + 1]? = some (Obj.cells #[.int .i64 0, .int .i64 0, .int .u32 0, .int .i64 0] 26) := fun u hu => by
    have hu := (hC u).1 hu
    exact ⟨(hu.block _ (by omega)).trans h1, (hu.block _ (by omega)).trans h2, (hu.block _ l3).trans h3⟩
  have step : ∀ u u', C u → Below u.heap.size u u' → C u' := fun u u' hu hb => (hC u').2 (((hC u).1 hu).trans (hb.mono ((hC u).1 hu).size))
  have HC := Lib.hid hC
  have FF := Lib.hid F
  have HH3 := Lib.hid h3
  clear hC F h1 h2 h3
  refine wp_region_inv 22 C (by kernel_rfl) (by kernel_rfl) ((HC.out _).2 (Below.refl _ _).drew) ?_
  simp only [List.take_succ_cons, List.take_zero, List.drop_succ_cons, List.drop_zero]
  repeat
    (refine wpInv_plain rfl (fun K hK => ?_)
     apply Exists.intro
     refine ⟨fun u hu => ?_, ?_⟩
     · have HU := Lib.hid hu
       obtain ⟨f1, f2, f3⟩ := FF.out u hu
       clear hu
       obtain ⟨⟨c1, c2, c3, c4⟩, d1, d2, d3, d4⟩ := cells4Of f1
       obtain ⟨⟨k1, k2, k3, k4⟩, o1, o2, o3, o4⟩ := cells4Of f2
       clear f1 f2 f3 d1 d2 d3 d4 o1 o2 o3 o4
       go_simp
       first
         | exact ⟨HU.out, rfl⟩
         | (go_at_call 21; with_reducible refine (G3.out _).mono ?_; rintro e w' ⟨rfl, rfl⟩; exact ⟨rfl, HU.out⟩)
         | (go_at_call 24; with_reducible refine (G4.out _).mono ?_; rintro e w' ⟨rfl, rfl⟩; exact ⟨rfl, HU.out⟩)
         | (go_at_call 23; with_reducible refine (G5.out _).mono ?_; rintro e w' ⟨rfl, rfl⟩; exact ⟨rfl, HU.out⟩)
         | (go_at_call 16; with_reducible refine (G6.out _).mono ?_; rintro e w' ⟨rfl, hb⟩; exact ⟨rfl, step _ _ HU.out hb⟩)
         | (go_at_call 22; with_reducible refine (G1.out _).mono ?_; rintro e w' ⟨rfl, hb⟩; exact ⟨rfl, step _ _ HU.out hb⟩)
         | (go_at_call 22; with_reducible refine (G2.out _).mono ?_; rintro e w' ⟨rfl, hb⟩; exact ⟨rfl, step _ _ HU.out hb⟩)
     go_simp
     refine hK _ ?_
     clear hK K)
  refine wpInv_nil ?_
  intro w' hw'
  obtain ⟨f1, f2, f3⟩ := FF.out w' hw'
  clear f1 f2
  have hb := hbel.trans (((HC.out _).1 hw').mono hbel.size)
  obtain ⟨⟨c1, c2, c3, c4⟩, d1, d2, d3, d4⟩ := cells4Of f3
  have F3 := Lib.hid f3
  clear f3
  go_wp2
  obtain ⟨⟨f1, f2, f3, f4⟩, _⟩ := cells4Of (set4 F3.out (.int .i64 (wholeF j.1)) (.int .i64 (wholeF j.2)) (.int .u32 (m ^^^ Bc : Nat)) (.int .i64 nn))
  exact bodyPost_ret (v := sealV (wholeF j.1) (wholeF j.2) (m ^^^ Bc : Nat) nn) (by simp [results, Tryz.results9, go_sem, f1, f2, f3, f4, sealV]) rfl ⟨rfl, below_set4 hb (by omega) _ _ _ _⟩
end Go.Proofs.YtbjlgcliplalcaaGreatDoor
