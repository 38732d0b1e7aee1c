/-
  THE WALKS of turn.Sum, cooperageref02.Power, cooperageref02.Sum.
-/
import Derived.Test.YtbjlgcliplalcaaGreatDoorFw
import Derived.Test.YtbjlgcliplalcaaGreatDoorChk
import Derived.Deep.QuietTactic
import Derived.BigQuiet
namespace Go.Proofs.YtbjlgcliplalcaaGreatDoor
open Go.RowKit
open Go.Op (negFloat)
open flt

/-- a byte more, turned -/
def stepB (z : Nat × Nat) (c : Nat) : Nat × Nat := (fadd (negFloat .f64 z.2) (floatOfInt .f64 c), fadd z.1 0)
def sumB (l : List Nat) : Nat × Nat := l.foldl stepB (0, 0)
theorem byte_fin (c : UInt8) : Fini (floatOfInt .f64 (c.toNat : Int)) := fin_int _ (by have := c.toNat_lt; omega)
theorem stepB_num (z : Nat × Nat) (c : UInt8) (h1 : Num z.1) (h2 : Num z.2) : Num (stepB z c.toNat).1 ∧ Num (stepB z c.toNat).2 :=
  ⟨fadd_num (num_neg h2) (byte_fin c), fadd_num h1 fin_zero⟩
theorem sumB_snoc (l : List Nat) (c : Nat) : sumB (l ++ [c]) = stepB (sumB l) c := by simp [sumB, List.foldl_append]
theorem sumB_num (l : List UInt8) : Num (sumB (l.map UInt8.toNat)).1 ∧ Num (sumB (l.map UInt8.toNat)).2 := by
  have h : ∀ (l : List UInt8) (z : Nat × Nat), Num z.1 → Num z.2 → Num ((l.map UInt8.toNat).foldl stepB z).1 ∧ Num ((l.map UInt8.toNat).foldl stepB z).2 := by
    intro l
    induction l with
    | nil => intro z h1 h2; exact ⟨h1, h2⟩
    | cons c l ih =>
      intro z h1 h2
      obtain ⟨g1, g2⟩ := stepB_num z c h1 h2
      exact ih _ g1 g2
  exact h l (0, 0) fin_zero.num fin_zero.num
theorem sumB_take_num (s : ByteArray) (k : Nat) : Num (sumB ((bl s).take k)).1 ∧ Num (sumB ((bl s).take k)).2 := by
  have := sumB_num (s.data.toList.take k)
  rwa [List.map_take] at this
theorem sumB_take (s : ByteArray) (k : Nat) (h : k < s.size) : sumB ((bl s).take (k + 1)) = stepB (sumB ((bl s).take k)) s[k].toNat := by
  rw [bl_take s k h, sumB_snoc]
def turnSumF (l : List Nat) : Nat × Nat := (fadd (sumB l).1 0, fadd (sumB l).2 0)

theorem below_drewN' {B : Nat} {a w : World} (h : Below B a w) (n : Nat) : Below B a (w.drewN n) := ⟨h.os, h.tape, h.output, h.size, h.block⟩

set_option maxHeartbeats 800000 in
theorem turnSum_any (s : ByteArray) (hs : s.size ≤ maxLen) (w : World) :
    Calls Tryz.prog 17 #[.string s] w fun e w' => e = .returned (.complex .f64 (turnSumF (bl s)).1 (turnSumF (bl s)).2) ∧ Below w.heap.size w w' := by
  unfold maxLen at hs
  go_enter Tryz.func17, Tryz.ntmps17
  go_wp2
  go_loopw [3, 7] (fun z i wr => (∃ k : Nat, k ≤ s.size ∧ i = .int .i64 k ∧ z = .complex .f64 (sumB ((bl s).take k)).1 (sumB ((bl s).take k)).2) ∧ Below w.heap.size w wr) (fun _ i _ => s.size - (intOf i).toNat)
  case atStart => exact ⟨⟨0, by omega, rfl, rfl⟩, Below.refl _ _⟩
  case round =>
    obtain ⟨⟨k, hk, rfl, rfl⟩, hbl⟩ := hrel
    obtain ⟨hn1, hn2⟩ := sumB_take_num s k
    by_cases hlt : k < s.size
    · have HS := Lib.hid (sumB_take s k hlt)
      generalize sumB ((bl s).take k) = z at *
      have hbf := byte_fin s[k]
      have hcadd := fun w => cadd_run (num_neg hn2) hn1 hbf fin_zero 50 w
      have hq := fun w => (turned_any z.1 z.2 w).mono (fun e w' (h : e = _ ∧ w = w') => (⟨h.1, h.2.symm⟩ : e = _ ∧ w' = w))
      have HQ := Lib.hid hq
      clear hq
      have hi0 : (0 : Int) ≤ (k : Int) := by omega
      have hi1 : (k : Int) < (s.size : Int) := by omega
      go_wp2
      go_quiet ((go_at_call 36; exact Calls.quiet_of_same (HQ.out _)))
      go_wp2
      exact ⟨⟨⟨k + 1, by omega, by go_num, by rw [HS.out]; rfl⟩, below_drewN' hbl _⟩, by simp only [intOf]; omega⟩
    · obtain rfl : k = s.size := by omega
      have hsz : sumB ((bl s).take s.size) = sumB (bl s) := by rw [List.take_of_length_le (by rw [bl_length]; exact Nat.le_refl _)]
      rw [hsz] at hn1 hn2
      rw [hsz]
      clear hsz
      have HT := Lib.hid (show turnSumF (bl s) = (fadd (sumB (bl s)).1 0, fadd (sumB (bl s)).2 0) from rfl)
      generalize sumB (bl s) = z at *
      go_wp2_with (go_at_call 37; refine (plain_any _ _ (by assumption) (by assumption) _).mono ?_; rintro e w' ⟨rfl, rfl⟩)
      go_ret
      exact ⟨by rw [HT.out]; rfl, hbl⟩

/-- i to the n -/
def ipow (n : Int) : Int × Int := if n % 4 = 0 then (1, 0) else if n % 4 = 1 then (0, 1) else if n % 4 = 2 then (-1, 0) else (0, -1)
theorem power2_any (n : Int) (h0 : 0 ≤ n) (h1 : n < 4611686018427387904) (w : World) :
    Calls Tryz.prog 38 #[.int .i64 n] w fun e w' => e = .returned (.agg #[.int .i64 (ipow n).1, .int .i64 (ipow n).2]) ∧ Below w.heap.size w w' := by
  have h4 : n % 4 = 0 ∨ n % 4 = 1 ∨ n % 4 = 2 ∨ n % 4 = 3 := by omega
  have hp : ipow n = if n % 4 = 0 then (1, 0) else if n % 4 = 1 then (0, 1) else if n % 4 = 2 then (-1, 0) else (0, -1) := rfl
  rcases h4 with h | h | h | h
  all_goals rw [hp, h]; clear hp
  all_goals go_enter Tryz.func38, Tryz.ntmps38
  all_goals go_wp2
  · exact bodyPost_ret (v := .agg #[.int .i64 1, .int .i64 0]) (by simp [results, Tryz.results38, go_sem]) rfl ⟨rfl, (Below.refl _ _).alloc (Nat.le_refl _) _⟩
  · exact bodyPost_ret (v := .agg #[.int .i64 0, .int .i64 1]) (by simp [results, Tryz.results38, go_sem]) rfl ⟨rfl, (Below.refl _ _).alloc (Nat.le_refl _) _⟩
  · exact bodyPost_ret (v := .agg #[.int .i64 (-1), .int .i64 0]) (by simp [results, Tryz.results38, go_sem]) rfl ⟨rfl, (Below.refl _ _).alloc (Nat.le_refl _) _⟩
  · exact bodyPost_ret (v := .agg #[.int .i64 0, .int .i64 (-1)]) (by simp [results, Tryz.results38, go_sem]) rfl ⟨rfl, (Below.refl _ _).alloc (Nat.le_refl _) _⟩

/-- the sum of the first k bytes, each turned as often as bytes follow it -/
def rs (l : List Nat) (n : Nat) : Nat → Int × Int
  | 0 => (0, 0)
  | k + 1 => ((rs l n k).1 + (l.getD k 0 : Nat) * (ipow ((n : Int) - 1 - k)).1, (rs l n k).2 + (l.getD k 0 : Nat) * (ipow ((n : Int) - 1 - k)).2)
theorem ipow_bd (n : Int) : -1 ≤ (ipow n).1 ∧ (ipow n).1 ≤ 1 ∧ -1 ≤ (ipow n).2 ∧ (ipow n).2 ≤ 1 := by
  unfold ipow
  split
  · decide
  · split
    · decide
    · split <;> decide
theorem mul_bd {c : Nat} {x : Int} (hc : c < 256) (h1 : -1 ≤ x) (h2 : x ≤ 1) : -255 ≤ (c : Int) * x ∧ (c : Int) * x ≤ 255 := by
  have : x = -1 ∨ x = 0 ∨ x = 1 := by omega
  rcases this with rfl | rfl | rfl <;> omega
theorem getD_lt (s : ByteArray) (k : Nat) : (bl s).getD k 0 < 256 := by
  by_cases h : k < (bl s).length
  · rw [List.getD_eq_getElem?_getD, List.getElem?_eq_getElem h]; exact bl_lt s _ (List.getElem_mem h)
  · rw [List.getD_eq_getElem?_getD, List.getElem?_eq_none (by omega)]; exact Nat.zero_lt_succ _
theorem rs_bd (s : ByteArray) (n k : Nat) : -(255 * (k : Int)) ≤ (rs (bl s) n k).1 ∧ (rs (bl s) n k).1 ≤ 255 * (k : Int) ∧ -(255 * (k : Int)) ≤ (rs (bl s) n k).2 ∧ (rs (bl s) n k).2 ≤ 255 * (k : Int) := by
  induction k with
  | zero => simp [rs]
  | succ k ih =>
    obtain ⟨p1, p2, p3, p4⟩ := ipow_bd ((n : Int) - 1 - k)
    have m1 := mul_bd (getD_lt s k) p1 p2
    have m2 := mul_bd (getD_lt s k) p3 p4
    simp only [rs]
    omega
theorem getD_byte (s : ByteArray) (k : Nat) (h : k < s.size) : (bl s).getD k 0 = s[k].toNat := by
  rw [List.getD_eq_getElem?_getD, List.getElem?_eq_getElem (by rw [bl_length]; exact h)]
  simp [bl]; rfl

theorem cellsOf {w : World} {b : Nat} {x y : Value} {t : TypeId} (h : w.heap[b]? = some (.cells #[x, y] t (0, 0))) :
    w.cell? ⟨b, 0, none⟩ = some x ∧ w.cell? ⟨b, 1, none⟩ = some y ∧ w.frozen? ⟨b, 0, none⟩ = false ∧ w.frozen? ⟨b, 1, none⟩ = false := by
  simp [World.cell?, World.frozen?, h]

theorem heap_set0 {w : World} {b : Nat} {x y : Value} {t : TypeId} (h : w.heap[b]? = some (.cells #[x, y] t (0, 0))) (v : Value) :
    (w.setCell ⟨b, 0, none⟩ v).heap[b]? = some (.cells #[v, y] t (0, 0)) := by
  simp [World.setCell, Array.getElem?_modify, h]
theorem heap_set1 {w : World} {b : Nat} {x y : Value} {t : TypeId} (h : w.heap[b]? = some (.cells #[x, y] t (0, 0))) (v : Value) :
    (w.setCell ⟨b, 1, none⟩ v).heap[b]? = some (.cells #[x, v] t (0, 0)) := by
  simp [World.setCell, Array.getElem?_modify, h]

set_option maxHeartbeats 1600000 in
theorem refSum_any (s : ByteArray) (hs : s.size ≤ 1099511627776) (w : World) :
    Calls Tryz.prog 19 #[.string s] w fun e w' => e = .returned (.agg #[.int .i64 (rs (bl s) s.size s.size).1, .int .i64 (rs (bl s) s.size s.size).2]) ∧ Below w.heap.size w w' := by
  go_enter Tryz.func19, Tryz.ntmps19
  go_wp2_with fail
  go_loopw [5] (fun i wr => ∃ k : Nat, k ≤ s.size ∧ i = .int .i64 k ∧ wr.heap[w.heap.size]? = some (.cells #[.int .i64 0, .int .i64 0] 54 (0, 0)) ∧
    wr.heap[w.heap.size + 1]? = some (.cells #[.int .i64 (rs (bl s) s.size k).1, .int .i64 (rs (bl s) s.size k).2] 54 (0, 0)) ∧ Below w.heap.size w wr) (fun i _ => s.size - (intOf i).toNat)
  case atStart =>
    refine ⟨0, by omega, rfl, ?_, ?_, ?_⟩
    · rw [Below.heap_alloc _ _ _ (by simp), heap_alloc_new]
    · have := heap_alloc_new (w.alloc (Obj.cells #[.int .i64 0, .int .i64 0] 54)) (Obj.cells #[.int .i64 0, .int .i64 0] 54)
      rwa [World.size_alloc] at this
    · exact ((Below.refl _ _).alloc (Nat.le_refl _) _).alloc (by simp) _
  case round =>
    obtain ⟨k, hk, rfl, hb1, hb2, hbl⟩ := hrel
    by_cases hlt : k < s.size
    · obtain ⟨r1, r2, r3, r4⟩ := rs_bd s s.size k
      obtain ⟨p1, p2, p3, p4⟩ := ipow_bd ((s.size : Int) - 1 - k)
      have hbyte := getD_byte s k hlt
      have m1 := mul_bd (getD_lt s k) p1 p2
      have m2 := mul_bd (getD_lt s k) p3 p4
      rw [hbyte] at m1 m2
      have HS := Lib.hid (show rs (bl s) s.size (k + 1) = ((rs (bl s) s.size k).1 + (s[k].toNat : Int) * (ipow ((s.size : Int) - 1 - k)).1, (rs (bl s) s.size k).2 + (s[k].toNat : Int) * (ipow ((s.size : Int) - 1 - k)).2) by rw [← hbyte]; rfl)
      clear hbyte
      have hpow := power2_any ((s.size : Int) - 1 - k) (by omega) (by omega)
      generalize rs (bl s) s.size k = z at *
      generalize ipow ((s.size : Int) - 1 - k) = q at *
      have HP := Lib.hid hpow
      clear hpow
      obtain ⟨c1, c2, c3, c4⟩ := cellsOf hb2
      have HB1 := Lib.hid hb1
      have HB2 := Lib.hid hb2
      clear hb1 hb2 c1 c2 c3 c4
      go_wp2_with (go_at_call 38; refine (HP.out _).mono ?_; rintro e w1 ⟨rfl, hw1⟩)
      have hB := hbl.size
      have hlt1 : w.heap.size + 1 < wr.heap.size := (Array.getElem?_eq_some_iff.1 HB2.out).1
      have hlt2 := hw1.size
      have g1 : (w1.alloc (Obj.cells #[.int .i64 q.1, .int .i64 q.2] 54)).heap[w.heap.size]? = some (Obj.cells #[.int .i64 0, .int .i64 0] 54 (0, 0)) := by
        rw [Below.heap_alloc _ _ _ (by omega), hw1.block _ (by omega)]; exact HB1.out
      have g2 : (w1.alloc (Obj.cells #[.int .i64 q.1, .int .i64 q.2] 54)).heap[w.heap.size + 1]? = some (Obj.cells #[.int .i64 z.1, .int .i64 z.2] 54 (0, 0)) := by
        rw [Below.heap_alloc _ _ _ (by omega), hw1.block _ (by omega)]; exact HB2.out
      have g3 := heap_alloc_new w1 (Obj.cells #[.int .i64 q.1, .int .i64 q.2] 54)
      have g4 : Below w.heap.size w (w1.alloc (Obj.cells #[.int .i64 q.1, .int .i64 q.2] 54)) := (hbl.trans (hw1.mono hbl.size)).alloc (by omega) _
      have hne : w.heap.size + 1 ≠ w1.heap.size := by omega
      have hpb : w.heap.size + 1 < w1.heap.size := by omega
      clear hlt1 hlt2 hB hw1 HB1 HB2 hbl
      generalize w1.alloc (Obj.cells #[.int .i64 q.1, .int .i64 q.2] 54) = W at *
      generalize w1.heap.size = pb at *
      obtain ⟨c1, c2, c3, c4⟩ := cellsOf g2
      obtain ⟨d1, d2, d3, d4⟩ := cellsOf g3
      have G1 := Lib.hid g1
      have G2 := Lib.hid g2
      have G3 := Lib.hid g3
      clear g1 g2 g3
      obtain ⟨m11, m12⟩ := m1
      obtain ⟨m21, m22⟩ := m2
      have hk0 : (0 : Int) ≤ (k : Int) := by omega
      have hk1 : (k : Int) < (s.size : Int) := by omega
      have hc0 : (0 : Int) ≤ (s[k].toNat : Int) := by omega
      have hc1 : (s[k].toNat : Int) < 256 := by have := s[k].toNat_lt; omega
      have E2 := Lib.hid (IntWalk.wrap64_in ((s[k].toNat : Int) * q.1) (by omega))
      have E3 := Lib.hid (IntWalk.wrap64_in (z.1 + (s[k].toNat : Int) * q.1) (by omega))
      have E4 := Lib.hid (IntWalk.wrap64_in ((s[k].toNat : Int) * q.2) (by omega))
      have E5 := Lib.hid (IntWalk.wrap64_in (z.2 + (s[k].toNat : Int) * q.2) (by omega))
      clear m11 m12 m21 m22 r1 r2 r3 r4 p1 p2 p3 p4
      go_region
      go_wp2
      rw [E2.out, E3.out]
      generalize z.1 + (s[k].toNat : Int) * q.1 = y1 at *
      have g5 : (W.setCell ⟨w.heap.size + 1, 0, none⟩ (.int .i64 y1)).drew.heap[w.heap.size + 1]? = some (Obj.cells #[.int .i64 y1, .int .i64 z.2] 54 (0, 0)) := heap_set0 G2.out _
      have g6 : (W.setCell ⟨w.heap.size + 1, 0, none⟩ (.int .i64 y1)).drew.heap[pb]? = some (Obj.cells #[.int .i64 q.1, .int .i64 q.2] 54 (0, 0)) := (Below.heap_setCell _ _ _ _ (by simp; omega)).trans G3.out
      have g7 : (W.setCell ⟨w.heap.size + 1, 0, none⟩ (.int .i64 y1)).drew.heap[w.heap.size]? = some (Obj.cells #[.int .i64 0, .int .i64 0] 54 (0, 0)) := (Below.heap_setCell _ _ _ _ (by simp)).trans G1.out
      have g8 : Below w.heap.size w (W.setCell ⟨w.heap.size + 1, 0, none⟩ (.int .i64 y1)).drew := (g4.setCell (by simp) _).drew
      clear c1 c2 c3 c4 d1 d2 d3 d4 g4 G1 G2 G3
      generalize (W.setCell ⟨w.heap.size + 1, 0, none⟩ (.int .i64 y1)).drew = W2 at *
      obtain ⟨c1, c2, c3, c4⟩ := cellsOf g5
      obtain ⟨d1, d2, d3, d4⟩ := cellsOf g6
      have G5 := Lib.hid g5
      have G7 := Lib.hid g7
      clear g5 g6 g7
      go_region
      go_wp2
      rw [E4.out, E5.out]
      exact ⟨⟨k + 1, by omega, by go_num, (Below.heap_setCell _ _ _ _ (by simp)).trans G7.out, by rw [HS.out]; exact heap_set1 G5.out _, (g8.setCell (by simp) _).drew⟩, by simp only [intOf]; omega⟩
    · obtain rfl : k = s.size := by omega
      obtain ⟨c1, c2, c3, c4⟩ := cellsOf hb2
      obtain ⟨d1, d2, d3, d4⟩ := cellsOf hb1
      generalize hz : rs (bl s) s.size s.size = z at *
      have HZ := Lib.hid hz
      clear hz
      go_wp2
      refine bodyPost_ret (v := .agg #[.int .i64 z.1, .int .i64 z.2]) ?_ rfl ⟨by rw [HZ.out], (hbl.setCell (by simp) _).setCell (by simp) _⟩
      have g1 := heap_set1 (heap_set0 hb1 (.int .i64 z.1)) (.int .i64 z.2)
      obtain ⟨f1, f2, _, _⟩ := cellsOf g1
      simp [results, Tryz.results19, go_sem, f1, f2]
end Go.Proofs.YtbjlgcliplalcaaGreatDoor
