/-
  BLOBS (blob): Pages, page, read.
-/
import Derived.Test.YtoajdccdhjlikaaDoorBlobP
namespace Go.Proofs.YtoajdccdhjlikaaDoor
open Go.RowKit Go.MapKept
attribute [local go_sem] gives givesH
set_option maxRecDepth 100000

theorem blobPages_any (n : Nat) (hn : n ≤ 9223372036854775807) (w : World) :
    Calls Tryd.prog 23 #[.int .i64 n] w fun e w' => e = .returned (.int .i64 (pagesB n)) ∧ w = w' := by
  by_cases h : n ≤ 506
  · have e1 : decide ((n : Int) ≤ 506) = true := by simp; omega
    have e2 : pagesB n = 1 := by unfold pagesB; rw [if_pos h]
    rw [e2]
    clear e2
    go_enter Tryd.func23, Tryd.ntmps23
    go_wp2
    go_ret
    exact ⟨rfl, rfl⟩
  · have e1 : decide ((n : Int) ≤ 506) = false := by simp; omega
    have e2 : ((pagesB n : Nat) : Int) = ((n : Int) - 1) / 506 + 1 := by unfold pagesB; rw [if_neg h]; omega
    rw [e2]
    clear e2
    go_enter Tryd.func23, Tryd.ntmps23
    go_wp2
    go_ret
    exact ⟨rfl, rfl⟩

theorem page_any (next : Nat) (hn : next < 4294967296) (s : ByteArray) (hs : s.size ≤ 506) (w : World) :
    Calls Tryd.prog 89 #[.int .i64 next, .string s] w fun e w' => e = .returned (.string (pageS next s)) ∧ Below w.heap.size w w' := by
  have hcv : ∀ u, Lib.Bytes u w.heap.size 0 (headB next s.size) → ∀ c, (convert 86 9 (.slice (some ⟨w.heap.size, 0, none⟩) 6 c)).run Tryd.prog u = .ok (.string (headB next s.size)) u := fun u hu c => by
    have := Lib.run_convert_whole (P := Tryd.prog) u 86 5 9 Tryd.underlying86 Tryd.underlying5 Tryd.underlying9 w.heap.size 0 (headB next s.size) hu c
    rwa [headB_size] at this
  have hby : Lib.Bytes (w.alloc (Obj.cells #[Value.int IntKind.u8 ((next : Int) / 16777216), Value.int IntKind.u8 ((next : Int) / 65536 % 256), Value.int IntKind.u8 ((next : Int) / 256 % 256), Value.int IntKind.u8 ((next : Int) % 256), Value.int IntKind.u8 ((s.size : Int) / 256), Value.int IntKind.u8 ((s.size : Int) % 256)] 5)) w.heap.size 0 (headB next s.size) := by
    have hn2 : next / 16777216 < 256 := by omega
    have hs2 : s.size / 256 < 256 := by omega
    intro i hi
    rw [headB_size] at hi
    rw [Nat.zero_add]
    have e : ∀ j, (w.alloc (Obj.cells #[Value.int IntKind.u8 ((next : Int) / 16777216), Value.int IntKind.u8 ((next : Int) / 65536 % 256), Value.int IntKind.u8 ((next : Int) / 256 % 256), Value.int IntKind.u8 ((next : Int) % 256), Value.int IntKind.u8 ((s.size : Int) / 256), Value.int IntKind.u8 ((s.size : Int) % 256)] 5)).cell? ⟨w.heap.size, j, none⟩ =
        (#[Value.int IntKind.u8 ((next : Int) / 16777216), Value.int IntKind.u8 ((next : Int) / 65536 % 256), Value.int IntKind.u8 ((next : Int) / 256 % 256), Value.int IntKind.u8 ((next : Int) % 256), Value.int IntKind.u8 ((s.size : Int) / 256), Value.int IntKind.u8 ((s.size : Int) % 256)] : Array Value)[j]? := fun j => Lib.cell_of_heap (heap_alloc_new w _) j
    rw [e, byteN_get _ i (by rw [headB_size]; exact hi)]
    match i, hi with
    | 0, _ => simp [byteN, headB, headL]; omega
    | 1, _ => simp [byteN, headB, headL]
    | 2, _ => simp [byteN, headB, headL]
    | 3, _ => simp [byteN, headB, headL]
    | 4, _ => simp [byteN, headB, headL]; omega
    | 5, _ => simp [byteN, headB, headL]
  have l1 := hcv _ hby 6
  have hcat := run_string_add_sum (P := Tryd.prog) (w.alloc (Obj.cells #[Value.int IntKind.u8 ((next : Int) / 16777216), Value.int IntKind.u8 ((next : Int) / 65536 % 256), Value.int IntKind.u8 ((next : Int) / 256 % 256), Value.int IntKind.u8 ((next : Int) % 256), Value.int IntKind.u8 ((s.size : Int) / 256), Value.int IntKind.u8 ((s.size : Int) % 256)] 5)) (headB next s.size) s (by rw [headB_size]; omega)
  unfold pageS
  generalize headB next s.size = hb at *
  clear hby hcv
  go_enter Tryd.func89, Tryd.ntmps89
  go_wp2
  go_ret
  exact ⟨rfl, (Below.refl _ _).alloc (Nat.le_refl _) _⟩

theorem bits_or_mul (a b m n : Nat) (ha : a * m < 2 ^ 62) (hb : b * n < 2 ^ 62) : bits .or .i64 ((a : Int) * (m : Int)) ((b : Int) * (n : Int)) = ((a * m ||| b * n : Nat) : Int) := by
  have h := bits_or_i64 (a * m) (b * n) ha hb
  rwa [Int.natCast_mul, Int.natCast_mul] at h
theorem bits_or_mul2 (y b n : Nat) (ha : y < 2 ^ 62) (hb : b * n < 2 ^ 62) : bits .or .i64 (y : Int) ((b : Int) * (n : Int)) = ((y ||| b * n : Nat) : Int) := by
  have h := bits_or_i64 y (b * n) ha hb
  rwa [Int.natCast_mul] at h
theorem bits_or_mul3 (a b m : Nat) (ha : a * m < 2 ^ 62) (hb : b < 2 ^ 62) : bits .or .i64 ((a : Int) * (m : Int)) (b : Int) = ((a * m ||| b : Nat) : Int) := by
  have h := bits_or_i64 (a * m) b ha hb
  rwa [Int.natCast_mul] at h
/-- a page that holds a part of a blob -/
theorem blobRead_ok {w : World} {br : Nat} {R : RoomS} (h : RoomAt w br R) (p : Nat) (hp : p < R.pages) (h1 : R.has p = true) (next : Nat) (c : ByteArray) (hn : next < 4294967296) (hc : c.size ≤ 506) (ht : R.text p = fullS (pageS next c)) :
    Calls Tryd.prog 91 #[.pointer (some ⟨br, 0, none⟩), .int .i64 p] w fun e w' => e = .returned (.tuple #[.int .i64 next, .string c, .int .i64 0]) ∧ Below w.heap.size w w' := by
  have H1 := Lib.hid (read_ok h p hp h1)
  rw [ht] at H1
  have hz : (fullS (pageS next c)).size = 512 := fullS_size _ (by rw [pageS_size]; omega)
  obtain ⟨b0, b1, b2, b3, b4, b5⟩ := page_heads next c
  have hpp := page_part next c hc
  generalize fullS (pageS next c) = t at *
  have g0 : 0 < t.size := by omega
  have g1 : 1 < t.size := by omega
  have g2 : 2 < t.size := by omega
  have g3 : 3 < t.size := by omega
  have g4 : 4 < t.size := by omega
  have g5 : 5 < t.size := by omega
  have x0 := byteN_get t 0 g0
  have x1 := byteN_get t 1 g1
  have x2 := byteN_get t 2 g2
  have x3 := byteN_get t 3 g3
  have x4 := byteN_get t 4 g4
  have x5 := byteN_get t 5 g5
  rw [b0] at x0
  rw [b1] at x1
  rw [b2] at x2
  rw [b3] at x3
  rw [b4] at x4
  rw [b5] at x5
  have r4 := or4 next hn
  have r2 := or2 c.size (by omega)
  have k0 : next / 16777216 % 256 < 256 := Nat.mod_lt _ (by decide)
  have k1 : next / 65536 % 256 < 256 := Nat.mod_lt _ (by decide)
  have k2 : next / 256 % 256 < 256 := Nat.mod_lt _ (by decide)
  have k3 : next % 256 < 256 := Nat.mod_lt _ (by decide)
  have k4 : c.size / 256 % 256 < 256 := Nat.mod_lt _ (by decide)
  have k5 : c.size % 256 < 256 := Nat.mod_lt _ (by decide)
  generalize next / 16777216 % 256 = a0 at *
  generalize next / 65536 % 256 = a1 at *
  generalize next / 256 % 256 = a2 at *
  generalize next % 256 = a3 at *
  generalize c.size / 256 % 256 = a4 at *
  generalize c.size % 256 = a5 at *
  have o1 := bits_or_mul a0 a1 16777216 65536 (by omega) (by omega)
  have y1 : a0 * 16777216 ||| a1 * 65536 < 2 ^ 62 := Nat.or_lt_two_pow (by omega) (by omega)
  have o2 := bits_or_mul2 (a0 * 16777216 ||| a1 * 65536) a2 256 y1 (by omega)
  have y2 : a0 * 16777216 ||| a1 * 65536 ||| a2 * 256 < 2 ^ 62 := Nat.or_lt_two_pow y1 (by omega)
  have o3 := bits_or_i64 (a0 * 16777216 ||| a1 * 65536 ||| a2 * 256) a3 y2 (by omega)
  rw [r4] at o3
  have o4 := bits_or_mul3 a4 a5 256 (by omega) (by omega)
  rw [r2] at o4
  clear y1 y2 r4 r2
  generalize a0 * 16777216 ||| a1 * 65536 = z1 at *
  generalize z1 ||| a2 * 256 = z2 at *
  have w6 : IntKind.i64.wrap (6 + (c.size : Int)) = 6 + (c.size : Int) := wrapI (by omega) (by omega)
  have e6 : (6 + (c.size : Int)).toNat = 6 + c.size := by omega
  have n6 : (0 : Int) ≤ 6 + (c.size : Int) := by omega
  have m6 : (6 : Int) ≤ 6 + (c.size : Int) := by omega
  have l6 : (6 + (c.size : Int)) ≤ 512 := by omega
  have c6 : decide ((506 : Int) < (c.size : Int)) = false := by simp; omega
  have O1 : bits .or .i64 ((a0 : Int) * 16777216) ((a1 : Int) * 65536) = (z1 : Int) := o1
  have O2 : bits .or .i64 (z1 : Int) ((a2 : Int) * 256) = (z2 : Int) := o2
  have O4 : bits .or .i64 ((a4 : Int) * 256) (a5 : Int) = (c.size : Int) := o4
  have HPP := Lib.hid hpp
  clear b0 b1 b2 b3 b4 b5 ht hpp h1 o1 o2 o4 h
  go_enter Tryd.func91, Tryd.ntmps91
  go_wp2_with (go_at_call 20; refine (H1.out).mono ?_; rintro e w1 ⟨rfl, hb⟩)
  go_quiet (fail)
  go_wp2
  go_quiet (fail)
  go_wp2
  go_quiet (fail)
  rw [HPP.out]
  go_wp2
  go_ret3
  exact ⟨rfl, hb.trans ⟨rfl, rfl, rfl, Nat.le_refl _, fun _ _ => rfl⟩⟩
theorem blobRead_bad {w : World} {br : Nat} {R : RoomS} (h : RoomAt w br R) (i : Int) (he : R.err i ≠ 0) :
    Calls Tryd.prog 91 #[.pointer (some ⟨br, 0, none⟩), .int .i64 i] w fun e w' => e = .returned (.tuple #[.int .i64 0, .string ⟨#[]⟩, .int .i64 (R.err i)]) ∧ Below w.heap.size w w' := by
  have H1 := Lib.hid (read_bad h i he)
  generalize R.err i = c at *
  have e1 : (c != 0) = true := by simpa using he
  clear h
  go_enter Tryd.func91, Tryd.ntmps91
  go_wp2_with (go_at_call 20; refine (H1.out).mono ?_; rintro e w1 ⟨rfl, hb⟩)
  go_ret3
  exact ⟨rfl, hb⟩
end Go.Proofs.YtoajdccdhjlikaaDoor
