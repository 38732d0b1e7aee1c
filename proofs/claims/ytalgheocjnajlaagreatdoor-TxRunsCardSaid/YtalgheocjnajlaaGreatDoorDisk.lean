/-
  THE DISK (sector): what it is in memory; Size, Down, New, full, Read.
-/
import Derived.Test.YtalgheocjnajlaaGreatDoorHeap
import Derived.Test.YtalgheocjnajlaaGreatDoorShelf
import Derived.Test.YtalgheocjnajlaaGreatDoorChecked
import Derived.WalkKit
import Derived.WalkSpells
import Derived.StillTail
import Derived.Tactics2
import Derived.Deep.QuietTactic
import Derived.BigQuiet
namespace Go.Proofs.YtalgheocjnajlaaGreatDoor
open Go.RowKit Go.MapKept

/-- bytes 0 -/
@[irreducible] def zeros (n : Nat) : ByteArray := ⟨(List.replicate n (0 : UInt8)).toArray⟩
/-- a text with bytes 0 behind it, 512 in all -/
def fullS (s : ByteArray) : ByteArray := ⟨s.data ++ (List.replicate (512 - s.size) (0 : UInt8)).toArray⟩
theorem fullS_size (s : ByteArray) (h : s.size ≤ 512) : (fullS s).size = 512 := by
  show (s.data ++ _).size = 512
  have : s.data.size = s.size := rfl
  simp; omega
theorem zeros_size (n : Nat) : (zeros n).size = n := by unfold zeros; show (List.replicate n (0:UInt8)).toArray.size = n; simp

structure DiskS where
  size : Nat
  bf : Nat
  firm : Int → Option ByteArray
  nf : Nat
  bn : Nat
  now : Int → Option ByteArray
  nn : Nat
  loose : Value
  writes : List (Int × ByteArray)
  fuel : Int
  bound : Bool
  down : Bool

def strs (g : Int → Option ByteArray) : Int → Option Value := fun i => (g i).map Value.string
def writeCells (l : List (Int × ByteArray)) : List Value := l.flatMap fun p => [.int .i64 p.1, .string p.2]

def DiskS.cells (D : DiskS) : Array Value := #[.int .i64 D.size, .map (some D.bf), D.loose, .map (some D.bn), .int .i64 D.fuel, .bool D.bound, .bool D.down]
def DiskS.foot (D : DiskS) (bd : Nat) (k : Nat) : Prop := k = bd ∨ k = D.bf ∨ k = D.bn ∨ D.loose.ownBlock = some k

structure DiskAt (w : World) (bd : Nat) (D : DiskS) : Prop where
  size : D.size ≤ 65536
  cells : w.heap[bd]? = some (.cells D.cells 97 (0, 0))
  firm : IMap w D.bf (strs D.firm) D.nf
  now : IMap w D.bn (strs D.now) D.nn
  loose : w.ownsRow 0 169 2 D.loose D.writes.length (writeCells D.writes)
  apart : bd ≠ D.bf ∧ bd ≠ D.bn ∧ D.bf ≠ D.bn ∧ D.loose.ownBlock ≠ some bd ∧ D.loose.ownBlock ≠ some D.bf ∧ D.loose.ownBlock ≠ some D.bn
  s512 : (∀ i s, D.firm i = some s → s.size = 512) ∧ ∀ i s, D.now i = some s → s.size = 512

theorem Keep.ownsRow {S : Nat → Prop} {w w' : World} (h : Keep S w w') {base : Nat} {e : TypeId} {size : Nat} {v : Value} {n : Nat} {xs : List Value} (ho : w.ownsRow base e size v n xs)
    (hn : ∀ k, v.ownBlock = some k → ¬ S k) : w'.ownsRow base e size v n xs := by
  refine ⟨ho.1, ?_⟩
  rcases ho.2 with hv | ⟨g, cap, cur, rfl, hb, hg, rest⟩
  · exact .inl hv
  · exact .inr ⟨g, cap, cur, rfl, hb, h.at hg (hn g rfl), rest⟩

theorem DiskAt.keep {w w' : World} {bd : Nat} {D : DiskS} (h : DiskAt w bd D) {S : Nat → Prop} (hk : Keep S w w') (hn : ∀ k, D.foot bd k → ¬ S k) : DiskAt w' bd D :=
  ⟨h.size, hk.at h.cells (hn _ (.inl rfl)), h.firm.keep hk (hn _ (.inr (.inl rfl))), h.now.keep hk (hn _ (.inr (.inr (.inl rfl)))), hk.ownsRow h.loose (fun _ e => hn _ (.inr (.inr (.inr e)))), h.apart, h.s512⟩
theorem DiskAt.foot_lt {w : World} {bd : Nat} {D : DiskS} (h : DiskAt w bd D) {k : Nat} (hf : D.foot bd k) : k < w.heap.size := by
  rcases hf with rfl | rfl | rfl | hl
  · exact (Array.getElem?_eq_some_iff.1 h.cells).1
  · exact h.firm.lt
  · exact h.now.lt
  · exact (h.loose.lt k hl).2

/-- what the disk says of a sector -/
def DiskS.read (D : DiskS) (i : Int) : ByteArray := (D.now i).getD ((D.firm i).getD (zeros 512))
theorem DiskS.read_size {w : World} {bd : Nat} {D : DiskS} (h : DiskAt w bd D) (i : Int) : (D.read i).size = 512 := by
  unfold DiskS.read
  cases hn : D.now i with
  | some s => exact h.s512.2 i s hn
  | none =>
    cases hf : D.firm i with
    | some s => exact h.s512.1 i s hf
    | none => exact zeros_size _

theorem dCells {w : World} {b : Nat} {D : DiskS} {t : TypeId} (h : w.heap[b]? = some (.cells D.cells t (0, 0))) :
    (w.cell? ⟨b, 0, none⟩ = some (.int .i64 D.size) ∧ w.cell? ⟨b, 1, none⟩ = some (.map (some D.bf)) ∧ w.cell? ⟨b, 2, none⟩ = some D.loose ∧ w.cell? ⟨b, 3, none⟩ = some (.map (some D.bn)) ∧
     w.cell? ⟨b, 4, none⟩ = some (.int .i64 D.fuel) ∧ w.cell? ⟨b, 5, none⟩ = some (.bool D.bound) ∧ w.cell? ⟨b, 6, none⟩ = some (.bool D.down)) := by
  simp [World.cell?, h, DiskS.cells]

theorem diskSize_any {w : World} {bd : Nat} {D : DiskS} (h : w.heap[bd]? = some (.cells D.cells 97 (0, 0))) :
    Calls Tryz.prog 46 #[.pointer (some ⟨bd, 0, none⟩)] w fun e w' => e = .returned (.int .i64 D.size) ∧ w = w' := by
  obtain ⟨c0, c1, c2, c3, c4, c5, c6⟩ := dCells h
  go_enter Tryz.func46, Tryz.ntmps46
  go_wp2
  go_ret
  exact ⟨rfl, rfl⟩

theorem diskDown_any {w : World} {bd : Nat} {D : DiskS} (h : w.heap[bd]? = some (.cells D.cells 97 (0, 0))) :
    Calls Tryz.prog 47 #[.pointer (some ⟨bd, 0, none⟩)] w fun e w' => e = .returned (.bool D.down) ∧ w = w' := by
  obtain ⟨c0, c1, c2, c3, c4, c5, c6⟩ := dCells h
  go_enter Tryz.func47, Tryz.ntmps47
  go_wp2
  go_ret
  exact ⟨rfl, rfl⟩

theorem repeatL_zero (n : Nat) : Lib.repeatL ((⟨#[0]⟩ : ByteArray)).data.toList n = List.replicate n 0 := by
  show Lib.repeatL [0] n = _
  induction n with
  | zero => rfl
  | succ n ih => rw [Lib.repeatL, ih]; rfl

theorem full_any (s : ByteArray) (hs : s.size ≤ 512) (w : World) :
    Calls Tryz.prog 76 #[.string s] w fun e w' => e = .returned (.string (fullS s)) ∧ Below w.heap.size w w' := by
  have hx := Tryz.strings_Repeat ⟨#[0]⟩ (512 - s.size) w (by omega) (by have : (⟨#[0]⟩ : ByteArray).size = 1 := rfl; rw [this]; omega)
  rw [repeatL_zero] at hx
  have e1 : (512 : Int) - (s.size : Nat) = ((512 - s.size : Nat) : Int) := by omega
  have hcat := fun w => run_string_add_sum (P := Tryz.prog) w s ⟨(List.replicate (512 - s.size) (0 : UInt8)).toArray⟩ (by
    have : (⟨(List.replicate (512 - s.size) (0 : UInt8)).toArray⟩ : ByteArray).size = 512 - s.size := by show (List.replicate _ _).toArray.size = _; simp
    omega)
  have e2 : fullS s = s ++ ⟨(List.replicate (512 - s.size) (0 : UInt8)).toArray⟩ := by
    apply ByteArray.ext
    simp [fullS]
  rw [e2]
  generalize (⟨(List.replicate (512 - s.size) (0 : UInt8)).toArray⟩ : ByteArray) = z at *
  have H1 := Lib.hid hx
  clear hx hs e2
  go_enter Tryz.func76, Tryz.ntmps76
  go_wp2_with (first
    | (go_at_call 53; refine (H1.out).mono ?_; rintro e w1 ⟨rfl, hb1⟩))
  go_ret
  exact ⟨rfl, hb1⟩

theorem zeroStr (w : World) : (zeroValue 9).run Tryz.prog w = .ok (.string ByteArray.empty) w := by kernel_rfl
theorem keyOk {i : Int} (h1 : -9223372036854775808 ≤ i) (h2 : i ≤ 9223372036854775807) : (Lit.int .i64 i).wf = true := by
  show (decide (-9223372036854775808 ≤ i) && decide (i ≤ 9223372036854775807)) = true
  simp [h1, h2]

/-- the map's answer -/
theorem lookS {w : World} {b n : Nat} {g : Int → Option ByteArray} (h : IMap w b (strs g) n) {i : Int} (hi : (Lit.int .i64 i).wf = true) (c : Bool) :
    (Instr.lookup 94 (.map (some b)) (.int .i64 i) c).run Tryz.prog w = .ok (if c then .tuple #[.string ((g i).getD ByteArray.empty), .bool (g i).isSome] else .string ((g i).getD ByteArray.empty)) w := by
  have := h.run_lookup Tryz.underlying3 Tryz.underlying94 (zeroStr w) hi c
  rw [this]
  unfold strs
  cases g i <;> simp

/-- what reading a sector answers -/
def DiskS.says (D : DiskS) (i : Int) : Value :=
  if D.down then .tuple #[.string ByteArray.empty, .int .i64 3] else if 0 ≤ i ∧ i < D.size then .tuple #[.string (D.read i), .int .i64 0] else .tuple #[.string ByteArray.empty, .int .i64 2]

theorem fullS_empty : fullS ByteArray.empty = zeros 512 := by
  apply ByteArray.ext
  unfold zeros
  show #[] ++ _ = _
  rw [Array.empty_append]
  rfl

set_option maxRecDepth 100000 in
theorem diskRead_any {w : World} {bd : Nat} {D : DiskS} (h : DiskAt w bd D) {i : Int} (hi : (Lit.int .i64 i).wf = true) :
    Calls Tryz.prog 48 #[.pointer (some ⟨bd, 0, none⟩), .int .i64 i] w fun e w' => e = .returned (D.says i) ∧ Below w.heap.size w w' := by
  have H1 := Lib.hid (diskDown_any h.cells)
  have H2 := Lib.hid (full_any ByteArray.empty (by decide) w)
  obtain ⟨c0, c1, c2, c3, c4, c5, c6⟩ := dCells h.cells
  have l1 := lookS h.now hi true
  have l2 := lookS h.firm hi true
  rw [fullS_empty] at H2
  unfold DiskS.says DiskS.read
  generalize D.size = sz at *
  generalize zeros 512 = z at *
  cases hD : D.down with
  | true =>
    rw [hD] at H1
    go_enter Tryz.func48, Tryz.ntmps48
    go_wp2_with (first
      | (go_at_call 47; refine (H1.out).mono ?_; rintro e w1 ⟨rfl, rfl⟩))
    go_ret2
    exact ⟨rfl, Below.refl _ _⟩
  | false =>
    rw [hD] at H1
    by_cases hlo : i < 0
    · have e1 : decide (i < 0) = true := by simpa using hlo
      have e2 : ¬ (0 ≤ i ∧ i < (sz : Int)) := by omega
      rw [if_neg e2]
      go_enter Tryz.func48, Tryz.ntmps48
      go_wp2_with (first
        | (go_at_call 47; refine (H1.out).mono ?_; rintro e w1 ⟨rfl, rfl⟩))
      go_ret2
      exact ⟨rfl, Below.refl _ _⟩
    · by_cases hhi : (sz : Int) ≤ i
      · have e1 : decide (i < 0) = false := by simpa using hlo
        have e3 : decide ((sz : Int) ≤ i) = true := by simpa using hhi
        have e2 : ¬ (0 ≤ i ∧ i < (sz : Int)) := by omega
        rw [if_neg e2]
        go_enter Tryz.func48, Tryz.ntmps48
        go_wp2_with (first
          | (go_at_call 47; refine (H1.out).mono ?_; rintro e w1 ⟨rfl, rfl⟩))
        go_ret2
        exact ⟨rfl, Below.refl _ _⟩
      · have e1 : decide (i < 0) = false := by simpa using hlo
        have e3 : decide ((sz : Int) ≤ i) = false := by simpa using hhi
        have e2 : (0 ≤ i ∧ i < (sz : Int)) := by omega
        rw [if_pos e2]
        cases hn : D.now i with
        | some s =>
          rw [hn] at l1
          go_enter Tryz.func48, Tryz.ntmps48
          go_wp2_with (first
            | (go_at_call 47; refine (H1.out).mono ?_; rintro e w1 ⟨rfl, rfl⟩))
          go_ret2
          exact ⟨rfl, Below.refl _ _⟩
        | none =>
          rw [hn] at l1
          cases hf : D.firm i with
          | some s =>
            rw [hf] at l2
            go_enter Tryz.func48, Tryz.ntmps48
            go_wp2_with (first
              | (go_at_call 47; refine (H1.out).mono ?_; rintro e w1 ⟨rfl, rfl⟩))
            go_ret2
            exact ⟨rfl, Below.refl _ _⟩
          | none =>
            rw [hf] at l2
            go_enter Tryz.func48, Tryz.ntmps48
            go_wp2_with (first
              | (go_at_call 47; refine (H1.out).mono ?_; rintro e w1 ⟨rfl, rfl⟩)
              | (go_at_call 76; refine (H2.out).mono ?_; rintro e w1 ⟨rfl, hb1⟩))
            go_ret2
            exact ⟨rfl, hb1⟩

end Go.Proofs.YtalgheocjnajlaaGreatDoor
