/-
  Open: the log on a disk of noughts.
-/
import Derived.Test.YtalgheocjnajlaaGreatDoorTold
namespace Go.Proofs.YtalgheocjnajlaaGreatDoor
open Go.RowKit Go.MapKept

def freshLog (bd : Nat) (D : DiskS) (ring bo : Nat) : LogS := { bd := bd, D := D, ring := ring, tail := 0, next := 0, used := 0, seq := 0, bo := bo, over := fun _ => none, no := 0, down := false }

theorem trim_zeros : (⟨(Lib.trimB (zeros 512).data.toList 0).toArray⟩ : ByteArray) = ByteArray.empty := by
  have h : ∀ n, (List.replicate n (0 : UInt8)).dropWhile (· == 0) = [] := by
    intro n
    induction n with
    | zero => rfl
    | succ n ih => rw [List.replicate_succ, List.dropWhile_cons]; simp
  have h2 : ∀ m, (zeros m).data.toList = List.replicate m 0 := fun m => by simp [zeros]
  rw [h2]
  generalize (512 : Nat) = n
  have h3 : Lib.trimB (List.replicate n (0 : UInt8)) 0 = [] := by
    simp [Lib.trimB, Lib.trimLeftB, Lib.trimRightB, h]
  rw [h3]; rfl

theorem set_same {w : World} {b : Nat} {c : Array Value} {t : TypeId} (h : w.heap[b]? = some (.cells c t (0, 0))) (i : Nat) (v : Value) (hv : c[i]? = some v) : (w.setCell ⟨b, i, none⟩ v).heap[b]? = some (.cells c t (0, 0)) := by
  simp [World.setCell, Array.getElem?_modify, h]
  obtain ⟨hi, hv'⟩ := Array.getElem?_eq_some_iff.1 hv
  apply Array.ext
  · simp
  · intro j h1 h2
    rw [Array.getElem_setIfInBounds]
    split
    · rename_i e; subst e; exact hv'.symm
    · rfl

theorem set_idle {w : World} {b : Nat} {c : Array Value} {t : TypeId} (h : w.heap[b]? = some (.cells c t (0, 0))) (i : Nat) (v : Value) (hv : c[i]? = some v) : Below w.heap.size w (w.setCell ⟨b, i, none⟩ v) := by
  refine ⟨rfl, rfl, rfl, by simp [World.setCell], fun k _ => ?_⟩
  by_cases hk : k = b
  · subst hk; rw [set_same h i v hv, h]
  · exact Below.heap_setCell _ _ _ _ hk
theorem frozen_not {w : World} {b : Nat} {c : Array Value} {t : TypeId} (h : w.heap[b]? = some (.cells c t (0, 0))) (i : Nat) : w.frozen? ⟨b, i, none⟩ = false := by
  simp [World.frozen?, h]
theorem new2 (w : World) (o1 o2 : Obj) : ((w.alloc o1).alloc o2).heap[w.heap.size]? = some o1 ∧ ((w.alloc o1).alloc o2).heap[w.heap.size + 1]? = some o2 ∧ Below w.heap.size w ((w.alloc o1).alloc o2) := by
  refine ⟨?_, ?_, ?_⟩
  · rw [Below.heap_alloc _ _ _ (by simp), heap_alloc_new]
  · have := heap_alloc_new (w.alloc o1) o2
    rwa [World.size_alloc] at this
  · exact ((Below.refl _ _).alloc (Nat.le_refl _) _).alloc (by simp) _
theorem DiskAt.still {w u : World} {bd : Nat} {D : DiskS} (h : DiskAt w bd D) (hb : Below w.heap.size w u) : DiskAt u bd D := h.keep (Keep.ofBelow (S := fun _ => False) hb) (fun _ _ h => h)

set_option maxRecDepth 100000
set_option maxHeartbeats 1000000 in
theorem open_zeros {w : World} {bd : Nat} {D : DiskS} (h : DiskAt w bd D) (hd : D.down = false) (hz : ∀ i, D.read i = zeros 512) (ring : Nat) (h1 : 4 ≤ ring) (h2 : ring ≤ 4096) (h3 : ring + 2 ≤ D.size) :
    Calls Tryz.prog 9 #[.pointer (some ⟨bd, 0, none⟩), .int .i64 ring] w fun e w' => ∃ bl L, e = .returned (.tuple #[.pointer (some ⟨bl, 0, none⟩), .int .i64 0]) ∧
      L = freshLog bd D ring w.heap.size ∧ LogAt w' bl L ∧ bl = w.heap.size + 1 ∧ Below w.heap.size w w' := by
  have hsz := h.size
  have e1 : decide ((ring : Int) < 4) = false := by simp; omega
  have e2 : decide ((4096 : Int) < ring) = false := by simp; omega
  have e4 : IntKind.i64.wrap ((ring : Int) + 2) = (ring : Int) + 2 := wrapI (by omega) (by omega)
  have e3 : decide ((D.size : Int) < (ring : Int) + 2) = false := by simp; omega
  have H1 := Lib.hid (fun u (hu : DiskAt u bd D) => diskSize_any hu.cells)
  have H2 := Lib.hid (fun u (hu : DiskAt u bd D) => diskDown_any hu.cells)
  have H3 := Lib.hid (fun u (hu : DiskAt u bd D) => diskRead_any hu (i := 0) (by decide))
  have ds : D.says 0 = .tuple #[.string (zeros 512), .int .i64 0] := by
    have hin : (0 : Int) ≤ 0 ∧ (0 : Int) < D.size := by omega
    unfold DiskS.says; rw [hd, if_pos hin, hz]; rfl
  rw [ds] at H3
  rw [hd] at H2
  have H4 := Lib.hid (fun u => Tryz.strings_Trim_one (zeros 512) 0 (by decide) u (by rw [zeros_size]; decide))
  rw [trim_zeros] at H4
  have hrec : ∀ u bl, LogAt u bl (freshLog bd D ring w.heap.size) → Calls Tryz.prog 51 #[.pointer (some ⟨bl, 0, none⟩)] u fun e w' => e = .returned (.tuple #[.bool false, .int .i64 0]) ∧ Below u.heap.size u w' :=
    fun u bl hu => recover_zeros hu hd (by show (0:Nat) < _; omega) (hz _)
  have H5 := Lib.hid hrec
  clear hrec
  generalize hzz : zeros 512 = z at *
  have HZ := Lib.hid hz
  clear hz ds hzz
  have HN := Lib.hid (new2 w (Obj.map #[] 0) (Obj.cells #[.pointer (some ⟨bd, 0, none⟩), .int .i64 ring, .int .i64 0, .int .i64 0, .int .i64 0, .int .u64 0, .map (some w.heap.size), .bool false] 99))
  have H0 : LogAt ((w.alloc (Obj.map #[] 0)).alloc (Obj.cells #[.pointer (some ⟨bd, 0, none⟩), .int .i64 ring, .int .i64 0, .int .i64 0, .int .i64 0, .int .u64 0, .map (some w.heap.size), .bool false] 99)) (w.heap.size + 1) (freshLog bd D ring w.heap.size) := by
    obtain ⟨n1, n2, nb⟩ := HN.out
    refine ⟨n2, h.still nb, IMap_empty n1, ⟨?_, ?_, ?_⟩, ?_, h1, h2, h3⟩
    · show w.heap.size + 1 ≠ w.heap.size; omega
    · intro hf; have := h.foot_lt hf; omega
    · intro hf; have hlt : w.heap.size < w.heap.size := h.foot_lt hf; omega
    · intro i s hs; cases hs
  have HB := Lib.hid HN.out.2.2
  have HL := Lib.hid H0
  have HD := Lib.hid h
  clear H0 HN
  generalize hL0 : freshLog bd D ring w.heap.size = L0 at *
  have L0n : L0.next = 0 := by rw [← hL0]; rfl
  have L0t : L0.tail = 0 := by rw [← hL0]; rfl
  have HLn := Lib.hid L0n
  have HLt := Lib.hid L0t
  have HLL := Lib.hid hL0
  clear L0n L0t hL0
  have hmm := @run_makeMap Tryz.prog
  go_enter Tryz.func9, Tryz.ntmps9
  go_wp2_with (first
    | (go_at_call 46; refine (H1.out _ HD.out).mono ?_; rintro e w1 ⟨rfl, rfl⟩)
    | (go_at_call 47; refine (H2.out _ HD.out).mono ?_; rintro e w1 ⟨rfl, rfl⟩)
    | (go_at_call 48
       refine (H3.out _ (HD.out.still HB.out)).mono ?_
       rintro e w1 ⟨rfl, hb1⟩
       have HL1 := Lib.hid (HL.out.still hb1)
       have HB1 := Lib.hid (HB.out.trans (hb1.mono HB.out.size))
       clear hb1)
    | (go_at_call 49
       refine (H4.out _).mono ?_
       rintro e w2 ⟨rfl, hw2⟩
       have hb2 : Below w1.heap.size w1 w2 := by rcases hw2 with rfl | rfl <;> exact ⟨rfl, rfl, rfl, Nat.le_refl _, fun _ _ => rfl⟩
       have HL2 := Lib.hid (HL1.out.still hb2)
       have HB2 := Lib.hid (HB1.out.trans (hb2.mono HB1.out.size))
       clear hw2 hb2
       obtain ⟨c0, c1, c2, c3, c4, c5, c6, c7⟩ := lCells HL2.out.cells
       rw [HLt.out] at c2
       have f3 := frozen_not HL2.out.cells 3))
  have hid3 : Below w2.heap.size w2 (w2.setCell ⟨w.heap.size + 1, 3, none⟩ (.int .i64 0)) := set_idle HL2.out.cells 3 _ (by
    show some (Value.int .i64 (L0.next : Nat)) = _
    rw [HLn.out]; rfl)
  have HL3 := Lib.hid (HL2.out.still hid3)
  have HB3 := Lib.hid (HB2.out.trans (hid3.mono HB2.out.size))
  clear hid3
  refine wp_loop_rounds 1 ?_
  rw [rounds_succ]
  go_wp2_with (go_at_call 51; refine (H5.out _ _ HL3.out).mono ?_; rintro e w4 ⟨rfl, hb4⟩)
  go_ret2
  exact ⟨_, _, rfl, rfl, HL3.out.still hb4, rfl, HB3.out.trans (hb4.mono HB3.out.size)⟩

end Go.Proofs.YtalgheocjnajlaaGreatDoor
