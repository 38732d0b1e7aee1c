/-
  THE LOG (wal): what it is in memory; Down, Homes, say, read, Read; a new disk, and the log on it.
-/
import Derived.Test.YtalgheocjnajlaaGreatDoorDisk
import Derived.Test.YtalgheocjnajlaaGreatDoorRegion
namespace Go.Proofs.YtalgheocjnajlaaGreatDoor
open Go.RowKit Go.MapKept
attribute [local go_sem] gives

def freshDisk (n bf bn : Nat) : DiskS := { size := n, bf := bf, firm := fun _ => none, nf := 0, bn := bn, now := fun _ => none, nn := 0, loose := .slice none 0 0, writes := [], fuel := 0, bound := false, down := false }

set_option maxRecDepth 100000
theorem diskNew_any (n : Nat) (h1 : 1 ≤ n) (h2 : n ≤ 65536) (w : World) :
    Calls Tryz.prog 8 #[.int .i64 n] w fun e w' => ∃ bd D, e = .returned (.tuple #[.pointer (some ⟨bd, 0, none⟩), .int .i64 0]) ∧ D = freshDisk n w.heap.size (w.heap.size + 1) ∧ DiskAt w' bd D ∧
      bd = w.heap.size + 2 ∧ Below w.heap.size w w' := by
  have e1 : decide ((n : Int) < 1) = false := by simp; omega
  have e2 : decide ((65536 : Int) < n) = false := by simp; omega
  have hmm := @run_makeMap Tryz.prog
  go_enter Tryz.func8, Tryz.ntmps8
  go_wp2
  go_ret2
  have e2 : ((w.alloc (Obj.map #[] 0)).alloc (Obj.map #[] 0)).heap.size = w.heap.size + 1 + 1 := by simp
  obtain ⟨n1, n2, n3, nb⟩ := new3 w (Obj.map #[] 0) (Obj.map #[] 0) (Obj.cells #[.int .i64 n, .map (some w.heap.size), .slice none 0 0, .map (some (w.heap.size + 1)), .int .i64 0, .bool false, .bool false] 97)
  refine ⟨w.heap.size + 1 + 1, _, rfl, rfl, ⟨h2, n3, ?_, ?_, World.ownsRow_nil _ _ _ _, ⟨?_, ?_, ?_, ?_, ?_, ?_⟩, ?_, ?_⟩, rfl, nb⟩
  · exact IMap_empty n1
  · exact IMap_empty n2
  all_goals simp [freshDisk, Value.ownBlock]
  all_goals omega

structure LogS where
  bd : Nat
  D : DiskS
  ring : Nat
  tail : Nat
  next : Nat
  used : Nat
  seq : Nat
  bo : Nat
  over : Int → Option ByteArray
  no : Nat
  down : Bool

def LogS.cells (L : LogS) : Array Value := #[.pointer (some ⟨L.bd, 0, none⟩), .int .i64 L.ring, .int .i64 L.tail, .int .i64 L.next, .int .i64 L.used, .int .u64 L.seq, .map (some L.bo), .bool L.down]
def LogS.foot (L : LogS) (bl : Nat) (k : Nat) : Prop := k = bl ∨ k = L.bo ∨ L.D.foot L.bd k
structure LogAt (w : World) (bl : Nat) (L : LogS) : Prop where
  cells : w.heap[bl]? = some (.cells L.cells 99 (0, 0))
  disk : DiskAt w L.bd L.D
  over : IMap w L.bo (strs L.over) L.no
  apart : bl ≠ L.bo ∧ ¬ L.D.foot L.bd bl ∧ ¬ L.D.foot L.bd L.bo
  s512 : ∀ i s, L.over i = some s → s.size = 512
  ring : 4 ≤ L.ring ∧ L.ring ≤ 4096 ∧ L.ring + 2 ≤ L.D.size

theorem LogAt.keep {w w' : World} {bl : Nat} {L : LogS} (h : LogAt w bl L) {S : Nat → Prop} (hk : Keep S w w') (hn : ∀ k, L.foot bl k → ¬ S k) : LogAt w' bl L :=
  ⟨hk.at h.cells (hn _ (.inl rfl)), h.disk.keep hk (fun k hf => hn k (.inr (.inr hf))), h.over.keep hk (hn _ (.inr (.inl rfl))), h.apart, h.s512, h.ring⟩
theorem LogAt.foot_lt {w : World} {bl : Nat} {L : LogS} (h : LogAt w bl L) {k : Nat} (hf : L.foot bl k) : k < w.heap.size := by
  rcases hf with rfl | rfl | hf
  · exact (Array.getElem?_eq_some_iff.1 h.cells).1
  · exact h.over.lt
  · exact h.disk.foot_lt hf

def LogS.homes (L : LogS) : Nat := L.D.size - 1 - L.ring
/-- what a home holds -/
def LogS.read (L : LogS) (i : Int) : ByteArray := (L.over i).getD (L.D.read (1 + L.ring + i))
theorem LogS.read_size {w : World} {bl : Nat} {L : LogS} (h : LogAt w bl L) (i : Int) : (L.read i).size = 512 := by
  unfold LogS.read
  cases hn : L.over i with
  | some s => exact h.s512 i s hn
  | none => exact DiskS.read_size h.disk _

theorem lCells {w : World} {b : Nat} {L : LogS} {t : TypeId} (h : w.heap[b]? = some (.cells L.cells t (0, 0))) :
    (w.cell? ⟨b, 0, none⟩ = some (.pointer (some ⟨L.bd, 0, none⟩)) ∧ w.cell? ⟨b, 1, none⟩ = some (.int .i64 L.ring) ∧ w.cell? ⟨b, 2, none⟩ = some (.int .i64 L.tail) ∧ w.cell? ⟨b, 3, none⟩ = some (.int .i64 L.next) ∧
     w.cell? ⟨b, 4, none⟩ = some (.int .i64 L.used) ∧ w.cell? ⟨b, 5, none⟩ = some (.int .u64 L.seq) ∧ w.cell? ⟨b, 6, none⟩ = some (.map (some L.bo)) ∧ w.cell? ⟨b, 7, none⟩ = some (.bool L.down)) := by
  simp [World.cell?, h, LogS.cells]

theorem logDown_any {w : World} {bl : Nat} {L : LogS} (h : w.heap[bl]? = some (.cells L.cells 99 (0, 0))) :
    Calls Tryz.prog 57 #[.pointer (some ⟨bl, 0, none⟩)] w fun e w' => e = .returned (.bool L.down) ∧ w = w' := by
  obtain ⟨c0, c1, c2, c3, c4, c5, c6, c7⟩ := lCells h
  go_enter Tryz.func57, Tryz.ntmps57
  go_wp2
  go_ret
  exact ⟨rfl, rfl⟩

theorem Keep.still {w u : World} (h : Below w.heap.size w u) : Keep (fun _ => False) w u := Keep.ofBelow h
theorem LogAt.still {w u : World} {bl : Nat} {L : LogS} (h : LogAt w bl L) (hb : Below w.heap.size w u) : LogAt u bl L := h.keep (Keep.still hb) (fun _ _ h => h)

theorem logHomes_any {w : World} {bl : Nat} {L : LogS} (h : LogAt w bl L) :
    Calls Tryz.prog 56 #[.pointer (some ⟨bl, 0, none⟩)] w fun e w' => e = .returned (.int .i64 L.homes) ∧ Below w.heap.size w w' := by
  have H1 := Lib.hid (fun u (hu : LogAt u bl L) => diskSize_any hu.disk.cells)
  have e1 : (L.D.size : Int) - 1 - (L.ring : Int) = (L.homes : Int) := by have := h.ring; unfold LogS.homes; omega
  have e2 : IntKind.i64.wrap ((L.D.size : Int) - 1) = (L.D.size : Int) - 1 := wrapI (by omega) (by have := h.disk.size; omega)
  have e3 : IntKind.i64.wrap (L.homes : Int) = (L.homes : Int) := wrapI (by omega) (by have := h.disk.size; unfold LogS.homes; omega)
  generalize L.homes = n at *
  obtain ⟨C, hC⟩ : ∃ C : World → Prop, ∀ u, C u ↔ Below (w).heap.size (w) u := ⟨fun u => Below (w).heap.size (w) u, fun _ => Iff.rfl⟩
  have F : ∀ u, C u → LogAt u bl L := fun u hu => by
    have hu := (hC u).1 hu
    exact h.still hu
  have step : ∀ u u', C u → Below u.heap.size u u' → C u' := fun u u' hu hb => (hC u').2 (((hC u).1 hu).trans (hb.mono ((hC u).1 hu).size))
  have HC := Lib.hid hC
  have FF := Lib.hid F
  clear hC F
  go_enter Tryz.func56, Tryz.ntmps56
  go_wp2
  refine wp_region_inv 11 C (by kernel_rfl) (by kernel_rfl) ((HC.out _).2 (Below.refl _ _).drew) ?_
  simp only [List.take_succ_cons, List.take_zero, List.drop_succ_cons, List.drop_zero]
  repeat
    first
    | (refine wpInv_plain rfl (fun K hK => ?_)
       apply Exists.intro
       refine ⟨fun u hu => ?_, ?_⟩
       · have HU := Lib.hid hu
         obtain ⟨c0, c1, c2, c3, c4, c5, c6, c7⟩ := lCells (FF.out u hu).cells
         clear hu
         go_simp
         first
           | exact ⟨HU.out, rfl⟩
           | (go_at_call 46; with_reducible refine (H1.out u (FF.out u HU.out)).mono ?_; rintro e w' ⟨rfl, rfl⟩; exact ⟨rfl, HU.out⟩)
       go_simp
       refine hK _ ?_
       clear hK K)
    | (refine wpInv_passed (by rfl) (fun K hK => ?_); go_simp; refine hK _ ?_; clear hK K)
    | (refine wpInv_wanted (by rfl) (fun K hK => ?_)
       apply Exists.intro
       refine ⟨fun u hu => ?_, ?_⟩
       · have HU := Lib.hid hu
         obtain ⟨c0, c1, c2, c3, c4, c5, c6, c7⟩ := lCells (FF.out u hu).cells
         clear hu
         go_simp
         first
           | exact ⟨HU.out, rfl⟩
           | (go_at_call 46; with_reducible refine (H1.out u (FF.out u HU.out)).mono ?_; rintro e w' ⟨rfl, rfl⟩; exact ⟨rfl, HU.out⟩)
       go_simp
       refine hK _ ?_
       clear hK K)
  refine wpInv_nil ?_
  intro w' hw'
  go_wp2
  go_ret
  exact ⟨rfl, (HC.out _).1 hw'⟩

theorem logSay_any (bl : Nat) (c : Int) (hc : c ≠ 3) (w : World) :
    Calls Tryz.prog 58 #[.pointer (some ⟨bl, 0, none⟩), .int .i64 c] w fun e w' => e = .returned (.int .i64 c) ∧ w = w' := by
  have e1 : decide (c = 3) = false := by simpa using hc
  go_enter Tryz.func58, Tryz.ntmps58
  go_wp2
  go_ret
  exact ⟨rfl, rfl⟩

/-- what reading a home answers, of a log that is not down -/
def LogS.says (L : LogS) (i : Int) : Value :=
  if 0 ≤ i ∧ i < L.homes then .tuple #[.string (L.read i), .int .i64 0] else .tuple #[.string ByteArray.empty, .int .i64 2]

theorem logRead_any {w : World} {bl : Nat} {L : LogS} (h : LogAt w bl L) (hd : L.down = false) (hdd : L.D.down = false) {i : Int} (hi : (Lit.int .i64 i).wf = true) :
    Calls Tryz.prog 25 #[.pointer (some ⟨bl, 0, none⟩), .int .i64 i] w fun e w' => e = .returned (L.says i) ∧ Below w.heap.size w w' := by
  have H1 := Lib.hid (fun u (hu : LogAt u bl L) => logDown_any hu.cells)
  have H2 := Lib.hid (fun u (hu : LogAt u bl L) => logHomes_any hu)
  rw [hd] at H1
  obtain ⟨C, hC⟩ : ∃ C : World → Prop, ∀ u, C u ↔ Below (w).heap.size (w) u := ⟨fun u => Below (w).heap.size (w) u, fun _ => Iff.rfl⟩
  have F : ∀ u, C u → LogAt u bl L := fun u hu => by
    have hu := (hC u).1 hu
    exact h.still hu
  have step : ∀ u u', C u → Below u.heap.size u u' → C u' := fun u u' hu hb => (hC u').2 (((hC u).1 hu).trans (hb.mono ((hC u).1 hu).size))
  have HC := Lib.hid hC
  have FF := Lib.hid F
  clear hC F
  unfold LogS.says
  by_cases hlo : i < 0
  · have e1 : decide (i < 0) = true := by simpa using hlo
    have e2 : ¬ (0 ≤ i ∧ i < (L.homes : Int)) := by omega
    rw [if_neg e2]
    go_enter Tryz.func25, Tryz.ntmps25
    go_wp2_with (first
      | (go_at_call 57; refine (H1.out _ h).mono ?_; rintro e w1 ⟨rfl, rfl⟩))
    go_ret2
    exact ⟨rfl, Below.refl _ _⟩
  · have e1 : decide (i < 0) = false := by simpa using hlo
    by_cases hhi : (L.homes : Int) ≤ i
    · have e3 : decide ((L.homes : Int) ≤ i) = true := by simpa using hhi
      have e2 : ¬ (0 ≤ i ∧ i < (L.homes : Int)) := by omega
      rw [if_neg e2]
      go_enter Tryz.func25, Tryz.ntmps25
      go_wp2_with (first
        | (go_at_call 57; refine (H1.out _ h).mono ?_; rintro e w1 ⟨rfl, rfl⟩)
        | (go_at_call 56; refine (H2.out _ h).mono ?_; rintro e w1 ⟨rfl, hb⟩))
      go_ret2
      exact ⟨rfl, hb⟩
    · have e3 : decide ((L.homes : Int) ≤ i) = false := by simpa using hhi
      have e2 : (0 ≤ i ∧ i < (L.homes : Int)) := by omega
      have hr := h.ring
      have hsz := h.disk.size
      have hlt : (i : Int) < 65536 := by unfold LogS.homes at e2; omega
      have hin : 0 ≤ 1 + (L.ring : Int) + i ∧ 1 + (L.ring : Int) + i < L.D.size := by unfold LogS.homes at e2; omega
      rw [if_pos e2]
      have H3 := Lib.hid (fun u (hu : LogAt u bl L) => lookS hu.over hi true)
      have H4 := Lib.hid (fun u (hu : LogAt u bl L) => diskRead_any hu.disk (i := 1 + (L.ring : Int) + i) (keyOk (by omega) (by omega)))
      have H5 := Lib.hid (logSay_any bl 0 (by decide))
      have ds : L.D.says (1 + (L.ring : Int) + i) = .tuple #[.string (L.D.read (1 + (L.ring : Int) + i)), .int .i64 0] := by
        unfold DiskS.says; rw [hdd, if_pos hin]; rfl
      rw [ds] at H4
      unfold LogS.read
      have w1 : IntKind.i64.wrap (1 + (L.ring : Int)) = 1 + (L.ring : Int) := wrapI (by omega) (by omega)
      have w2 : IntKind.i64.wrap (1 + (L.ring : Int) + i) = 1 + (L.ring : Int) + i := wrapI (by omega) (by omega)
      generalize L.D.read (1 + (L.ring : Int) + i) = sd at *
      generalize hp : 1 + (L.ring : Int) + i = place at *
      generalize hq : 1 + (L.ring : Int) = pl at *
      cases ho : L.over i with
      | some s =>
        rw [ho] at H3
        go_enter Tryz.func25, Tryz.ntmps25
        go_wp2_with (first
          | (go_at_call 57; refine (H1.out _ h).mono ?_; rintro e w1 ⟨rfl, rfl⟩)
          | (go_at_call 56; refine (H2.out _ h).mono ?_; rintro e w1 ⟨rfl, hb⟩
             obtain ⟨c0, c1, c2, c3, c4, c5, c6, c7⟩ := lCells (h.still hb).cells
             have l3 := H3.out _ (h.still hb)))
        go_ret2
        exact ⟨rfl, hb⟩
      | none =>
        rw [ho] at H3
        go_enter Tryz.func25, Tryz.ntmps25
        go_wp2_with (first
          | (go_at_call 57; refine (H1.out _ h).mono ?_; rintro e w1 ⟨rfl, rfl⟩)
          | (go_at_call 56; refine (H2.out _ h).mono ?_; rintro e w1 ⟨rfl, hb⟩
             obtain ⟨c0, c1, c2, c3, c4, c5, c6, c7⟩ := lCells (h.still hb).cells
             have l3 := H3.out _ (h.still hb)))
        refine wp_region_inv 16 C (by kernel_rfl) (by kernel_rfl) ((HC.out _).2 hb.drew) ?_
        simp only [List.take_succ_cons, List.take_zero, List.drop_succ_cons, List.drop_zero]
        repeat
          first
          | (refine wpInv_plain rfl (fun K hK => ?_)
             apply Exists.intro
             refine ⟨fun u hu => ?_, ?_⟩
             · have HU := Lib.hid hu
               obtain ⟨c0, c1, c2, c3, c4, c5, c6, c7⟩ := lCells (FF.out u hu).cells
               clear hu
               go_simp
               first
                 | exact ⟨HU.out, rfl⟩
                 | (go_at_call 48; with_reducible refine (H4.out u (FF.out u HU.out)).mono ?_; rintro e w' ⟨rfl, hb⟩; exact ⟨rfl, step _ _ HU.out hb⟩)
             go_simp
             refine hK _ ?_
             clear hK K)
          | (refine wpInv_passed (by rfl) (fun K hK => ?_); go_simp; refine hK _ ?_; clear hK K)
          | (refine wpInv_wanted (by rfl) (fun K hK => ?_)
             apply Exists.intro
             refine ⟨fun u hu => ?_, ?_⟩
             · have HU := Lib.hid hu
               obtain ⟨c0, c1, c2, c3, c4, c5, c6, c7⟩ := lCells (FF.out u hu).cells
               clear hu
               go_simp
               first
                 | exact ⟨HU.out, rfl⟩
                 | (go_at_call 48; with_reducible refine (H4.out u (FF.out u HU.out)).mono ?_; rintro e w' ⟨rfl, hb⟩; exact ⟨rfl, step _ _ HU.out hb⟩)
             go_simp
             refine hK _ ?_
             clear hK K)
        refine wpInv_nil ?_
        intro w' hw'
        go_wp2_with (go_at_call 58; refine (H5.out _).mono ?_; rintro e w1 ⟨rfl, rfl⟩)
        go_ret2
        exact ⟨rfl, (HC.out _).1 hw'⟩

end Go.Proofs.YtalgheocjnajlaaGreatDoor
