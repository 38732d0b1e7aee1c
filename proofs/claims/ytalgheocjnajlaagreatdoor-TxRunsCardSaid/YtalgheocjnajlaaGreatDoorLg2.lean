/-
  THE LOG, walked: a log turned; goOn, say; the disk's Fuel.
-/
import Derived.Test.YtalgheocjnajlaaGreatDoorLg1
namespace Go.Proofs.YtalgheocjnajlaaGreatDoor
open Go.RowKit Go.MapKept
attribute [local go_sem] gives givesH
set_option maxRecDepth 100000

/-- a log turned -/
structure LogStep (bl : Nat) (w : World) (L : LogS) (w' : World) (L' : LogS) : Prop where
  at_ : LogAt w' bl L'
  bd : L'.bd = L.bd
  bo : L'.bo = L.bo
  ring : L'.ring = L.ring
  size : L'.D.size = L.D.size
  keep : Keep (L.foot bl) w w'
  own : ∀ k, L'.foot bl k → L.foot bl k ∨ w.heap.size ≤ k
section
variable {bl : Nat} {w w' w'' : World} {L L' L'' : LogS}
theorem LogStep.refl (h : LogAt w bl L) : LogStep bl w L w L := ⟨h, rfl, rfl, rfl, rfl, Keep.refl _ _, fun _ h => .inl h⟩
theorem LogStep.still {u : World} (h : LogAt w bl L) (hb : Below w.heap.size w u) : LogStep bl w L u L := ⟨h.still hb, rfl, rfl, rfl, rfl, Keep.ofBelow hb, fun _ h => .inl h⟩
theorem LogStep.trans (h : LogStep bl w L w' L') (k : LogStep bl w' L' w'' L'') : LogStep bl w L w'' L'' :=
  ⟨k.at_, k.bd.trans h.bd, k.bo.trans h.bo, k.ring.trans h.ring, k.size.trans h.size, h.keep.trans k.keep (fun i hi hs => (h.own i hs).resolve_right (by omega)),
   fun i hi => (k.own i hi).elim (h.own i) (fun hge => .inr (Nat.le_trans h.keep.size hge))⟩
theorem LogAt.disk_step {D' : DiskS} (h : LogAt w bl L) (hs : DiskStep L.bd w L.D w' D') : LogStep bl w L w' { L with D := D' } := by
  have hbl : bl < w.heap.size := (Array.getElem?_eq_some_iff.1 h.cells).1
  have hbo := h.over.lt
  refine ⟨⟨hs.keep.at h.cells h.apart.2.1, hs.at_, h.over.keep hs.keep h.apart.2.2, ⟨h.apart.1, fun hf => ?_, fun hf => ?_⟩, h.s512, ⟨h.ring.1, h.ring.2.1, ?_⟩⟩, rfl, rfl, rfl, hs.size, hs.keep.mono (fun k _ e => .inr (.inr e)), fun k hk => ?_⟩
  · exact (hs.own _ hf).elim h.apart.2.1 (fun e => by omega)
  · exact (hs.own _ hf).elim h.apart.2.2 (fun e => by have e2 : w.heap.size ≤ L.bo := e; omega)
  · show L.ring + 2 ≤ D'.size
    rw [hs.size]; exact h.ring.2.2
  · rcases hk with e | e | e
    · exact .inl (.inl e)
    · exact .inl (.inr (.inl e))
    · exact (hs.own k e).imp (fun e => .inr (.inr e)) id
/-- the log's own cells are others -/
theorem LogAt.turn (h : LogAt w bl L) (tail next used seq : Nat) (down : Bool) (hk : Keep (· = bl) w w')
    (hc : w'.heap[bl]? = some (.cells ({ L with tail := tail, next := next, used := used, seq := seq, down := down } : LogS).cells 99 (0, 0))) : LogStep bl w L w' { L with tail := tail, next := next, used := used, seq := seq, down := down } :=
  ⟨⟨hc, h.disk.keep hk (fun _ hf e => h.apart.2.1 (e ▸ hf)), h.over.keep hk (fun e => h.apart.1 e.symm), h.apart, h.s512, h.ring⟩, rfl, rfl, rfl, rfl, hk.mono (fun _ _ e => .inl e), fun _ hk => .inl hk⟩
/-- the log's map is another -/
theorem LogAt.turn_over (h : LogAt w bl L) {over : Int → Option ByteArray} {no : Nat} (hm : IMap w' L.bo (strs over) no) (hk : Keep (· = L.bo) w w') (hs : ∀ i s, over i = some s → s.size = 512) : LogStep bl w L w' { L with over := over, no := no } :=
  ⟨⟨hk.at h.cells h.apart.1, h.disk.keep hk (fun _ hf e => h.apart.2.2 (e ▸ hf)), hm, h.apart, hs, h.ring⟩, rfl, rfl, rfl, rfl, hk.mono (fun _ _ e => .inr (.inl e)), fun _ hk => .inl hk⟩
end
theorem lCellsF {w : World} {b : Nat} {L : LogS} {t : TypeId} (h : w.heap[b]? = some (.cells L.cells t (0, 0))) (i : Nat) : w.frozen? ⟨b, i, none⟩ = false := by
  simp [World.frozen?, h]
set_option maxHeartbeats 1000000 in
theorem goOn_any {w : World} {bl : Nat} {L : LogS} (h : LogAt w bl L) (n : Nat) (hn : n ≤ 65536) (hnx : L.next < L.ring) (hu : L.used ≤ 65536) (hq : L.seq + 1 < 18446744073709551616) :
    Calls Tryz.prog 86 #[.pointer (some ⟨bl, 0, none⟩), .int .i64 n] w fun e w' => e = .returned (.tuple #[]) ∧ LogStep bl w L w' { L with next := (L.next + n) % L.ring, used := L.used + n, seq := L.seq + 1 } := by
  obtain ⟨c0, c1, c2, c3, c4, c5, c6, c7⟩ := lCells h.cells
  have f3 := lCellsF h.cells 3
  have f4 := lCellsF h.cells 4
  have f5 := lCellsF h.cells 5
  have hr := h.ring
  have hbl : bl < w.heap.size := (Array.getElem?_eq_some_iff.1 h.cells).1
  have hst : w.heap[bl]? = some (.cells L.cells 99 (0, 0)) := h.cells
  obtain ⟨nx, hnxe⟩ : ∃ nx, (L.next + n) % L.ring = nx := ⟨_, rfl⟩
  obtain ⟨us, hus⟩ : ∃ us, L.used + n = us := ⟨_, rfl⟩
  obtain ⟨sq, hsq⟩ : ∃ sq, L.seq + 1 = sq := ⟨_, rfl⟩
  have T : LogStep bl w L (((w.drew.setCell ⟨bl, 3, none⟩ (.int .i64 nx)).setCell ⟨bl, 4, none⟩ (.int .i64 us)).setCell ⟨bl, 5, none⟩ (.int .u64 sq)) { L with next := nx, used := us, seq := sq } := by
    refine h.turn L.tail nx us sq L.down (((((Keep.refl (· = bl) w).drew.setCell (p := ⟨bl, 3, none⟩) (fun _ => rfl) _).setCell (p := ⟨bl, 4, none⟩) (fun _ => rfl) _).setCell (p := ⟨bl, 5, none⟩) (fun _ => rfl) _)) ?_
    have hst2 : w.drew.heap[bl]? = some (.cells L.cells 99 (0, 0)) := hst
    simp [World.setCell, Array.getElem?_modify, hst2, LogS.cells]
  have e1 : (L.next : Int) + (n : Int) = ((L.next + n : Nat) : Int) := by omega
  have e2 : ((L.next + n : Nat) : Int).tmod (L.ring : Int) = (nx : Int) := by rw [Int.tmod_eq_emod_of_nonneg (by omega), ← hnxe]; rfl
  have e3 : ¬ (L.ring : Int) = 0 := by omega
  have e3' : ¬ L.ring = 0 := by omega
  have hnx2 : nx < L.ring := by rw [← hnxe]; exact Nat.mod_lt _ (by omega)
  have e4 : (L.used : Int) + (n : Int) = (us : Int) := by omega
  have e5 : (L.seq : Int) + 1 = (sq : Int) := by omega
  have w1 : IntKind.i64.wrap ((L.next + n : Nat) : Int) = ((L.next + n : Nat) : Int) := wrapI (by omega) (by omega)
  have w2 : IntKind.i64.wrap (nx : Int) = (nx : Int) := wrapI (by omega) (by omega)
  have w3 : IntKind.i64.wrap (us : Int) = (us : Int) := wrapI (by omega) (by omega)
  have w4 : (sq : Int) % 18446744073709551616 = (sq : Int) := by omega
  have HT := Lib.hid T
  have HS0 := Lib.hid hst
  rw [hnxe, hus, hsq]
  generalize hN : ((L.next + n : Nat) : Int) = N at *
  clear T h hst hnxe hus hsq hr hnx hu hq hnx2 hN
  go_enter Tryz.func86, Tryz.ntmps86
  go_wp2
  obtain ⟨S, hS⟩ : ∃ S : World → Prop, ∀ u, S u ↔ Keep (fun _ => False) (w) u := ⟨fun u => Keep (fun _ => False) (w) u, fun _ => Iff.rfl⟩
  have HS := Lib.hid hS
  clear hS
  refine wp_region_ord 12 [(0, true), (1, true), (2, true), (3, true), (4, true), (5, true), (6, true), (7, true), (8, true), (9, true), (10, true), (11, true)] S (by kernel_rfl) (by kernel_rfl) ((HS.out _).2 (Keep.refl _ _).drew) ?_
  iterate 12
    first
      | (refine wpH_passed rfl (by rfl) (fun K hK => ?_); go_simp; refine hK _ ?_; clear hK K)
      | (first
           | refine wpH_read rfl rfl (fun K hK => ?_)
           | refine wpH_readw rfl (by rfl) (fun K hK => ?_)
         apply Exists.intro
         refine ⟨fun u hu => ?_, ?_⟩
         · have hu := (HS.out u).1 hu
           obtain ⟨c0, c1, c2, c3, c4, c5, c6, c7⟩ := lCells (hu.at HS0.out (fun e => e))
           clear hu
           go_simp
           exact ⟨rfl, rfl⟩
         go_simp
         refine hK _ ?_
         clear hK K)
  refine wpH_nil ?_
  simp only [List.drop_succ_cons, List.drop_zero]
  clear S HS
  go_wp2
  go_end0
  exact ⟨rfl, HT.out⟩
/-- the log says that the disk fell -/
theorem logSay_fell {w : World} {bl : Nat} {L : LogS} (h : LogAt w bl L) :
    Calls Tryz.prog 58 #[.pointer (some ⟨bl, 0, none⟩), .int .i64 3] w fun e w' => e = .returned (.int .i64 3) ∧ LogStep bl w L w' { L with down := true } := by
  obtain ⟨c0, c1, c2, c3, c4, c5, c6, c7⟩ := lCells h.cells
  have f7 := lCellsF h.cells 7
  have hst : w.heap[bl]? = some (.cells L.cells 99 (0, 0)) := h.cells
  have T : LogStep bl w L (w.setCell ⟨bl, 7, none⟩ (.bool true)) { L with down := true } := by
    refine h.turn L.tail L.next L.used L.seq true ((Keep.refl (· = bl) w).setCell (p := ⟨bl, 7, none⟩) (fun _ => rfl) _) ?_
    simp [World.setCell, Array.getElem?_modify, hst, LogS.cells]
  have HT := Lib.hid T
  clear T h hst
  go_enter Tryz.func58, Tryz.ntmps58
  go_wp2
  go_ret
  exact ⟨rfl, HT.out⟩
end Go.Proofs.YtalgheocjnajlaaGreatDoor

