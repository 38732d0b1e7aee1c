/-
  THE DISK (sector), in memory: step, settle, Write, Flush, Fuel.
-/
import Derived.Test.YtalgheocjnajlaaGreatDoorDkP
import Derived.Test.YtalgheocjnajlaaGreatDoorBase
namespace Go.Proofs.YtalgheocjnajlaaGreatDoor
open Go.RowKit Go.MapKept
open Go.ChangeMaps (setBlock heap_setBlock_same heap_setBlock_other)
attribute [local go_sem] gives givesH
set_option maxRecDepth 100000

def lastOf (p : Puts) (i : Int) : Option ByteArray := (p.filter (fun x => decide (x.1 = i))).getLast?.map (·.2)
theorem seen_lastOf (p : Puts) (f : Int → ByteArray) (i : Int) : seen p f i = (lastOf p i).getD (f i) := rfl
theorem lastOf_snoc (p : Puts) (x : Int × ByteArray) (i : Int) : lastOf (p ++ [x]) i = if x.1 = i then some x.2 else lastOf p i := by
  unfold lastOf
  rw [List.filter_append]
  by_cases h : x.1 = i <;> simp [h]
/-- D is d, in memory -/
structure DkOf (D : DiskS) (d : Dk) : Prop where
  size : D.size = d.size
  firm : ∀ i, (D.firm i).getD (zeros 512) = d.firm i
  now : ∀ i, D.now i = lastOf d.writes i
  writes : D.writes = d.writes
  fuel : d.bound = true → D.fuel = (d.fuel : Int) ∧ d.fuel ≤ 9223372036854775807
  bound : D.bound = d.bound
  down : D.down = d.down
  ins : ∀ x ∈ d.writes, 0 ≤ x.1 ∧ x.1 < d.size ∧ x.2.size = 512
theorem DkOf.read {D : DiskS} {d : Dk} (h : DkOf D d) (i : Int) : D.read i = d.read i := by
  unfold DiskS.read Dk.read
  rw [seen_lastOf, h.now, h.firm]
/-- a disk turned -/
structure DiskStep (bd : Nat) (w : World) (D : DiskS) (w' : World) (D' : DiskS) : Prop where
  at_ : DiskAt w' bd D'
  size : D'.size = D.size
  bf : D'.bf = D.bf
  bn : D'.bn = D.bn
  keep : Keep (D.foot bd) w w'
  own : ∀ k, D'.foot bd k → D.foot bd k ∨ w.heap.size ≤ k
theorem DiskStep.refl {bd : Nat} {w : World} {D : DiskS} (h : DiskAt w bd D) : DiskStep bd w D w D := ⟨h, rfl, rfl, rfl, Keep.refl _ _, fun _ h => .inl h⟩
theorem DiskStep.still {bd : Nat} {w u : World} {D : DiskS} (h : DiskAt w bd D) (hb : Below w.heap.size w u) : DiskStep bd w D u D := ⟨h.still hb, rfl, rfl, rfl, Keep.ofBelow hb, fun _ h => .inl h⟩
theorem DiskStep.trans {bd : Nat} {w w' w'' : World} {D D' D'' : DiskS} (h : DiskStep bd w D w' D') (k : DiskStep bd w' D' w'' D'') : DiskStep bd w D w'' D'' :=
  ⟨k.at_, k.size.trans h.size, k.bf.trans h.bf, k.bn.trans h.bn, h.keep.trans k.keep (fun i hi hs => (h.own i hs).resolve_right (by omega)),
   fun i hi => (k.own i hi).elim (h.own i) (fun hge => .inr (Nat.le_trans h.keep.size hge))⟩

theorem dCellsF {w : World} {b : Nat} {D : DiskS} {t : TypeId} (h : w.heap[b]? = some (.cells D.cells t (0, 0))) (i : Nat) : w.frozen? ⟨b, i, none⟩ = false := by
  simp [World.frozen?, h]
/-- the disk's own cells are others -/
theorem DiskAt.turn {w : World} {bd : Nat} {D : DiskS} (h : DiskAt w bd D) (fuel : Int) (bound down : Bool) {w' : World} (hk : Keep (· = bd) w w')
    (hc : w'.heap[bd]? = some (.cells ({ D with fuel := fuel, bound := bound, down := down } : DiskS).cells 97 (0, 0))) : DiskStep bd w D w' { D with fuel := fuel, bound := bound, down := down } := by
  refine ⟨⟨h.size, hc, h.firm.keep hk h.apart.1.symm, h.now.keep hk h.apart.2.1.symm, hk.ownsRow h.loose (fun k e e2 => h.apart.2.2.2.1 (e2 ▸ e)), h.apart, h.s512⟩, rfl, rfl, rfl, hk.mono (fun k _ e => .inl e), fun k hk => .inl hk⟩

theorem can_free {d : Dk} (h : d.bound = false) : d.can = true ∧ d.step = d := by
  unfold Dk.can Dk.step; rw [h]; exact ⟨rfl, rfl⟩
theorem can_out {d : Dk} (h : d.bound = true) (h0 : d.fuel = 0) : d.can = false ∧ d.step = { d with down := true } := by
  unfold Dk.can Dk.step; rw [h, h0]; exact ⟨rfl, rfl⟩
theorem can_some {d : Dk} (h : d.bound = true) {m : Nat} (h0 : d.fuel = m + 1) : d.can = true ∧ d.step = { d with fuel := m } := by
  unfold Dk.can Dk.step; rw [h, h0]; exact ⟨rfl, rfl⟩
/-- is a step done? -/
theorem diskStep_any {w : World} {bd : Nat} {D : DiskS} {d : Dk} (h : DiskAt w bd D) (hd : DkOf D d) :
    Calls Tryz.prog 123 #[.pointer (some ⟨bd, 0, none⟩)] w fun e w' => e = .returned (.bool d.can) ∧ ∃ D', DiskStep bd w D w' D' ∧ DkOf D' d.step ∧ D'.loose = D.loose := by
  obtain ⟨c0, c1, c2, c3, c4, c5, c6⟩ := dCells h.cells
  have f4 := dCellsF h.cells 4
  have f6 := dCellsF h.cells 6
  have H := Lib.hid h
  have HD := Lib.hid hd
  rw [hd.bound] at c5
  cases hb : d.bound with
  | false =>
    rw [hb] at c5
    obtain ⟨k1, k2⟩ := can_free hb
    rw [k1, k2]
    clear h hd k1 k2 hb
    go_enter Tryz.func123, Tryz.ntmps123
    go_wp2
    go_ret
    exact ⟨rfl, D, DiskStep.refl H.out, HD.out, rfl⟩
  | true =>
    obtain ⟨hf, hf2⟩ := hd.fuel hb
    rw [hb] at c5
    rw [hf] at c4
    have hst : w.heap[bd]? = some (.cells D.cells 97 (0, 0)) := h.cells
    by_cases h0 : d.fuel = 0
    · obtain ⟨k1, k2⟩ := can_out hb h0
      rw [k1, k2]
      have e0 : (((d.fuel : Nat) : Int) == 0) = true := by simp [h0]
      have T := Lib.hid (h.turn D.fuel D.bound true (w' := w.setCell ⟨bd, 6, none⟩ (.bool true)) ((Keep.refl (· = bd) w).setCell (p := ⟨bd, 6, none⟩) (fun _ => rfl) _)
        (by simp [World.setCell, Array.getElem?_modify, hst, DiskS.cells]))
      clear h hd hf hf2 hst hb h0 k1 k2
      go_enter Tryz.func123, Tryz.ntmps123
      go_wp2
      go_ret
      exact ⟨rfl, _, T.out, ⟨HD.out.size, HD.out.firm, HD.out.now, HD.out.writes, HD.out.fuel, HD.out.bound, rfl, HD.out.ins⟩, rfl⟩
    · obtain ⟨m, hm⟩ : ∃ m, d.fuel = m + 1 := ⟨d.fuel - 1, by omega⟩
      obtain ⟨k1, k2⟩ := can_some hb hm
      rw [k1, k2]
      rw [hm] at c4 hf2
      have e0 : (((m + 1 : Nat) : Int) == 0) = false := by simp; omega
      have T := Lib.hid (h.turn (m : Int) D.bound D.down (w' := w.setCell ⟨bd, 4, none⟩ (.int .i64 m)) ((Keep.refl (· = bd) w).setCell (p := ⟨bd, 4, none⟩) (fun _ => rfl) _)
        (by simp [World.setCell, Array.getElem?_modify, hst, DiskS.cells]))
      have e1 : ((m + 1 : Nat) : Int) - 1 = (m : Int) := by omega
      have e2 : IntKind.i64.wrap (m : Int) = (m : Int) := wrapI (by omega) (by omega)
      have HF2 := Lib.hid hf2
      clear h hd hf hf2 hst hb h0 hm k1 k2
      go_enter Tryz.func123, Tryz.ntmps123
      go_wp2
      go_ret
      exact ⟨rfl, _, T.out, ⟨HD.out.size, HD.out.firm, HD.out.now, HD.out.writes, fun _ => ⟨rfl, by have := HF2.out; show m ≤ _; omega⟩, HD.out.bound, HD.out.down, HD.out.ins⟩, rfl⟩
/-- a map is emptied -/
theorem IMap.run_clear {P : Program} {k e t ty : TypeId} {w : World} {b n : Nat} {g : Int → Option Value} (h : IMap w b g n) (ht : P.underlying t = some (.map k e)) :
    ∃ w', (Builtin.clear_ #[t] ty #[.map (some b)]).run P w = .ok (.tuple #[]) w' ∧ IMap w' b (fun _ => none) 0 ∧ Keep (· = b) w w' ∧ w'.heap.size = w.heap.size := by
  have hlt := h.lt
  obtain ⟨es, clock, hb, hs, hn, hkeys, hg⟩ := h
  refine ⟨setBlock w b (.map #[] clock), ?_, ⟨_, _, heap_setBlock_same hb _, stamped_empty clock, rfl, by simp, by simp⟩, setBlock_keep hlt _, by simp [setBlock]⟩
  simp [Builtin.clear_, run_underlying ht, MapKept.run_getObj_map hb, MapKept.run_setObj_map _ hb, Result.andThen, setBlock]
def DiskS.settled (D : DiskS) : DiskS := { D with loose := .slice none 0 0, writes := [], now := fun _ => none, nn := 0 }
theorem diskSettle_any {w : World} {bd : Nat} {D : DiskS} (h : DiskAt w bd D) :
    Calls Tryz.prog 124 #[.pointer (some ⟨bd, 0, none⟩)] w fun e w' => e = .returned (.tuple #[]) ∧ DiskStep bd w D w' D.settled := by
  obtain ⟨c0, c1, c2, c3, c4, c5, c6⟩ := dCells h.cells
  have f2 := dCellsF h.cells 2
  have hst : w.heap[bd]? = some (.cells D.cells 97 (0, 0)) := h.cells
  have k1 : Keep (· = bd) w (w.setCell ⟨bd, 2, none⟩ (.slice none 0 0)) := (Keep.refl (· = bd) w).setCell (p := ⟨bd, 2, none⟩) (fun _ => rfl) _
  have hst1 : (w.setCell ⟨bd, 2, none⟩ (.slice none 0 0)).heap[bd]? = some (.cells D.settled.cells 97 (0, 0)) := by
    simp [World.setCell, Array.getElem?_modify, hst, DiskS.cells, DiskS.settled]
  have hnow := h.now.keep k1 h.apart.2.1.symm
  obtain ⟨w2, hr2, hm2, hk2, hz2⟩ := hnow.run_clear (ty := 0) Tryz.underlying94
  have k2 : Keep (fun k => k = bd ∨ k = D.bn) w w2 := (k1.mono (fun _ _ e => .inl e)).trans hk2 (fun _ _ e => .inr e)
  have hD : DiskStep bd w D w2 D.settled := by
    refine ⟨⟨h.size, hk2.at hst1 h.apart.2.1, h.firm.keep k2 (fun e => ?_), hm2, World.ownsRow_nil _ _ _ _, ⟨h.apart.1, h.apart.2.1, h.apart.2.2.1, ?_, ?_, ?_⟩, h.s512.1, fun i s hs => by cases hs⟩, rfl, rfl, rfl, k2.mono (fun k _ e => ?_), fun k hk => ?_⟩
    · rcases e with e | e
      · exact h.apart.1 e.symm
      · exact h.apart.2.2.1 e
    · intro e; cases e
    · intro e; cases e
    · intro e; cases e
    · rcases e with e | e
      · exact .inl e
      · exact .inr (.inr (.inl e))
    · rcases hk with e | e | e | e
      · exact .inl (.inl e)
      · exact .inl (.inr (.inl e))
      · exact .inl (.inr (.inr (.inl e)))
      · cases e
  have HDs := Lib.hid hD
  clear h hst k1 hst1 hnow hm2 hk2 hz2 k2 hD
  go_enter Tryz.func124, Tryz.ntmps124
  go_wp2
  go_end0
  exact ⟨rfl, HDs.out⟩
end Go.Proofs.YtalgheocjnajlaaGreatDoor
