/-
  THE DISK (sector), in memory: Write, Flush, Fuel, Fall.
-/
import Derived.Test.YtalgheocjnajlaaGreatDoorCopy
import Derived.Test.YtalgheocjnajlaaGreatDoorHeld2
import Derived.Test.YtalgheocjnajlaaGreatDoorBase
namespace Go.Proofs.YtalgheocjnajlaaGreatDoor
open Go.RowKit Go.MapKept
attribute [local go_sem] gives givesH
set_option maxRecDepth 100000

theorem infoWrite : (Tryz.prog.info? 169).map (fun i => (i.zero, i.size, i.bytes)) = some (some (.agg #[.int .i64 0, .string ⟨#[]⟩]), 2, 24) := by kernel_rfl
theorem writeCells_snoc (p : Puts) (i : Int) (s : ByteArray) : writeCells (p ++ [(i, s)]) = writeCells p ++ [.int .i64 i, .string s] := by simp [writeCells]
def DiskS.put (D : DiskS) (i : Int) (t : ByteArray) (v : Value) (nn : Nat) : DiskS := { D with loose := v, writes := D.writes ++ [(i, t)], now := fun j => if j = i then some t else D.now j, nn := nn }
/-- what a write leaves, from what its operations leave -/
theorem put_disk {w : World} {bd : Nat} {D : DiskS} (h : DiskAt w bd D) {i : Int} {t : ByteArray} (ht : t.size = 512) {v : Value} {nn : Nat} {u1 u2 : World}
    (k1 : Keep (fun k => D.loose.ownBlock = some k ∨ k = bd) w u1) (hown : u1.ownsRow 0 169 2 v (D.writes.length + 1) (writeCells D.writes ++ [.int .i64 i, .string t]))
    (hloc : v.ownBlock = D.loose.ownBlock ∨ ∃ k, v.ownBlock = some k ∧ w.heap.size ≤ k)
    (hc : u1.heap[bd]? = some (.cells (D.put i t v nn).cells 97 (0, 0)))
    (hm : IMap u2 D.bn (putAt (strs D.now) i (.string t)) nn) (k2 : Keep (· = D.bn) u1 u2) : DiskStep bd w D u2 (D.put i t v nn) := by
  have hbd : bd < w.heap.size := (Array.getElem?_eq_some_iff.1 h.cells).1
  have hbf := h.firm.lt
  have hbn := h.now.lt
  have s1 := k1.size
  obtain ⟨a1, a2, a3, a4, a5, a6⟩ := h.apart
  have hv : ∀ k, v.ownBlock = some k → k ≠ bd ∧ k ≠ D.bf ∧ k ≠ D.bn ∧ (D.loose.ownBlock = some k ∨ w.heap.size ≤ k) := fun k hk => by
    rcases hloc with e | ⟨k', e, hge⟩
    · rw [e] at hk
      exact ⟨fun e => a4 (e ▸ hk), fun e => a5 (e ▸ hk), fun e => a6 (e ▸ hk), .inl hk⟩
    · rw [e] at hk
      obtain rfl : k' = k := Option.some.inj hk
      exact ⟨by omega, by omega, by omega, .inr hge⟩
  have k12 : Keep (fun k => (D.loose.ownBlock = some k ∨ k = bd) ∨ k = D.bn) w u2 := (k1.mono (fun _ _ e => .inl e)).trans k2 (fun _ _ e => .inr e)
  have hput : strs (fun j => if j = i then some t else D.now j) = putAt (strs D.now) i (.string t) := by
    funext j
    unfold putAt strs
    by_cases hj : j = i <;> simp [hj]
  refine ⟨⟨h.size, k2.at hc a2, h.firm.keep k12 (fun e => ?_), ?_, ?_, ⟨a1, a2, a3, fun e => (hv _ e).1 rfl, fun e => (hv _ e).2.1 rfl, fun e => (hv _ e).2.2.1 rfl⟩, h.s512.1, fun j s hs => ?_⟩, rfl, rfl, rfl, k12.mono (fun k _ e => ?_), fun k hk => ?_⟩
  · rcases e with (e | e) | e
    · exact a5 e
    · exact a1 e.symm
    · exact a3 e
  · show IMap u2 D.bn (strs (fun j => if j = i then some t else D.now j)) nn
    rw [hput]; exact hm
  · show u2.ownsRow 0 169 2 v (D.writes ++ [(i, t)]).length (writeCells (D.writes ++ [(i, t)]))
    rw [writeCells_snoc, List.length_append]
    exact k2.ownsRow hown (fun k hk e => (hv k hk).2.2.1 e)
  · have hs2 : (if j = i then some t else D.now j) = some s := hs
    by_cases hj : j = i
    · rw [if_pos hj] at hs2; cases hs2; exact ht
    · rw [if_neg hj] at hs2; exact h.s512.2 j s hs2
  · rcases e with (e | e) | e
    · exact .inr (.inr (.inr e))
    · exact .inl e
    · exact .inr (.inr (.inl e))
  · rcases hk with e | e | e | e
    · exact .inl (.inl e)
    · exact .inl (.inr (.inl e))
    · exact .inl (.inr (.inr (.inl e)))
    · exact (hv k e).2.2.2.elim (fun e => .inl (.inr (.inr (.inr e)))) .inr
theorem strs_none {g : Int → Option ByteArray} {i : Int} : strs g i = none ↔ g i = none := by unfold strs; simp
set_option maxHeartbeats 2000000 in
theorem diskWrite_any {w : World} {bd : Nat} {D : DiskS} {d : Dk} (h : DiskAt w bd D) (hd : DkOf D d) (hup : d.down = false) (hlen : d.writes.length < 1000000000) {i : Int} (hi : 0 ≤ i ∧ i < d.size) (s : ByteArray) (hs : s.size ≤ 512) :
    Calls Tryz.prog 112 #[.pointer (some ⟨bd, 0, none⟩), .int .i64 i, .string s] w fun e w' => e = .returned (.int .i64 (if (d.op (.write i s)).down then 3 else 0)) ∧ ∃ D', DiskStep bd w D w' D' ∧ DkOf D' (d.op (.write i s)) := by
  have H1 := Lib.hid (diskDown_any h.cells)
  rw [hd.down, hup] at H1
  have H2 := Lib.hid (diskStep_any h hd)
  have hsz := h.size
  rw [hd.size] at hsz
  have d1 : decide (i < 0) = false := by simp; omega
  have d2 : decide ((d.size : Int) ≤ i) = false := by simp; omega
  have d3 : decide ((512 : Int) < (s.size : Int)) = false := by simp; omega
  have hwf : (Lit.int .i64 i).wf = true := keyOk (by omega) (by omega)
  have HFu := Lib.hid (fun u => full_any s hs u)
  have hft := fullS_size s hs
  obtain ⟨c0, c1, c2, c3, c4, c5, c6⟩ := dCells h.cells
  rw [hd.size] at c0
  have hop := d.op_w i s
  rw [if_neg (by rw [hup]; decide)] at hop
  rw [hop]
  have hsd := d.step_down
  rw [hup] at hsd
  cases hcan : d.can with
  | false =>
    rw [hcan] at hsd H2
    have hsd2 : d.step.down = true := by simpa using hsd
    simp only [Bool.false_eq_true, if_false, hsd2, if_true]
    have H := Lib.hid h
    clear h hd hup hop hsd hsd2 hcan
    go_enter Tryz.func112, Tryz.ntmps112
    go_wp2_with (first
      | (go_at_call 47; refine (H1.out).mono ?_; rintro e w1 ⟨rfl, rfl⟩)
      | (go_at_call 123; refine (H2.out).mono ?_; rintro e w2 ⟨rfl, D', hst, hdd, _⟩))
    go_ret
    exact ⟨rfl, D', hst, hdd⟩
  | true =>
    rw [hcan] at hsd H2
    have hsd2 : d.step.down = false := by simpa using hsd
    have HSd := Lib.hid hsd2
    simp only [if_true, hsd2, Bool.false_eq_true, if_false]
    obtain ⟨i0, hi0, hy0, hy1, hy2⟩ := info_parts infoWrite
    have HI := Lib.hid hi0
    have Hy0 := Lib.hid hy0
    have Hy1 := Lib.hid hy1
    have Hy2 := Lib.hid hy2
    have H := Lib.hid h
    have HDk := Lib.hid hd
    have HFt := Lib.hid hft
    have HIn := Lib.hid hi
    have HSs := Lib.hid d.step_same
    clear h hd hup hop hsd hsd2 hcan hi0 hy0 hy1 hy2 hft hi
    generalize fullS s = t at *
    go_enter Tryz.func112, Tryz.ntmps112
    go_wp2_with (first
      | (go_at_call 47; refine (H1.out).mono ?_; rintro e w1 ⟨rfl, rfl⟩)
      | (go_at_call 123; refine (H2.out).mono ?_; rintro e w2 ⟨rfl, D', hst, hdd, hlo⟩
         have HSt := Lib.hid hst
         have HDd := Lib.hid hdd
         have HLo := Lib.hid hlo
         clear hst hdd hlo)
      | (go_at_call 76; refine (HFu.out _).mono ?_; rintro e w3 ⟨rfl, hb3⟩
         have HB3 := Lib.hid hb3
         have HA3 := Lib.hid (HSt.out.at_.still hb3)
         clear hb3))
    have W0 := HA3.out.still ((Below.refl _ _).alloc (Nat.le_refl _) (Obj.cells #[Value.int IntKind.i64 i, Value.string t] 169))
    have HA4 := Lib.hid W0
    have hbx : ∀ (S : Nat → Prop) (u : World), Keep S (w3.alloc (Obj.cells #[Value.int IntKind.i64 i, Value.string t] 169)) u → ¬ S w3.heap.size → u.cell? ⟨w3.heap.size, 0, none⟩ = some (.int .i64 i) ∧ u.cell? ⟨w3.heap.size, 1, none⟩ = some (.string t) := fun S u hk hn =>
      ⟨Lib.cell_of_heap (hk.at (heap_alloc_new w3 _) hn) 0, Lib.cell_of_heap (hk.at (heap_alloc_new w3 _) hn) 1⟩
    have HBx := Lib.hid hbx
    have hlo : D'.loose.ownBlock ≠ some w3.heap.size := fun e => by
      have h1 := HA3.out.foot_lt (.inr (.inr (.inr e)))
      omega
    have HLw := Lib.hid hlo
    have hwr : D'.writes.length = d.writes.length := by rw [HDd.out.writes, HSs.out.2.2.1]
    have hlen2 : D'.writes.length < 1000000000 := by omega
    clear W0 hbx hlo hwr
    have hnw := heap_alloc_new (w3.alloc (Obj.cells #[Value.int IntKind.i64 i, Value.string t] 169)) (Obj.cells #[Value.int IntKind.i64 i, Value.string t] 169)
    rw [World.size_alloc] at hnw
    have HNw : Hid (((w3.alloc (Obj.cells #[Value.int IntKind.i64 i, Value.string t] 169)).alloc (Obj.cells #[Value.int IntKind.i64 i, Value.string t] 169)).drew.heap[w3.heap.size + 1]? = _) := Lib.hid hnw
    clear hnw
    obtain ⟨S, hS⟩ : ∃ S : World → Prop, ∀ u, S u ↔ Keep (fun k => D'.loose.ownBlock = some k) ((w3.alloc (Obj.cells #[Value.int IntKind.i64 i, Value.string t] 169))) u := ⟨fun u => Keep (fun k => D'.loose.ownBlock = some k) ((w3.alloc (Obj.cells #[Value.int IntKind.i64 i, Value.string t] 169))) u, fun _ => Iff.rfl⟩
    have HS := Lib.hid hS
    clear hS
    refine wp_region_ord 8 [(0, true), (1, true), (2, true), (3, true), (4, true), (5, true), (6, false), (7, false)] S (by kernel_rfl) (by kernel_rfl) ((HS.out _).2 (Keep.refl _ _).drew) ?_
    iterate 6
      first
        | (refine wpH_passed rfl (by rfl) (fun K hK => ?_); go_simp; refine hK _ ?_; clear hK K)
        | (first
             | refine wpH_read rfl rfl (fun K hK => ?_)
             | refine wpH_readw rfl (by rfl) (fun K hK => ?_)
           apply Exists.intro
           refine ⟨fun u hu => ?_, ?_⟩
           · have hu := (HS.out u).1 hu
             obtain ⟨c0, c1, c2, c3, c4, c5, c6⟩ := dCells (hu.at HA4.out.cells (fun e => HA4.out.apart.2.2.2.1 e))
             obtain ⟨b0, b1⟩ := HBx.out _ _ hu HLw.out
             clear hu
             go_simp
             exact ⟨rfl, rfl⟩
           go_simp
           refine hK _ ?_
           clear hK K)
    refine wpH_do rfl rfl (fun K hK => ?_)
    go_simp
    have kA : Keep (fun k => D'.loose.ownBlock = some k) (w3.alloc (Obj.cells #[Value.int IntKind.i64 i, Value.string t] 169)) ((w3.alloc (Obj.cells #[Value.int IntKind.i64 i, Value.string t] 169)).alloc (Obj.cells #[Value.int IntKind.i64 i, Value.string t] 169)).drew := ((Keep.refl _ _).alloc _).drew
    refine hK _ _ ((HS.out _).2 kA) ?_
    clear hK K
    refine wpH_do rfl rfl (fun K hK => ?_)
    refine wp_append_lies _ _ _ 95 (by rfl) 0 169 i0 _ 2 24 Tryz.underlying95 HI.out Hy0.out Hy1.out Hy2.out (by rfl) (by decide) D'.loose _ _ (by rfl) ((HA4.out.loose.alloc _).drew) ⟨w3.heap.size + 1, 0, none⟩ 1 1 [.int .i64 i, .string t] (by rfl) (by rfl) (World.news_of_block (cs := #[.int .i64 i, .string t]) (t := 169) (fr := (0, 0)) HNw.out) (by simp [Value.oneCell']) (by decide) (by unfold maxLen; omega) (by omega) (Nat.zero_le _) _ rfl ?_
    intro g cap u3 hown3 hg3 hloc1 hglt
    have hloc : (Value.slice (some ⟨g, 0, none⟩) (D'.writes.length + 1) cap).ownBlock = D'.loose.ownBlock ∨ (Value.slice (some ⟨g, 0, none⟩) (D'.writes.length + 1) cap).ownBlock = some (w3.heap.size + 1 + 1) := by
      rcases hloc1 with e | e
      · exact .inl (e ▸ rfl)
      · exact .inr (by rw [e]; simp [Value.ownBlock, World.drew])
    clear hloc1 hglt
    have k3 := kA.grown hg3 (fun k _ e => e)
    refine hK _ _ ((HS.out _).2 k3) ?_
    clear hK K
    refine wpH_nil ?_
    simp only [List.drop_succ_cons, List.drop_zero]
    have hc3 := k3.at HA4.out.cells (fun e => HA4.out.apart.2.2.2.1 e)
    have f2 := dCellsF hc3 2
    obtain ⟨c0, c1, c2, c3, c4, c5, c6⟩ := dCells hc3
    have k4 : Keep (fun k => D'.loose.ownBlock = some k ∨ k = bd) (w3.alloc (Obj.cells #[Value.int IntKind.i64 i, Value.string t] 169)) (u3.setCell ⟨bd, 2, none⟩ (Value.slice (some ⟨g, 0, none⟩) (D'.writes.length + 1) cap)).drew := ((k3.mono (fun _ _ e => .inl e)).setCell (p := ⟨bd, 2, none⟩) (fun _ => .inr rfl) (Value.slice (some ⟨g, 0, none⟩) (D'.writes.length + 1) cap)).drew
    have hc4 : ∀ nn, (u3.setCell ⟨bd, 2, none⟩ (Value.slice (some ⟨g, 0, none⟩) (D'.writes.length + 1) cap)).drew.heap[bd]? = some (.cells (D'.put i t (Value.slice (some ⟨g, 0, none⟩) (D'.writes.length + 1) cap) nn).cells 97 (0, 0)) := fun nn => by
      simp [World.drew, World.setCell, Array.getElem?_modify, hc3, DiskS.cells, DiskS.put]
    have hbd : bd ≠ w3.heap.size := fun e => by have h1 := HA3.out.foot_lt (k := bd) (.inl rfl); omega
    have hm4 := HA4.out.now.keep k4 (fun e => e.elim (fun e => HA4.out.apart.2.2.2.2.2 e) (fun e => HA4.out.apart.2.1 e.symm))
    obtain ⟨u5, hr5, hm5, hk5, hz5, hd5⟩ := hm4.run_update Tryz.underlying3 Tryz.underlying94 hwf (.string t)
    have hown4 : (u3.setCell ⟨bd, 2, none⟩ (Value.slice (some ⟨g, 0, none⟩) (D'.writes.length + 1) cap)).drew.ownsRow 0 169 2 (Value.slice (some ⟨g, 0, none⟩) (D'.writes.length + 1) cap) (D'.writes.length + 1) (writeCells D'.writes ++ [.int .i64 i, .string t]) := by
      have kk : Keep (· = bd) u3 (u3.setCell ⟨bd, 2, none⟩ (Value.slice (some ⟨g, 0, none⟩) (D'.writes.length + 1) cap)).drew := ((Keep.refl (· = bd) u3).setCell (p := ⟨bd, 2, none⟩) (fun _ => rfl) (Value.slice (some ⟨g, 0, none⟩) (D'.writes.length + 1) cap)).drew
      refine kk.ownsRow hown3 (fun k hk e => ?_)
      rcases hloc with e2 | e2
      · rw [e2, e] at hk; exact HA4.out.apart.2.2.2.1 hk
      · rw [e2] at hk
        have h1 := HA4.out.foot_lt (k := bd) (.inl rfl)
        have h2 : w3.heap.size + 1 + 1 = k := Option.some.inj hk
        rw [World.size_alloc] at h1
        omega
    have hloc2 : (Value.slice (some ⟨g, 0, none⟩) (D'.writes.length + 1) cap).ownBlock = D'.loose.ownBlock ∨ ∃ k, (Value.slice (some ⟨g, 0, none⟩) (D'.writes.length + 1) cap).ownBlock = some k ∧ (w3.alloc (Obj.cells #[Value.int IntKind.i64 i, Value.string t] 169)).heap.size ≤ k := by
      rcases hloc with e | e
      · exact .inl e
      · exact .inr ⟨_, e, by rw [World.size_alloc]; omega⟩
    have hbox := HBx.out _ _ k4 (fun e => e.elim (fun e => HLw.out e) (fun e => hbd e.symm))
    have hfin := put_disk HA4.out HFt.out k4 hown4 hloc2 (hc4 _) hm5 hk5
    have HFin := Lib.hid hfin
    have hfd : ∀ nn, DkOf (D'.put i t (Value.slice (some ⟨g, 0, none⟩) (D'.writes.length + 1) cap) nn) { d.step with writes := d.writes ++ [(i, t)] } := fun nn => by
      have hx := HDd.out
      have hw : D'.writes = d.writes := by rw [hx.writes, HSs.out.2.2.1]
      refine ⟨hx.size, hx.firm, fun j => ?_, by show D'.writes ++ _ = _; rw [hw], hx.fuel, hx.bound, hx.down, fun x hm => ?_⟩
      · show (if j = i then some t else D'.now j) = lastOf (d.writes ++ [(i, t)]) j
        rw [lastOf_snoc, hx.now, HSs.out.2.2.1]
        by_cases hj : j = i
        · subst hj; simp
        · rw [if_neg hj, if_neg (fun e => hj e.symm)]
      · show 0 ≤ x.1 ∧ x.1 < d.step.size ∧ x.2.size = 512
        have hm2 : x ∈ d.writes ++ [(i, t)] := hm
        rcases List.mem_append.1 hm2 with hm3 | hm3
        · exact hx.ins x (by rw [HSs.out.2.2.1]; exact hm3)
        · obtain rfl : x = (i, t) := by simpa using hm3
          exact ⟨HIn.out.1, by rw [HSs.out.1]; exact HIn.out.2, HFt.out⟩
    have HFd := Lib.hid hfd
    have hby : ∀ u, Keep (fun _ => False) (u3.setCell ⟨bd, 2, none⟩ (Value.slice (some ⟨g, 0, none⟩) (D'.writes.length + 1) cap)) u → u.cell? ⟨w3.heap.size, 1, none⟩ = some (.string t) := fun u hk => by
      have hk2 : Keep (fun k => D'.loose.ownBlock = some k ∨ k = bd) (w3.alloc (Obj.cells #[Value.int IntKind.i64 i, Value.string t] 169)) u := k4.trans (S' := fun _ => False) ⟨hk.os, hk.tape, hk.output, hk.size, hk.block⟩ (fun _ _ e => e.elim)
      exact (HBx.out _ _ hk2 (fun e => e.elim (fun e => HLw.out e) (fun e => hbd e.symm))).2
    have HBy := Lib.hid hby
    clear hfd hby
    have HC4 := Lib.hid hc4
    have HBox := Lib.hid hbox
    clear k3 hc3 k4 hc4 hm4 hm5 hk5 hz5 hd5 hown3 hown4 hloc hloc2 hbox hfin hg3 kA S HS
    go_wp2
    obtain ⟨S, hS⟩ : ∃ S : World → Prop, ∀ u, S u ↔ Keep (fun _ => False) ((u3.setCell ⟨bd, 2, none⟩ (Value.slice (some ⟨g, 0, none⟩) (D'.writes.length + 1) cap))) u := ⟨fun u => Keep (fun _ => False) ((u3.setCell ⟨bd, 2, none⟩ (Value.slice (some ⟨g, 0, none⟩) (D'.writes.length + 1) cap))) u, fun _ => Iff.rfl⟩
    have HS := Lib.hid hS
    clear hS
    refine wp_region_ord 7 [(0, true), (1, true), (2, true), (3, true), (4, true), (5, true), (6, true)] S (by kernel_rfl) (by kernel_rfl) ((HS.out _).2 (Keep.refl _ _).drew) ?_
    iterate 7
      first
        | (refine wpH_passed rfl (by rfl) (fun K hK => ?_); go_simp; refine hK _ ?_; clear hK K)
        | (first
             | refine wpH_read rfl rfl (fun K hK => ?_)
             | refine wpH_readw rfl (by rfl) (fun K hK => ?_)
           apply Exists.intro
           refine ⟨fun u hu => ?_, ?_⟩
           · have hu := (HS.out u).1 hu
             have e3 : u.cell? ⟨bd, 3, none⟩ = some (.map (some D'.bn)) := (dCells (hu.at (HC4.out 0) (fun e => e))).2.2.2.1
             have b1 := (Lib.hid (HBy.out _ hu)).out
             clear hu
             go_simp
             exact ⟨rfl, rfl⟩
           go_simp
           refine hK _ ?_
           clear hK K)
    refine wpH_nil ?_
    simp only [List.drop_succ_cons, List.drop_zero]
    clear S HS
    go_wp2
    go_ret
    refine ⟨rfl, _, (HSt.out.trans (DiskStep.still HSt.out.at_ (HB3.out.alloc HB3.out.size _))).trans HFin.out, ?_⟩
    have hq := HFd.out (if (strs D'.now i).isSome = true then D'.nn else D'.nn + 1)
    rw [HSd.out] at hq
    exact hq
/-- a map's keys are not more than the numbers they are of -/
theorem IMap.count_le {w : World} {b n N : Nat} {g : Int → Option Value} (h : IMap w b g n) (hin : ∀ i v, g i = some v → 0 ≤ i ∧ i < N) : n ≤ N := by
  obtain ⟨es, clock, hb, hs, hnn, hkeys, hg⟩ := h
  have hkey : ∀ x ∈ es.toList, ∃ i : Nat, x.key = .int .i64 i ∧ i < N := fun x hx => by
    obtain ⟨i, h1, _⟩ := hkeys x hx
    obtain ⟨h2, h3⟩ := hin i x.val ((hg i _).2 ⟨x, hx, h1, rfl⟩)
    exact ⟨i.toNat, by rw [h1, Int.toNat_of_nonneg h2], by omega⟩
  let kf : MapEntry → Nat := fun x => match x.key with | .int _ z => z.toNat | _ => 0
  have hnd : (es.toList.map kf).Nodup := by
    rw [List.Nodup, List.pairwise_map]
    refine ((stamped_iff _ _).1 hs).2.2.imp_of_mem (fun {x y} hx hy hne => ?_)
    obtain ⟨i, h1, _⟩ := hkey x hx
    obtain ⟨j, h2, _⟩ := hkey y hy
    intro e
    apply hne
    have e2 : i = j := by simpa [kf, h1, h2] using e
    rw [h1, h2, e2]
  have hlt : ∀ p ∈ es.toList.map kf, p < N := fun p hp => by
    obtain ⟨x, hx, rfl⟩ := List.mem_map.1 hp
    obtain ⟨i, h1, h2⟩ := hkey x hx
    simpa [kf, h1] using h2
  have h1 := cnt_mem (es.toList.map kf) (fun _ => false) N hnd hlt (fun _ _ => rfl)
  have h2 := cnt_le (fun q => decide (q ∈ es.toList.map kf) || false) N
  rw [cnt_none, Nat.zero_add, List.length_map] at h1
  have h3 : es.toList.length = n := by simpa using hnn
  omega
theorem lastOf_mem {p : Puts} {i : Int} {t : ByteArray} (h : lastOf p i = some t) : (i, t) ∈ p := by
  revert h
  refine snoc_ind (p := fun p => lastOf p i = some t → (i, t) ∈ p) p (fun h => by simp [lastOf] at h) (fun p y ih h => ?_)
  rw [lastOf_snoc] at h
  by_cases hy : y.1 = i
  · rw [if_pos hy] at h
    cases h
    rw [← hy]
    simp
  · rw [if_neg hy] at h
    exact List.mem_append_left _ (ih h)
/-- the firm map turned -/
theorem flush_disk {w u : World} {bd : Nat} {D : DiskS} {nf : Nat} (h : DiskAt w bd D) (hm : IMap u D.bf (strs (fun i => (D.now i).or (D.firm i))) nf) (hk : Keep (· = D.bf) w u) :
    DiskStep bd w D u { D with firm := fun i => (D.now i).or (D.firm i), nf := nf } := by
  obtain ⟨a1, a2, a3, a4, a5, a6⟩ := h.apart
  refine ⟨⟨h.size, hk.at h.cells a1, hm, h.now.keep hk (fun e => a3 e.symm), hk.ownsRow h.loose (fun k hk2 e => a5 (e ▸ hk2)), ⟨a1, a2, a3, a4, a5, a6⟩, fun i s hs => ?_, h.s512.2⟩, rfl, rfl, rfl, hk.mono (fun k _ e => .inr (.inl e)), fun k hk => .inl hk⟩
  have hs2 : (D.now i).or (D.firm i) = some s := hs
  cases hn : D.now i with
  | none => rw [hn] at hs2; exact h.s512.1 i s hs2
  | some t => rw [hn] at hs2; exact (Option.some.inj hs2) ▸ h.s512.2 i t hn
theorem flush_of {D : DiskS} {d : Dk} {nf : Nat} (hd : DkOf D d) : DkOf ({ D with firm := fun i => (D.now i).or (D.firm i), nf := nf } : DiskS).settled { d with firm := d.read, writes := [] } := by
  refine ⟨hd.size, fun i => ?_, fun i => by simp [DiskS.settled, lastOf], rfl, hd.fuel, hd.bound, hd.down, fun x hx => by cases hx⟩
  show ((D.now i).or (D.firm i)).getD (zeros 512) = d.read i
  rw [← hd.read i]
  unfold DiskS.read
  cases D.now i <;> rfl
set_option maxHeartbeats 2000000 in
theorem diskFlush_any {w : World} {bd : Nat} {D : DiskS} {d : Dk} (h : DiskAt w bd D) (hd : DkOf D d) (hup : d.down = false) :
    Calls Tryz.prog 113 #[.pointer (some ⟨bd, 0, none⟩)] w fun e w' => e = .returned (.int .i64 (if (d.op .flush).down then 3 else 0)) ∧ ∃ D', DiskStep bd w D w' D' ∧ DkOf D' (d.op .flush) := by
  have H1 := Lib.hid (diskDown_any h.cells)
  rw [hd.down, hup] at H1
  have H2 := Lib.hid (diskStep_any h hd)
  have hop := d.op_f
  rw [if_neg (by rw [hup]; decide)] at hop
  rw [hop]
  have hsd := d.step_down
  rw [hup] at hsd
  cases hcan : d.can with
  | false =>
    rw [hcan] at hsd H2
    have hsd2 : d.step.down = true := by simpa using hsd
    simp only [Bool.false_eq_true, if_false, hsd2, if_true]
    clear h hd hup hop hsd hsd2 hcan
    go_enter Tryz.func113, Tryz.ntmps113
    go_wp2_with (first
      | (go_at_call 47; refine (H1.out).mono ?_; rintro e w1 ⟨rfl, rfl⟩)
      | (go_at_call 123; refine (H2.out).mono ?_; rintro e w2 ⟨rfl, D', hst, hdd, _⟩))
    go_ret
    exact ⟨rfl, D', hst, hdd⟩
  | true =>
    rw [hcan] at hsd H2
    have hsd2 : d.step.down = false := by simpa using hsd
    have HSd := Lib.hid hsd2
    simp only [if_true, hsd2, Bool.false_eq_true, if_false]
    have HSs := Lib.hid d.step_same
    have hrd : d.step.read = d.read := by unfold Dk.read; rw [HSs.out.2.2.1, HSs.out.2.1]
    have HRd := Lib.hid hrd
    clear h hd hup hop hsd hsd2 hcan hrd
    go_enter Tryz.func113, Tryz.ntmps113
    go_wp2_with (first
      | (go_at_call 47; refine (H1.out).mono ?_; rintro e w1 ⟨rfl, rfl⟩)
      | (go_at_call 123; refine (H2.out).mono ?_; rintro e w2 ⟨rfl, D', hst, hdd, _⟩
         have HSt := Lib.hid hst
         have HDd := Lib.hid hdd
         clear hst hdd))
    have hA := HSt.out.at_
    have hnb : D'.nn ≤ maxLen := by
      have h1 := hA.now.count_le (N := D'.size) (fun i v hv => by
        unfold strs at hv
        rw [HDd.out.now] at hv
        cases hl : lastOf d.step.writes i with
        | none => rw [hl] at hv; cases hv
        | some t =>
          have h2 := HDd.out.ins _ (lastOf_mem hl)
          have h3 := HDd.out.size
          exact ⟨h2.1, by rw [h3]; exact h2.2.1⟩)
      have h4 := hA.size
      unfold maxLen
      omega
    have hdr : Keep (fun _ => False) w2 w2.drew := (Keep.refl _ _).drew
    have HCp := Lib.hid (copy_any (hA.firm.keep hdr (fun e => e)) (hA.now.keep hdr (fun e => e)) hA.apart.2.2.1 hnb)
    have HA := Lib.hid hA
    clear hA hnb hdr
    obtain ⟨S, hS⟩ : ∃ S : World → Prop, ∀ u, S u ↔ Keep (fun _ => False) (w2) u := ⟨fun u => Keep (fun _ => False) (w2) u, fun _ => Iff.rfl⟩
    have HS := Lib.hid hS
    clear hS
    refine wp_region_ord 8 [(0, true), (1, true), (2, true), (3, true), (4, true), (5, true), (6, true), (7, true)] S (by kernel_rfl) (by kernel_rfl) ((HS.out _).2 (Keep.refl _ _).drew) ?_
    iterate 8
      first
        | (refine wpH_passed rfl (by rfl) (fun K hK => ?_); go_simp; refine hK _ ?_; clear hK K)
        | (first
             | refine wpH_read rfl rfl (fun K hK => ?_)
             | refine wpH_readw rfl (by rfl) (fun K hK => ?_)
           apply Exists.intro
           refine ⟨fun u hu => ?_, ?_⟩
           · have hu := (HS.out u).1 hu
             obtain ⟨c0, c1, c2, c3, c4, c5, c6⟩ := dCells (hu.at HA.out.cells (fun e => e))
             clear hu
             go_simp
             exact ⟨rfl, rfl⟩
           go_simp
           refine hK _ ?_
           clear hK K)
    refine wpH_nil ?_
    simp only [List.drop_succ_cons, List.drop_zero]
    clear S HS
    go_wp2_with (first
      | (go_at_call 95; refine (HCp.out).mono ?_; rintro e w3 ⟨rfl, nf, hm, hk⟩
         have HF := Lib.hid (flush_disk HA.out hm ⟨hk.os, hk.tape, hk.output, hk.size, hk.block⟩)
         have HSe := Lib.hid (diskSettle_any HF.out.at_)
         clear hm hk)
      | (go_at_call 124; refine (HSe.out).mono ?_; rintro e w4 ⟨rfl, hst4⟩
         have H4 := Lib.hid hst4
         clear hst4))
    go_ret
    refine ⟨rfl, _, (HSt.out.trans HF.out).trans H4.out, ?_⟩
    have := flush_of (nf := nf) HDd.out
    rw [HRd.out, HSd.out] at this
    exact this
end Go.Proofs.YtalgheocjnajlaaGreatDoor
