/-
  slices.Grow of nil, slices.Concat: lists of puts.
-/
import Derived.Test.YtalgheocjnajlaaGreatDoorDk3
import Derived.Lib.AppendZerosOnto
import Derived.Laws.AppendOwnNone
namespace Go.Proofs.YtalgheocjnajlaaGreatDoor
open Go.RowKit Go.MapKept
attribute [local go_sem] gives givesH
set_option maxRecDepth 100000

set_option maxHeartbeats 1000000 in
theorem growNil_any (n : Nat) (hn : n ≤ 1000000) (w : World) :
    Calls Tryz.prog 119 #[.slice none 0 0, .int .i64 n] w fun e w' => ∃ v, e = .returned v ∧ w'.ownsRow w.heap.size 60 2 v 0 [] ∧ Below w.heap.size w w' := by
  by_cases h0 : n = 0
  · subst h0
    go_enter Tryz.func119, Tryz.ntmps119
    go_wp2
    go_ret
    exact ⟨_, rfl, World.ownsRow_nil _ _ _ _, Below.refl _ _⟩
  · obtain ⟨j0, hj0, hy0, hy1, hy2⟩ := info_parts infoPut
    have hold : (Builtin.firstCells j0.size 0 (.slice none 0 0)).run Tryz.prog w.drew = .ok (#[] : Array Value) w.drew := run_firstCells_none w.drew j0.size 0 0 0
    have hrz : ∀ ty, (Builtin.append_ #[36, 3] ty #[.slice none 0 0, .int .i64 (n : Int)]).run Tryz.prog w =
        .ok (.slice (some ⟨w.heap.size, 0, none⟩) n (grownCap w n 0 60)) (w.drew.alloc (.cells ((#[] : Array Value) ++ Builtin.zeroCells (Value.agg #[.int .i64 0, .string ⟨#[]⟩]).cells n ++ Builtin.zeroCells (Value.agg #[.int .i64 0, .string ⟨#[]⟩]).cells (grownCap w n 0 60 - n)) 60)) := fun ty => by
      have h := Lib.run_append_grow_zeros w 36 3 ty 60 j0 _ .i64 .i64 Tryz.underlying36 Tryz.underlying3 hj0 hy0 none 0 0 [] hold n (by omega) (by rw [hy1]; decide) (by omega) (by omega)
        (by rw [hy2]; omega) (growslice_fits (by omega) (by rw [hy2]; omega))
      simpa using h
    have hGn : n ≤ grownCap w n 0 60 := by have := grownCap_ge w n 0 60; omega
    have hGm : grownCap w n 0 60 ≤ maxLen := grownCap_le_maxLen w n 0 60 (by unfold maxLen; omega)
    generalize grownCap w n 0 60 = G at *
    have hG63 : G ≤ 9223372036854775807 := by unfold maxLen at hGm; omega
    have hn1 : (0 : Int) < (n : Int) := by omega
    have hn2 : 0 < n := by omega
    have d1 : decide (0 < n) = true := by simpa using hn2
    have HGm := Lib.hid hGm
    clear hold hj0 hy0 hy1 hy2 hGm
    go_enter Tryz.func119, Tryz.ntmps119
    go_wp2_with (at_builtin; refine Lib.wpList_append_run _ rfl _ _ _ _ rfl _ _ rfl rfl _ _ (hrz _) ?_)
    go_ret
    refine ⟨_, rfl, ⟨rfl, .inr ⟨w.heap.size, G, _, rfl, Nat.le_refl _, heap_alloc_new w.drew _, Nat.zero_le _, HGm.out, ?_, rfl⟩⟩, (Below.refl _ w).drew.alloc (Nat.le_refl _) _⟩
    simp [Builtin.zeroCells]
    omega
/-! ## lists of puts that came in -/
def PutsAt (w : World) (B : Nat) (v : Value) (p : Puts) : Prop :=
  (v = .slice none 0 0 ∧ p = []) ∨ ∃ ad b off cap, v = .slice (some ad) p.length cap ∧ (0 < p.length → ad = ⟨b, off, none⟩ ∧ b < B) ∧ ∀ (k : Nat) x, p[k]? = some x → w.cell? ⟨b, off + k * 2, none⟩ = some (.int .i64 x.1) ∧ w.cell? ⟨b, off + k * 2 + 1, none⟩ = some (.string x.2)
def ListsAt (w : World) (B : Nat) (v : Value) (ps : List Puts) : Prop :=
  (v = .slice none 0 0 ∧ ps = []) ∨ ∃ ad b off cap, ∃ vs : Nat → Value, v = .slice (some ad) ps.length cap ∧ (0 < ps.length → ad = ⟨b, off, none⟩ ∧ b < B) ∧ ∀ (k : Nat) p, ps[k]? = some p → w.cell? ⟨b, off + k, none⟩ = some (vs k) ∧ PutsAt w B (vs k) p
theorem pos_of_get {α : Type} {l : List α} {k : Nat} {x : α} (h : l[k]? = some x) : 0 < l.length := by
  have := (List.getElem?_eq_some_iff.1 h).1
  omega
theorem PutsAt.still {w u : World} {B : Nat} {v : Value} {p : Puts} (h : PutsAt w B v p) (hb : Below B w u) : PutsAt u B v p :=
  h.imp id (fun ⟨ad, b, off, cap, h1, h2, h3⟩ => ⟨ad, b, off, cap, h1, h2, fun k x hx => ⟨by rw [hb.cell (p := ⟨b, off + k * 2, none⟩) (h2 (pos_of_get hx)).2]; exact (h3 k x hx).1, by rw [hb.cell (p := ⟨b, off + k * 2 + 1, none⟩) (h2 (pos_of_get hx)).2]; exact (h3 k x hx).2⟩⟩)
theorem ListsAt.still {w u : World} {B : Nat} {v : Value} {ps : List Puts} (h : ListsAt w B v ps) (hb : Below B w u) : ListsAt u B v ps :=
  h.imp id (fun ⟨ad, b, off, cap, vs, h1, h2, h3⟩ => ⟨ad, b, off, cap, vs, h1, h2, fun k p hp => ⟨by rw [hb.cell (p := ⟨b, off + k, none⟩) (h2 (pos_of_get hp)).2]; exact (h3 k p hp).1, (h3 k p hp).2.still hb⟩⟩)
theorem writeCells_append (p q : Puts) : writeCells (p ++ q) = writeCells p ++ writeCells q := List.flatMap_append
theorem writeCells_one (p : Puts) : ∀ u ∈ writeCells p, u.oneCell' = true := fun u hu => by
  unfold writeCells at hu
  obtain ⟨x, _, hx⟩ := List.mem_flatMap.1 hu
  simp at hx
  rcases hx with rfl | rfl <;> rfl
theorem writeCells_inv (p : Puts) (j : Nat) (u : Value) (h : (writeCells p)[j]? = some u) : ∃ (k : Nat) (x : Int × ByteArray), p[k]? = some x ∧ ((j = k * 2 ∧ u = .int .i64 x.1) ∨ (j = k * 2 + 1 ∧ u = .string x.2)) := by
  have hj := (List.getElem?_eq_some_iff.1 h).1
  rw [writeCells_length] at hj
  obtain ⟨x, hx⟩ : ∃ x, p[j / 2]? = some x := ⟨_, List.getElem?_eq_getElem (by omega)⟩
  obtain ⟨h1, h2⟩ := writeCells_row p (j / 2) x hx
  refine ⟨j / 2, x, hx, ?_⟩
  rcases Nat.mod_two_eq_zero_or_one j with hm | hm
  · have e : j / 2 * 2 = j := by omega
    rw [e, h] at h1
    exact .inl ⟨e.symm, Option.some.inj h1⟩
  · have e : j / 2 * 2 + 1 = j := by omega
    rw [e, h] at h2
    exact .inr ⟨e.symm, Option.some.inj h2⟩
theorem PutsAt.news {w : World} {B : Nat} {ad : Addr} {b off : Nat} {p : Puts} (ha : 0 < p.length → ad = ⟨b, off, none⟩ ∧ b < B) (h : ∀ (k : Nat) x, p[k]? = some x → w.cell? ⟨b, off + k * 2, none⟩ = some (.int .i64 x.1) ∧ w.cell? ⟨b, off + k * 2 + 1, none⟩ = some (.string x.2)) :
    ∀ j u, (writeCells p)[j]? = some u → w.cell? (ad.add j) = some u := fun j u hu => by
  obtain ⟨k, x, hx, h1⟩ := writeCells_inv p j u hu
  rw [(ha (pos_of_get hx)).1]
  have e : (⟨b, off, none⟩ : Addr).add j = ⟨b, off + j, none⟩ := by unfold Addr.add; split <;> simp_all
  rw [e]
  rcases h1 with ⟨rfl, rfl⟩ | ⟨rfl, rfl⟩
  · exact (h k x hx).1
  · exact (h k x hx).2
theorem take_flat (ps : List Puts) (k : Nat) (p : Puts) (h : ps[k]? = some p) : (ps.take (k + 1)).flatten = (ps.take k).flatten ++ p := by
  rw [List.take_add_one, h]; simp
theorem flat_take_le (ps : List Puts) (k : Nat) : (ps.take k).flatten.length ≤ ps.flatten.length := by
  have h := congrArg (fun l => (List.flatten l).length) (List.take_append_drop k ps)
  simp only [List.flatten_append, List.length_append] at h
  omega
set_option maxHeartbeats 2000000 in
theorem concat_any {w : World} {v : Value} {ps : List Puts} (h : ListsAt w w.heap.size v ps) (hn : ps.flatten.length ≤ 1000000) (hl : ps.length ≤ 1000000) :
    Calls Tryz.prog 107 #[v] w fun e w' => ∃ v', e = .returned v' ∧ w'.ownsRow w.heap.size 60 2 v' ps.flatten.length (writeCells ps.flatten) ∧ Below w.heap.size w w' := by
  obtain ⟨n, hnn⟩ : ∃ n, ps.length = n := ⟨_, rfl⟩
  obtain ⟨a, cap, b, off, vs, rfl, ha, hc⟩ : ∃ a cap b off, ∃ vs : Nat → Value, v = .slice a n cap ∧ (0 < n → a = some ⟨b, off, none⟩ ∧ b < w.heap.size) ∧ ∀ (k : Nat) p, ps[k]? = some p → w.cell? ⟨b, off + k, none⟩ = some (vs k) ∧ PutsAt w w.heap.size (vs k) p := by
    rcases h with ⟨rfl, rfl⟩ | ⟨ad, b, off, cap, vs, rfl, hb, hc⟩
    · exact ⟨none, 0, 0, 0, fun _ => undef, by rw [← hnn]; rfl, fun h0 => by rw [← hnn] at h0; exact absurd h0 (by simp), fun k p hp => by simp at hp⟩
    · exact ⟨some ad, cap, b, off, vs, by rw [hnn], fun h0 => ⟨by rw [(hb (hnn ▸ h0)).1], (hb (hnn ▸ h0)).2⟩, hc⟩
  obtain ⟨j0, hj0, hy0, hy1, hy2⟩ := info_parts infoPut
  have HJ := Lib.hid hj0
  have Hy0 := Lib.hid hy0
  have Hy1 := Lib.hid hy1
  have Hy2 := Lib.hid hy2
  have HA := Lib.hid ha
  have HC := Lib.hid hc
  have HN := Lib.hid hnn
  have HLe := Lib.hid (fun k => Nat.le_trans (flat_take_le ps k) hn)
  have hn2 : n ≤ 1000000 := by omega
  have HG := Lib.hid (fun u => growNil_any ps.flatten.length hn u)
  have hfull : ps.take n = ps := List.take_of_length_le (by omega)
  have HFull := Lib.hid hfull
  obtain ⟨N, hN⟩ : ∃ N, ps.flatten.length = N := ⟨_, rfl⟩
  have HFl : Hid ((ps.take n).flatten.length = N) := Lib.hid (by rw [hfull]; exact hN)
  have HNn := Lib.hid hN
  rw [hN] at HG
  have hN1 : N ≤ 1000000 := by omega
  clear ha hc hnn hn hj0 hy0 hy1 hy2 hfull hl h hN
  go_enter Tryz.func107, Tryz.ntmps107
  go_wp2
  go_loopw [3, 11] (fun z i wr => ∃ k : Nat, k ≤ n ∧ i = .int .i64 k ∧ z = .int .i64 ((ps.take k).flatten.length : Nat) ∧ w = wr) (fun _ i _ => n - (intOf i).toNat)
  case atStart => exact ⟨0, by omega, rfl, by simp, rfl⟩
  case round =>
    obtain ⟨k, hk, rfl, rfl, rfl⟩ := hrel
    by_cases hlt : k < n
    · have g1 : decide ((k : Int) < (n : Int)) = true := by simp; omega
      have g1' : decide (k < n) = true := by simpa using hlt
      obtain ⟨p, hp⟩ : ∃ p, ps[k]? = some p := ⟨_, List.getElem?_eq_getElem (by rw [HN.out]; exact hlt)⟩
      obtain ⟨rfl, hbw⟩ := HA.out (by omega)
      obtain ⟨q0, hpa⟩ := HC.out k p hp
      have hle1 := HLe.out k
      have hle2 := HLe.out (k + 1)
      have hadd : (ps.take (k + 1)).flatten.length = (ps.take k).flatten.length + p.length := by rw [take_flat ps k p hp, List.length_append]
      obtain ⟨a2, c2, h2⟩ : ∃ a2 c2, vs k = .slice a2 p.length c2 := by
        rcases hpa with ⟨h1, rfl⟩ | ⟨ad2, b2, o2, c2, h1, _⟩
        · exact ⟨_, _, h1⟩
        · exact ⟨_, _, h1⟩
      rw [h2] at q0
      generalize (ps.take k).flatten.length = A1 at *
      generalize hA2 : (ps.take (k + 1)).flatten.length = A2 at *
      have HA2 := Lib.hid hA2
      have e1 : (A1 : Int) + (p.length : Int) = (A2 : Int) := by omega
      have e2 : decide ((A2 : Int) < 0) = false := by simp
      have hA0 : (0 : Int) ≤ (A2 : Int) := by omega
      have hA1 : (A2 : Int) ≤ 1000000 := by omega
      have hk0 : (0 : Int) ≤ (k : Int) := by omega
      have hk1 : (k : Int) < (n : Int) := by omega
      clear hp hpa hadd hA2 h2
      go_wp2
      go_roundw
      case rel => exact ⟨k + 1, by omega, rfl, by rw [HA2.out], by first | trivial | rfl⟩
      case measure => simp [intOf]; omega
    · have g1 : decide ((k : Int) < (n : Int)) = false := by simp; omega
      have g1' : decide (k < n) = false := by simpa using hlt
      obtain rfl : k = n := by omega
      rw [HFl.out]
      go_wp2_with (go_at_call 119; refine (HG.out _).mono ?_; rintro e w1 ⟨v1, rfl, hrow, hb1⟩
                   have HR1 := Lib.hid hrow
                   have HB1 := Lib.hid hb1
                   clear hrow hb1)
      go_loopw [6, 27] (fun z i wr2 => ∃ j : Nat, j ≤ k ∧ i = .int .i64 j ∧ wr2.ownsRow w.heap.size 60 2 z (ps.take j).flatten.length (writeCells (ps.take j).flatten) ∧ Below w.heap.size w wr2) (fun _ i _ => k - (intOf i).toNat)
      case atStart => exact ⟨0, by omega, rfl, by rw [List.take_zero]; exact HR1.out, HB1.out⟩
      case round =>
        obtain ⟨j, hj, rfl, hrow, hb⟩ := hrel
        have HR := Lib.hid hrow
        have HB := Lib.hid hb
        clear hrow hb
        by_cases hlt2 : j < k
        · have g2 : decide ((j : Int) < (k : Int)) = true := by simp; omega
          have g2' : decide (j < k) = true := by simpa using hlt2
          obtain ⟨p, hp⟩ : ∃ p, ps[j]? = some p := ⟨_, List.getElem?_eq_getElem (by rw [HN.out]; exact hlt2)⟩
          obtain ⟨rfl, hbw⟩ := HA.out (by omega)
          obtain ⟨q0, hpa⟩ := HC.out j p hp
          have hpa2 := hpa.still HB.out
          rw [← HB.out.cell (p := ⟨b, off + j, none⟩) hbw] at q0
          have hle2 := HLe.out (j + 1)
          have htf := take_flat ps j p hp
          have hj0 : (0 : Int) ≤ (j : Int) := by omega
          have hj1 : (j : Int) < (k : Int) := by omega
          have hlen : (ps.take (j + 1)).flatten.length = (ps.take j).flatten.length + p.length := by rw [htf, List.length_append]
          have HLen := Lib.hid hlen
          have hwc : writeCells (ps.take (j + 1)).flatten = writeCells (ps.take j).flatten ++ writeCells p := by rw [htf, writeCells_append]
          have HWc := Lib.hid hwc
          rcases hpa2 with ⟨h1, rfl⟩ | ⟨ad2, b2, o2, c2, h1, hb2, hcc⟩
          · rw [h1] at q0
            clear hp hpa htf hlen hwc h1
            go_wp2_with (at_builtin; refine wpList_append_own_none rfl _ _ 36 rfl w.heap.size 60 j0 2 Tryz.underlying36 HJ.out _ _ _ rfl HR.out rfl ?_)
            go_roundw
            case rel => exact ⟨j + 1, by omega, rfl, by rw [HLen.out, HWc.out, List.length_nil, Nat.add_zero, show writeCells [] = [] from rfl, List.append_nil]; exact HR.out, HB.out⟩
            case measure => simp [intOf]; omega
          · rw [h1] at q0
            have HCc := Lib.hid (PutsAt.news hb2 hcc)
            have HPl := Lib.hid (writeCells_length p)
            clear hp hpa htf hlen hwc h1 hcc hb2
            go_wp2_with (at_builtin
                         refine wpList_append_own_at _ (by rfl) _ _ 36 (by rfl) w.heap.size 60 j0 _ 2 24 Tryz.underlying36 HJ.out Hy0.out Hy1.out Hy2.out (by rfl) (by decide) _ _ _ (by rfl) HR.out ad2 p.length c2 (writeCells p) (by rfl) HPl.out HCc.out (writeCells_one p) (by have := HLen.out; unfold maxLen; omega) (by have := HLen.out; omega) HB.out.size ?_
                         intro v' w8 hown8 hg8 hnil hloc
                         rw [← HWc.out, ← HLen.out] at hown8
                         have HOw := Lib.hid hown8
                         have HB8 := Lib.hid (((Keep.ofBelow (S := fun k => w.heap.size ≤ k) HB.out).grown hg8 (fun j hj e => (HR.out.lt j e).1)).below (Nat.le_refl _) (fun i hi e => by omega))
                         clear hown8 hg8 hnil hloc)
            go_roundw
            case rel => exact ⟨j + 1, by omega, rfl, HOw.out, HB8.out⟩
            case measure => simp [intOf]; omega
        · have g2 : decide ((j : Int) < (k : Int)) = false := by simp; omega
          have g2' : decide (j < k) = false := by simpa using hlt2
          obtain rfl : j = k := by omega
          have hrow := HR.out
          rw [HFl.out, HFull.out] at hrow
          have HRf := Lib.hid hrow
          clear hrow
          go_wp2
          go_ret
          exact ⟨_, rfl, by rw [HNn.out]; exact HRf.out, HB.out⟩
end Go.Proofs.YtalgheocjnajlaaGreatDoor
