/-
  Texts of this claim, one behind the other: Split PutP PutL PutI PutA Guard Tree TPut BlP PkP Bl1 Bl2 StPV PkRV PkV.
-/
import Derived.Test.YtaokjeokpifjgaaGreatDoorM2
import Derived.Defers
import Derived.Recover
import Derived.Shelf.Strings.SlTrimAscii
namespace Go.Proofs.YtaokjeokpifjgaaGreatDoor
open Go.RowKit Go.MapKept
attribute [local go_sem] gives givesH
set_option maxRecDepth 100000

structure NdRd (w : World) (b : Nat) (x : Nd) (O : Nat → Prop) : Prop where
  lt : b < w.heap.size
  ob : O b
  node : ∃ kv vv cv, w.cell? ⟨b, 0, none⟩ = some (.bool x.leaf) ∧ w.cell? ⟨b, 1, none⟩ = some kv ∧ w.cell? ⟨b, 2, none⟩ = some vv ∧ w.cell? ⟨b, 3, none⟩ = some cv ∧ RowAt w kv (strV x.keys) ∧ RowAt w vv (strV x.vals) ∧ RowAt w cv (intV x.kids) ∧
    (∀ k, kv.ownBlock = some k → O k) ∧ (∀ k, vv.ownBlock = some k → O k) ∧ ∀ k, cv.ownBlock = some k → O k
section
variable {w w' : World} {b : Nat} {x : Nd} {O O' : Nat → Prop}
theorem NdRd.r (h : NdRd w b x O) : NdR w b x := by
  obtain ⟨kv, vv, cv, c0, c1, c2, c3, r1, r2, r3, _⟩ := h.node
  exact ⟨h.lt, kv, vv, cv, c0, c1, c2, c3, r1, r2, r3⟩
theorem NdRd.keep {S : Nat → Prop} (h : NdRd w b x O) (hk : Keep S w w') (hn : ∀ k, O k → ¬ S k) : NdRd w' b x O := by
  obtain ⟨kv, vv, cv, c0, c1, c2, c3, r1, r2, r3, o1, o2, o3⟩ := h.node
  have hc : ∀ k, w'.cell? ⟨b, k, none⟩ = w.cell? ⟨b, k, none⟩ := fun k => hk.cell (p := ⟨b, k, none⟩) h.lt (hn b h.ob)
  exact ⟨Nat.lt_of_lt_of_le h.lt hk.size, h.ob, kv, vv, cv, by rw [hc]; exact c0, by rw [hc]; exact c1, by rw [hc]; exact c2, by rw [hc]; exact c3, r1.keep hk (fun q e => hn q (o1 q e)), r2.keep hk (fun q e => hn q (o2 q e)), r3.keep hk (fun q e => hn q (o3 q e)), o1, o2, o3⟩
end
def Nd.one (x : Nd) (j : Nat) : Nd := ⟨x.leaf, [x.keys.getD j ⟨#[]⟩], if x.leaf then [x.vals.getD j ⟨#[]⟩] else [], []⟩
theorem Nd.one_size (x : Nd) (j : Nat) : (x.one j).size = 3 + (x.ent j).length := by
  rw [← Nd.size_upto]
  show 3 + ((x.one j).ent 0).length = _
  unfold Nd.ent Nd.one
  rw [entB_length, entB_length]
  cases x.leaf <;> rfl
theorem Nd.one_ok {x : Nd} (ok : x.okS) (j : Nat) (hj : j < x.keys.length) : (x.one j).okS := by
  refine ⟨fun e => ?_, fun k hk => ?_, fun v hv => ?_⟩
  · unfold Nd.one at e ⊢
    simp only at e ⊢
    rw [e]; rfl
  · rw [List.mem_singleton.1 hk]
    exact ok.k96 _ (getD_mem hj)
  · unfold Nd.one at hv
    simp only at hv
    cases hl : x.leaf with
    | false => rw [hl] at hv; cases hv
    | true =>
      rw [hl] at hv
      simp only [if_true] at hv
      rw [List.mem_singleton.1 hv]
      exact ok.v56 _ (getD_mem (by rw [ok.vals hl]; exact hj))
theorem ownsRow.base0 {w : World} {B : Nat} {e : TypeId} {sz : Nat} {v : Value} {n : Nat} {l : List Value} (h : w.ownsRow B e sz v n l) : w.ownsRow 0 e sz v n l :=
  ⟨h.1, h.2.imp id (fun ⟨g, c, cur, a1, _, a3⟩ => ⟨g, c, cur, a1, Nat.zero_le _, a3⟩)⟩
theorem strV_drop (l : List ByteArray) (j : Nat) : strV (l.drop j) = (strV l).drop j := by unfold strV; rw [List.map_drop]
theorem intV_drop (l : List Nat) (j : Nat) : intV (l.drop j) = (intV l).drop j := by unfold intV; rw [List.map_drop]
set_option maxHeartbeats 4000000 in
theorem split_any {w : World} {b : Nat} {kv vv cv : Value} {x : Nd} (h : NdAt w b kv vv cv x) (ok : x.ok) (h1 : 512 < x.size) (h2 : x.size ≤ 512 + x.most) :
    Calls Tryz.prog 213 #[.pointer (some ⟨b, 0, none⟩)] w fun e w' => ∃ rb a, e = .returned (.pointer (some ⟨rb, 0, none⟩)) ∧ PartAt x a ∧ NdRd w' b (x.take a) (ndOwn b kv vv cv) ∧ NdRd w' rb (x.drop a) (fun k => w.heap.size ≤ k ∧ k < w'.heap.size) ∧ Keep (fun k => k = b) w w' := by
  obtain ⟨i0, hi0, hz0, hz1, hz2⟩ := info_parts infoStr9
  have HI := Hd hi0
  have Hz0 := Hd hz0
  have Hz1 := Hd hz1
  have Hz2 := Hd hz2
  obtain ⟨k0, hj0, hy0, hy1, hy2⟩ := info_parts infoInt9
  have HJ := Hd hj0
  have Hy0 := Hd hy0
  have Hy1 := Hd hy1
  have Hy2 := Hd hy2
  clear hi0 hz0 hz1 hz2 hj0 hy0 hy1 hy2
  have hm666 : x.size ≤ 666 := by unfold Nd.most at h2; split at h2 <;> omega
  have hkl := x.keys_lt ok hm666
  obtain ⟨m, hm⟩ : ∃ m, x.keys.length = m := ⟨_, rfl⟩
  obtain ⟨sz, hsz⟩ : ∃ sz, x.size = sz := ⟨_, rfl⟩
  have hup : ∀ j, j ≤ m → x.upto j ≤ sz := fun j hj => by
    have := (Nd.upto_le ok.s j m hj (by omega)).1
    rw [← hm, x.size_upto, hm, hsz] at this
    omega
  have hfull : x.upto m = sz := by rw [← hm, x.size_upto, hsz]
  have HSz := Hd (fun u (hu : Below w.heap.size w u) => size_any (h.read.still hu) ok.s hkl)
  rw [hsz] at HSz h1 hm666
  have hm1 : 1 ≤ m := by
    rcases Nat.eq_zero_or_pos m with e | e
    · rw [e] at hfull
      have : x.upto 0 = 3 := rfl
      omega
    · exact e
  obtain ⟨g1, p1, hk1, hp1, _, _⟩ := row_posB h.keys (by omega)
  rw [hm] at hk1 hp1
  have q1 : ∀ j, j < m → w.cell? ⟨g1, j, none⟩ = some (.string (x.keys.getD j ⟨#[]⟩)) := fun j hj => by
    have := h.keys.cells (by rw [hk1]; rfl) j _ (strV_get x.keys j (by omega))
    rwa [addr_add9] at this
  have hg1 : g1 < w.heap.size := (h.keys.lt g1 (by rw [hk1]; rfl)).2
  have hne1 : g1 ≠ b := fun e => h.ne.1 (by rw [hk1, e]; rfl)
  have HQ1 := Hd q1
  have HG1 := Hd hg1
  have HNe1 := Hd hne1
  have HUp := Hd hup
  have HFull := Hd hfull
  have HOk := Hd ok
  have HM := Hd hm
  have hm6 : m < 65536 := by omega
  have HH := Hd h
  have HS0 := Hd hsz
  have HOne := Hd (fun j (hj : j < m) => x.one_ok ok.s j (by omega))
  have HCl := Hd h.cells
  subst hk1
  have hlt : b < w.heap.size := h.lt (.inl rfl)
  have HLt := Hd hlt
  obtain ⟨lf, hlf⟩ : ∃ lf, x.leaf = lf := ⟨_, rfl⟩
  have HLf := Hd hlf
  clear q1 hg1 hne1 hup ok hkl hsz hm hlt
  cases lf with
  | true =>
    have hvl : x.vals.length = m := by have := HOk.out.vals; rw [HLf.out, HM.out] at this; exact this
    obtain ⟨g2, p2, hk2, hp2, _, _⟩ := row_posB h.vals (by omega)
    rw [hvl] at hk2 hp2
    have q2 : ∀ j, j < m → w.cell? ⟨g2, j, none⟩ = some (.string (x.vals.getD j ⟨#[]⟩)) := fun j hj => by
      have := h.vals.cells (by rw [hk2]; rfl) j _ (strV_get x.vals j (by omega))
      rwa [addr_add9] at this
    have hg2 : g2 < w.heap.size := (h.vals.lt g2 (by rw [hk2]; rfl)).2
    have HQ2 := Hd q2
    have HG2 := Hd hg2
    have HNe2 := Hd (show g2 ≠ b from fun e => h.ne.2.1 (by rw [hk2, e]; rfl))
    have HVl := Hd hvl
    rw [hlf] at HCl
    subst hk2
    clear h q2 hg2 hvl hlf
    go_enter Tryz.func213, Tryz.ntmps213
    go_wp2_with (fail)
    go_loopw [3, 4] (fun s i wr => ∃ j : Nat, j ≤ m ∧ i = .int .i64 j ∧ s = .int .i64 (x.upto j) ∧ (0 < j → x.upto (j - 1) < sz / 2) ∧ Below w.heap.size w wr) (fun _ i _ => m - (intOf i).toNat)
    case atStart => exact ⟨0, by omega, rfl, rfl, fun h => absurd h (by omega), Below.refl _ _⟩
    case round =>
      obtain ⟨j, hj, rfl, rfl, hah, hbel⟩ := hrel
      have HB := Hd hbel
      have hup := HUp.out j hj
      obtain ⟨u, hu0⟩ : ∃ u, x.upto j = u := ⟨_, rfl⟩
      rw [hu0] at hup ⊢
      have HU := Hd hu0
      have c0 : wr.cell? ⟨b, 0, none⟩ = some (.bool true) := by rw [hbel.cell (p := ⟨b, 0, none⟩) HLt.out]; exact Lib.cell_of_heap HCl.out 0
      have HSr := Hd (HSz.out wr hbel)
      have HAh := Hd hah
      have u0 : (0 : Int) ≤ (u : Int) := by omega
      have j0 : (0 : Int) ≤ (j : Int) := by omega
      clear hbel hu0 hah
      by_cases hlt : u < sz / 2
      · have t1 : decide ((u : Int) < (sz : Int) / 2) = true := by simp; omega
        go_wp2_with (go_at_call 212; refine (HSr.out).mono ?_; rintro e _ ⟨rfl, rfl⟩)
        have hjm : j < m := by
          rcases Nat.lt_or_ge j m with e | e
          · exact e
          · exfalso
            have e2 : j = m := by omega
            rw [e2, HFull.out] at HU
            have := HU.out
            omega
        have hj1 : (j : Int) < (m : Int) := by omega
        have hj2 : (j : Int) + 1 ≤ (m : Int) := by omega
        have hpm : (m : Int) ≤ (p1 : Int) := by omega
        have wj : IntKind.i64.wrap ((j : Int) + 1) = ((j + 1 : Nat) : Int) := by rw [show (j : Int) + 1 = ((j + 1 : Nat) : Int) by omega]; exact wrapI (by omega) (by omega)
        have wn : ((j + 1 : Nat) : Int).toNat = j + 1 := by omega
        have hpj : ¬ p1 = j := by omega
        have hw1 : (0 : Int) ≤ ((j + 1 : Nat) : Int) := by omega
        have hw2 : ((j + 1 : Nat) : Int) ≤ (p1 : Int) := by omega
        have hw5 : (0 : Int) ≤ (j : Int) + 1 := by omega
        have hw6 : (j : Int) + 1 ≤ (p1 : Int) := by omega
        have hw3 : j ≤ j + 1 := by omega
        have hw4 : j + 1 - j = 1 := by omega
        obtain ⟨S, hS⟩ : ∃ S : World → Prop, ∀ u, S u ↔ Keep (fun _ => False) (wr) u := ⟨fun u => Keep (fun _ => False) (wr) u, fun _ => Iff.rfl⟩
        have HS := Hd hS
        clear hS
        refine wp_region_ord 14 [(0, true), (1, true), (2, true), (3, true), (4, true), (5, true), (6, true), (7, true), (8, true), (9, true), (10, true), (11, true), (12, true), (13, false)] S (by kernel_rfl) (by kernel_rfl) ((HS.out _).2 (Keep.refl _ _).drew) ?_
        iterate 13
          first
            | (refine wpH_passed rfl (by rfl) (fun K hK => ?_); go_simp; refine hK _ ?_; clear hK K)
            | (first
                 | refine wpH_read rfl rfl (fun K hK => ?_)
                 | refine wpH_readw rfl (by rfl) (fun K hK => ?_)
               apply Exists.intro
               refine ⟨fun u hu => ?_, ?_⟩
               · have hu := (HS.out u).1 hu
                 have c0 : u.cell? ⟨b, 0, none⟩ = some (.bool true) := by rw [hu.cell (p := ⟨b, 0, none⟩) (Nat.lt_of_lt_of_le HLt.out HB.out.size) (fun e => e), HB.out.cell (p := ⟨b, 0, none⟩) HLt.out]; exact Lib.cell_of_heap HCl.out 0
                 have c1 : u.cell? ⟨b, 1, none⟩ = some (.slice (some ⟨g1, 0, none⟩) m p1) := by rw [hu.cell (p := ⟨b, 1, none⟩) (Nat.lt_of_lt_of_le HLt.out HB.out.size) (fun e => e), HB.out.cell (p := ⟨b, 1, none⟩) HLt.out]; exact Lib.cell_of_heap HCl.out 1
                 clear hu
                 go_simp
                 exact ⟨rfl, rfl⟩
               go_simp
               refine hK _ ?_
               clear hK K)
        first | refine wpH_do rfl rfl (fun K hK => ?_) | refine wpH_dow rfl (by rfl) (fun K hK => ?_)
        go_simp
        refine hK _ _ ((HS.out _).2 ((Keep.refl _ _).drew.alloc _)) ?_
        clear hK K
        refine wpH_nil ?_
        simp only [List.drop_succ_cons, List.drop_zero]
        clear S HS
        have hbw1 : Below w.heap.size w (wr.alloc (.cells #[.bool true, .slice (some ⟨g1, j, none⟩) 1 (p1 - j), .slice none 0 0, .slice none 0 0] 247)) := HB.out.alloc HB.out.size _
        have c0 : (wr.alloc (.cells #[.bool true, .slice (some ⟨g1, j, none⟩) 1 (p1 - j), .slice none 0 0, .slice none 0 0] 247)).cell? ⟨b, 0, none⟩ = some (.bool true) := by rw [hbw1.cell (p := ⟨b, 0, none⟩) HLt.out]; exact Lib.cell_of_heap HCl.out 0
        have hnil : ∀ T, RowAt T (.slice none 0 0) [] := fun T => ⟨none, 0, 0, 0, rfl, fun h => absurd h (by simp), fun q v hq => by simp at hq⟩
        have hel := Nd.ent_le HOk.out.s j (by rw [HM.out]; exact hjm)
        have hmo : x.most ≤ 154 := by unfold Nd.most; split <;> omega
        have hos := x.one_size j
        have hus : x.upto (j + 1) = x.upto j + (x.ent j).length := rfl
        obtain ⟨el, hel0⟩ : ∃ el, (x.ent j).length = el := ⟨_, rfl⟩
        rw [hel0] at hel hos hus
        rw [HU.out] at hus
        have HUs := Hd hus
        have e0 : (0 : Int) ≤ (el : Int) := by omega
        have e1 : (el : Int) ≤ 154 := by omega
        have hup1 := HUp.out (j + 1) (by omega)
        rw [hus] at hup1
        have HE1 := Hd hup1
        have c2 : (wr.alloc (.cells #[.bool true, .slice (some ⟨g1, j, none⟩) 1 (p1 - j), .slice none 0 0, .slice none 0 0] 247)).cell? ⟨b, 2, none⟩ = some (.slice (some ⟨g2, 0, none⟩) m p2) := by rw [hbw1.cell (p := ⟨b, 2, none⟩) HLt.out]; exact Lib.cell_of_heap HCl.out 2
        have hpj2 : ¬ p2 = j := by omega
        have hw7 : (j : Int) + 1 ≤ (p2 : Int) := by omega
        have hbw2 : Below w.heap.size w (wr.alloc (.cells #[.bool true, .slice (some ⟨g1, j, none⟩) 1 (p1 - j), .slice (some ⟨g2, j, none⟩) 1 (p2 - j), .slice none 0 0] 247)) := HB.out.alloc HB.out.size _
        have hnew := heap_alloc_new wr (.cells #[.bool true, .slice (some ⟨g1, j, none⟩) 1 (p1 - j), .slice (some ⟨g2, j, none⟩) 1 (p2 - j), .slice none 0 0] 247)
        have hrowk : RowAt (wr.alloc (.cells #[.bool true, .slice (some ⟨g1, j, none⟩) 1 (p1 - j), .slice (some ⟨g2, j, none⟩) 1 (p2 - j), .slice none 0 0] 247)) (.slice (some ⟨g1, j, none⟩) 1 (p1 - j)) (strV (x.one j).keys) := ⟨some ⟨g1, j, none⟩, g1, j, p1 - j, rfl, fun _ => ⟨rfl, Nat.lt_of_lt_of_le HG1.out hbw2.size⟩, fun q v hq => by
          cases q with
          | zero => simp [strV, Nd.one] at hq; rw [← hq, Nat.add_zero, hbw2.cell (p := ⟨g1, j, none⟩) HG1.out]; exact HQ1.out j hjm
          | succ q => simp [strV, Nd.one] at hq⟩
        have hrowv : RowAt (wr.alloc (.cells #[.bool true, .slice (some ⟨g1, j, none⟩) 1 (p1 - j), .slice (some ⟨g2, j, none⟩) 1 (p2 - j), .slice none 0 0] 247)) (.slice (some ⟨g2, j, none⟩) 1 (p2 - j)) (strV (x.one j).vals) := by
          have hvv : (x.one j).vals = [x.vals.getD j ⟨#[]⟩] := by unfold Nd.one; rw [HLf.out]; rfl
          rw [hvv]
          exact ⟨some ⟨g2, j, none⟩, g2, j, p2 - j, rfl, fun _ => ⟨rfl, Nat.lt_of_lt_of_le HG2.out hbw2.size⟩, fun q v hq => by
            cases q with
            | zero => simp [strV] at hq; rw [← hq, Nat.add_zero, hbw2.cell (p := ⟨g2, j, none⟩) HG2.out]; exact HQ2.out j hjm
            | succ q => simp [strV] at hq⟩
        have hno : NdR (wr.alloc (.cells #[.bool true, .slice (some ⟨g1, j, none⟩) 1 (p1 - j), .slice (some ⟨g2, j, none⟩) 1 (p2 - j), .slice none 0 0] 247)).drew wr.heap.size (x.one j) := by
          have h1 : NdR (wr.alloc (.cells #[.bool true, .slice (some ⟨g1, j, none⟩) 1 (p1 - j), .slice (some ⟨g2, j, none⟩) 1 (p2 - j), .slice none 0 0] 247)) wr.heap.size (x.one j) := by
            refine ⟨(Gl hnew), _, _, _, ?_, Lib.cell_of_heap hnew 1, Lib.cell_of_heap hnew 2, Lib.cell_of_heap hnew 3, hrowk, hrowv, hnil _⟩
            show _ = some (Value.bool x.leaf)
            rw [HLf.out]; exact Lib.cell_of_heap hnew 0
          exact h1.still ⟨rfl, rfl, rfl, Nat.le_refl _, fun _ _ => rfl⟩
        have HSo := Hd (size_any hno (HOne.out j hjm) (by show (1 : Nat) < 65536; omega))
        rw [hos] at HSo
        have HBW := Hd (show Below w.heap.size w (wr.alloc (.cells #[.bool true, .slice (some ⟨g1, j, none⟩) 1 (p1 - j), .slice (some ⟨g2, j, none⟩) 1 (p2 - j), .slice none 0 0] 247)).drew from ⟨hbw2.os, hbw2.tape, hbw2.output, hbw2.size, hbw2.block⟩)
        clear hno hnil hrowk hrowv hnew hbw1 hbw2 hos hus hel hmo
        go_wp2_with (go_at_call 212; refine (HSo.out).mono ?_; rintro e _ ⟨rfl, rfl⟩)
        go_roundw
        case rel => exact ⟨j + 1, by omega, by go_num, by rw [HUs.out]; go_num, fun _ => by rw [Nat.add_sub_cancel, HU.out]; exact hlt, HBW.out⟩
        case measure => simp [intOf]; omega
      · have t1 : decide ((u : Int) < (sz : Int) / 2) = false := by simp; omega
        have hpt : PartAt x j := ⟨by rw [HM.out]; exact hj, by rw [HS0.out, HU.out]; omega, fun h => by rw [HS0.out]; exact HAh.out h⟩
        obtain ⟨s1, s2, s3, s4, s5⟩ := hpt.sizes HOk.out (by rw [HS0.out]; exact h1) (by rw [HS0.out] at h2 ⊢; exact h2)
        rw [HM.out] at s4
        have hjm : (j : Int) < (m : Int) := by omega
        have hjm2 : (j : Int) ≤ (m : Int) := by omega
        have hjp1 : (j : Int) ≤ (p1 : Int) := by omega
        have hjp2 : (j : Int) ≤ (p2 : Int) := by omega
        have hpj : ¬ p1 = j := by omega
        have hpj2 : ¬ p2 = j := by omega
        have HPt := Hd hpt
        clear hpt s1 s2 s5
        have hc1 : ∀ u, Below w.heap.size w u → ∀ (q : Nat) v, (strV (x.keys.drop j))[q]? = some v → u.cell? ⟨g1, j + q, none⟩ = some v := fun u hu q v hq => by
          rw [hu.cell (p := ⟨g1, j + q, none⟩) HG1.out]
          rw [strV_drop, List.getElem?_drop] at hq
          have hlq : j + q < m := by have := (List.getElem?_eq_some_iff.1 hq).1; rw [strV_length, HM.out] at this; exact this
          rw [strV_get _ _ (by rw [HM.out]; exact hlq)] at hq
          rw [← Option.some.inj hq]
          exact HQ1.out (j + q) hlq
        have hdw : Below w.heap.size w wr.drew := ⟨HB.out.os, HB.out.tape, HB.out.output, HB.out.size, HB.out.block⟩
        have HC1 := Hd (Tryz.slices_Clone_f251 i0 _ 1 16 HI.out Hz0.out Hz1.out Hz2.out (by rfl) (by decide) Tryz.sizeOf9 g1 j (m - j) (p1 - j) (strV (x.keys.drop j)) wr.drew (by rw [strV_length, List.length_drop, HM.out, Nat.mul_one]) (by unfold maxLen; omega) (by omega) (fun q v hq => hc1 _ hdw q v hq) (strV_one _))
        clear hc1
        go_wp2_with (go_at_call 212; refine (HSr.out).mono ?_; rintro e _ ⟨rfl, rfl⟩)
        obtain ⟨S, hS⟩ : ∃ S : World → Prop, ∀ u, S u ↔ Keep (fun _ => False) (wr) u := ⟨fun u => Keep (fun _ => False) (wr) u, fun _ => Iff.rfl⟩
        have HS := Hd hS
        clear hS
        refine wp_region_ord 11 [(0, true), (1, true), (2, true), (3, true), (4, true), (5, true), (6, true), (7, true), (8, true), (9, true), (10, false)] S (by kernel_rfl) (by kernel_rfl) ((HS.out _).2 (Keep.refl _ _).drew) ?_
        iterate 10
          first
            | (refine wpH_passed rfl (by rfl) (fun K hK => ?_); go_simp; refine hK _ ?_; clear hK K)
            | (first
                 | refine wpH_read rfl rfl (fun K hK => ?_)
                 | refine wpH_readw rfl (by rfl) (fun K hK => ?_)
               apply Exists.intro
               refine ⟨fun u hu => ?_, ?_⟩
               · have hu := (HS.out u).1 hu
                 have c0 : u.cell? ⟨b, 0, none⟩ = some (.bool true) := by rw [hu.cell (p := ⟨b, 0, none⟩) (Nat.lt_of_lt_of_le HLt.out HB.out.size) (fun e => e), HB.out.cell (p := ⟨b, 0, none⟩) HLt.out]; exact Lib.cell_of_heap HCl.out 0
                 have c1 : u.cell? ⟨b, 1, none⟩ = some (.slice (some ⟨g1, 0, none⟩) m p1) := by rw [hu.cell (p := ⟨b, 1, none⟩) (Nat.lt_of_lt_of_le HLt.out HB.out.size) (fun e => e), HB.out.cell (p := ⟨b, 1, none⟩) HLt.out]; exact Lib.cell_of_heap HCl.out 1
                 clear hu
                 go_simp
                 exact ⟨rfl, rfl⟩
               go_simp
               refine hK _ ?_
               clear hK K)
        first | refine wpH_do rfl rfl (fun K hK => ?_) | refine wpH_dow rfl (by rfl) (fun K hK => ?_)
        go_simp
        go_at_call 251
        refine (HC1.out).mono ?_
        rintro e w2 ⟨v2, rfl, hrow2, hnn2, hb2⟩
        have hb2' : Below wr.heap.size wr w2 := ⟨hb2.os, hb2.tape, hb2.output, hb2.size, hb2.block⟩
        obtain ⟨sa, sc, hv2⟩ := slice_formB hrow2
        subst hv2
        have HRow2 := Hd hrow2
        have HB2 := Hd (HB.out.trans (hb2'.mono HB.out.size))
        have HW2 := Hd hb2'.size
        refine hK _ _ ((HS.out _).2 (Keep.ofBelow hb2')) ?_
        clear hK K hrow2 hnn2 hb2 hb2'
        refine wpH_nil ?_
        simp only [List.drop_succ_cons, List.drop_zero]
        clear S HS
        have hnew := heap_alloc_new w2 (.cells #[.bool true, .slice sa (m - j) sc, .slice none 0 0, .slice none 0 0] 247)
        have hb3 : Below w.heap.size w (w2.alloc (.cells #[.bool true, .slice sa (m - j) sc, .slice none 0 0, .slice none 0 0] 247)) := HB2.out.alloc HB2.out.size _
        have hrow3 : (w2.alloc (.cells #[.bool true, .slice sa (m - j) sc, .slice none 0 0, .slice none 0 0] 247)).ownsRow wr.heap.size 9 1 (.slice sa (m - j) sc) (m - j) (strV (x.keys.drop j)) := HRow2.out.alloc _
        obtain ⟨rb, hrb⟩ : ∃ rb, w2.heap.size = rb := ⟨_, rfl⟩
        have hrbl : rb < (w2.alloc (.cells #[.bool true, .slice sa (m - j) sc, .slice none 0 0, .slice none 0 0] 247)).heap.size := by rw [← hrb]; simp
        obtain ⟨w3, hw3⟩ : ∃ w3, w2.alloc (.cells #[.bool true, .slice sa (m - j) sc, .slice none 0 0, .slice none 0 0] 247) = w3 := ⟨_, rfl⟩
        rw [hw3] at hnew hb3 hrow3 hrbl
        rw [hrb] at hnew
        have hbc : w3.heap[b]? = some (.cells #[.bool true, .slice (some ⟨g1, 0, none⟩) m p1, .slice (some ⟨g2, 0, none⟩) m p2, cv] 247 (0, 0)) := (hb3.block b HLt.out).trans HCl.out
        have hgr : w.heap.size ≤ rb := by rw [← hrb]; exact HB2.out.size
        have hbr : b ≠ rb := by have := HLt.out; omega
        have c1 : w3.cell? ⟨b, 1, none⟩ = some (.slice (some ⟨g1, 0, none⟩) m p1) := Lib.cell_of_heap hbc 1
        have f1 : w3.frozen? ⟨b, 1, none⟩ = false := froz_of hbc
        have hbc4 : (w3.setCell ⟨b, 1, none⟩ (.slice (some ⟨g1, 0, none⟩) j j)).heap[b]? = some (.cells #[.bool true, .slice (some ⟨g1, 0, none⟩) j j, .slice (some ⟨g2, 0, none⟩) m p2, cv] 247 (0, 0)) := heap_setCell_same w3 b 1 _ _ _ hbc
        have k4 : Keep (fun q => q = b) w3 (w3.setCell ⟨b, 1, none⟩ (.slice (some ⟨g1, 0, none⟩) j j)) := (Keep.refl (fun q => q = b) w3).setCell (p := ⟨b, 1, none⟩) (fun _ => rfl) _
        have k04 : Keep (fun q => q = b) w (w3.setCell ⟨b, 1, none⟩ (.slice (some ⟨g1, 0, none⟩) j j)) := (Keep.ofBelow (S := fun q => q = b) (hb3)).trans k4 (fun _ _ e => e)
        obtain ⟨w4, hw4⟩ : ∃ w4, w3.setCell ⟨b, 1, none⟩ (.slice (some ⟨g1, 0, none⟩) j j) = w4 := ⟨_, rfl⟩
        rw [hw4] at hbc4 k4 k04
        have hrb4 := k4.at hnew (fun e => hbr e.symm)
        have hrow4 := k4.ownsRow hrow3 (fun q e e2 => by have := (hrow3.lt q e).1; have := HLt.out; have := HB.out.size; omega)
        have c0 : w4.cell? ⟨b, 0, none⟩ = some (.bool true) := Lib.cell_of_heap hbc4 0
        have c2 : w4.cell? ⟨b, 2, none⟩ = some (.slice (some ⟨g2, 0, none⟩) m p2) := Lib.cell_of_heap hbc4 2
        have hlt4 : ∀ q, q < w.heap.size → q ≠ b → q < w4.heap.size := fun q hq _ => Nat.lt_of_lt_of_le hq k04.size
        have HC2 := Hd (Tryz.slices_Clone_f251 i0 _ 1 16 HI.out Hz0.out Hz1.out Hz2.out (by rfl) (by decide) Tryz.sizeOf9 g2 j (m - j) (p2 - j) (strV (x.vals.drop j)) w4 (by rw [strV_length, List.length_drop, HVl.out, Nat.mul_one]) (by unfold maxLen; omega) (by omega) (fun q v hq => by
          rw [k04.cell (p := ⟨g2, j + q, none⟩) HG2.out (fun e => HNe2.out e)]
          rw [strV_drop, List.getElem?_drop] at hq
          have hlq : j + q < m := by have := (List.getElem?_eq_some_iff.1 hq).1; rw [strV_length, HVl.out] at this; exact this
          rw [strV_get _ _ (by rw [HVl.out]; exact hlq)] at hq
          rw [← Option.some.inj hq]
          exact HQ2.out (j + q) hlq) (strV_one _))
        have HBc4 := Hd hbc4
        have HK04 := Hd k04
        have HRb4 := Hd hrb4
        have HRow4 := Hd hrow4
        have hz2 := HW2.out
        have hz4 := k4.size
        have hz3 : w2.heap.size < w3.heap.size := by rw [hrb]; exact hrbl
        have HLe := Hd (show w.heap.size ≤ rb ∧ b ≠ rb ∧ rb < w4.heap.size ∧ wr.heap.size ≤ w4.heap.size ∧ w.heap.size ≤ wr.heap.size from ⟨hgr, hbr, Nat.lt_of_lt_of_le hrbl hz4, by omega, HB.out.size⟩)
        clear hz2 hz3 hz4
        clear hbc4 k4 k04 hrb4 hrow4 hnew hb3 hrow3 hbc hlt4 hrbl
        go_wp2_with (fail)
        refine (HC2.out).mono ?_
        rintro e w5 ⟨v5, rfl, hrow5, _, hb5⟩
        obtain ⟨sb, sd, hv5⟩ := slice_formB hrow5
        subst hv5
        obtain ⟨z1, z2, z3, z4, z5⟩ := HLe.out
        have hbc5 := (Keep.still hb5).at HBc4.out (fun e => e)
        have hrb5 := (Keep.still hb5).at HRb4.out (fun e => e)
        have hrow45 := (Keep.still hb5).ownsRow HRow4.out (fun _ _ e => e)
        have o2 : w5.cell? ⟨rb, 2, none⟩ = some (.slice none 0 0) := Lib.cell_of_heap hrb5 2
        have fo : w5.frozen? ⟨rb, 2, none⟩ = false := froz_of hrb5
        have k6 : Keep (fun q => q = rb) w5 (w5.setCell ⟨rb, 2, none⟩ (.slice sb (m - j) sd)) := (Keep.refl (fun q => q = rb) w5).setCell (p := ⟨rb, 2, none⟩) (fun _ => rfl) _
        have hrb6 : (w5.setCell ⟨rb, 2, none⟩ (.slice sb (m - j) sd)).heap[rb]? = some (.cells #[.bool true, .slice sa (m - j) sc, .slice sb (m - j) sd, .slice none 0 0] 247 (0, 0)) := heap_setCell_same w5 rb 2 _ _ _ hrb5
        have hbc6 := k6.at hbc5 z2
        have hrow6 := k6.ownsRow hrow5 (fun q e e2 => by have := (hrow5.lt q e).1; omega)
        have hrow46 := k6.ownsRow hrow45 (fun q e e2 => by
          have h1 := (HRow2.out.lt q e).2
          rw [hrb] at h1
          omega)
        obtain ⟨w6, hw6⟩ : ∃ w6, w5.setCell ⟨rb, 2, none⟩ (.slice sb (m - j) sd) = w6 := ⟨_, rfl⟩
        rw [hw6] at k6 hrb6 hbc6 hrow6 hrow46
        have c2 : w6.cell? ⟨b, 2, none⟩ = some (.slice (some ⟨g2, 0, none⟩) m p2) := Lib.cell_of_heap hbc6 2
        have f2 : w6.frozen? ⟨b, 2, none⟩ = false := froz_of hbc6
        have k7 : Keep (fun q => q = b) w6 (w6.setCell ⟨b, 2, none⟩ (.slice (some ⟨g2, 0, none⟩) j j)) := (Keep.refl (fun q => q = b) w6).setCell (p := ⟨b, 2, none⟩) (fun _ => rfl) _
        have hbc7 : (w6.setCell ⟨b, 2, none⟩ (.slice (some ⟨g2, 0, none⟩) j j)).heap[b]? = some (.cells #[.bool true, .slice (some ⟨g1, 0, none⟩) j j, .slice (some ⟨g2, 0, none⟩) j j, cv] 247 (0, 0)) := heap_setCell_same w6 b 2 _ _ _ hbc6
        have hrb7 := k7.at hrb6 (fun e => z2 e.symm)
        have hrow7 := k7.ownsRow hrow6 (fun q e e2 => by have := (hrow6.lt q e).1; have := HLt.out; omega)
        have hrow47 := k7.ownsRow hrow46 (fun q e e2 => by have := (hrow46.lt q e).1; have := HLt.out; omega)
        have k07 : Keep (fun q => q = b) w (w6.setCell ⟨b, 2, none⟩ (.slice (some ⟨g2, 0, none⟩) j j)) :=
          ((HK04.out.trans (Keep.ofBelow (S := fun _ => False) hb5) (fun _ _ e => e.elim)).trans k6 (fun q hq e => by omega)).trans k7 (fun _ _ e => e)
        obtain ⟨w7, hw7⟩ : ∃ w7, w6.setCell ⟨b, 2, none⟩ (.slice (some ⟨g2, 0, none⟩) j j) = w7 := ⟨_, rfl⟩
        rw [hw7] at k07 hbc7 hrb7 hrow7 hrow47
        have hoth : x.kids = [] := List.length_eq_zero_iff.1 (by have := HOk.out.kids; rw [HLf.out] at this; simpa using this)
        have hleft : NdRd w7 b (x.take j) (ndOwn b (.slice (some ⟨g1, 0, none⟩) m p1) (.slice (some ⟨g2, 0, none⟩) m p2) cv) := by
          have rk : RowAt w7 (.slice (some ⟨g1, 0, none⟩) j j) (strV (x.take j).keys) := by
            have hlen : (strV (x.take j).keys).length = j := by rw [strV_length]; show (x.keys.take j).length = j; rw [List.length_take, HM.out]; omega
            refine ⟨some ⟨g1, 0, none⟩, g1, 0, j, by rw [hlen], fun _ => ⟨rfl, Nat.lt_of_lt_of_le HG1.out k07.size⟩, fun q v hq => ?_⟩
            have hlq : q < j := by have := (List.getElem?_eq_some_iff.1 hq).1; omega
            rw [Nat.zero_add, k07.cell (p := ⟨g1, q, none⟩) HG1.out (fun e => HNe1.out e), HQ1.out q (by omega)]
            have h5 := strV_get (x.take j).keys q (by rw [← strV_length]; omega)
            rw [hq] at h5
            rw [h5]
            show some (Value.string (x.keys.getD q ⟨#[]⟩)) = some (Value.string ((x.keys.take j).getD q ⟨#[]⟩))
            rw [getD_take _ _ _ _ hlq]
          have rl : RowAt w7 (.slice (some ⟨g2, 0, none⟩) j j) (strV (x.take j).vals) := by
            have hlen : (strV (x.take j).vals).length = j := by rw [strV_length]; show (x.vals.take j).length = j; rw [List.length_take, HVl.out]; omega
            refine ⟨some ⟨g2, 0, none⟩, g2, 0, j, by rw [hlen], fun _ => ⟨rfl, Nat.lt_of_lt_of_le HG2.out k07.size⟩, fun q v hq => ?_⟩
            have hlq : q < j := by have := (List.getElem?_eq_some_iff.1 hq).1; omega
            rw [Nat.zero_add, k07.cell (p := ⟨g2, q, none⟩) HG2.out (fun e => HNe2.out e), HQ2.out q (by omega)]
            have h5 := strV_get (x.take j).vals q (by rw [← strV_length]; omega)
            rw [hq] at h5
            rw [h5]
            show some (Value.string (x.vals.getD q ⟨#[]⟩)) = some (Value.string ((x.vals.take j).getD q ⟨#[]⟩))
            rw [getD_take _ _ _ _ hlq]
          have ro : RowAt w7 cv (intV (x.take j).kids) := by
            have h5 := (row_read HH.out.kids).keep k07 (fun q e e2 => HH.out.ne.2.2 (by rw [e, e2]))
            rw [hoth] at h5
            show RowAt w7 cv (intV (x.kids.take j))
            rw [hoth, List.take_nil]
            exact h5
          refine ⟨Nat.lt_of_lt_of_le HLt.out k07.size, .inl rfl, _, _, _, ?_, Lib.cell_of_heap hbc7 1, Lib.cell_of_heap hbc7 2, Lib.cell_of_heap hbc7 3, rk, rl, ro, fun q e => .inr (.inl e), fun q e => .inr (.inr (.inl e)), fun q e => .inr (.inr (.inr e))⟩
          show _ = some (Value.bool x.leaf)
          rw [HLf.out]
          exact Lib.cell_of_heap hbc7 0
        have hright : NdRd w7 rb (x.drop j) (fun k => w.heap.size ≤ k ∧ k < w7.heap.size) := by
          have e1 : (strV (x.keys.drop j)).length = m - j := by rw [strV_length, List.length_drop, HM.out]
          have rk := row_read (ownsRow.base0 hrow47)
          have rl := row_read (ownsRow.base0 hrow7)
          have ro : RowAt w7 (.slice none 0 0) (intV (x.drop j).kids) := by
            show RowAt w7 (.slice none 0 0) (intV (x.kids.drop j))
            rw [hoth, List.drop_nil]
            exact ⟨none, 0, 0, 0, rfl, fun h => absurd h (by simp [intV]), fun q v hq => by simp [intV] at hq⟩
          refine ⟨(Gl hrb7), ⟨z1, (Gl hrb7)⟩, _, _, _, ?_, Lib.cell_of_heap hrb7 1, Lib.cell_of_heap hrb7 2, Lib.cell_of_heap hrb7 3, rk, rl, ro, fun q e => ⟨Nat.le_trans z5 (hrow47.lt q e).1, (hrow47.lt q e).2⟩, fun q e => ⟨Nat.le_trans z5 (Nat.le_trans z4 (hrow7.lt q e).1), (hrow7.lt q e).2⟩, fun q e => by cases e⟩
          show _ = some (Value.bool x.leaf)
          rw [HLf.out]
          exact Lib.cell_of_heap hrb7 0
        have HL7 := Hd hleft
        have HR7 := Hd hright
        have HK7 := Hd k07
        clear hleft hright k07 hbc7 hrb7 hrow7 hrow47 k7 k6 hrb6 hbc6 hrow6 hrow46 hbc5 hrb5 hrow45 hrow5 hb5 hoth
        go_wp2
        go_ret
        exact ⟨rb, j, rfl, HPt.out, HL7.out, HR7.out, HK7.out⟩
  | false =>
    have hvl : x.kids.length = m := by have := HOk.out.kids; rw [HLf.out, HM.out] at this; exact this
    obtain ⟨g2, p2, hk2, hp2, _, _⟩ := row_posB h.kids (by omega)
    rw [hvl] at hk2 hp2
    have q2 : ∀ j, j < m → w.cell? ⟨g2, j, none⟩ = some (.int .i64 ((x.kids.getD j 0 : Nat) : Int)) := fun j hj => by
      have := h.kids.cells (by rw [hk2]; rfl) j _ (intV_get x.kids j (by omega))
      rwa [addr_add9] at this
    have hg2 : g2 < w.heap.size := (h.kids.lt g2 (by rw [hk2]; rfl)).2
    have HQ2 := Hd q2
    have HG2 := Hd hg2
    have HNe2 := Hd (show g2 ≠ b from fun e => h.ne.2.2 (by rw [hk2, e]; rfl))
    have HVl := Hd hvl
    rw [hlf] at HCl
    subst hk2
    clear h q2 hg2 hvl hlf
    go_enter Tryz.func213, Tryz.ntmps213
    go_wp2_with (fail)
    go_loopw [3, 4] (fun s i wr => ∃ j : Nat, j ≤ m ∧ i = .int .i64 j ∧ s = .int .i64 (x.upto j) ∧ (0 < j → x.upto (j - 1) < sz / 2) ∧ Below w.heap.size w wr) (fun _ i _ => m - (intOf i).toNat)
    case atStart => exact ⟨0, by omega, rfl, rfl, fun h => absurd h (by omega), Below.refl _ _⟩
    case round =>
      obtain ⟨j, hj, rfl, rfl, hah, hbel⟩ := hrel
      have HB := Hd hbel
      have hup := HUp.out j hj
      obtain ⟨u, hu0⟩ : ∃ u, x.upto j = u := ⟨_, rfl⟩
      rw [hu0] at hup ⊢
      have HU := Hd hu0
      have c0 : wr.cell? ⟨b, 0, none⟩ = some (.bool false) := by rw [hbel.cell (p := ⟨b, 0, none⟩) HLt.out]; exact Lib.cell_of_heap HCl.out 0
      have HSr := Hd (HSz.out wr hbel)
      have HAh := Hd hah
      have u0 : (0 : Int) ≤ (u : Int) := by omega
      have j0 : (0 : Int) ≤ (j : Int) := by omega
      clear hbel hu0 hah
      by_cases hlt : u < sz / 2
      · have t1 : decide ((u : Int) < (sz : Int) / 2) = true := by simp; omega
        go_wp2_with (go_at_call 212; refine (HSr.out).mono ?_; rintro e _ ⟨rfl, rfl⟩)
        have hjm : j < m := by
          rcases Nat.lt_or_ge j m with e | e
          · exact e
          · exfalso
            have e2 : j = m := by omega
            rw [e2, HFull.out] at HU
            have := HU.out
            omega
        have hj1 : (j : Int) < (m : Int) := by omega
        have hj2 : (j : Int) + 1 ≤ (m : Int) := by omega
        have hpm : (m : Int) ≤ (p1 : Int) := by omega
        have wj : IntKind.i64.wrap ((j : Int) + 1) = ((j + 1 : Nat) : Int) := by rw [show (j : Int) + 1 = ((j + 1 : Nat) : Int) by omega]; exact wrapI (by omega) (by omega)
        have wn : ((j + 1 : Nat) : Int).toNat = j + 1 := by omega
        have hpj : ¬ p1 = j := by omega
        have hw1 : (0 : Int) ≤ ((j + 1 : Nat) : Int) := by omega
        have hw2 : ((j + 1 : Nat) : Int) ≤ (p1 : Int) := by omega
        have hw5 : (0 : Int) ≤ (j : Int) + 1 := by omega
        have hw6 : (j : Int) + 1 ≤ (p1 : Int) := by omega
        have hw3 : j ≤ j + 1 := by omega
        have hw4 : j + 1 - j = 1 := by omega
        obtain ⟨S, hS⟩ : ∃ S : World → Prop, ∀ u, S u ↔ Keep (fun _ => False) (wr) u := ⟨fun u => Keep (fun _ => False) (wr) u, fun _ => Iff.rfl⟩
        have HS := Hd hS
        clear hS
        refine wp_region_ord 14 [(0, true), (1, true), (2, true), (3, true), (4, true), (5, true), (6, true), (7, true), (8, true), (9, true), (10, true), (11, true), (12, true), (13, false)] S (by kernel_rfl) (by kernel_rfl) ((HS.out _).2 (Keep.refl _ _).drew) ?_
        iterate 13
          first
            | (refine wpH_passed rfl (by rfl) (fun K hK => ?_); go_simp; refine hK _ ?_; clear hK K)
            | (first
                 | refine wpH_read rfl rfl (fun K hK => ?_)
                 | refine wpH_readw rfl (by rfl) (fun K hK => ?_)
               apply Exists.intro
               refine ⟨fun u hu => ?_, ?_⟩
               · have hu := (HS.out u).1 hu
                 have c0 : u.cell? ⟨b, 0, none⟩ = some (.bool false) := by rw [hu.cell (p := ⟨b, 0, none⟩) (Nat.lt_of_lt_of_le HLt.out HB.out.size) (fun e => e), HB.out.cell (p := ⟨b, 0, none⟩) HLt.out]; exact Lib.cell_of_heap HCl.out 0
                 have c1 : u.cell? ⟨b, 1, none⟩ = some (.slice (some ⟨g1, 0, none⟩) m p1) := by rw [hu.cell (p := ⟨b, 1, none⟩) (Nat.lt_of_lt_of_le HLt.out HB.out.size) (fun e => e), HB.out.cell (p := ⟨b, 1, none⟩) HLt.out]; exact Lib.cell_of_heap HCl.out 1
                 clear hu
                 go_simp
                 exact ⟨rfl, rfl⟩
               go_simp
               refine hK _ ?_
               clear hK K)
        first | refine wpH_do rfl rfl (fun K hK => ?_) | refine wpH_dow rfl (by rfl) (fun K hK => ?_)
        go_simp
        refine hK _ _ ((HS.out _).2 ((Keep.refl _ _).drew.alloc _)) ?_
        clear hK K
        refine wpH_nil ?_
        simp only [List.drop_succ_cons, List.drop_zero]
        clear S HS
        have hbw1 : Below w.heap.size w (wr.alloc (.cells #[.bool false, .slice (some ⟨g1, j, none⟩) 1 (p1 - j), .slice none 0 0, .slice none 0 0] 247)) := HB.out.alloc HB.out.size _
        have c0 : (wr.alloc (.cells #[.bool false, .slice (some ⟨g1, j, none⟩) 1 (p1 - j), .slice none 0 0, .slice none 0 0] 247)).cell? ⟨b, 0, none⟩ = some (.bool false) := by rw [hbw1.cell (p := ⟨b, 0, none⟩) HLt.out]; exact Lib.cell_of_heap HCl.out 0
        have hnil : ∀ T, RowAt T (.slice none 0 0) [] := fun T => ⟨none, 0, 0, 0, rfl, fun h => absurd h (by simp), fun q v hq => by simp at hq⟩
        have hel := Nd.ent_le HOk.out.s j (by rw [HM.out]; exact hjm)
        have hmo : x.most ≤ 154 := by unfold Nd.most; split <;> omega
        have hos := x.one_size j
        have hus : x.upto (j + 1) = x.upto j + (x.ent j).length := rfl
        obtain ⟨el, hel0⟩ : ∃ el, (x.ent j).length = el := ⟨_, rfl⟩
        rw [hel0] at hel hos hus
        rw [HU.out] at hus
        have HUs := Hd hus
        have e0 : (0 : Int) ≤ (el : Int) := by omega
        have e1 : (el : Int) ≤ 154 := by omega
        have hup1 := HUp.out (j + 1) (by omega)
        rw [hus] at hup1
        have HE1 := Hd hup1
        have hbw2 : Below w.heap.size w (wr.alloc (.cells #[.bool false, .slice (some ⟨g1, j, none⟩) 1 (p1 - j), .slice none 0 0, .slice none 0 0] 247)) := HB.out.alloc HB.out.size _
        have hnew := heap_alloc_new wr (.cells #[.bool false, .slice (some ⟨g1, j, none⟩) 1 (p1 - j), .slice none 0 0, .slice none 0 0] 247)
        have hrowk : RowAt (wr.alloc (.cells #[.bool false, .slice (some ⟨g1, j, none⟩) 1 (p1 - j), .slice none 0 0, .slice none 0 0] 247)) (.slice (some ⟨g1, j, none⟩) 1 (p1 - j)) (strV (x.one j).keys) := ⟨some ⟨g1, j, none⟩, g1, j, p1 - j, rfl, fun _ => ⟨rfl, Nat.lt_of_lt_of_le HG1.out hbw2.size⟩, fun q v hq => by
          cases q with
          | zero => simp [strV, Nd.one] at hq; rw [← hq, Nat.add_zero, hbw2.cell (p := ⟨g1, j, none⟩) HG1.out]; exact HQ1.out j hjm
          | succ q => simp [strV, Nd.one] at hq⟩
        have hrowv : RowAt (wr.alloc (.cells #[.bool false, .slice (some ⟨g1, j, none⟩) 1 (p1 - j), .slice none 0 0, .slice none 0 0] 247)) (.slice none 0 0) (strV (x.one j).vals) := by
          have hvv : (x.one j).vals = [] := by unfold Nd.one; rw [HLf.out]; rfl
          rw [hvv]
          exact hnil _
        have hno : NdR (wr.alloc (.cells #[.bool false, .slice (some ⟨g1, j, none⟩) 1 (p1 - j), .slice none 0 0, .slice none 0 0] 247)).drew wr.heap.size (x.one j) := by
          have h1 : NdR (wr.alloc (.cells #[.bool false, .slice (some ⟨g1, j, none⟩) 1 (p1 - j), .slice none 0 0, .slice none 0 0] 247)) wr.heap.size (x.one j) := by
            refine ⟨(Gl hnew), _, _, _, ?_, Lib.cell_of_heap hnew 1, Lib.cell_of_heap hnew 2, Lib.cell_of_heap hnew 3, hrowk, hrowv, hnil _⟩
            show _ = some (Value.bool x.leaf)
            rw [HLf.out]; exact Lib.cell_of_heap hnew 0
          exact h1.still ⟨rfl, rfl, rfl, Nat.le_refl _, fun _ _ => rfl⟩
        have HSo := Hd (size_any hno (HOne.out j hjm) (by show (1 : Nat) < 65536; omega))
        rw [hos] at HSo
        have HBW := Hd (show Below w.heap.size w (wr.alloc (.cells #[.bool false, .slice (some ⟨g1, j, none⟩) 1 (p1 - j), .slice none 0 0, .slice none 0 0] 247)).drew from ⟨hbw2.os, hbw2.tape, hbw2.output, hbw2.size, hbw2.block⟩)
        clear hno hnil hrowk hrowv hnew hbw1 hbw2 hos hus hel hmo
        go_wp2_with (go_at_call 212; refine (HSo.out).mono ?_; rintro e _ ⟨rfl, rfl⟩)
        go_roundw
        case rel => exact ⟨j + 1, by omega, by go_num, by rw [HUs.out]; go_num, fun _ => by rw [Nat.add_sub_cancel, HU.out]; exact hlt, HBW.out⟩
        case measure => simp [intOf]; omega
      · have t1 : decide ((u : Int) < (sz : Int) / 2) = false := by simp; omega
        have hpt : PartAt x j := ⟨by rw [HM.out]; exact hj, by rw [HS0.out, HU.out]; omega, fun h => by rw [HS0.out]; exact HAh.out h⟩
        obtain ⟨s1, s2, s3, s4, s5⟩ := hpt.sizes HOk.out (by rw [HS0.out]; exact h1) (by rw [HS0.out] at h2 ⊢; exact h2)
        rw [HM.out] at s4
        have hjm : (j : Int) < (m : Int) := by omega
        have hjm2 : (j : Int) ≤ (m : Int) := by omega
        have hjp1 : (j : Int) ≤ (p1 : Int) := by omega
        have hjp2 : (j : Int) ≤ (p2 : Int) := by omega
        have hpj : ¬ p1 = j := by omega
        have hpj2 : ¬ p2 = j := by omega
        have HPt := Hd hpt
        clear hpt s1 s2 s5
        have hc1 : ∀ u, Below w.heap.size w u → ∀ (q : Nat) v, (strV (x.keys.drop j))[q]? = some v → u.cell? ⟨g1, j + q, none⟩ = some v := fun u hu q v hq => by
          rw [hu.cell (p := ⟨g1, j + q, none⟩) HG1.out]
          rw [strV_drop, List.getElem?_drop] at hq
          have hlq : j + q < m := by have := (List.getElem?_eq_some_iff.1 hq).1; rw [strV_length, HM.out] at this; exact this
          rw [strV_get _ _ (by rw [HM.out]; exact hlq)] at hq
          rw [← Option.some.inj hq]
          exact HQ1.out (j + q) hlq
        have hdw : Below w.heap.size w wr.drew := ⟨HB.out.os, HB.out.tape, HB.out.output, HB.out.size, HB.out.block⟩
        have HC1 := Hd (Tryz.slices_Clone_f251 i0 _ 1 16 HI.out Hz0.out Hz1.out Hz2.out (by rfl) (by decide) Tryz.sizeOf9 g1 j (m - j) (p1 - j) (strV (x.keys.drop j)) wr.drew (by rw [strV_length, List.length_drop, HM.out, Nat.mul_one]) (by unfold maxLen; omega) (by omega) (fun q v hq => hc1 _ hdw q v hq) (strV_one _))
        clear hc1
        go_wp2_with (go_at_call 212; refine (HSr.out).mono ?_; rintro e _ ⟨rfl, rfl⟩)
        obtain ⟨S, hS⟩ : ∃ S : World → Prop, ∀ u, S u ↔ Keep (fun _ => False) (wr) u := ⟨fun u => Keep (fun _ => False) (wr) u, fun _ => Iff.rfl⟩
        have HS := Hd hS
        clear hS
        refine wp_region_ord 11 [(0, true), (1, true), (2, true), (3, true), (4, true), (5, true), (6, true), (7, true), (8, true), (9, true), (10, false)] S (by kernel_rfl) (by kernel_rfl) ((HS.out _).2 (Keep.refl _ _).drew) ?_
        iterate 10
          first
            | (refine wpH_passed rfl (by rfl) (fun K hK => ?_); go_simp; refine hK _ ?_; clear hK K)
            | (first
                 | refine wpH_read rfl rfl (fun K hK => ?_)
                 | refine wpH_readw rfl (by rfl) (fun K hK => ?_)
               apply Exists.intro
               refine ⟨fun u hu => ?_, ?_⟩
               · have hu := (HS.out u).1 hu
                 have c0 : u.cell? ⟨b, 0, none⟩ = some (.bool false) := by rw [hu.cell (p := ⟨b, 0, none⟩) (Nat.lt_of_lt_of_le HLt.out HB.out.size) (fun e => e), HB.out.cell (p := ⟨b, 0, none⟩) HLt.out]; exact Lib.cell_of_heap HCl.out 0
                 have c1 : u.cell? ⟨b, 1, none⟩ = some (.slice (some ⟨g1, 0, none⟩) m p1) := by rw [hu.cell (p := ⟨b, 1, none⟩) (Nat.lt_of_lt_of_le HLt.out HB.out.size) (fun e => e), HB.out.cell (p := ⟨b, 1, none⟩) HLt.out]; exact Lib.cell_of_heap HCl.out 1
                 clear hu
                 go_simp
                 exact ⟨rfl, rfl⟩
               go_simp
               refine hK _ ?_
               clear hK K)
        first | refine wpH_do rfl rfl (fun K hK => ?_) | refine wpH_dow rfl (by rfl) (fun K hK => ?_)
        go_simp
        go_at_call 251
        refine (HC1.out).mono ?_
        rintro e w2 ⟨v2, rfl, hrow2, hnn2, hb2⟩
        have hb2' : Below wr.heap.size wr w2 := ⟨hb2.os, hb2.tape, hb2.output, hb2.size, hb2.block⟩
        obtain ⟨sa, sc, hv2⟩ := slice_formB hrow2
        subst hv2
        have HRow2 := Hd hrow2
        have HB2 := Hd (HB.out.trans (hb2'.mono HB.out.size))
        have HW2 := Hd hb2'.size
        refine hK _ _ ((HS.out _).2 (Keep.ofBelow hb2')) ?_
        clear hK K hrow2 hnn2 hb2 hb2'
        refine wpH_nil ?_
        simp only [List.drop_succ_cons, List.drop_zero]
        clear S HS
        have hnew := heap_alloc_new w2 (.cells #[.bool false, .slice sa (m - j) sc, .slice none 0 0, .slice none 0 0] 247)
        have hb3 : Below w.heap.size w (w2.alloc (.cells #[.bool false, .slice sa (m - j) sc, .slice none 0 0, .slice none 0 0] 247)) := HB2.out.alloc HB2.out.size _
        have hrow3 : (w2.alloc (.cells #[.bool false, .slice sa (m - j) sc, .slice none 0 0, .slice none 0 0] 247)).ownsRow wr.heap.size 9 1 (.slice sa (m - j) sc) (m - j) (strV (x.keys.drop j)) := HRow2.out.alloc _
        obtain ⟨rb, hrb⟩ : ∃ rb, w2.heap.size = rb := ⟨_, rfl⟩
        have hrbl : rb < (w2.alloc (.cells #[.bool false, .slice sa (m - j) sc, .slice none 0 0, .slice none 0 0] 247)).heap.size := by rw [← hrb]; simp
        obtain ⟨w3, hw3⟩ : ∃ w3, w2.alloc (.cells #[.bool false, .slice sa (m - j) sc, .slice none 0 0, .slice none 0 0] 247) = w3 := ⟨_, rfl⟩
        rw [hw3] at hnew hb3 hrow3 hrbl
        rw [hrb] at hnew
        have hbc : w3.heap[b]? = some (.cells #[.bool false, .slice (some ⟨g1, 0, none⟩) m p1, vv, .slice (some ⟨g2, 0, none⟩) m p2] 247 (0, 0)) := (hb3.block b HLt.out).trans HCl.out
        have hgr : w.heap.size ≤ rb := by rw [← hrb]; exact HB2.out.size
        have hbr : b ≠ rb := by have := HLt.out; omega
        have c1 : w3.cell? ⟨b, 1, none⟩ = some (.slice (some ⟨g1, 0, none⟩) m p1) := Lib.cell_of_heap hbc 1
        have f1 : w3.frozen? ⟨b, 1, none⟩ = false := froz_of hbc
        have hbc4 : (w3.setCell ⟨b, 1, none⟩ (.slice (some ⟨g1, 0, none⟩) j j)).heap[b]? = some (.cells #[.bool false, .slice (some ⟨g1, 0, none⟩) j j, vv, .slice (some ⟨g2, 0, none⟩) m p2] 247 (0, 0)) := heap_setCell_same w3 b 1 _ _ _ hbc
        have k4 : Keep (fun q => q = b) w3 (w3.setCell ⟨b, 1, none⟩ (.slice (some ⟨g1, 0, none⟩) j j)) := (Keep.refl (fun q => q = b) w3).setCell (p := ⟨b, 1, none⟩) (fun _ => rfl) _
        have k04 : Keep (fun q => q = b) w (w3.setCell ⟨b, 1, none⟩ (.slice (some ⟨g1, 0, none⟩) j j)) := (Keep.ofBelow (S := fun q => q = b) (hb3)).trans k4 (fun _ _ e => e)
        obtain ⟨w4, hw4⟩ : ∃ w4, w3.setCell ⟨b, 1, none⟩ (.slice (some ⟨g1, 0, none⟩) j j) = w4 := ⟨_, rfl⟩
        rw [hw4] at hbc4 k4 k04
        have hrb4 := k4.at hnew (fun e => hbr e.symm)
        have hrow4 := k4.ownsRow hrow3 (fun q e e2 => by have := (hrow3.lt q e).1; have := HLt.out; have := HB.out.size; omega)
        have c0 : w4.cell? ⟨b, 0, none⟩ = some (.bool false) := Lib.cell_of_heap hbc4 0
        have c2 : w4.cell? ⟨b, 3, none⟩ = some (.slice (some ⟨g2, 0, none⟩) m p2) := Lib.cell_of_heap hbc4 3
        have hlt4 : ∀ q, q < w.heap.size → q ≠ b → q < w4.heap.size := fun q hq _ => Nat.lt_of_lt_of_le hq k04.size
        have HC2 := Hd (Tryz.slices_Clone_f252 k0 _ 1 8 HJ.out Hy0.out Hy1.out Hy2.out (by rfl) (by decide) Tryz.sizeOf3 g2 j (m - j) (p2 - j) (intV (x.kids.drop j)) w4 (by rw [intV_length, List.length_drop, HVl.out, Nat.mul_one]) (by unfold maxLen; omega) (by omega) (fun q v hq => by
          rw [k04.cell (p := ⟨g2, j + q, none⟩) HG2.out (fun e => HNe2.out e)]
          rw [intV_drop, List.getElem?_drop] at hq
          have hlq : j + q < m := by have := (List.getElem?_eq_some_iff.1 hq).1; rw [intV_length, HVl.out] at this; exact this
          rw [intV_get _ _ (by rw [HVl.out]; exact hlq)] at hq
          rw [← Option.some.inj hq]
          exact HQ2.out (j + q) hlq) (intV_one _))
        have HBc4 := Hd hbc4
        have HK04 := Hd k04
        have HRb4 := Hd hrb4
        have HRow4 := Hd hrow4
        have hz2 := HW2.out
        have hz4 := k4.size
        have hz3 : w2.heap.size < w3.heap.size := by rw [hrb]; exact hrbl
        have HLe := Hd (show w.heap.size ≤ rb ∧ b ≠ rb ∧ rb < w4.heap.size ∧ wr.heap.size ≤ w4.heap.size ∧ w.heap.size ≤ wr.heap.size from ⟨hgr, hbr, Nat.lt_of_lt_of_le hrbl hz4, by omega, HB.out.size⟩)
        clear hz2 hz3 hz4
        clear hbc4 k4 k04 hrb4 hrow4 hnew hb3 hrow3 hbc hlt4 hrbl
        go_wp2_with (fail)
        refine (HC2.out).mono ?_
        rintro e w5 ⟨v5, rfl, hrow5, _, hb5⟩
        obtain ⟨sb, sd, hv5⟩ := slice_formB hrow5
        subst hv5
        obtain ⟨z1, z2, z3, z4, z5⟩ := HLe.out
        have hbc5 := (Keep.still hb5).at HBc4.out (fun e => e)
        have hrb5 := (Keep.still hb5).at HRb4.out (fun e => e)
        have hrow45 := (Keep.still hb5).ownsRow HRow4.out (fun _ _ e => e)
        have o2 : w5.cell? ⟨rb, 3, none⟩ = some (.slice none 0 0) := Lib.cell_of_heap hrb5 3
        have fo : w5.frozen? ⟨rb, 3, none⟩ = false := froz_of hrb5
        have k6 : Keep (fun q => q = rb) w5 (w5.setCell ⟨rb, 3, none⟩ (.slice sb (m - j) sd)) := (Keep.refl (fun q => q = rb) w5).setCell (p := ⟨rb, 3, none⟩) (fun _ => rfl) _
        have hrb6 : (w5.setCell ⟨rb, 3, none⟩ (.slice sb (m - j) sd)).heap[rb]? = some (.cells #[.bool false, .slice sa (m - j) sc, .slice none 0 0, .slice sb (m - j) sd] 247 (0, 0)) := heap_setCell_same w5 rb 3 _ _ _ hrb5
        have hbc6 := k6.at hbc5 z2
        have hrow6 := k6.ownsRow hrow5 (fun q e e2 => by have := (hrow5.lt q e).1; omega)
        have hrow46 := k6.ownsRow hrow45 (fun q e e2 => by
          have h1 := (HRow2.out.lt q e).2
          rw [hrb] at h1
          omega)
        obtain ⟨w6, hw6⟩ : ∃ w6, w5.setCell ⟨rb, 3, none⟩ (.slice sb (m - j) sd) = w6 := ⟨_, rfl⟩
        rw [hw6] at k6 hrb6 hbc6 hrow6 hrow46
        have c2 : w6.cell? ⟨b, 3, none⟩ = some (.slice (some ⟨g2, 0, none⟩) m p2) := Lib.cell_of_heap hbc6 3
        have f2 : w6.frozen? ⟨b, 3, none⟩ = false := froz_of hbc6
        have k7 : Keep (fun q => q = b) w6 (w6.setCell ⟨b, 3, none⟩ (.slice (some ⟨g2, 0, none⟩) j j)) := (Keep.refl (fun q => q = b) w6).setCell (p := ⟨b, 3, none⟩) (fun _ => rfl) _
        have hbc7 : (w6.setCell ⟨b, 3, none⟩ (.slice (some ⟨g2, 0, none⟩) j j)).heap[b]? = some (.cells #[.bool false, .slice (some ⟨g1, 0, none⟩) j j, vv, .slice (some ⟨g2, 0, none⟩) j j] 247 (0, 0)) := heap_setCell_same w6 b 3 _ _ _ hbc6
        have hrb7 := k7.at hrb6 (fun e => z2 e.symm)
        have hrow7 := k7.ownsRow hrow6 (fun q e e2 => by have := (hrow6.lt q e).1; have := HLt.out; omega)
        have hrow47 := k7.ownsRow hrow46 (fun q e e2 => by have := (hrow46.lt q e).1; have := HLt.out; omega)
        have k07 : Keep (fun q => q = b) w (w6.setCell ⟨b, 3, none⟩ (.slice (some ⟨g2, 0, none⟩) j j)) :=
          ((HK04.out.trans (Keep.ofBelow (S := fun _ => False) hb5) (fun _ _ e => e.elim)).trans k6 (fun q hq e => by omega)).trans k7 (fun _ _ e => e)
        obtain ⟨w7, hw7⟩ : ∃ w7, w6.setCell ⟨b, 3, none⟩ (.slice (some ⟨g2, 0, none⟩) j j) = w7 := ⟨_, rfl⟩
        rw [hw7] at k07 hbc7 hrb7 hrow7 hrow47
        have hoth : x.vals = [] := List.length_eq_zero_iff.1 (by have := HOk.out.vals; rw [HLf.out] at this; simpa using this)
        have hleft : NdRd w7 b (x.take j) (ndOwn b (.slice (some ⟨g1, 0, none⟩) m p1) vv (.slice (some ⟨g2, 0, none⟩) m p2)) := by
          have rk : RowAt w7 (.slice (some ⟨g1, 0, none⟩) j j) (strV (x.take j).keys) := by
            have hlen : (strV (x.take j).keys).length = j := by rw [strV_length]; show (x.keys.take j).length = j; rw [List.length_take, HM.out]; omega
            refine ⟨some ⟨g1, 0, none⟩, g1, 0, j, by rw [hlen], fun _ => ⟨rfl, Nat.lt_of_lt_of_le HG1.out k07.size⟩, fun q v hq => ?_⟩
            have hlq : q < j := by have := (List.getElem?_eq_some_iff.1 hq).1; omega
            rw [Nat.zero_add, k07.cell (p := ⟨g1, q, none⟩) HG1.out (fun e => HNe1.out e), HQ1.out q (by omega)]
            have h5 := strV_get (x.take j).keys q (by rw [← strV_length]; omega)
            rw [hq] at h5
            rw [h5]
            show some (Value.string (x.keys.getD q ⟨#[]⟩)) = some (Value.string ((x.keys.take j).getD q ⟨#[]⟩))
            rw [getD_take _ _ _ _ hlq]
          have rl : RowAt w7 (.slice (some ⟨g2, 0, none⟩) j j) (intV (x.take j).kids) := by
            have hlen : (intV (x.take j).kids).length = j := by rw [intV_length]; show (x.kids.take j).length = j; rw [List.length_take, HVl.out]; omega
            refine ⟨some ⟨g2, 0, none⟩, g2, 0, j, by rw [hlen], fun _ => ⟨rfl, Nat.lt_of_lt_of_le HG2.out k07.size⟩, fun q v hq => ?_⟩
            have hlq : q < j := by have := (List.getElem?_eq_some_iff.1 hq).1; omega
            rw [Nat.zero_add, k07.cell (p := ⟨g2, q, none⟩) HG2.out (fun e => HNe2.out e), HQ2.out q (by omega)]
            have h5 := intV_get (x.take j).kids q (by rw [← intV_length]; omega)
            rw [hq] at h5
            rw [h5]
            show some ((fun (n : Nat) => Value.int .i64 (n : Int)) (x.kids.getD q 0)) = some ((fun (n : Nat) => Value.int .i64 (n : Int)) ((x.kids.take j).getD q 0))
            rw [getD_take _ _ _ _ hlq]
          have ro : RowAt w7 vv (strV (x.take j).vals) := by
            have h5 := (row_read HH.out.vals).keep k07 (fun q e e2 => HH.out.ne.2.1 (by rw [e, e2]))
            rw [hoth] at h5
            show RowAt w7 vv (strV (x.vals.take j))
            rw [hoth, List.take_nil]
            exact h5
          refine ⟨Nat.lt_of_lt_of_le HLt.out k07.size, .inl rfl, _, _, _, ?_, Lib.cell_of_heap hbc7 1, Lib.cell_of_heap hbc7 2, Lib.cell_of_heap hbc7 3, rk, ro, rl, fun q e => .inr (.inl e), fun q e => .inr (.inr (.inl e)), fun q e => .inr (.inr (.inr e))⟩
          show _ = some (Value.bool x.leaf)
          rw [HLf.out]
          exact Lib.cell_of_heap hbc7 0
        have hright : NdRd w7 rb (x.drop j) (fun k => w.heap.size ≤ k ∧ k < w7.heap.size) := by
          have e1 : (strV (x.keys.drop j)).length = m - j := by rw [strV_length, List.length_drop, HM.out]
          have rk := row_read (ownsRow.base0 hrow47)
          have rl := row_read (ownsRow.base0 hrow7)
          have ro : RowAt w7 (.slice none 0 0) (strV (x.drop j).vals) := by
            show RowAt w7 (.slice none 0 0) (strV (x.vals.drop j))
            rw [hoth, List.drop_nil]
            exact ⟨none, 0, 0, 0, rfl, fun h => absurd h (by simp [strV]), fun q v hq => by simp [strV] at hq⟩
          refine ⟨(Gl hrb7), ⟨z1, (Gl hrb7)⟩, _, _, _, ?_, Lib.cell_of_heap hrb7 1, Lib.cell_of_heap hrb7 2, Lib.cell_of_heap hrb7 3, rk, ro, rl, fun q e => ⟨Nat.le_trans z5 (hrow47.lt q e).1, (hrow47.lt q e).2⟩, (fun q e => by cases e), fun q e => ⟨Nat.le_trans z5 (Nat.le_trans z4 (hrow7.lt q e).1), (hrow7.lt q e).2⟩⟩
          show _ = some (Value.bool x.leaf)
          rw [HLf.out]
          exact Lib.cell_of_heap hrb7 0
        have HL7 := Hd hleft
        have HR7 := Hd hright
        have HK7 := Hd k07
        clear hleft hright k07 hbc7 hrb7 hrow7 hrow47 k7 k6 hrb6 hbc6 hrow6 hrow46 hbc5 hrb5 hrow45 hrow5 hb5 hoth
        go_wp2
        go_ret
        exact ⟨rb, j, rfl, HPt.out, HL7.out, HR7.out, HK7.out⟩
end Go.Proofs.YtaokjeokpifjgaaGreatDoor

namespace Go.Proofs.YtaokjeokpifjgaaGreatDoor
set_option maxRecDepth 100000

def Laid (R R' : RoomS) (p : Nat) (x : Nd) (e : Ending) : Prop :=
  (x.size ≤ 512 ∧ e = .returned (.tuple #[.string ⟨#[]⟩, .int .i64 0, .bool false]) ∧ Wrote R R' p (fullS x.text)) ∨
  ∃ a q R1, PartAt x a ∧ 512 < x.size ∧ e = .returned (.tuple #[.string ((x.drop a).keys.getD 0 ⟨#[]⟩), .int .i64 (q : Nat), .bool true]) ∧ Wrote R R1 p (fullS (x.take a).text) ∧ R1.maps = R.maps ∧ R1.pages = R.pages ∧ Freshed R1 R' q (fullS (x.drop a).text)
theorem leafOf_keys (kv : KV) : (leafOf kv).keys = kv.map Prod.fst := rfl
theorem leaf_set {l1 l3 : KV} {key v0 val : ByteArray} : ({ leafOf (l1 ++ (key, v0) :: l3) with vals := (leafOf (l1 ++ (key, v0) :: l3)).vals.set l1.length val } : Nd) = leafOf (l1 ++ (key, val) :: l3) := by
  unfold leafOf
  simp [List.map_append]
theorem leaf_ins {l1 l2 : KV} {key val : ByteArray} {kid : Nat} : (leafOf (l1 ++ l2)).ins l1.length key val kid = leafOf (l1 ++ (key, val) :: l2) := by
  unfold leafOf Nd.ins
  simp [List.map_append]
theorem inner_ins {l1 l2 : List Kid} {c c1 c2 : Kid} (h1 : c1.key = c.key) (h2 : c1.page = c.page) (v : ByteArray) : (innerOf (l1 ++ c :: l2)).ins (l1.length + 1) c2.key v c2.page = innerOf (l1 ++ ([c1, c2] ++ l2)) := by
  unfold innerOf Nd.ins
  have e1 : (l1 ++ c :: l2).map Kid.key = (l1.map Kid.key ++ [c.key]) ++ l2.map Kid.key := by simp
  have e2 : (l1 ++ c :: l2).map Kid.page = (l1.map Kid.page ++ [c.page]) ++ l2.map Kid.page := by simp
  simp only [Bool.false_eq_true, if_false, e1, e2]
  have l1' : l1.length + 1 = (l1.map Kid.key ++ [c.key]).length := by simp
  have l2' : l1.length + 1 = (l1.map Kid.page ++ [c.page]).length := by simp
  rw [l1', List.take_left' rfl, List.drop_left' rfl, ← l1', l2', List.take_left' rfl, List.drop_left' rfl]
  simp [h1, h2]
theorem leaf_ok {kv : KV} : (leafOf kv).ok ↔ ∀ x ∈ kv, x.1.size ≤ 96 ∧ x.2.size ≤ 56 := by
  refine ⟨fun h x hx => ⟨h.k96 _ (List.mem_map.2 ⟨x, hx, rfl⟩), h.v56 _ (List.mem_map.2 ⟨x, hx, rfl⟩)⟩, fun h => ⟨?_, rfl, fun k hk => ?_, fun v hv => ?_, fun c hc => by cases hc⟩⟩
  · show (kv.map Prod.snd).length = if true = true then (kv.map Prod.fst).length else 0
    rw [if_pos rfl, List.length_map, List.length_map]
  · obtain ⟨x, hx, rfl⟩ := List.mem_map.1 hk
    exact (h x hx).1
  · obtain ⟨x, hx, rfl⟩ := List.mem_map.1 hv
    exact (h x hx).2
theorem inner_ok {cs : List Kid} : (innerOf cs).ok ↔ ∀ c ∈ cs, c.key.size ≤ 96 ∧ c.page < 65536 := by
  refine ⟨fun h x hx => ⟨h.k96 _ (List.mem_map.2 ⟨x, hx, rfl⟩), h.c32 _ (List.mem_map.2 ⟨x, hx, rfl⟩)⟩, fun h => ⟨rfl, ?_, fun k hk => ?_, (fun v hv => by cases hv), fun c hc => ?_⟩⟩
  · show (cs.map Kid.page).length = if false = true then 0 else (cs.map Kid.key).length
    rw [if_neg (by decide), List.length_map, List.length_map]
  · obtain ⟨x, hx, rfl⟩ := List.mem_map.1 hk
    exact (h x hx).1
  · obtain ⟨x, hx, rfl⟩ := List.mem_map.1 hc
    exact (h x hx).2
def kvSum (kv : KV) : Nat := (kv.map (fun x => 2 + x.1.size + x.2.size)).sum
def kidSum (cs : List Kid) : Nat := (cs.map (fun c => 5 + c.key.size)).sum
theorem leaf_size (kv : KV) : (leafOf kv).size = 3 + kvSum kv := by
  have h : ∀ kv : KV, (entsB true (kv.map Prod.fst) (kv.map Prod.snd) []).length = kvSum kv := by
    intro kv
    induction kv with
    | nil => rfl
    | cons x t ih =>
      have e : entsB true ((x :: t).map Prod.fst) ((x :: t).map Prod.snd) [] = lenB x.1 ++ lenB x.2 ++ entsB true (t.map Prod.fst) (t.map Prod.snd) [] := rfl
      rw [e, List.length_append, List.length_append, lenB_length, lenB_length, ih]
      show _ = (2 + x.1.size + x.2.size) + kvSum t
      omega
  show ((if (leafOf kv).leaf then (76 : UInt8) else 78) :: UInt8.ofNat _ :: UInt8.ofNat _ :: entsB true (kv.map Prod.fst) (kv.map Prod.snd) []).length = _
  rw [List.length_cons, List.length_cons, List.length_cons, h]
  omega
theorem inner_size (cs : List Kid) : (innerOf cs).size = 3 + kidSum cs := by
  have h : ∀ cs : List Kid, (entsB false (cs.map Kid.key) [] (cs.map Kid.page)).length = kidSum cs := by
    intro cs
    induction cs with
    | nil => rfl
    | cons x t ih =>
      have e : entsB false ((x :: t).map Kid.key) [] ((x :: t).map Kid.page) = lenB x.key ++ be4 x.page ++ entsB false (t.map Kid.key) [] (t.map Kid.page) := rfl
      rw [e, List.length_append, List.length_append, lenB_length, ih]
      show 1 + x.key.size + 4 + kidSum t = (5 + x.key.size) + kidSum t
      omega
  show ((if (innerOf cs).leaf then (76 : UInt8) else 78) :: UInt8.ofNat _ :: UInt8.ofNat _ :: entsB false (cs.map Kid.key) [] (cs.map Kid.page)).length = _
  rw [List.length_cons, List.length_cons, List.length_cons, h]
  omega
theorem kvSum_append (a b : KV) : kvSum (a ++ b) = kvSum a + kvSum b := by unfold kvSum; rw [List.map_append, List.sum_append]
theorem kidSum_append (a b : List Kid) : kidSum (a ++ b) = kidSum a + kidSum b := by unfold kidSum; rw [List.map_append, List.sum_append]
theorem kvSum_cons (x : ByteArray × ByteArray) (b : KV) : kvSum (x :: b) = (2 + x.1.size + x.2.size) + kvSum b := rfl
theorem kidSum_cons (x : Kid) (b : List Kid) : kidSum (x :: b) = (5 + x.key.size) + kidSum b := rfl
theorem ins_size {kv : KV} (hs : Sorted kv) {key val : ByteArray} (hk : key.size ≤ 96) (hv : val.size ≤ 56) : (leafOf (ins kv key val)).size ≤ (leafOf kv).size + 154 := by
  obtain ⟨l1, l2, he, h1, h2⟩ := leaf_at hs key
  rw [leaf_size, leaf_size]
  by_cases hth : ∃ v0 l3, l2 = (key, v0) :: l3
  · obtain ⟨v0, l3, rfl⟩ := hth
    rw [he, leaf_there h1, kvSum_append, kvSum_append, kvSum_cons, kvSum_cons]
    simp only
    omega
  · rw [he, leaf_new h1 h2 (fun v0 l3 e => hth ⟨v0, l3, e⟩), kvSum_append, kvSum_append, kvSum_cons]
    simp only
    omega
theorem ins_ok {kv : KV} (h : (leafOf kv).ok) {key val : ByteArray} (hk : key.size ≤ 96) (hv : val.size ≤ 56) : (leafOf (ins kv key val)).ok :=
  leaf_ok.2 (fun x hx => (ins_mem hx).elim (fun e => by rw [e]; exact ⟨hk, hv⟩) (leaf_ok.1 h x))
end Go.Proofs.YtaokjeokpifjgaaGreatDoor

namespace Go.Proofs.YtaokjeokpifjgaaGreatDoor
open Go.RowKit Go.MapKept
attribute [local go_sem] gives givesH
set_option maxRecDepth 100000

theorem RoomAt.foot_lt9 {w : World} {br : Nat} {R : RoomS} (h : RoomAt w br R) {k : Nat} (hk : R.foot br k) : k < w.heap.size := by
  rcases hk with e | e
  · subst e; exact (Gl h.cells)
  · exact h.tx.foot_lt e
theorem RoomStep.aside {br : Nat} {w w1 w2 : World} {R R1 : RoomS} {S : Nat → Prop} (h : RoomStep br w R w1 R1) (hk : Keep S w1 w2) (hS : ∀ k, S k → w.heap.size ≤ k) (hf : ∀ k, R1.foot br k → ¬ S k) : RoomStep br w R w2 R1 := by
  refine ⟨h.at_.keep hk hf, h.bt, h.maps, h.pages, ⟨h.tx.at_.keep hk (fun k e => hf k (.inr (by rw [h.bt]; exact e))), h.tx.bl, h.tx.n, h.tx.f, h.tx.Fl, h.tx.keep.trans hk (fun i hi e => by have := hS i e; omega), h.tx.own⟩⟩
theorem NdAt.setVal {w : World} {b g n c : Nat} {kv cv : Value} {x : Nd} (h : NdAt w b kv (.slice (some ⟨g, 0, none⟩) n c) cv x) (hn : x.vals.length = n) (i : Nat) (val : ByteArray) :
    NdStep b w kv (.slice (some ⟨g, 0, none⟩) n c) cv (w.setCell ⟨g, i, none⟩ (.string val)) kv (.slice (some ⟨g, 0, none⟩) n c) cv { x with vals := x.vals.set i val } := by
  have K : Keep (fun k => k = g) w (w.setCell ⟨g, i, none⟩ (.string val)) := (Keep.refl (fun k => k = g) w).setCell (p := ⟨g, i, none⟩) (fun _ => rfl) _
  have hv := h.vals
  rw [hn] at hv
  have h2 := (hv.stored i (.string val)).1
  refine ⟨⟨K.at h.cells (fun e => h.ne.2.1 (by rw [e]; rfl)), K.ownsRow h.keys (fun k e e2 => (h.apart.1 k e).1 (by rw [e2]; rfl)), ?_, K.ownsRow h.kids (fun k e e2 => h.apart.2 k (by rw [e2]; rfl) e), h.ne, h.apart⟩, K.mono (fun k _ e => .inr (.inr (.inl (by rw [e]; rfl)))), fun k e => .inl e⟩
  show (w.setCell ⟨g, i, none⟩ (.string val)).ownsRow 0 9 1 _ (x.vals.set i val).length (strV (x.vals.set i val))
  rw [List.length_set, hn]
  have e : strV (x.vals.set i val) = (strV x.vals).set i (.string val) := by unfold strV; rw [List.map_set]
  rw [e]
  exact h2
set_option maxHeartbeats 4000000 in
theorem put_leaf {w : World} {tb br pl deep : Nat} {R : RoomS} {p : Nat} {kv : KV} {key val : ByteArray} (ht : TreeAt w tb br pl) (htb : ¬ R.foot br tb) (hr : RoomAt w br R) (hlen : R.T.puts.length + 100 < 1000000000000) (hp : PageIs R p (leafOf kv)) (hs : Sorted kv) (hk : key.size ≤ 96) (hv : val.size ≤ 56) (hd : deep ≤ 20)
    (hfree : ∃ q, q < R.pages ∧ R.has q = false) :
    Calls Tryz.prog 157 #[.pointer (some ⟨tb, 0, none⟩), .int .i64 p, .string key, .string val, .int .i64 deep] w fun e w' => ∃ R', RoomStep br w R w' R' ∧ Laid R R' p (leafOf (ins kv key val)) e := by
  have HRd := Hd (tread_any ht hr hp)
  obtain ⟨l1, l2, he, h1, h2⟩ := leaf_at hs key
  obtain ⟨hp1, hp2, hp3, hp4, hp5, hp6⟩ := hp
  have hlen6 := (leafOf kv).keys_lt hp4 (by omega)
  have HFd := Hd (fun u b (hu : NdR u b (leafOf kv)) => find_any (key := key) (l1 := l1.map Prod.fst) (l2 := l2.map Prod.fst) hu (by rw [leafOf_keys, he, List.map_append]) (fun k hk => by
    obtain ⟨x, hx, rfl⟩ := List.mem_map.1 hk
    exact h1 x hx) (fun k hk => by
    obtain ⟨x, hx, rfl⟩ := List.mem_map.1 hk
    exact h2 x hx) hlen6)
  rw [List.length_map] at HFd
  have d0 : decide ((20 : Int) < (deep : Int)) = false := by simp; omega
  have d0' : decide (20 < deep) = false := by simp; omega
  have HR := Hd hr
  have HT := Hd ht
  have HTb0 := Hd htb
  have HPu := Hd hlen
  have HHas := Hd (show p < R.pages ∧ R.has p = true from ⟨hp1, hp2⟩)
  have HFr := Hd hfree
  have HFit := Hd (show R.pages ≤ R.maps * 4096 by have := hr.fit.1; omega)
  have hlf : l1.length ≤ (leafOf kv).keys.length := by rw [leafOf_keys, List.length_map, he, List.length_append]; omega
  have HLl := Hd hlf
  have HL6 := Hd hlen6
  have HE := Hd he
  have hms : (leafOf kv).size ≤ 512 := hp6
  have hk4 := hp4
  have HSo := Hd hs
  clear ht htb hr hlen hp1 hp2 hp3 hp5 hp6 hfree hlf
  have hok : (leafOf (ins kv key val)).ok := ins_ok hk4 hk hv
  have hmo : (leafOf (ins kv key val)).size ≤ 512 + (leafOf (ins kv key val)).most := by
    have h5 := ins_size hs hk hv
    have h6 : (leafOf (ins kv key val)).most = 154 := rfl
    omega
  have HOk := Hd hok
  have HMo := Hd hmo
  clear hok hmo hms hk4
  by_cases hth : ∃ v0 l3, l2 = (key, v0) :: l3
  · obtain ⟨v0, l3, rfl⟩ := hth
    have hins : ins kv key val = l1 ++ (key, val) :: l3 := by rw [he]; exact leaf_there h1
    have HIns := Hd hins
    have hfd : decide ((((key, v0) :: l3).map Prod.fst).head? = some key) = true := by simp
    rw [hfd] at HFd
    obtain ⟨i, hil⟩ : ∃ i, l1.length = i := ⟨_, rfl⟩
    rw [hil] at HFd
    have HIl := Hd hil
    clear hfd h1 h2 hins hil
    obtain ⟨x', hx'⟩ : ∃ x', leafOf (ins kv key val) = x' := ⟨_, rfl⟩
    rw [hx'] at HOk HMo
    have HXo := Hd hx'
    rw [HIns.out] at hx'
    have HX := Hd hx'
    clear hx'
    go_enter Tryz.func157, Tryz.ntmps157
    go_wp2_with (fail)
    refine (HRd.out).mono ?_
    rintro e w1 ⟨nb, ka, va, ca, rfl, hnd, hnw, hb1⟩
    have c0 : w1.cell? ⟨nb, 0, none⟩ = some (.bool true) := Lib.cell_of_heap hnd.cells 0
    have HF1 := Hd (HFd.out w1 nb hnd.read)
    have HN1 := Hd hnd
    have HNw1 := Hd hnw
    have HB1 := Hd hb1
    clear hnd hnw hb1
    go_wp2_with (fail)
    refine (HF1.out).mono ?_
    rintro e w2 ⟨rfl, hb2⟩
    have hn2 := HN1.out.still hb2
    have hvl : (leafOf kv).vals.length = (leafOf kv).keys.length := by show (kv.map Prod.snd).length = (kv.map Prod.fst).length; rw [List.length_map, List.length_map]
    have hi2 : i < (leafOf kv).vals.length := by rw [← HIl.out, hvl, leafOf_keys, List.length_map, HE.out, List.length_append, List.length_cons]; omega
    obtain ⟨g2, p2, hva, hnp, _, _⟩ := row_posB hn2.vals (by omega)
    subst hva
    obtain ⟨n, hn⟩ : ∃ n, (leafOf kv).vals.length = n := ⟨_, rfl⟩
    rw [hn] at hi2 hnp hn2
    have hst := hn2.setVal hn i val
    have hxe : ({ leafOf kv with vals := (leafOf kv).vals.set i val } : Nd) = x' := by rw [← HIl.out, HE.out, leaf_set]; exact HX.out
    rw [hxe] at hst
    have c2 : w2.cell? ⟨nb, 2, none⟩ = some (.slice (some ⟨g2, 0, none⟩) n p2) := Lib.cell_of_heap hn2.cells 2
    have hv2 := hn2.vals
    rw [hn] at hv2
    have f2 : w2.frozen? ⟨g2, i, none⟩ = false := hv2.frozenAt _
    have q2 : w2.cell? ⟨g2, i, none⟩ = some (.string ((leafOf kv).vals.getD i ⟨#[]⟩)) := by
      have := hv2.cells rfl i _ (strV_get _ _ (by rw [hn]; exact hi2))
      rwa [addr_add9] at this
    have i0 : (0 : Int) ≤ (i : Int) := by omega
    have i1 : (i : Int) < (n : Int) := by omega
    obtain ⟨ov, hov⟩ : ∃ ov, (leafOf kv).vals.getD i ⟨#[]⟩ = ov := ⟨_, rfl⟩
    rw [hov] at q2
    have hbn : Below w.heap.size w (w2.setCell ⟨g2, i, none⟩ (.string val)) := (HB1.out.trans (hb2.mono HB1.out.size)).trans (hst.keep.below (Nat.le_trans HB1.out.size hb2.size) (fun q hq e => by have := HNw1.out q e; omega))
    obtain ⟨wn, hwn⟩ : ∃ wn, w2.setCell ⟨g2, i, none⟩ (.string val) = wn := ⟨_, rfl⟩
    rw [hwn] at hst hbn
    have HNd := Hd hst.nd
    have HNw := Hd HNw1.out
    have HAp := Hd (show ∀ k, ndOwn nb ka (.slice (some ⟨g2, 0, none⟩) n p2) ca k → ¬ R.foot br k from fun k hk e => by have := HNw1.out k hk; have := HR.out.foot_lt9 e; omega)
    have HTo := Hd (show ¬ ndOwn nb ka (.slice (some ⟨g2, 0, none⟩) n p2) ca tb from fun e => by have := HNw1.out tb e; have := (Gl HT.out.cells); omega)
    have HStp := Hd (RoomStep.still HR.out hbn)
    have HTr := Hd (show TreeAt wn tb br pl from ⟨(hbn.block tb (Gl HT.out.cells)).trans HT.out.cells⟩)
    have HTb := Hd HTb0.out
    clear hn2 hvl hst hxe hv2 hov hbn hb2 hn
    go_wp2_with (fail)
    have hszb : x'.size ≤ 666 := by have := HMo.out; unfold Nd.most at this; split at this <;> omega
    have hSz := size_any HNd.out.read HOk.out.s (x'.keys_lt HOk.out hszb)
    obtain ⟨sz, hsz⟩ : ∃ sz, x'.size = sz := ⟨_, rfl⟩
    rw [hsz] at hSz hszb
    have HSz := Hd hSz
    have HS0 := Hd hsz
    clear hSz hsz
    by_cases hfit : sz ≤ 512
    · have d1 : decide ((sz : Int) ≤ 512) = true := by simp; omega
      have d1' : decide (sz ≤ 512) = true := by simpa using hfit
      have HW := Hd (twrite_any HTr.out HStp.out.at_ (by have := HPu.out; omega) HHas.out.1 HHas.out.2 HNd.out.read HOk.out (by rw [HS0.out]; exact hfit))
      go_wp2_with (first
        | (go_at_call 212; refine (HSz.out).mono ?_; rintro e _ ⟨rfl, rfl⟩)
        | (go_at_call 210; refine (HW.out).mono ?_; rintro e w9 ⟨rfl, R', hs9, hw9⟩
           have HS9 := Hd hs9
           have HW9 := Hd hw9
           clear hs9 hw9))
      go_ret3
      exact ⟨R', HStp.out.trans HS9.out, by rw [HXo.out]; exact .inl ⟨by rw [HS0.out]; exact hfit, rfl, HW9.out⟩⟩
    · have d1 : decide ((sz : Int) ≤ 512) = false := by simp; omega
      have d1' : decide (sz ≤ 512) = false := by simpa using hfit
      have HSp := Hd (split_any HNd.out HOk.out (by rw [HS0.out]; omega) HMo.out)
      go_wp2_with (first
        | (go_at_call 212; refine (HSz.out).mono ?_; rintro e _ ⟨rfl, rfl⟩)
        | (go_at_call 213; refine (HSp.out).mono ?_; rintro e w4 ⟨rb, a, rfl, hpa, hle, hri, hk4⟩
           obtain ⟨s1, s2, s3, s4, s5⟩ := hpa.sizes HOk.out (by rw [HS0.out]; omega) HMo.out
           have hst4 := HStp.out.aside hk4 (fun k e => by rw [e]; exact HNw.out nb (.inl rfl)) (fun k e e2 => HAp.out nb (.inl rfl) (by rw [← e2]; exact e))
           have htr4 : TreeAt w4 tb br pl := ⟨hk4.at HTr.out.cells (fun e => HTo.out (.inl e))⟩
           have HW := Hd (twrite_any htr4 hst4.at_ (by have := HPu.out; omega) HHas.out.1 HHas.out.2 hle.r (HOk.out.take a) s1)
           have HPa := Hd hpa
           have HRi := Hd hri
           have HS2 := Hd s2
           have HS4 := Hd s4
           have HSt4 := Hd hst4
           have HTr4 := Hd htr4
           have HZ4 := Hd hk4.size
           clear hpa hle hri s1 s2 s3 s4 s5 hst4 htr4 hk4)
        | (go_at_call 210; refine (HW.out).mono ?_; rintro e w5 ⟨rfl, R1, hs5, hw5⟩
           have HS5 := Hd hs5
           have HW5 := Hd hw5
           clear hs5 hw5))
      have hk5 : Keep (R.foot br) w4 w5 := HS5.out.tx.keep.mono (fun _ _ e => .inr (TxS.own_foot e))
      have htr5 : TreeAt w5 tb br pl := ⟨hk5.at HTr4.out.cells HTb.out⟩
      have hri5 : NdRd w5 rb (x'.drop a) (fun k => wn.heap.size ≤ k ∧ k < w4.heap.size) := HRi.out.keep hk5 (fun k e e2 => by have := HStp.out.at_.foot_lt9 e2; omega)
      have hf1 : ∀ k, R1.foot br k → R.foot br k ∨ w4.heap.size ≤ k := fun k e => by
        rcases e with e | e
        · exact .inl (.inl e)
        · rw [HS5.out.bt] at e
          exact (HS5.out.tx.foot e).imp .inr id
      have htb5 : ¬ R1.foot br tb := fun e => (hf1 tb e).elim HTb.out (fun e2 => by have := (Gl HTr4.out.cells); omega)
      have hri1 : ∀ k, (wn.heap.size ≤ k ∧ k < w4.heap.size) → ¬ R1.foot br k := fun k e e2 => (hf1 k e2).elim (fun e3 => by have := HStp.out.at_.foot_lt9 e3; omega) (fun e3 => by omega)
      obtain ⟨q0, hq0, hq1⟩ := HFr.out
      have hdw5 : Below w5.heap.size w5 w5.drew := ⟨rfl, rfl, rfl, Nat.le_refl _, fun _ _ => rfl⟩
      have hpp : R1.T.puts.length + 10 < 1000000000000 := by
        obtain ⟨b, b1, b2⟩ := HW5.out.puts
        rw [b1, List.length_append]
        have := HPu.out
        omega
      have hfit2 : R.pages ≤ R.maps * 4096 := by have := HStp.out.at_.fit.1; omega
      have HFs := Hd (tfresh_any (w := w5.drew) (pl := pl) (b := rb) (x := x'.drop a) ⟨htr5.cells⟩ htb5 (HS5.out.at_.still hdw5) hpp ⟨q0, by rw [HS5.out.pages]; exact hq0, by rw [HW5.out.has q0 (by omega)]; exact hq1⟩ (fun w' hk => ((hri5.keep (Keep.still hdw5) (fun _ _ e => e)).keep hk hri1).r) (HOk.out.drop a) HS2.out)
      obtain ⟨kvr, _, _, _, cr1, _, _, ⟨ar, b1r, o1r, p1r, hkr, hxr, qr⟩, _, _, ow1, _⟩ := hri5.node
      rw [strV_length] at hkr hxr
      have hdl : (x'.drop a).keys.length = x'.keys.length - a := by show (x'.keys.drop a).length = _; rw [List.length_drop]
      obtain ⟨nr, hnr⟩ : ∃ nr, (x'.drop a).keys.length = nr := ⟨_, rfl⟩
      have hnr0 : 0 < nr := by rw [← hnr, hdl]; have := HS4.out; omega
      have qr0 := qr 0 _ (strV_get _ 0 (by rw [hnr]; exact hnr0))
      rw [hnr] at hkr hxr
      obtain ⟨rfl, hblt⟩ := hxr hnr0
      subst hkr
      have HNo1 := Hd (hri1 rb hri5.ob)
      have HNo2 := Hd (hri1 b1r (ow1 b1r rfl))
      obtain ⟨fk, hfk⟩ : ∃ fk, (x'.drop a).keys.getD 0 ⟨#[]⟩ = fk := ⟨_, rfl⟩
      rw [hfk] at qr0
      have nr1 : (0 : Int) < (nr : Int) := by omega
      have HCr := Hd cr1
      have HQr := Hd qr0
      have HFk := Hd hfk
      have HRb := Hd hri5.lt
      have HBl := Hd hblt
      clear hri5 htr5 htb5 hri1 hf1 hk5 hq0 hq1 hpp hdl hnr hxr qr qr0 cr1 hfk hblt ow1
      obtain ⟨S, hS⟩ : ∃ S : World → Prop, ∀ u, S u ↔ Keep (fun k => R1.foot br k) (w5) u := ⟨fun u => Keep (fun k => R1.foot br k) (w5) u, fun _ => Iff.rfl⟩
      have HS := Hd hS
      clear hS
      refine wp_region_ord 9 [(0, true), (1, true), (2, true), (3, true), (4, true), (5, true), (6, true), (7, true), (8, false)] S (by kernel_rfl) (by kernel_rfl) ((HS.out _).2 (Keep.refl _ _).drew) ?_
      iterate 8
        first
          | (refine wpH_passed rfl (by rfl) (fun K hK => ?_); go_simp; refine hK _ ?_; clear hK K)
          | (first
               | refine wpH_read rfl rfl (fun K hK => ?_)
               | refine wpH_readw rfl (by rfl) (fun K hK => ?_)
             apply Exists.intro
             refine ⟨fun u hu => ?_, ?_⟩
             · have hu := (HS.out u).1 hu
               have cr1 : u.cell? ⟨rb, 1, none⟩ = some (.slice (some ⟨b1r, o1r, none⟩) nr p1r) := by rw [hu.cell (p := ⟨rb, 1, none⟩) HRb.out HNo1.out]; exact HCr.out
               have qr0 : u.cell? ⟨b1r, o1r, none⟩ = some (.string fk) := by rw [hu.cell (p := ⟨b1r, o1r, none⟩) HBl.out HNo2.out]; exact HQr.out
               clear hu
               go_simp
               exact ⟨rfl, rfl⟩
             go_simp
             refine hK _ ?_
             clear hK K)
      first | refine wpH_do rfl rfl (fun K hK => ?_) | refine wpH_dow rfl (by rfl) (fun K hK => ?_)
      go_simp
      go_at_call 156
      refine (HFs.out).mono ?_
      rintro e w6 ⟨q, R', rfl, hs6, hf6⟩
      have hs6' : RoomStep br w5 R1 w6 R' := (RoomStep.still HS5.out.at_ hdw5).trans hs6
      have HS6 := Hd hs6'
      have HF6 := Hd hf6
      refine hK _ _ ((HS.out _).2 (hs6'.tx.keep.mono (fun _ _ e => .inr (TxS.own_foot e)))) ?_
      clear hK K hs6 hs6' hf6
      refine wpH_nil ?_
      simp only [List.drop_succ_cons, List.drop_zero]
      clear S HS
      go_wp2
      go_ret3
      exact ⟨R', (HSt4.out.trans HS5.out).trans HS6.out, by rw [HXo.out]; exact .inr ⟨a, q, R1, HPa.out, by rw [HS0.out]; omega, by rw [HFk.out]; rfl, HW5.out, HS5.out.maps, HS5.out.pages, HF6.out⟩⟩
  · have hins : ins kv key val = l1 ++ (key, val) :: l2 := by rw [he]; exact leaf_new h1 h2 (fun v0 l3 e => hth ⟨v0, l3, e⟩)
    have HIns := Hd hins
    have hfd : decide ((l2.map Prod.fst).head? = some key) = false := by
      refine decide_eq_false (fun e => ?_)
      cases l2 with
      | nil => cases e
      | cons y t =>
        obtain ⟨ya, yb⟩ := y
        simp at e
        exact hth ⟨yb, t, by rw [e]⟩
    rw [hfd] at HFd
    obtain ⟨i, hil⟩ : ∃ i, l1.length = i := ⟨_, rfl⟩
    rw [hil] at HFd
    have HIl := Hd hil
    clear hfd h1 h2 hins hil hth
    obtain ⟨x', hx'⟩ : ∃ x', leafOf (ins kv key val) = x' := ⟨_, rfl⟩
    rw [hx'] at HOk HMo
    have HXo := Hd hx'
    rw [HIns.out] at hx'
    have HX := Hd hx'
    clear hx'
    go_enter Tryz.func157, Tryz.ntmps157
    go_wp2_with (fail)
    refine (HRd.out).mono ?_
    rintro e w1 ⟨nb, ka, va, ca, rfl, hnd, hnw, hb1⟩
    have c0 : w1.cell? ⟨nb, 0, none⟩ = some (.bool true) := Lib.cell_of_heap hnd.cells 0
    have HF1 := Hd (HFd.out w1 nb hnd.read)
    have HN1 := Hd hnd
    have HNw1 := Hd hnw
    have HB1 := Hd hb1
    clear hnd hnw hb1
    go_wp2_with (fail)
    refine (HF1.out).mono ?_
    rintro e w2 ⟨rfl, hb2⟩
    have hn2 := HN1.out.still hb2
    have hvl : (leafOf kv).vals.length = (leafOf kv).keys.length := by show (kv.map Prod.snd).length = (kv.map Prod.fst).length; rw [List.length_map, List.length_map]
    have HI := Hd (insert_any hn2 HL6.out (by rw [hvl]; rfl) rfl i (by rw [← HIl.out]; exact HLl.out) key val 0)
    have HB2 := Hd (HB1.out.trans (hb2.mono HB1.out.size))
    have hxe : (leafOf kv).ins i key val 0 = x' := by rw [← HIl.out, HE.out, leaf_ins]; exact HX.out
    rw [hxe] at HI
    clear hn2 hvl hxe hb2
    go_wp2_with (fail)
    refine (HI.out).mono ?_
    rintro e wn ⟨rfl, kn, vn, cn, hst⟩
    have hnn : ∀ k, ndOwn nb kn vn cn k → w.heap.size ≤ k := fun k hk => (hst.own k hk).elim (HNw1.out k) (fun e => Nat.le_trans HB2.out.size e)
    have hbn : Below w.heap.size w wn := HB2.out.trans (hst.keep.below HB2.out.size (fun q hq e => by have := HNw1.out q e; omega))
    have HNd := Hd hst.nd
    have HNw := Hd hnn
    have HAp := Hd (show ∀ k, ndOwn nb kn vn cn k → ¬ R.foot br k from fun k hk e => by have := hnn k hk; have := HR.out.foot_lt9 e; omega)
    have HTo := Hd (show ¬ ndOwn nb kn vn cn tb from fun e => by have := hnn tb e; have := (Gl HT.out.cells); omega)
    have HStp := Hd (RoomStep.still HR.out hbn)
    have HTr := Hd (show TreeAt wn tb br pl from ⟨(hbn.block tb (Gl HT.out.cells)).trans HT.out.cells⟩)
    have HTb := Hd HTb0.out
    clear hst hnn hbn
    have hszb : x'.size ≤ 666 := by have := HMo.out; unfold Nd.most at this; split at this <;> omega
    have hSz := size_any HNd.out.read HOk.out.s (x'.keys_lt HOk.out hszb)
    obtain ⟨sz, hsz⟩ : ∃ sz, x'.size = sz := ⟨_, rfl⟩
    rw [hsz] at hSz hszb
    have HSz := Hd hSz
    have HS0 := Hd hsz
    clear hSz hsz
    by_cases hfit : sz ≤ 512
    · have d1 : decide ((sz : Int) ≤ 512) = true := by simp; omega
      have d1' : decide (sz ≤ 512) = true := by simpa using hfit
      have HW := Hd (twrite_any HTr.out HStp.out.at_ (by have := HPu.out; omega) HHas.out.1 HHas.out.2 HNd.out.read HOk.out (by rw [HS0.out]; exact hfit))
      go_wp2_with (first
        | (go_at_call 212; refine (HSz.out).mono ?_; rintro e _ ⟨rfl, rfl⟩)
        | (go_at_call 210; refine (HW.out).mono ?_; rintro e w9 ⟨rfl, R', hs9, hw9⟩
           have HS9 := Hd hs9
           have HW9 := Hd hw9
           clear hs9 hw9))
      go_ret3
      exact ⟨R', HStp.out.trans HS9.out, by rw [HXo.out]; exact .inl ⟨by rw [HS0.out]; exact hfit, rfl, HW9.out⟩⟩
    · have d1 : decide ((sz : Int) ≤ 512) = false := by simp; omega
      have d1' : decide (sz ≤ 512) = false := by simpa using hfit
      have HSp := Hd (split_any HNd.out HOk.out (by rw [HS0.out]; omega) HMo.out)
      go_wp2_with (first
        | (go_at_call 212; refine (HSz.out).mono ?_; rintro e _ ⟨rfl, rfl⟩)
        | (go_at_call 213; refine (HSp.out).mono ?_; rintro e w4 ⟨rb, a, rfl, hpa, hle, hri, hk4⟩
           obtain ⟨s1, s2, s3, s4, s5⟩ := hpa.sizes HOk.out (by rw [HS0.out]; omega) HMo.out
           have hst4 := HStp.out.aside hk4 (fun k e => by rw [e]; exact HNw.out nb (.inl rfl)) (fun k e e2 => HAp.out nb (.inl rfl) (by rw [← e2]; exact e))
           have htr4 : TreeAt w4 tb br pl := ⟨hk4.at HTr.out.cells (fun e => HTo.out (.inl e))⟩
           have HW := Hd (twrite_any htr4 hst4.at_ (by have := HPu.out; omega) HHas.out.1 HHas.out.2 hle.r (HOk.out.take a) s1)
           have HPa := Hd hpa
           have HRi := Hd hri
           have HS2 := Hd s2
           have HS4 := Hd s4
           have HSt4 := Hd hst4
           have HTr4 := Hd htr4
           have HZ4 := Hd hk4.size
           clear hpa hle hri s1 s2 s3 s4 s5 hst4 htr4 hk4)
        | (go_at_call 210; refine (HW.out).mono ?_; rintro e w5 ⟨rfl, R1, hs5, hw5⟩
           have HS5 := Hd hs5
           have HW5 := Hd hw5
           clear hs5 hw5))
      have hk5 : Keep (R.foot br) w4 w5 := HS5.out.tx.keep.mono (fun _ _ e => .inr (TxS.own_foot e))
      have htr5 : TreeAt w5 tb br pl := ⟨hk5.at HTr4.out.cells HTb.out⟩
      have hri5 : NdRd w5 rb (x'.drop a) (fun k => wn.heap.size ≤ k ∧ k < w4.heap.size) := HRi.out.keep hk5 (fun k e e2 => by have := HStp.out.at_.foot_lt9 e2; omega)
      have hf1 : ∀ k, R1.foot br k → R.foot br k ∨ w4.heap.size ≤ k := fun k e => by
        rcases e with e | e
        · exact .inl (.inl e)
        · rw [HS5.out.bt] at e
          exact (HS5.out.tx.foot e).imp .inr id
      have htb5 : ¬ R1.foot br tb := fun e => (hf1 tb e).elim HTb.out (fun e2 => by have := (Gl HTr4.out.cells); omega)
      have hri1 : ∀ k, (wn.heap.size ≤ k ∧ k < w4.heap.size) → ¬ R1.foot br k := fun k e e2 => (hf1 k e2).elim (fun e3 => by have := HStp.out.at_.foot_lt9 e3; omega) (fun e3 => by omega)
      obtain ⟨q0, hq0, hq1⟩ := HFr.out
      have hdw5 : Below w5.heap.size w5 w5.drew := ⟨rfl, rfl, rfl, Nat.le_refl _, fun _ _ => rfl⟩
      have hpp : R1.T.puts.length + 10 < 1000000000000 := by
        obtain ⟨b, b1, b2⟩ := HW5.out.puts
        rw [b1, List.length_append]
        have := HPu.out
        omega
      have hfit2 : R.pages ≤ R.maps * 4096 := by have := HStp.out.at_.fit.1; omega
      have HFs := Hd (tfresh_any (w := w5.drew) (pl := pl) (b := rb) (x := x'.drop a) ⟨htr5.cells⟩ htb5 (HS5.out.at_.still hdw5) hpp ⟨q0, by rw [HS5.out.pages]; exact hq0, by rw [HW5.out.has q0 (by omega)]; exact hq1⟩ (fun w' hk => ((hri5.keep (Keep.still hdw5) (fun _ _ e => e)).keep hk hri1).r) (HOk.out.drop a) HS2.out)
      obtain ⟨kvr, _, _, _, cr1, _, _, ⟨ar, b1r, o1r, p1r, hkr, hxr, qr⟩, _, _, ow1, _⟩ := hri5.node
      rw [strV_length] at hkr hxr
      have hdl : (x'.drop a).keys.length = x'.keys.length - a := by show (x'.keys.drop a).length = _; rw [List.length_drop]
      obtain ⟨nr, hnr⟩ : ∃ nr, (x'.drop a).keys.length = nr := ⟨_, rfl⟩
      have hnr0 : 0 < nr := by rw [← hnr, hdl]; have := HS4.out; omega
      have qr0 := qr 0 _ (strV_get _ 0 (by rw [hnr]; exact hnr0))
      rw [hnr] at hkr hxr
      obtain ⟨rfl, hblt⟩ := hxr hnr0
      subst hkr
      have HNo1 := Hd (hri1 rb hri5.ob)
      have HNo2 := Hd (hri1 b1r (ow1 b1r rfl))
      obtain ⟨fk, hfk⟩ : ∃ fk, (x'.drop a).keys.getD 0 ⟨#[]⟩ = fk := ⟨_, rfl⟩
      rw [hfk] at qr0
      have nr1 : (0 : Int) < (nr : Int) := by omega
      have HCr := Hd cr1
      have HQr := Hd qr0
      have HFk := Hd hfk
      have HRb := Hd hri5.lt
      have HBl := Hd hblt
      clear hri5 htr5 htb5 hri1 hf1 hk5 hq0 hq1 hpp hdl hnr hxr qr qr0 cr1 hfk hblt ow1
      obtain ⟨S, hS⟩ : ∃ S : World → Prop, ∀ u, S u ↔ Keep (fun k => R1.foot br k) (w5) u := ⟨fun u => Keep (fun k => R1.foot br k) (w5) u, fun _ => Iff.rfl⟩
      have HS := Hd hS
      clear hS
      refine wp_region_ord 9 [(0, true), (1, true), (2, true), (3, true), (4, true), (5, true), (6, true), (7, true), (8, false)] S (by kernel_rfl) (by kernel_rfl) ((HS.out _).2 (Keep.refl _ _).drew) ?_
      iterate 8
        first
          | (refine wpH_passed rfl (by rfl) (fun K hK => ?_); go_simp; refine hK _ ?_; clear hK K)
          | (first
               | refine wpH_read rfl rfl (fun K hK => ?_)
               | refine wpH_readw rfl (by rfl) (fun K hK => ?_)
             apply Exists.intro
             refine ⟨fun u hu => ?_, ?_⟩
             · have hu := (HS.out u).1 hu
               have cr1 : u.cell? ⟨rb, 1, none⟩ = some (.slice (some ⟨b1r, o1r, none⟩) nr p1r) := by rw [hu.cell (p := ⟨rb, 1, none⟩) HRb.out HNo1.out]; exact HCr.out
               have qr0 : u.cell? ⟨b1r, o1r, none⟩ = some (.string fk) := by rw [hu.cell (p := ⟨b1r, o1r, none⟩) HBl.out HNo2.out]; exact HQr.out
               clear hu
               go_simp
               exact ⟨rfl, rfl⟩
             go_simp
             refine hK _ ?_
             clear hK K)
      first | refine wpH_do rfl rfl (fun K hK => ?_) | refine wpH_dow rfl (by rfl) (fun K hK => ?_)
      go_simp
      go_at_call 156
      refine (HFs.out).mono ?_
      rintro e w6 ⟨q, R', rfl, hs6, hf6⟩
      have hs6' : RoomStep br w5 R1 w6 R' := (RoomStep.still HS5.out.at_ hdw5).trans hs6
      have HS6 := Hd hs6'
      have HF6 := Hd hf6
      refine hK _ _ ((HS.out _).2 (hs6'.tx.keep.mono (fun _ _ e => .inr (TxS.own_foot e)))) ?_
      clear hK K hs6 hs6' hf6
      refine wpH_nil ?_
      simp only [List.drop_succ_cons, List.drop_zero]
      clear S HS
      go_wp2
      go_ret3
      exact ⟨R', (HSt4.out.trans HS5.out).trans HS6.out, by rw [HXo.out]; exact .inr ⟨a, q, R1, HPa.out, by rw [HS0.out]; omega, by rw [HFk.out]; rfl, HW5.out, HS5.out.maps, HS5.out.pages, HF6.out⟩⟩
end Go.Proofs.YtaokjeokpifjgaaGreatDoor

namespace Go.Proofs.YtaokjeokpifjgaaGreatDoor
open Go.RowKit Go.MapKept
attribute [local go_sem] gives givesH
set_option maxRecDepth 100000

def noMore : Ending := .returned (.tuple #[.string ⟨#[]⟩, .int .i64 0, .bool false])
def kidsIn (l1 l2 : List Kid) (c : Kid) (k2 : ByteArray) (q : Nat) : Nd := innerOf (l1 ++ ([c, ⟨k2, q, [], []⟩] ++ l2))
def oneMore (k : ByteArray) (q : Nat) : Ending := .returned (.tuple #[.string k, .int .i64 (q : Nat), .bool true])
set_option maxHeartbeats 4000000 in
theorem put_inner {w : World} {tb br pl deep : Nat} {R : RoomS} {p : Nat} {cs l1 l2 : List Kid} {c : Kid} {key val : ByteArray} {Q : RoomS → Ending → Prop} (ht : TreeAt w tb br pl) (htb : ¬ R.foot br tb) (hr : RoomAt w br R) (hp : PageIs R p (innerOf cs))
    (hcs : cs = l1 ++ c :: l2) (h1 : ∀ d ∈ l1, ¬ bLt key d.key) (hc : ¬ bLt key c.key) (h2 : ∀ d ∈ l2, bLt key d.key) (hd : deep + 1 ≤ 20)
    (hrec : ∀ w1, TreeAt w1 tb br pl → RoomAt w1 br R → Calls Tryz.prog 157 #[.pointer (some ⟨tb, 0, none⟩), .int .i64 c.page, .string key, .string val, .int .i64 (deep + 1 : Nat)] w1 fun e w2 => ∃ R2, RoomStep br w1 R w2 R2 ∧ Q R2 e)
    (hq : ∀ R2 e, Q R2 e → e = noMore ∨ ∃ k2 q, e = oneMore k2 q ∧ k2.size ≤ 96 ∧ q < 65536 ∧ R2.has p = true ∧ R2.T.puts.length + 100 < 1000000000000 ∧ ∃ q, q < R2.pages ∧ R2.has q = false) :
    Calls Tryz.prog 157 #[.pointer (some ⟨tb, 0, none⟩), .int .i64 p, .string key, .string val, .int .i64 deep] w fun e w' => ∃ R', RoomStep br w R w' R' ∧ ((e = noMore ∧ Q R' noMore) ∨ ∃ R2 k2 q, Q R2 (oneMore k2 q) ∧ R2.maps = R.maps ∧ R2.pages = R.pages ∧ Laid R2 R' p (kidsIn l1 l2 c k2 q) e) := by
  have HRd := Hd (tread_any ht hr hp)
  obtain ⟨hp1, hp2, hp3, hp4, hp5, hp6⟩ := hp
  have hlen6 := (innerOf cs).keys_lt hp4 (by omega)
  have HWy := Hd (fun u b (hu : NdR u b (innerOf cs)) => way_any (key := key) (l1 := (l1 ++ [c]).map Kid.key) (l2 := l2.map Kid.key) hu (by show cs.map Kid.key = _; rw [hcs, ← List.map_append, List.append_assoc]; rfl) (fun k hk => by
    obtain ⟨x, hx, rfl⟩ := List.mem_map.1 hk
    rcases List.mem_append.1 hx with e | e
    · exact h1 x e
    · rw [List.mem_singleton.1 e]; exact hc) (fun k hk => by
    obtain ⟨x, hx, rfl⟩ := List.mem_map.1 hk
    exact h2 x hx) hlen6)
  have hli : ((l1 ++ [c]).map Kid.key).length - 1 = l1.length := by rw [List.length_map, List.length_append]; simp
  rw [hli] at HWy
  have d0 : decide ((20 : Int) < (deep : Int)) = false := by simp; omega
  have d0' : decide (20 < deep) = false := by simp; omega
  have HR := Hd hr
  have HT := Hd ht
  have HTb0 := Hd htb
  have HHas0 := Hd (show p < R.pages ∧ R.has p = true from ⟨hp1, hp2⟩)
  have HFit0 := Hd (show R.pages ≤ R.maps * 4096 by have := hr.fit.1; omega)
  have hcl : (innerOf cs).kids.length = cs.length := by show (cs.map Kid.page).length = _; rw [List.length_map]
  have hkl : (innerOf cs).keys.length = cs.length := by show (cs.map Kid.key).length = _; rw [List.length_map]
  have hlf : l1.length < cs.length := by rw [hcs, List.length_append, List.length_cons]; omega
  have hkid : (intV (innerOf cs).kids)[l1.length]? = some (.int .i64 (c.page : Nat)) := by
    show ((cs.map Kid.page).map _)[l1.length]? = _
    rw [List.getElem?_map, List.getElem?_map, hcs, List.getElem?_append_right (Nat.le_refl _), Nat.sub_self]
    rfl
  have HKid := Hd hkid
  have HL6 := Hd hlen6
  have HCs := Hd hcs
  have HNs := Hd (show (innerOf cs).size ≤ 512 from hp6)
  have HOk0 := Hd (show (innerOf cs).ok from hp4)
  have HRec := Hd hrec
  have HQ := Hd hq
  have HKl := Hd hkl
  have HCl := Hd hcl
  obtain ⟨i, hil⟩ : ∃ i, l1.length = i := ⟨_, rfl⟩
  rw [hil] at HWy hlf hkid HKid
  have HIl := Hd hil
  have i0 : (0 : Int) ≤ (i : Int) := by omega
  have i6 : (i : Int) ≤ 65536 := by rw [hkl] at hlen6; omega
  obtain ⟨cp, hcp⟩ : ∃ cp, c.page = cp := ⟨_, rfl⟩
  rw [hcp] at HKid HRec
  have HCp := Hd hcp
  clear ht htb hr hp1 hp2 hp3 hp4 hp5 hp6 hcs h1 hc h2 hli hlen6 hrec hq hkid hil hcp
  go_enter Tryz.func157, Tryz.ntmps157
  go_wp2_with (fail)
  refine (HRd.out).mono ?_
  rintro e w1 ⟨nb, ka, va, ca, rfl, hnd, hnw, hb1⟩
  have c0 : w1.cell? ⟨nb, 0, none⟩ = some (.bool false) := Lib.cell_of_heap hnd.cells 0
  have HW1 := Hd (HWy.out w1 nb hnd.read)
  have HN1 := Hd hnd
  have HNw1 := Hd hnw
  have HB1 := Hd hb1
  clear hnd hnw hb1
  go_wp2_with (fail)
  refine (HW1.out).mono ?_
  rintro e w2 ⟨rfl, hb2⟩
  have hn2 := HN1.out.still hb2
  obtain ⟨g2, p2, hca, hnp, _, _⟩ := row_posB hn2.kids (by rw [hcl]; omega)
  subst hca
  obtain ⟨n, hn⟩ : ∃ n, (innerOf cs).kids.length = n := ⟨_, rfl⟩
  rw [hn] at hcl hnp hn2
  rw [← hcl] at hlf hkl
  have c3 : w2.cell? ⟨nb, 3, none⟩ = some (.slice (some ⟨g2, 0, none⟩) n p2) := Lib.cell_of_heap hn2.cells 3
  have q2 : w2.cell? ⟨g2, i, none⟩ = some (.int .i64 cp) := by
    have := hn2.kids.cells rfl i _ HKid.out
    rwa [addr_add9] at this
  have i1 : (i : Int) < (n : Int) := by omega
  have HB2 := Hd (HB1.out.trans (hb2.mono HB1.out.size))
  have HRc := Hd (HRec.out w2 ⟨(HB2.out.block tb (Gl HT.out.cells)).trans HT.out.cells⟩ (HR.out.still HB2.out))
  have HN2 := Hd hn2
  have HCn := Hd hcl
  clear hn2 hb2 hcl hn
  go_wp2_with (fail)
  refine (HRc.out).mono ?_
  rintro e w4 ⟨R2, hs4, hq4⟩
  rcases HQ.out R2 e hq4 with rfl | ⟨k2, q2', rfl, hk2, hq2, hh2, hpu2, hfr2⟩
  · have HQ4 := Hd hq4
    have HS4 := Hd hs4
    clear hq4 hs4
    unfold noMore
    go_wp2
    go_ret3
    exact ⟨R2, (RoomStep.still HR.out HB2.out).trans HS4.out, .inl ⟨rfl, HQ4.out⟩⟩
  · have hk4 : Keep (R.foot br) w2 w4 := hs4.tx.keep.mono (fun _ _ e => .inr (TxS.own_foot e))
    have hnr : ∀ k, ndOwn nb ka va (.slice (some ⟨g2, 0, none⟩) n p2) k → ¬ R.foot br k := fun k hk e => by have := HNw1.out k hk; have := HR.out.foot_lt9 e; omega
    have hf2 : ∀ k, R2.foot br k → R.foot br k ∨ w2.heap.size ≤ k := fun k e => by
      rcases e with e | e
      · exact .inl (.inl e)
      · rw [hs4.bt] at e
        exact (hs4.tx.foot e).imp .inr id
    have hn4 := HN2.out.keep hk4 hnr
    have htw : tb < w.heap.size := (Gl HT.out.cells)
    have htb2 : ¬ R2.foot br tb := fun e => (hf2 tb e).elim HTb0.out (fun e2 => by have := HB2.out.size; omega)
    have HI := Hd (insert_any hn4 HL6.out (by rfl) (by rw [HCl.out, HKl.out]; rfl) (i + 1) (by rw [HKl.out, ← HCn.out]; omega) k2 ⟨#[]⟩ q2')
    obtain ⟨x', hx'⟩ : ∃ x', kidsIn l1 l2 c k2 q2' = x' := ⟨_, rfl⟩
    have hxe : (innerOf cs).ins (i + 1) k2 ⟨#[]⟩ q2' = x' := by rw [← hx', HCs.out, ← HIl.out]; unfold kidsIn; exact inner_ins (c := c) (c1 := c) (c2 := ⟨k2, q2', [], []⟩) rfl rfl ⟨#[]⟩
    rw [hxe] at HI
    have HXo := Hd hx'
    have hok : x'.ok := by
      rw [← hx']; unfold kidsIn
      refine inner_ok.2 (fun d hd => ?_)
      have h7 := inner_ok.1 HOk0.out
      rw [HCs.out] at h7
      simp only [List.mem_append, List.mem_cons, List.not_mem_nil, or_false] at hd
      rcases hd with e | (e | e) | e
      · exact h7 d (by simp [e])
      · exact h7 d (by simp [e])
      · rw [e]; exact ⟨hk2, hq2⟩
      · exact h7 d (by simp [e])
    have hmo : x'.size ≤ 512 + x'.most := by
      have h8 := HNs.out
      rw [← hx']; unfold kidsIn; rw [inner_size, kidSum_append, kidSum_append, kidSum_cons, kidSum_cons]
      rw [HCs.out, inner_size, kidSum_append, kidSum_cons] at h8
      have h9 : (innerOf (l1 ++ ([c, ⟨k2, q2', [], []⟩] ++ l2))).most = 101 := rfl
      rw [h9]
      have h10 : kidSum ([] : List Kid) = 0 := rfl
      rw [h10]
      simp only
      omega
    have HOk := Hd hok
    have HMo := Hd hmo
    have HSr := Hd ((RoomStep.still HR.out HB2.out).trans hs4)
    have HQ4 := Hd hq4
    have HPu := Hd hpu2
    have HFr := Hd hfr2
    have HHas := Hd (show p < R2.pages ∧ R2.has p = true from ⟨by rw [hs4.pages]; exact HHas0.out.1, hh2⟩)
    have HFit := Hd (show R2.pages ≤ R2.maps * 4096 by rw [hs4.pages, hs4.maps]; exact HFit0.out)
    have HNr2 := Hd (show ∀ k, ndOwn nb ka va (.slice (some ⟨g2, 0, none⟩) n p2) k → ¬ R2.foot br k from fun k hk e => (hf2 k e).elim (hnr k hk) (fun e2 => by have := HN2.out.lt hk; omega))
    have HTb := Hd htb2
    have HT4 := Hd (show TreeAt w4 tb br pl from ⟨hk4.at ((HB2.out.block tb htw).trans HT.out.cells) HTb0.out⟩)
    have htw4 : tb < w2.heap.size := by have := HB2.out.size; omega
    have HTw4 := Hd htw4
    have HZ4 := Hd (show w.heap.size ≤ w4.heap.size from Nat.le_trans HB2.out.size hs4.tx.keep.size)
    have HK2 := Hd hk2
    have HQ2 := Hd hq2
    have q20 : (0 : Int) ≤ (q2' : Int) := by omega
    have q26 : (q2' : Int) ≤ 65536 := by omega
    clear hk4 hnr hf2 hn4 htb2 hxe hx' hok hmo hs4 hq4 hpu2 hfr2 hh2 hk2 hq2 htw htw4
    unfold oneMore
    go_wp2_with (fail)
    refine (HI.out).mono ?_
    rintro e wn ⟨rfl, kn, vn, cn, hst⟩
    have hnn : ∀ k, ndOwn nb kn vn cn k → w.heap.size ≤ k := fun k hk => (hst.own k hk).elim (HNw1.out k) (fun e => Nat.le_trans HZ4.out e)
    have hap : ∀ k, ndOwn nb kn vn cn k → ¬ R2.foot br k := fun k hk e => (hst.own k hk).elim (fun e2 => HNr2.out k e2 e) (fun e2 => by have := HSr.out.at_.foot_lt9 e; omega)
    have HNd := Hd hst.nd
    have HNw := Hd hnn
    have HAp := Hd hap
    have HTo := Hd (show ¬ ndOwn nb kn vn cn tb from fun e => by have := hnn tb e; have := (Gl HT.out.cells); omega)
    have HStp := Hd (HSr.out.aside hst.keep (fun k e => HNw1.out k e) (fun k e e2 => HNr2.out k e2 e))
    have HTr := Hd (show TreeAt wn tb br pl from ⟨hst.keep.at HT4.out.cells (fun e => by have := HNw1.out tb e; have := (Gl HT.out.cells); omega)⟩)
    clear hst hnn hap
    have hszb : x'.size ≤ 666 := by have := HMo.out; unfold Nd.most at this; split at this <;> omega
    have hSz := size_any HNd.out.read HOk.out.s (x'.keys_lt HOk.out hszb)
    obtain ⟨sz, hsz⟩ : ∃ sz, x'.size = sz := ⟨_, rfl⟩
    rw [hsz] at hSz hszb
    have HSz := Hd hSz
    have HS0 := Hd hsz
    clear hSz hsz
    by_cases hfit : sz ≤ 512
    · have d1 : decide ((sz : Int) ≤ 512) = true := by simp; omega
      have d1' : decide (sz ≤ 512) = true := by simpa using hfit
      have HW := Hd (twrite_any HTr.out HStp.out.at_ (by have := HPu.out; omega) HHas.out.1 HHas.out.2 HNd.out.read HOk.out (by rw [HS0.out]; exact hfit))
      go_wp2_with (first
        | (go_at_call 212; refine (HSz.out).mono ?_; rintro e _ ⟨rfl, rfl⟩)
        | (go_at_call 210; refine (HW.out).mono ?_; rintro e w9 ⟨rfl, R', hs9, hw9⟩
           have HS9 := Hd hs9
           have HW9 := Hd hw9
           clear hs9 hw9))
      go_ret3
      exact ⟨R', HStp.out.trans HS9.out, .inr ⟨R2, k2, q2', HQ4.out, HSr.out.maps, HSr.out.pages, by rw [HXo.out]; exact .inl ⟨by rw [HS0.out]; exact hfit, rfl, HW9.out⟩⟩⟩
    · have d1 : decide ((sz : Int) ≤ 512) = false := by simp; omega
      have d1' : decide (sz ≤ 512) = false := by simpa using hfit
      have HSp := Hd (split_any HNd.out HOk.out (by rw [HS0.out]; omega) HMo.out)
      go_wp2_with (first
        | (go_at_call 212; refine (HSz.out).mono ?_; rintro e _ ⟨rfl, rfl⟩)
        | (go_at_call 213; refine (HSp.out).mono ?_; rintro e w4 ⟨rb, a, rfl, hpa, hle, hri, hk4⟩
           obtain ⟨s1, s2, s3, s4, s5⟩ := hpa.sizes HOk.out (by rw [HS0.out]; omega) HMo.out
           have hst4 := HStp.out.aside hk4 (fun k e => by rw [e]; exact HNw.out nb (.inl rfl)) (fun k e e2 => HAp.out nb (.inl rfl) (by rw [← e2]; exact e))
           have htr4 : TreeAt w4 tb br pl := ⟨hk4.at HTr.out.cells (fun e => HTo.out (.inl e))⟩
           have HW := Hd (twrite_any htr4 hst4.at_ (by have := HPu.out; omega) HHas.out.1 HHas.out.2 hle.r (HOk.out.take a) s1)
           have HPa := Hd hpa
           have HRi := Hd hri
           have HS2 := Hd s2
           have HS4 := Hd s4
           have HSt4 := Hd hst4
           have HTr4 := Hd htr4
           have HZ4 := Hd hk4.size
           clear hpa hle hri s1 s2 s3 s4 s5 hst4 htr4 hk4)
        | (go_at_call 210; refine (HW.out).mono ?_; rintro e w5 ⟨rfl, R1, hs5, hw5⟩
           have HS5 := Hd hs5
           have HW5 := Hd hw5
           clear hs5 hw5))
      have hk5 : Keep (R2.foot br) w4 w5 := HS5.out.tx.keep.mono (fun _ _ e => .inr (TxS.own_foot e))
      have htr5 : TreeAt w5 tb br pl := ⟨hk5.at HTr4.out.cells HTb.out⟩
      have hri5 : NdRd w5 rb (x'.drop a) (fun k => wn.heap.size ≤ k ∧ k < w4.heap.size) := HRi.out.keep hk5 (fun k e e2 => by have := HStp.out.at_.foot_lt9 e2; omega)
      have hf1 : ∀ k, R1.foot br k → R2.foot br k ∨ w4.heap.size ≤ k := fun k e => by
        rcases e with e | e
        · exact .inl (.inl e)
        · rw [HS5.out.bt] at e
          exact (HS5.out.tx.foot e).imp .inr id
      have htb5 : ¬ R1.foot br tb := fun e => (hf1 tb e).elim HTb.out (fun e2 => by have := (Gl HTr4.out.cells); omega)
      have hri1 : ∀ k, (wn.heap.size ≤ k ∧ k < w4.heap.size) → ¬ R1.foot br k := fun k e e2 => (hf1 k e2).elim (fun e3 => by have := HStp.out.at_.foot_lt9 e3; omega) (fun e3 => by omega)
      obtain ⟨q0, hq0, hq1⟩ := HFr.out
      have hdw5 : Below w5.heap.size w5 w5.drew := ⟨rfl, rfl, rfl, Nat.le_refl _, fun _ _ => rfl⟩
      have hpp : R1.T.puts.length + 10 < 1000000000000 := by
        obtain ⟨b, b1, b2⟩ := HW5.out.puts
        rw [b1, List.length_append]
        have := HPu.out
        omega
      have hfit2 : R2.pages ≤ R2.maps * 4096 := by have := HStp.out.at_.fit.1; omega
      have HFs := Hd (tfresh_any (w := w5.drew) (pl := pl) (b := rb) (x := x'.drop a) ⟨htr5.cells⟩ htb5 (HS5.out.at_.still hdw5) hpp ⟨q0, by rw [HS5.out.pages]; exact hq0, by rw [HW5.out.has q0 (by omega)]; exact hq1⟩ (fun w' hk => ((hri5.keep (Keep.still hdw5) (fun _ _ e => e)).keep hk hri1).r) (HOk.out.drop a) HS2.out)
      obtain ⟨kvr, _, _, _, cr1, _, _, ⟨ar, b1r, o1r, p1r, hkr, hxr, qr⟩, _, _, ow1, _⟩ := hri5.node
      rw [strV_length] at hkr hxr
      have hdl : (x'.drop a).keys.length = x'.keys.length - a := by show (x'.keys.drop a).length = _; rw [List.length_drop]
      obtain ⟨nr, hnr⟩ : ∃ nr, (x'.drop a).keys.length = nr := ⟨_, rfl⟩
      have hnr0 : 0 < nr := by rw [← hnr, hdl]; have := HS4.out; omega
      have qr0 := qr 0 _ (strV_get _ 0 (by rw [hnr]; exact hnr0))
      rw [hnr] at hkr hxr
      obtain ⟨rfl, hblt⟩ := hxr hnr0
      subst hkr
      have HNo1 := Hd (hri1 rb hri5.ob)
      have HNo2 := Hd (hri1 b1r (ow1 b1r rfl))
      obtain ⟨fk, hfk⟩ : ∃ fk, (x'.drop a).keys.getD 0 ⟨#[]⟩ = fk := ⟨_, rfl⟩
      rw [hfk] at qr0
      have nr1 : (0 : Int) < (nr : Int) := by omega
      have HCr := Hd cr1
      have HQr := Hd qr0
      have HFk := Hd hfk
      have HRb := Hd hri5.lt
      have HBl := Hd hblt
      clear hri5 htr5 htb5 hri1 hf1 hk5 hq0 hq1 hpp hdl hnr hxr qr qr0 cr1 hfk hblt ow1
      obtain ⟨S, hS⟩ : ∃ S : World → Prop, ∀ u, S u ↔ Keep (fun k => R1.foot br k) (w5) u := ⟨fun u => Keep (fun k => R1.foot br k) (w5) u, fun _ => Iff.rfl⟩
      have HS := Hd hS
      clear hS
      refine wp_region_ord 9 [(0, true), (1, true), (2, true), (3, true), (4, true), (5, true), (6, true), (7, true), (8, false)] S (by kernel_rfl) (by kernel_rfl) ((HS.out _).2 (Keep.refl _ _).drew) ?_
      iterate 8
        first
          | (refine wpH_passed rfl (by rfl) (fun K hK => ?_); go_simp; refine hK _ ?_; clear hK K)
          | (first
               | refine wpH_read rfl rfl (fun K hK => ?_)
               | refine wpH_readw rfl (by rfl) (fun K hK => ?_)
             apply Exists.intro
             refine ⟨fun u hu => ?_, ?_⟩
             · have hu := (HS.out u).1 hu
               have cr1 : u.cell? ⟨rb, 1, none⟩ = some (.slice (some ⟨b1r, o1r, none⟩) nr p1r) := by rw [hu.cell (p := ⟨rb, 1, none⟩) HRb.out HNo1.out]; exact HCr.out
               have qr0 : u.cell? ⟨b1r, o1r, none⟩ = some (.string fk) := by rw [hu.cell (p := ⟨b1r, o1r, none⟩) HBl.out HNo2.out]; exact HQr.out
               clear hu
               go_simp
               exact ⟨rfl, rfl⟩
             go_simp
             refine hK _ ?_
             clear hK K)
      first | refine wpH_do rfl rfl (fun K hK => ?_) | refine wpH_dow rfl (by rfl) (fun K hK => ?_)
      go_simp
      go_at_call 156
      refine (HFs.out).mono ?_
      rintro e w6 ⟨q, R', rfl, hs6, hf6⟩
      have hs6' : RoomStep br w5 R1 w6 R' := (RoomStep.still HS5.out.at_ hdw5).trans hs6
      have HS6 := Hd hs6'
      have HF6 := Hd hf6
      refine hK _ _ ((HS.out _).2 (hs6'.tx.keep.mono (fun _ _ e => .inr (TxS.own_foot e)))) ?_
      clear hK K hs6 hs6' hf6
      refine wpH_nil ?_
      simp only [List.drop_succ_cons, List.drop_zero]
      clear S HS
      go_wp2
      go_ret3
      exact ⟨R', (HSt4.out.trans HS5.out).trans HS6.out, .inr ⟨R2, k2, q2', HQ4.out, HSr.out.maps, HSr.out.pages, by rw [HXo.out]; exact .inr ⟨a, q, R1, HPa.out, by rw [HS0.out]; omega, by rw [HFk.out]; rfl, HW5.out, HS5.out.maps, HS5.out.pages, HF6.out⟩⟩⟩
end Go.Proofs.YtaokjeokpifjgaaGreatDoor

namespace Go.Proofs.YtaokjeokpifjgaaGreatDoor
open Go.RowKit Go.MapKept
set_option maxRecDepth 100000

theorem noMore_ne {k : ByteArray} {q : Nat} (h : noMore = oneMore k q) : False := by
  unfold noMore oneMore at h
  injection h with h
  injection h with h
  have := congrArg (fun a : Array Value => a[2]?) h
  simp at this
theorem oneMore_inj {k k' : ByteArray} {q q' : Nat} (h : oneMore k q = oneMore k' q') : k = k' ∧ q = q' := by
  unfold oneMore at h
  injection h with h
  injection h with h
  have h1 := congrArg (fun a : Array Value => a[0]?) h
  have h2 := congrArg (fun a : Array Value => a[1]?) h
  simp at h1 h2
  exact ⟨h1, by omega⟩
structure Turn (R R' : RoomS) (ps new : List Nat) (m : Nat) : Prop where
  free : ∀ q ∈ new, q < R.pages ∧ R.has q = false
  nodup : new.Nodup
  has : ∀ q, q < R.pages → R'.has q = (decide (q ∈ new) || R.has q)
  text : ∀ q, q < R.pages → q ∉ ps → q ∉ new → R'.text q = R.text q
  zero : R'.home 0 = R.home 0
  maps : R'.maps = R.maps
  pages : R'.pages = R.pages
  puts : ∃ a, R'.T.puts = R.T.puts ++ a ∧ a.length ≤ m
def Shape (p : Nat) (m : List Kid) (e : Ending) : Prop :=
  (∃ c, m = [c] ∧ c.page = p ∧ e = noMore) ∨ ∃ c1 c2, m = [c1, c2] ∧ c1.page = p ∧ e = oneMore c2.key c2.page ∧ c2.key.size ≤ 96 ∧ c2.page < 65536
def PutR (R R' : RoomS) (h p : Nat) (lo : ByteArray) (ps : List Nat) (kv : KV) (e : Ending) : Prop :=
  ∃ m new, Shape p m e ∧ Kids (PageIs R') h lo m ∧ m.flatMap Kid.kv = kv ∧ (m.flatMap Kid.ps).Perm (ps ++ new) ∧ Turn R R' ps new (5 * (h + 1)) ∧ new.length ≤ h + 1
theorem PageIs.of {R R' : RoomS} {p : Nat} {x : Nd} (h : PageIs R p x) (hp : R'.pages = R.pages) (hh : R'.has p = true) (ht : R'.text p = R.text p) : PageIs R' p x := by
  obtain ⟨a, b, c, d, e, f⟩ := h
  exact ⟨by rw [hp]; exact a, hh, by rw [ht]; exact c, d, e, f⟩
theorem Sub.page_has {R : RoomS} {h p : Nat} {lo : ByteArray} {kv : KV} {ps : List Nat} (hs : Sub (PageIs R) h p lo kv ps) : ∀ q ∈ ps, q < R.pages ∧ R.has q = true := by
  induction h generalizing p lo kv ps with
  | zero =>
    obtain ⟨e, _, hP, _⟩ := hs
    intro q hq
    rw [e] at hq
    rw [List.mem_singleton.1 hq]
    exact ⟨hP.1, hP.2.1⟩
  | succ h ih =>
    obtain ⟨cs, _, _, hP, _, hps, hsub, _⟩ := hs
    intro q hq
    rw [hps] at hq
    rcases List.mem_cons.1 hq with e | e
    · rw [e]; exact ⟨hP.1, hP.2.1⟩
    · obtain ⟨c, hc, hq2⟩ := List.mem_flatMap.1 e
      exact ih (hsub c hc) q hq2
theorem Laid.turn {R R' : RoomS} {p : Nat} {x : Nd} {e : Ending} (h : Laid R R' p x e) (hp : p < R.pages) (h1 : R.has p = true) (hfit : R.pages ≤ R.maps * 4096) (hm : R'.maps = R.maps) (hpg : R'.pages = R.pages) (ok : x.ok) (hne : x.keys ≠ []) (hmo : x.size ≤ 512 + x.most) :
    (e = noMore ∧ PageIs R' p x ∧ Turn R R' [p] [] 5) ∨
    ∃ a q, PartAt x a ∧ 512 < x.size ∧ e = oneMore ((x.drop a).keys.getD 0 ⟨#[]⟩) q ∧ q < R.pages ∧ R.has q = false ∧ PageIs R' p (x.take a) ∧ PageIs R' q (x.drop a) ∧ Turn R R' [p] [q] 5 := by
  rcases h with ⟨hs, he, hw⟩ | ⟨a, q, R1, hpa, hs, he, hw, hm1, hp1, hf⟩
  · refine .inl ⟨he, ⟨by rw [hpg]; exact hp, by rw [hw.has p (by omega)]; exact h1, by rw [hw.text p hp, if_pos rfl], ok, hne, hs⟩, ⟨by simp, by simp, fun q hq => by rw [hw.has q (by omega)]; simp, fun q hq h2 _ => ?_, hw.zero, hm, hpg, ?_⟩⟩
    · rw [hw.text q hq, if_neg (by simpa using h2)]
    · obtain ⟨b, b1, b2⟩ := hw.puts
      exact ⟨b, b1, by omega⟩
  · obtain ⟨s1, s2, s3, s4, s5⟩ := hpa.sizes ok hs hmo
    have hq : q < R.pages := by have := hf.was.1; rw [hp1] at this; exact this
    have hq0 : R.has q = false := by have := hf.was.2; rw [hw.has q (by omega)] at this; exact this
    have hqp : p ≠ q := fun e => by rw [e] at h1; rw [hq0] at h1; cases h1
    have hh : ∀ r, r < R.pages → R'.has r = (decide (r = q) || R.has r) := fun r hr => by rw [hf.has r (by rw [hm1]; omega), hw.has r (by omega)]
    have htx : ∀ r, r < R.pages → R'.text r = if r = q then fullS (x.drop a).text else if r = p then fullS (x.take a).text else R.text r := fun r hr => by rw [hf.text r (by rw [hp1]; exact hr), hw.text r hr]
    refine .inr ⟨a, q, hpa, hs, he, hq, hq0, ⟨by rw [hpg]; exact hp, by rw [hh p hp, h1]; simp, by rw [htx p hp, if_neg hqp, if_pos rfl], ok.take a, ?_, s1⟩, ⟨by rw [hpg]; exact hq, by rw [hh q hq]; simp, by rw [htx q hq, if_pos rfl], ok.drop a, ?_, s2⟩, ⟨fun r hr => by rw [List.mem_singleton.1 hr]; exact ⟨hq, hq0⟩, List.pairwise_singleton _ _, fun r hr => by rw [hh r hr]; simp, fun r hr h2 h3 => ?_, by rw [hf.zero, hw.zero], hm, hpg, ?_⟩⟩
    · intro e0
      have : (x.keys.take a).length = 0 := by show (x.take a).keys.length = 0; rw [e0]; rfl
      rw [List.length_take] at this
      omega
    · intro e0
      have : (x.keys.drop a).length = 0 := by show (x.drop a).keys.length = 0; rw [e0]; rfl
      rw [List.length_drop] at this
      omega
    · rw [htx r hr, if_neg (by simpa using h3), if_neg (by simpa using h2)]
    · obtain ⟨b, b1, b2⟩ := hw.puts
      obtain ⟨d, d1, d2⟩ := hf.puts
      exact ⟨b ++ d, by rw [d1, b1, List.append_assoc], by rw [List.length_append]; omega⟩
theorem free_of {R : RoomS} {L : List Nat} (hL : ∀ q, q < R.pages → R.has q = true → q ∈ L) (hn : L.length < R.pages) : ∃ q, q < R.pages ∧ R.has q = false := by
  by_cases h : ∃ q, q < R.pages ∧ R.has q = false
  · exact h
  · have hsub : (List.range R.pages) ⊆ L := fun q hq => by
      have hq := List.mem_range.1 hq
      refine hL q hq ?_
      cases hc : R.has q with
      | true => rfl
      | false => exact absurd ⟨q, hq, hc⟩ h
    have := (List.nodup_range (n := R.pages)).length_le_of_subset hsub
    rw [List.length_range] at this
    omega
section
variable {R R1 R2 R' : RoomS} {h p : Nat} {lo key val : ByteArray} {kv : KV} {ps ps1 ps2 new new1 new2 : List Nat} {m1 m2 m : Nat} {cs : List Kid}
theorem Turn.mono (h : Turn R R' ps new m) (hs : ∀ q ∈ ps, q ∈ ps1) (hm : m ≤ m1) : Turn R R' ps1 new m1 :=
  ⟨h.free, h.nodup, h.has, fun q hq h1 h2 => h.text q hq (fun e => h1 (hs q e)) h2, h.zero, h.maps, h.pages, by obtain ⟨a, a1, a2⟩ := h.puts; exact ⟨a, a1, by omega⟩⟩
theorem Turn.trans (h : Turn R R1 ps1 new1 m1) (k : Turn R1 R2 ps2 new2 m2) : Turn R R2 (ps1 ++ ps2) (new1 ++ new2) (m1 + m2) := by
  have hk : ∀ q ∈ new2, q < R.pages ∧ q ∉ new1 ∧ R.has q = false := fun q hq => by
    obtain ⟨a, b⟩ := k.free q hq
    rw [h.pages] at a
    rw [h.has q a] at b
    simp only [Bool.or_eq_false_iff, decide_eq_false_iff_not] at b
    exact ⟨a, b.1, b.2⟩
  refine ⟨fun q hq => ?_, List.nodup_append.2 ⟨h.nodup, k.nodup, fun q hq r hr e => (hk r hr).2.1 (e ▸ hq)⟩, fun q hq => ?_, fun q hq h1 h2 => ?_, k.zero.trans h.zero, k.maps.trans h.maps, k.pages.trans h.pages, ?_⟩
  · rcases List.mem_append.1 hq with e | e
    · exact h.free q e
    · exact ⟨(hk q e).1, (hk q e).2.2⟩
  · rw [k.has q (by rw [h.pages]; exact hq), h.has q hq]
    by_cases e1 : q ∈ new1 <;> by_cases e2 : q ∈ new2 <;> simp [e1, e2]
  · simp only [List.mem_append, not_or] at h1 h2
    rw [k.text q (by rw [h.pages]; exact hq) h1.2 h2.2, h.text q hq h1.1 h2.1]
  · obtain ⟨a, a1, a2⟩ := h.puts
    obtain ⟨b, b1, b2⟩ := k.puts
    exact ⟨a ++ b, by rw [b1, a1, List.append_assoc], by rw [List.length_append]; omega⟩
theorem Sub.frame (hs : Sub (PageIs R) h p lo kv ps1) (ht : Turn R R' ps new m) (hd : ∀ q ∈ ps1, q ∉ ps) : Sub (PageIs R') h p lo kv ps1 := hs.mono (fun q hq x hx => by
  have h1 := hs.page_has q hq
  exact hx.of ht.pages (by rw [ht.has q h1.1, h1.2]; simp) (ht.text q h1.1 (hd q hq) (fun e => by have := (ht.free q e).2; rw [h1.2] at this; cases this)))
theorem Kids.frame (hk : Kids (PageIs R) h lo cs) (ht : Turn R R' ps new m) (hd : ∀ q ∈ cs.flatMap Kid.ps, q ∉ ps) : Kids (PageIs R') h lo cs :=
  ⟨hk.head, fun c hc => (hk.sub c hc).frame ht (fun q hq => hd q (List.mem_flatMap.2 ⟨c, hc, hq⟩)), hk.bef⟩
theorem perm_mid {a b c d : List Nat} : (a ++ ((b ++ d) ++ c)).Perm ((a ++ (b ++ c)) ++ d) := by
  rw [List.append_assoc, List.append_assoc, List.append_assoc]
  exact ((List.perm_append_comm (l₁ := d) (l₂ := c)).append_left b).append_left a
theorem kids_mid {l1 l2 m : List Kid} {c : Kid} (hp : (m.flatMap Kid.ps).Perm (c.ps ++ new)) : ((l1 ++ (m ++ l2)).flatMap Kid.ps).Perm ((l1 ++ c :: l2).flatMap Kid.ps ++ new) := by
  rw [List.flatMap_append, List.flatMap_append, List.flatMap_append, List.flatMap_cons]
  exact ((hp.append_right _).append_left _).trans perm_mid
end
theorem leaf_putR {R R' : RoomS} {p : Nat} {lo key val : ByteArray} {kv : KV} {e : Ending} (hs : Sub (PageIs R) 0 p lo kv [p]) (hfit : R.pages ≤ R.maps * 4096) (h16 : R.pages ≤ 65536) (hkl : ¬ bLt key lo) (hk : key.size ≤ 96) (hv : val.size ≤ 56) (hm : R'.maps = R.maps) (hpg : R'.pages = R.pages) (hl : Laid R R' p (leafOf (ins kv key val)) e) : PutR R R' 0 p lo [p] (ins kv key val) e := by
  obtain ⟨_, hne, hP, hlo, hsr⟩ := hs
  have hlf : Lf lo (ins kv key val) := (Lf.mk hne hlo hsr).ins hkl val
  obtain ⟨kv', hkv'⟩ : ∃ kv', ins kv key val = kv' := ⟨_, rfl⟩
  have hok : (leafOf kv').ok := by rw [← hkv']; exact ins_ok hP.2.2.2.1 hk hv
  have hmo : (leafOf kv').size ≤ 512 + (leafOf kv').most := by
    have h5 := ins_size hsr hk hv
    have h6 : (leafOf (ins kv key val)).most = 154 := rfl
    have h7 := hP.2.2.2.2.2
    rw [← hkv']
    omega
  rw [hkv'] at hl hlf ⊢
  have hkne : (leafOf kv').keys ≠ [] := by rw [leafOf_keys]; intro e0; exact hlf.ne (List.map_eq_nil_iff.1 e0)
  rcases hl.turn hP.1 hP.2.1 hfit hm hpg hok hkne hmo with ⟨rfl, hp2, ht⟩ | ⟨a, q, hpa, hsz, rfl, hq, hq0, hp2, hp3, ht⟩
  · exact ⟨[⟨lo, p, kv', [p]⟩], [], .inl ⟨_, rfl, rfl, rfl⟩, kids_one (hlf.whole hp2), by simp, by simp, ht, by simp⟩
  · obtain ⟨s1, s2, s3, s4, s5⟩ := hpa.sizes hok hsz hmo
    rw [leafOf_keys, List.length_map] at s4
    obtain ⟨f1, f2, f3⟩ := hlf.parted (a := a) (by omega) s4
    rw [leaf_take] at hp2
    have hdk : ((leafOf kv').drop a).keys.getD 0 ⟨#[]⟩ = kv'[a].1 := by
      show ((kv'.map Prod.fst).drop a).getD 0 ⟨#[]⟩ = _
      rw [← List.map_drop, List.drop_eq_getElem_cons s4]
      rfl
    have hkq : kv'[a].1.size ≤ 96 := (leaf_ok.1 hok _ (List.getElem_mem s4)).1
    rw [leaf_drop] at hp3
    refine ⟨[⟨lo, p, kv'.take a, [p]⟩, ⟨kv'[a].1, q, kv'.drop a, [q]⟩], [q], .inr ⟨_, _, rfl, rfl, by rw [hdk], hkq, ?_⟩, kids_two (f1.whole hp2) (f2.whole hp3) f3, by simp, by simp, ht, by simp⟩
    show q < 65536
    omega
theorem inner_putR {R R' : RoomS} {h p : Nat} {lo : ByteArray} {cs : List Kid} {e : Ending} (hk : Kids (PageIs R) h lo cs) (h2 : 2 ≤ cs.length) (hnd : p ∉ cs.flatMap Kid.ps) (hp : p < R.pages) (h1 : R.has p = true) (hok : (innerOf cs).ok) (hmo : (innerOf cs).size ≤ 512 + 101) (hfit : R.pages ≤ R.maps * 4096) (h16 : R.pages ≤ 65536) (hm : R'.maps = R.maps) (hpg : R'.pages = R.pages) (hl : Laid R R' p (innerOf cs) e) :
    ∃ m new, Shape p m e ∧ Kids (PageIs R') (h + 1) lo m ∧ m.flatMap Kid.kv = cs.flatMap Kid.kv ∧ (m.flatMap Kid.ps).Perm (p :: cs.flatMap Kid.ps ++ new) ∧ Turn R R' [p] new 5 ∧ new.length ≤ 1 := by
  have hkl : (innerOf cs).keys.length = cs.length := by show (cs.map Kid.key).length = _; rw [List.length_map]
  have hkne : (innerOf cs).keys ≠ [] := by intro e0; rw [e0] at hkl; simp at hkl; omega
  rcases hl.turn hp h1 hfit hm hpg hok hkne hmo with ⟨rfl, hp2, ht⟩ | ⟨a, q, hpa, hsz, rfl, hq, hq0, hp2, hp3, ht⟩
  · have hk2 := hk.frame ht (fun q hq e => hnd (by rw [← List.mem_singleton.1 e]; exact hq))
    exact ⟨[⟨lo, p, cs.flatMap Kid.kv, p :: cs.flatMap Kid.ps⟩], [], .inl ⟨_, rfl, rfl, rfl⟩, kids_one (hk2.whole h2 hp2), by simp, by simp, ht, by simp⟩
  · have hk2 := hk.frame ht (fun q hq e => hnd (by rw [← List.mem_singleton.1 e]; exact hq))
    obtain ⟨s1, s2, s3, s4, s5⟩ := hpa.sizes hok hsz hmo
    have s6 := s5 rfl
    rw [hkl] at s4 s6
    obtain ⟨f1, f2, f3⟩ := hk2.parted (a := a) (by omega) s4
    rw [inner_take] at hp2
    have hdk : ((innerOf cs).drop a).keys.getD 0 ⟨#[]⟩ = cs[a].key := by
      show ((cs.map Kid.key).drop a).getD 0 ⟨#[]⟩ = _
      rw [← List.map_drop, List.drop_eq_getElem_cons s4]
      rfl
    have hkq : cs[a].key.size ≤ 96 := (inner_ok.1 hok _ (List.getElem_mem s4)).1
    rw [inner_drop] at hp3
    have w1 := f1.whole (by rw [List.length_take]; omega) hp2
    have w2 := f2.whole (by rw [List.length_drop]; omega) hp3
    refine ⟨[⟨lo, p, (cs.take a).flatMap Kid.kv, p :: (cs.take a).flatMap Kid.ps⟩, ⟨cs[a].key, q, (cs.drop a).flatMap Kid.kv, q :: (cs.drop a).flatMap Kid.ps⟩], [q], .inr ⟨_, _, rfl, rfl, by rw [hdk], hkq, ?_⟩, kids_two w1 w2 f3, ?_, ?_, ht, by simp⟩
    · show q < 65536
      omega
    · show (cs.take a).flatMap Kid.kv ++ ((cs.drop a).flatMap Kid.kv ++ []) = _
      rw [List.append_nil, ← List.flatMap_append, List.take_append_drop]
    · show ((p :: (cs.take a).flatMap Kid.ps) ++ ((q :: (cs.drop a).flatMap Kid.ps) ++ [])).Perm _
      have e1 : cs.flatMap Kid.ps = (cs.take a).flatMap Kid.ps ++ (cs.drop a).flatMap Kid.ps := by rw [← List.flatMap_append, List.take_append_drop]
      rw [List.append_nil, e1, List.cons_append, List.cons_append, List.append_assoc]
      refine List.Perm.cons _ (List.Perm.append_left _ ?_)
      exact (List.perm_append_comm (l₁ := [q]) (l₂ := (cs.drop a).flatMap Kid.ps))
theorem put_any {tb br pl : Nat} {key val : ByteArray} (hk : key.size ≤ 96) (hv : val.size ≤ 56) (h : Nat) : ∀ {w : World} {R : RoomS} {p deep : Nat} {lo : ByteArray} {kv : KV} {ps L : List Nat}, TreeAt w tb br pl → ¬ R.foot br tb → RoomAt w br R → R.T.puts.length + 1000 < 1000000000000 → R.pages ≤ 65536 → Sub (PageIs R) h p lo kv ps → ¬ bLt key lo → deep + h ≤ 20 → ps.Nodup →
    (∀ q, q < R.pages → R.has q = true → q ∈ L) → L.length + h + 1 ≤ R.pages →
    Calls Tryz.prog 157 #[.pointer (some ⟨tb, 0, none⟩), .int .i64 p, .string key, .string val, .int .i64 deep] w fun e w' => ∃ R', RoomStep br w R w' R' ∧ PutR R R' h p lo ps (ins kv key val) e := by
  induction h with
  | zero =>
    intro w R p deep lo kv ps L ht htb hr hlen h16 hs hkl hd hnd hL hn
    obtain ⟨rfl, hne, hP, hlo, hsr⟩ := id hs
    have hfit : R.pages ≤ R.maps * 4096 := by have := hr.fit.1; omega
    exact (put_leaf ht htb hr (by omega) hP hsr hk hv (by omega) (free_of hL (by omega))).mono fun e w' ⟨R', hst, hla⟩ => ⟨R', hst, leaf_putR hs hfit h16 hkl hk hv hst.maps hst.pages hla⟩
  | succ h ih =>
    intro w R p deep lo kv ps L ht htb hr hlen h16 hs hkl hd hnd hL hn
    obtain ⟨cs, hks, h2, hP, rfl, rfl⟩ := hs.kids
    have hfit : R.pages ≤ R.maps * 4096 := by have := hr.fit.1; omega
    obtain ⟨l1, c, l2, rfl, hb1, hb2, hb3⟩ := kids_way hks.head hks.bef hkl
    have hcm : c ∈ l1 ++ c :: l2 := by simp
    have hcs := hks.sub c hcm
    obtain ⟨hnp, hnf⟩ := List.nodup_cons.1 hnd
    have hnf' : (l1.flatMap Kid.ps ++ (c.ps ++ l2.flatMap Kid.ps)).Nodup := by rw [List.flatMap_append, List.flatMap_cons] at hnf; exact hnf
    obtain ⟨n1, n2, n3⟩ := List.nodup_append.1 hnf'
    obtain ⟨n4, n5, n6⟩ := List.nodup_append.1 n2
    have hside : ∀ d, d ∈ l1 ∨ d ∈ l2 → ∀ q ∈ d.ps, q ∉ c.ps := fun d hd q hq e => hd.elim (fun e1 => n3 q (List.mem_flatMap.2 ⟨d, e1, hq⟩) q (List.mem_append.2 (.inl e)) rfl) (fun e1 => n6 q e q (List.mem_flatMap.2 ⟨d, e1, hq⟩) rfl)
    have hpc : p ∉ c.ps := fun e => hnp (List.mem_flatMap.2 ⟨c, hcm, e⟩)
    have hkvm : ∀ m : List Kid, m.flatMap Kid.kv = ins c.kv key val → (l1 ++ (m ++ l2)).flatMap Kid.kv = ins ((l1 ++ c :: l2).flatMap Kid.kv) key val := fun m hm => by
      rw [kids_ins rfl hks.sub hb1 hb2 hb3 val, List.flatMap_append, List.flatMap_append, hm]
    refine (put_inner (Q := fun R2 e => R2.maps = R.maps ∧ PutR R R2 h c.page c.key c.ps (ins c.kv key val) e) ht htb hr hP rfl (fun d hd => fun e => ?_) hb2 hb3 (by omega) (fun w1 ht1 hr1 => ?_) ?_).mono ?_
    · exact hb2 (bLt_trans e (hb1 d hd).1)
    · exact (ih ht1 htb hr1 hlen h16 hcs hb2 (by omega) n4 hL (by omega)).mono fun e w2 ⟨R2, hs2, hq2⟩ => ⟨R2, hs2, hs2.maps, hq2⟩
    · rintro R2 e ⟨_, m, new, hsh, hkm, hkv, hpm, htu, hnl⟩
      rcases hsh with ⟨c', _, _, rfl⟩ | ⟨c1, c2, _, _, rfl, hc2, hc3⟩
      · exact .inl rfl
      · refine .inr ⟨c2.key, c2.page, rfl, hc2, hc3, ?_, ?_, ?_⟩
        · rw [htu.has p hP.1, hP.2.1]; simp
        · obtain ⟨a, a1, a2⟩ := htu.puts
          rw [a1, List.length_append]
          omega
        · refine free_of (L := L ++ new) (fun q hq h => ?_) (by rw [List.length_append, htu.pages]; omega)
          rw [htu.pages] at hq
          rw [htu.has q hq] at h
          simp only [Bool.or_eq_true, decide_eq_true_eq] at h
          exact List.mem_append.2 (h.elim (fun e => .inr e) (fun e => .inl (hL q hq e)))
    · rintro e w' ⟨R', hst, ⟨rfl, _, m, new, hsh, hkm, hkv, hpm, htu, hnl⟩ | ⟨R2, k2, q2, ⟨_, m, new, hsh, hkm, hkv, hpm, htu, hnl⟩, hmp, hpg, hla⟩⟩
      · refine ⟨R', hst, ?_⟩
        rcases hsh with ⟨c', rfl, hc1, -⟩ | ⟨c1, c2, _, _, he, _⟩
        · have hkk := hks.turn hb3 hkm hkv (fun d hd => (hks.sub d (by rcases hd with e | e <;> simp [e])).frame htu (hside d hd))
          have hk' : c'.key = c.key := by have := hkm.head; simpa using this
          have e1 : innerOf (l1 ++ ([c'] ++ l2)) = innerOf (l1 ++ c :: l2) := by unfold innerOf; simp [hk', hc1]
          have hP' : PageIs R' p (innerOf (l1 ++ ([c'] ++ l2))) := by
            rw [e1]
            exact hP.of htu.pages (by rw [htu.has p hP.1, hP.2.1]; simp) (htu.text p hP.1 hpc (fun e => by have := (htu.free p e).2; rw [hP.2.1] at this; cases this))
          refine ⟨[⟨lo, p, (l1 ++ ([c'] ++ l2)).flatMap Kid.kv, p :: (l1 ++ ([c'] ++ l2)).flatMap Kid.ps⟩], new, .inl ⟨_, rfl, rfl, rfl⟩, kids_one (hkk.whole (by simp at h2 ⊢; omega) hP'), ?_, ?_, htu.mono (fun q hq => List.mem_cons_of_mem _ (List.mem_flatMap.2 ⟨c, hcm, hq⟩)) (by omega), by omega⟩
          · rw [List.flatMap_cons, List.flatMap_nil, List.append_nil]
            exact hkvm _ hkv
          · rw [List.flatMap_cons, List.flatMap_nil, List.append_nil]
            exact (kids_mid hpm).cons p
        · exact (noMore_ne he).elim
      · refine ⟨R', hst, ?_⟩
        rcases hsh with ⟨c', _, _, he⟩ | ⟨c1, c2, rfl, hc1, he, hc2, hc3⟩
        · exact (noMore_ne he.symm).elim
        · obtain ⟨rfl, rfl⟩ := oneMore_inj he
          have hkk := hks.turn hb3 hkm hkv (fun d hd => (hks.sub d (by rcases hd with e | e <;> simp [e])).frame htu (hside d hd))
          have hk' : c1.key = c.key := by have := hkm.head; simpa using this
          have e3 : kidsIn l1 l2 c c2.key c2.page = innerOf (l1 ++ ([c1, c2] ++ l2)) := by unfold kidsIn innerOf; simp [hk', hc1]
          rw [e3] at hla
          have hpm2 := kids_mid (l1 := l1) (l2 := l2) hpm
          have hpn : p ∉ (l1 ++ ([c1, c2] ++ l2)).flatMap Kid.ps := fun e => by
            rcases List.mem_append.1 (hpm2.mem_iff.1 e) with e4 | e4
            · exact hnp e4
            · have := (htu.free p e4).2
              rw [hP.2.1] at this
              cases this
          have hok0 := inner_ok.1 hP.2.2.2.1
          have hok : (innerOf (l1 ++ ([c1, c2] ++ l2))).ok := by
            refine inner_ok.2 (fun d hd => ?_)
            simp only [List.mem_append, List.mem_cons, List.not_mem_nil, or_false] at hd
            rcases hd with e | (e | e) | e
            · exact hok0 d (by simp [e])
            · rw [e, hk', hc1]; exact hok0 c (by simp)
            · rw [e]; exact ⟨hc2, hc3⟩
            · exact hok0 d (by simp [e])
          have hmo : (innerOf (l1 ++ ([c1, c2] ++ l2))).size ≤ 512 + 101 := by
            have h8 := hP.2.2.2.2.2
            rw [inner_size, kidSum_append, kidSum_append, kidSum_cons, kidSum_cons, hk']
            rw [inner_size, kidSum_append, kidSum_cons] at h8
            have h10 : kidSum ([] : List Kid) = 0 := rfl
            rw [h10]
            omega
          obtain ⟨m2, new2, g1, g2, g3, g4, g5, g6⟩ := inner_putR hkk (by simp; omega) hpn (by rw [htu.pages]; exact hP.1) (by rw [htu.has p hP.1, hP.2.1]; simp) hok hmo (by rw [hmp, hpg]; exact hfit) (by rw [hpg]; exact h16) (hst.maps.trans hmp.symm) (hst.pages.trans hpg.symm) hla
          refine ⟨m2, new ++ new2, g1, g2, g3.trans (hkvm _ hkv), g4.trans ?_, (htu.trans g5).mono (fun q hq => ?_) (by omega), by rw [List.length_append]; omega⟩
          · have e5 : p :: (l1 ++ c :: l2).flatMap Kid.ps ++ (new ++ new2) = (p :: ((l1 ++ c :: l2).flatMap Kid.ps ++ new)) ++ new2 := by simp
            rw [e5]
            exact (hpm2.cons p).append_right new2
          · rcases List.mem_append.1 hq with e | e
            · exact List.mem_cons_of_mem _ (List.mem_flatMap.2 ⟨c, hcm, e⟩)
            · rw [List.mem_singleton.1 e]; simp
end Go.Proofs.YtaokjeokpifjgaaGreatDoor

namespace Go.Proofs.YtaokjeokpifjgaaGreatDoor
open Go.RowKit Go.MapKept
attribute [local go_sem] gives givesH
set_option maxRecDepth 100000

theorem guard_idle (p : Addr) (w : World) :
    CallsD Tryz.prog 145 #[.pointer (some p)] .returning w fun e u' w' => e = .returned (.tuple #[]) ∧ u' = .returning ∧ w' = w := by
  refine callsD_of_wpS Tryz.func145 rfl fun c₀ cs hu => ?_
  apply wpS_seq
  apply wpS_region
  simp [wpOpsS, go_sem, recoverD, hu, Tryz.ntmps145, Exit.thenS]
  apply wpS_seq
  apply wpS_region
  simp [wpOpsS, go_sem, Exit.thenS]
  refine wpS_cond (t := false) (by simp [Act.eval, Array.replicate]) ?_
  simp only [Bool.false_eq_true, if_false]
  refine wpS_of_wp (wp_skip ?_)
  cases c₀
  simp_all [bodyPostS, results, Tryz.results145]
theorem put1_idle (q pm pt : Addr) (w : World) (he : w.cell? q = some (.int .i64 0)) (u : FrameMode) :
    CallsD Tryz.prog 154 #[.pointer (some q), .pointer (some pt), .pointer (some pm)] u w fun e u' w' => u' = u ∧ (e = .returned (.tuple #[]) ∧ w' = w) := by
  go_enter_d Tryz.func154, Tryz.ntmps154
  go_wp2
  go_end0
  exact ⟨rfl, rfl⟩
theorem Sub.p16 {R : RoomS} {h p : Nat} {lo : ByteArray} {kv : KV} {ps : List Nat} (hs : Sub (PageIs R) h p lo kv ps) : p < R.pages := by
  cases h with
  | zero => exact hs.2.2.1.1
  | succ h => obtain ⟨cs, _, _, hP, _⟩ := hs; exact hP.1
theorem leaf_look {kv l1 l2 : KV} {key : ByteArray} (he : kv = l1 ++ l2) (h1 : ∀ x ∈ l1, bLt x.1 key) (h2 : ∀ x ∈ l2, ¬ bLt x.1 key) (hs : Sorted kv) : look kv key = if (l2.map Prod.fst).head? = some key then some ((leafOf kv).vals.getD l1.length ⟨#[]⟩) else none := by
  rw [he, look_append_right h1]
  cases l2 with
  | nil => rfl
  | cons y t =>
    obtain ⟨ya, yb⟩ := y
    by_cases e : ya = key
    · subst e
      have e2 : (leafOf (l1 ++ (ya, yb) :: t)).vals.getD l1.length ⟨#[]⟩ = yb := by
        show ((l1 ++ (ya, yb) :: t).map Prod.snd).getD l1.length ⟨#[]⟩ = yb
        rw [List.map_append, List.getD_eq_getElem?_getD, List.getElem?_append_right (by simp)]
        simp
      rw [e2]
      simp [look]
    · have hp : ((ya, yb) :: t).Pairwise (fun x y => bLt x.1 y.1) := by rw [he] at hs; exact (List.pairwise_append.1 hs).2.1
      have h3 := (List.pairwise_cons.1 hp).1
      have h4 : look ((ya, yb) :: t) key = none := look_none (fun x hx => by
        rcases List.mem_cons.1 hx with e1 | e1
        · rw [e1]; exact e
        · intro e2
          have := h3 x e1
          rw [e2] at this
          exact h2 (ya, yb) (by simp) this)
      rw [h4]
      have e5 : ((((ya, yb) :: t).map Prod.fst).head? = some key) = False := by simp [e]
      simp only [e5, if_false]
set_option maxHeartbeats 2000000 in
theorem get_any {w : World} {tb br pl h : Nat} {R : RoomS} {p : Nat} {kv : KV} {ps : List Nat} {key : ByteArray} (ht : TreeAt w tb br pl) (hr : RoomAt w br R) (hpl : pl < 16) (hk : R.root pl = p + 1) (hp : R.pages ≤ 65536) (hs : Sub (PageIs R) h p ⟨#[]⟩ kv ps) (hh : h < 20) :
    Calls Tryz.prog 87 #[.pointer (some ⟨tb, 0, none⟩), .string key] w fun e w' => e = .returned (.tuple #[.string ((look kv key).getD ⟨#[]⟩), .bool (look kv key).isSome, .int .i64 0]) ∧ Below w.heap.size w w' := by
  have hpp := hs.p16
  have hb0 : Below w.heap.size w (w.alloc (.cells #[.int .i64 0] 29)) := (Below.refl _ _).alloc (Nat.le_refl _) _
  have HR := Hd (troot_any (w := w.alloc (.cells #[.int .i64 0] 29)) ⟨(hb0.block tb (Gl ht.cells)).trans ht.cells⟩ (hr.still hb0) hpl (by omega))
  rw [hk] at HR
  have he1 : (((p + 1 : Nat) : Int) - 1) = (p : Int) := by omega
  rw [he1] at HR
  have HT := Hd ht
  have HRm := Hd hr
  have HS := Hd hs
  have HB0 := Hd hb0
  have HP16 := Hd hp
  have hz : (w.alloc (.cells #[.int .i64 0] 29)).heap.size = w.heap.size + 1 := by simp
  have q0 := heap_alloc_new w (.cells #[.int .i64 0] 29)
  have HQ0 := Hd q0
  clear ht hr hs hb0 he1 hk
  go_enter_defers Tryz.func87, Tryz.ntmps87
  go_wp2_with (fail)
  refine (HR.out).mono ?_
  rintro e w1 ⟨rfl, hb1⟩
  have HB1 := Hd (HB0.out.trans (hb1.mono HB0.out.size))
  have q1 : w1.heap[w.heap.size]? = some (.cells #[.int .i64 0] 29 (0, 0)) := (hb1.block _ (by rw [hz]; omega)).trans HQ0.out
  have hz1 : w.heap.size < w1.heap.size := by have := hb1.size; omega
  have HQ1 := Hd q1
  clear q0 q1 hb1
  obtain ⟨we, hwe⟩ : ∃ we, w.heap.size = we := ⟨_, rfl⟩
  rw [hwe] at HQ1 hz1
  have HWe := Hd hwe
  clear hz
  go_wp2_with (fail)
  go_loopw [7, 13] (fun pg i wr => ∃ (j h' p' : Nat) (lo : ByteArray) (kv' : KV) (ps' : List Nat), i = .int .i64 j ∧ j + h' < 20 ∧ pg = .int .i64 p' ∧ Sub (PageIs R) h' p' lo kv' ps' ∧ ¬ bLt key lo ∧ look kv' key = look kv key ∧ Below w1.heap.size w1 wr) (fun _ i _ => 20 - (intOf i).toNat)
  case atStart => exact ⟨0, h, p, _, kv, ps, rfl, by omega, rfl, HS.out, not_bLt_nil _, rfl, Below.refl _ _⟩
  case round =>
    obtain ⟨j, h', p', lo, kv', ps', rfl, hj, rfl, hsub, hlo, hlk, hbel⟩ := hrel
    have hp' := hsub.p16
    have p0 : (0 : Int) ≤ (p' : Int) := by omega
    have pn : ¬ ((p' : Int) < 0) := by omega
    have hj20 : (j : Int) < 20 := by omega
    have hBw : Below w.heap.size w wr := HB1.out.trans (hbel.mono HB1.out.size)
    have htr : TreeAt wr tb br pl := ⟨(hBw.block tb (Gl HT.out.cells)).trans HT.out.cells⟩
    have HBw := Hd hBw
    have HBel := Hd hbel
    have qr : wr.heap[we]? = some (.cells #[.int .i64 0] 29 (0, 0)) := (hbel.block we (by omega)).trans HQ1.out
    have HQr := Hd qr
    have HLk := Hd hlk
    cases h' with
    | zero =>
      obtain ⟨rfl, hne, hP, hlo2, hsr⟩ := id hsub
      have HRd := Hd (tread_any htr (HRm.out.still hBw) hP)
      obtain ⟨l1, l2, he, h1, h2⟩ := leaf_at hsr key
      have hlen6 := (leafOf kv').keys_lt hP.2.2.2.1 (by have := hP.2.2.2.2.2; omega)
      have HFd := Hd (fun u b (hu : NdR u b (leafOf kv')) => find_any (key := key) (l1 := l1.map Prod.fst) (l2 := l2.map Prod.fst) hu (by rw [leafOf_keys, he, List.map_append]) (fun k hk => by
        obtain ⟨x, hx, rfl⟩ := List.mem_map.1 hk
        exact h1 x hx) (fun k hk => by
        obtain ⟨x, hx, rfl⟩ := List.mem_map.1 hk
        exact h2 x hx) hlen6)
      rw [List.length_map] at HFd
      have HLL := Hd (leaf_look he h1 h2 hsr)
      have hvl : (leafOf kv').vals.length = kv'.length := by show (kv'.map Prod.snd).length = _; rw [List.length_map]
      have HIn : (l2.map Prod.fst).head? = some key → l1.length < (leafOf kv').vals.length := fun hh => by
        rw [hvl, he, List.length_append]
        cases l2 with
        | nil => cases hh
        | cons y t => simp
      have HIN := Hd HIn
      have HL6 := Hd (show (leafOf kv').vals.length < 65536 from by rw [hvl]; rw [leafOf_keys, List.length_map] at hlen6; exact hlen6)
      clear hsub hlo hlk hbel hBw htr hP hlo2 hsr he h1 h2 hlen6 hne hvl HIn qr
      go_wp2_with (fail)
      refine (HRd.out).mono ?_
      rintro e w2 ⟨nb, ka, va, ca, rfl, hnd, hnw, hb2⟩
      have c0 : w2.cell? ⟨nb, 0, none⟩ = some (.bool true) := Lib.cell_of_heap hnd.cells 0
      have HF2 := Hd (HFd.out w2 nb hnd.read)
      have HN2 := Hd hnd
      have HB2 := Hd hb2
      clear hnd hnw hb2
      obtain ⟨i, hil⟩ : ∃ i, l1.length = i := ⟨_, rfl⟩
      rw [hil] at HF2 HLL HIN
      by_cases hth : (l2.map Prod.fst).head? = some key
      · rw [decide_eq_true hth] at HF2
        have hin := HIN.out hth
        have hll := HLL.out
        rw [if_pos hth] at hll
        have HLl := Hd hll
        clear hth hll HIN HLL
        go_wp2_with (fail)
        refine (HF2.out).mono ?_
        rintro e w3 ⟨rfl, hb3⟩
        have hn3 := HN2.out.still hb3
        obtain ⟨g2, p2, hva, hnp, _, _⟩ := row_posB hn3.vals (by omega)
        subst hva
        have q2 : w3.cell? ⟨g2, i, none⟩ = some (.string ((leafOf kv').vals.getD i ⟨#[]⟩)) := by
          have := hn3.vals.cells rfl i _ (strV_get _ _ hin)
          rwa [addr_add9] at this
        obtain ⟨vn, hvn⟩ : ∃ vn, (leafOf kv').vals.getD i ⟨#[]⟩ = vn := ⟨_, rfl⟩
        have HVn := Hd hvn
        rw [hvn] at q2
        have c2 : w3.cell? ⟨nb, 2, none⟩ = some (.slice (some ⟨g2, 0, none⟩) (leafOf kv').vals.length p2) := Lib.cell_of_heap hn3.cells 2
        have HL7 := Hd HL6.out
        obtain ⟨n, hn⟩ : ∃ n, (leafOf kv').vals.length = n := ⟨_, rfl⟩
        rw [hn] at c2 hin hnp
        have i0 : (0 : Int) ≤ (i : Int) := by omega
        have i1 : (i : Int) < (n : Int) := by omega
        have HB3 := Hd (HB2.out.trans (hb3.mono HB2.out.size))
        have q3 : w3.heap[we]? = some (.cells #[.int .i64 0] 29 (0, 0)) := (HB3.out.block we (by have := (Gl HQr.out); exact this)).trans HQr.out
        have f3 : w3.frozen? ⟨we, 0, none⟩ = false := froz_of q3
        have c3 : w3.cell? ⟨we, 0, none⟩ = some (.int .i64 0) := Lib.cell_of_heap q3 0
        clear hn3 hb3 hvn hn q3
        go_wp2_with (fail)
        refine leaves_cons (f := 145) (args := #[.pointer (some ⟨we, 0, none⟩)]) (by simp) (by simp [go_sem]) ?_
        refine (guard_idle _ _).mono ?_
        rintro e u' w'' ⟨rfl, rfl, rfl⟩
        have e9 : (w3.setCell ⟨we, 0, none⟩ (.int .i64 0)).cell? ⟨we, 0, none⟩ = some (.int .i64 0) := World.cell?_setCell_same _ _ _ c3
        simp [Leaves, settle, results, Tryz.results87, go_sem, e9]
        rw [← HLk.out, HLl.out, ← HVn.out]
        exact ⟨⟨rfl, rfl⟩, (HBw.out.trans (HB3.out.mono HBw.out.size)).setCell (by rw [HWe.out]; exact Nat.le_refl _) _⟩
      · rw [decide_eq_false hth] at HF2
        have hll := HLL.out
        rw [if_neg hth] at hll
        have HLl := Hd hll
        clear hth hll HIN HLL
        go_wp2_with (fail)
        refine (HF2.out).mono ?_
        rintro e w3 ⟨rfl, hb3⟩
        have HB3 := Hd (HB2.out.trans (hb3.mono HB2.out.size))
        have q3 : w3.heap[we]? = some (.cells #[.int .i64 0] 29 (0, 0)) := (HB3.out.block we (by have := (Gl HQr.out); exact this)).trans HQr.out
        have f3 : w3.frozen? ⟨we, 0, none⟩ = false := froz_of q3
        have c3 : w3.cell? ⟨we, 0, none⟩ = some (.int .i64 0) := Lib.cell_of_heap q3 0
        clear hb3 q3
        go_wp2_with (fail)
        refine leaves_cons (f := 145) (args := #[.pointer (some ⟨we, 0, none⟩)]) (by simp) (by simp [go_sem]) ?_
        refine (guard_idle _ _).mono ?_
        rintro e u' w'' ⟨rfl, rfl, rfl⟩
        have e9 : (w3.setCell ⟨we, 0, none⟩ (.int .i64 0)).cell? ⟨we, 0, none⟩ = some (.int .i64 0) := World.cell?_setCell_same _ _ _ c3
        simp [Leaves, settle, results, Tryz.results87, go_sem, e9]
        rw [← HLk.out, HLl.out]
        exact ⟨⟨rfl, rfl⟩, (HBw.out.trans (HB3.out.mono HBw.out.size)).setCell (by rw [HWe.out]; exact Nat.le_refl _) _⟩
    | succ h' =>
      obtain ⟨cs, hks, h2, hP, rfl, rfl⟩ := hsub.kids
      obtain ⟨l1, c, l2, rfl, hb1, hb2, hb3⟩ := kids_way hks.head hks.bef hlo
      have HRd := Hd (tread_any htr (HRm.out.still hBw) hP)
      have hlen6 := (innerOf (l1 ++ c :: l2)).keys_lt hP.2.2.2.1 (by have := hP.2.2.2.2.2; omega)
      have HWy := Hd (fun u b (hu : NdR u b (innerOf (l1 ++ c :: l2))) => way_any (key := key) (l1 := (l1 ++ [c]).map Kid.key) (l2 := l2.map Kid.key) hu (by show (l1 ++ c :: l2).map Kid.key = _; rw [← List.map_append, List.append_assoc]; rfl) (fun k hk => by
        obtain ⟨x, hx, rfl⟩ := List.mem_map.1 hk
        rcases List.mem_append.1 hx with e | e
        · exact fun e2 => hb2 (bLt_trans e2 (hb1 x e).1)
        · rw [List.mem_singleton.1 e]; exact hb2) (fun k hk => by
        obtain ⟨x, hx, rfl⟩ := List.mem_map.1 hk
        exact hb3 x hx) hlen6)
      have hli : ((l1 ++ [c]).map Kid.key).length - 1 = l1.length := by rw [List.length_map, List.length_append]; simp
      rw [hli] at HWy
      have hkid : (intV (innerOf (l1 ++ c :: l2)).kids)[l1.length]? = some (.int .i64 (c.page : Nat)) := by
        show (((l1 ++ c :: l2).map Kid.page).map _)[l1.length]? = _
        rw [List.getElem?_map, List.getElem?_map, List.getElem?_append_right (Nat.le_refl _), Nat.sub_self]
        rfl
      have HKid := Hd hkid
      have hcl : (innerOf (l1 ++ c :: l2)).kids.length = (l1 ++ c :: l2).length := by show ((l1 ++ c :: l2).map Kid.page).length = _; rw [List.length_map]
      have hkl : (innerOf (l1 ++ c :: l2)).keys.length = (l1 ++ c :: l2).length := by show ((l1 ++ c :: l2).map Kid.key).length = _; rw [List.length_map]
      have hlf : l1.length < (innerOf (l1 ++ c :: l2)).kids.length := by rw [hcl, List.length_append, List.length_cons]; omega
      have hl6 : (innerOf (l1 ++ c :: l2)).kids.length < 65536 := by rw [hcl, ← hkl]; exact hlen6
      have hlook : look c.kv key = look kv key := by rw [← hlk]; exact (kids_look rfl hks.sub hb1 hb2 hb3).symm
      have HNext := Hd (show Sub (PageIs R) h' c.page c.key c.kv c.ps ∧ ¬ bLt key c.key ∧ look c.kv key = look kv key from ⟨hks.sub c (by simp), hb2, hlook⟩)
      obtain ⟨i, hil⟩ : ∃ i, l1.length = i := ⟨_, rfl⟩
      rw [hil] at HWy HKid hlf
      obtain ⟨cp, hcp⟩ : ∃ cp, c.page = cp := ⟨_, rfl⟩
      rw [hcp] at HKid HNext
      obtain ⟨x, hx⟩ : ∃ x, innerOf (l1 ++ c :: l2) = x := ⟨_, rfl⟩
      have hlx : x.leaf = false := by rw [← hx]; rfl
      rw [hx] at HRd HWy HKid hlf hl6
      clear hsub hlo hlk hbel hBw htr hP hks h2 hb1 hb2 hb3 hlen6 hli hkid hcl hkl hlook HLk hx hil hcp
      go_wp2_with (fail)
      refine (HRd.out).mono ?_
      rintro e w2 ⟨nb, ka, va, ca, rfl, hnd, hnw, hb2⟩
      have c0 : w2.cell? ⟨nb, 0, none⟩ = some (.bool false) := by have := Lib.cell_of_heap hnd.cells 0; rw [hlx] at this; exact this
      have hdw : Below w2.heap.size w2 w2.drew := ⟨rfl, rfl, rfl, Nat.le_refl _, fun _ _ => rfl⟩
      have HW2 := Hd (HWy.out w2.drew nb (hnd.read.still hdw))
      have HN2 := Hd hnd
      have HB2 := Hd hb2
      obtain ⟨g2, p2, hca, hnp, _, _⟩ := row_posB hnd.kids (by omega)
      subst hca
      have c3 : w2.cell? ⟨nb, 3, none⟩ = some (.slice (some ⟨g2, 0, none⟩) x.kids.length p2) := Lib.cell_of_heap hnd.cells 3
      have q2 : w2.cell? ⟨g2, i, none⟩ = some (.int .i64 cp) := by
        have := hnd.kids.cells rfl i _ HKid.out
        rwa [addr_add9] at this
      obtain ⟨n, hn⟩ : ∃ n, x.kids.length = n := ⟨_, rfl⟩
      rw [hn] at c3 hlf hnp hl6
      have i0 : (0 : Int) ≤ (i : Int) := by omega
      have i1 : (i : Int) < (n : Int) := by omega
      have HNB := Hd (show nb < w2.heap.size from hnd.lt (.inl rfl))
      clear hnd hnw hb2 hn hlx hdw
      go_wp2_with (fail)
      have HC3 := Hd c3
      have HQ2 := Hd q2
      have HNa := Hd (show g2 < w2.heap.size from World.block_lt_of_cell? w2 ⟨g2, i, none⟩ q2)
      obtain ⟨S, hS⟩ : ∃ S : World → Prop, ∀ u, S u ↔ Keep (fun _ => False) (w2) u := ⟨fun u => Keep (fun _ => False) (w2) u, fun _ => Iff.rfl⟩
      have HS := Hd hS
      clear hS
      refine wp_region_ord 7 [(0, true), (1, true), (2, true), (3, true), (4, true), (5, true), (6, false)] S (by kernel_rfl) (by kernel_rfl) ((HS.out _).2 (Keep.refl _ _).drew) ?_
      iterate 6
        first
          | (refine wpH_passed rfl (by rfl) (fun K hK => ?_); go_simp; refine hK _ ?_; clear hK K)
          | (first
               | refine wpH_read rfl rfl (fun K hK => ?_)
               | refine wpH_readw rfl (by rfl) (fun K hK => ?_)
             apply Exists.intro
             refine ⟨fun u hu => ?_, ?_⟩
             · have hu := (HS.out u).1 hu
               have c3 : u.cell? ⟨nb, 3, none⟩ = some (.slice (some ⟨g2, 0, none⟩) n p2) := by rw [hu.cell (p := ⟨nb, 3, none⟩) HNB.out (fun e => e)]; exact HC3.out
               clear hu
               go_simp
               exact ⟨rfl, rfl⟩
             go_simp
             refine hK _ ?_
             clear hK K)
      first | refine wpH_do rfl rfl (fun K hK => ?_) | refine wpH_dow rfl (by rfl) (fun K hK => ?_)
      go_simp
      go_at_call 149
      refine (HW2.out).mono ?_
      rintro e w3 ⟨rfl, hb3⟩
      have HB3 := Hd (show Below w2.heap.size w2 w3 from ⟨hb3.os, hb3.tape, hb3.output, hb3.size, hb3.block⟩)
      refine hK _ _ ((HS.out _).2 (Keep.ofBelow HB3.out)) ?_
      clear hK K hb3
      refine wpH_nil ?_
      simp only [List.drop_succ_cons, List.drop_zero]
      clear S HS
      have q3 : w3.cell? ⟨g2, i, none⟩ = some (.int .i64 cp) := by rw [HB3.out.cell (p := ⟨g2, i, none⟩) HNa.out]; exact HQ2.out
      clear q2 c3
      go_wp2_with (fail)
      go_roundw
      case rel => exact ⟨j + 1, h', cp, c.key, c.kv, c.ps, by go_num, by omega, rfl, HNext.out.1, HNext.out.2.1, HNext.out.2.2, HBel.out.trans ((HB2.out.trans (HB3.out.mono HB2.out.size)).mono HBel.out.size)⟩
      case measure => simp [intOf]; omega
end Go.Proofs.YtaokjeokpifjgaaGreatDoor

namespace Go.Proofs.YtaokjeokpifjgaaGreatDoor
section
variable {P : Program} {ops : Array Oper} {md : Region.Mode} {S : World → Prop}

inductive Way where
  | fin
  | read (k : Nat) (r : Way)
  | one (k : Nat) (r : Way)
  | two (k1 : Nat) (r1 : Way) (k2 : Nat) (r2 : Way)
def Way.len : Way → Nat
  | .fin => 0
  | .read _ r => r.len + 1
  | .one _ r => r.len + 1
  | .two _ r1 _ _ => r1.len + 1
def wayB (md : Region.Mode) (ops : Array Oper) (n g : Nat) : Way → Array Bool → Bool
  | .fin, listed => Region.seqB md ops g n listed
  | .read k r, listed => decide (k < n) && ((Region.ready md ops listed).contains k && Region.free md ops listed k) && wayB md ops n g r (listed.setIfInBounds k true)
  | .one k r, listed => decide (k < n) && decide (Region.ready md ops listed = [k]) && wayB md ops n g r (listed.setIfInBounds k true)
  | .two k1 r1 k2 r2, listed => (decide (k1 < n) && decide (k2 < n) && decide (r1.len = r2.len) && decide (Region.ready md ops listed = [k1, k2])) && (wayB md ops n g r1 (listed.setIfInBounds k1 true) && wayB md ops n g r2 (listed.setIfInBounds k2 true))
def wpDo (P : Program) (ops : Array Oper) (S : World → Prop) (l : List Oper) (k : Nat) (K : Act → World → Prop) (a : Act) (w : World) : Prop :=
  match l[k]? with
  | none => False
  | some o => if Region.wanted o (yielded ops a.tmps) then o.wp P a w (fun a' w' => S w' ∧ K a' w') NoWay else K (a.put o.dst undef) w
def wpW (P : Program) (ops : Array Oper) (S : World → Prop) (l : List Oper) (Lq : Act → World → Prop) : Way → Act → World → Prop
  | .fin, a, w => Lq a w
  | .read k r, a, w =>
    match l[k]? with
    | none => False
    | some o => if Region.wanted o (yielded ops a.tmps) then ∃ v, HeldV P o a S v ∧ wpW P ops S l Lq r (a.put o.dst v) w else wpW P ops S l Lq r (a.put o.dst undef) w
  | .one k r, a, w => wpDo P ops S l k (wpW P ops S l Lq r) a w
  | .two k1 r1 k2 r2, a, w => wpDo P ops S l k1 (wpW P ops S l Lq r1) a w ∧ wpDo P ops S l k2 (wpW P ops S l Lq r2) a w

theorem wpW_read {l : List Oper} {Lq : Act → World → Prop} {k : Nat} {r : Way} {a : Act} {w : World} {o : Oper} (hk : l[k]? = some o) (hw : Region.wanted o (yielded ops a.tmps) = true)
    (h : ∀ K : Act → Prop, (∀ a, wpW P ops S l Lq r a w → K a) → ∃ v, HeldV P o a S v ∧ K (a.put o.dst v)) : wpW P ops S l Lq (.read k r) a w := by
  unfold wpW
  simp only [hk, hw, if_true]
  exact h _ (fun _ h => h)
theorem wpDo_do {l : List Oper} {k : Nat} {K0 : Act → World → Prop} {a : Act} {w : World} {o : Oper} (hk : l[k]? = some o) (hw : Region.wanted o (yielded ops a.tmps) = true)
    (h : ∀ K : Act → World → Prop, (∀ a w, S w → K0 a w → K a w) → o.wp P a w K NoWay) : wpDo P ops S l k K0 a w := by
  unfold wpDo
  simp only [hk, hw, if_true]
  exact h _ (fun _ _ h1 h2 => ⟨h1, h2⟩)
theorem wpW_one {l : List Oper} {Lq : Act → World → Prop} {k : Nat} {r : Way} {a : Act} {w : World} (h : wpDo P ops S l k (wpW P ops S l Lq r) a w) : wpW P ops S l Lq (.one k r) a w := h
theorem wpW_two {l : List Oper} {Lq : Act → World → Prop} {k1 k2 : Nat} {r1 r2 : Way} {a : Act} {w : World} (h1 : wpDo P ops S l k1 (wpW P ops S l Lq r1) a w) (h2 : wpDo P ops S l k2 (wpW P ops S l Lq r2) a w) : wpW P ops S l Lq (.two k1 r1 k2 r2) a w := ⟨h1, h2⟩
theorem wpW_fin {l : List Oper} {Lq : Act → World → Prop} {a : Act} {w : World} (h : Lq a w) : wpW P ops S l Lq .fin a w := h

theorem opW_of_wpDo {l : List Oper} (hl : ops = l.toArray) {k : Nat} {K0 K1 : Act → World → Prop} {a : Act} {w : World} (hS : S w) (h : wpDo P ops S l k K0 a w) (hK : ∀ a w, S w → K0 a w → K1 a w) : opW P ops k (fun a' w' => S w' ∧ K1 a' w') a w := by
  have hlk : l[k]? = ops[k]? := by rw [hl]; simp
  unfold wpDo at h
  rw [hlk] at h
  unfold opW
  cases ho : ops[k]? with
  | none => rw [ho] at h; exact h.elim
  | some o =>
    rw [ho] at h
    simp only at h ⊢
    by_cases hw : Region.wanted o (yielded ops a.tmps) = true
    · simp only [hw, if_true] at h ⊢
      exact Oper.wp_mono (fun a' w' h' => ⟨h'.1, hK a' w' h'.1 h'.2⟩) h
    · simp only [hw] at h ⊢
      exact ⟨hS, hK _ _ hS h⟩
theorem wpZ_of_wpW {n g : Nat} {l : List Oper} {Lq : Act → World → Prop} (hl : ops = l.toArray) (hsel : Region.noSelect ops = true) (hs : Region.sinkB md ops n = true) (hc : Region.chainB md ops n = true) (hn : n < ops.size) :
    ∀ (r : Way) (listed : Array Bool) (a : Act) (w : World), HeadInv md ops n listed → wayB md ops n g r listed = true → S w → wpW P ops S l Lq r a w →
    wpZ P md ops S n (fun listed' a' w' => Region.seqB md ops g n listed' = true ∧ Lq a' w') r.len listed a w
  | .fin, listed, a, w, _, hB, _, h => ⟨by simpa [wayB] using hB, h⟩
  | .read k r, listed, a, w, inv, hB, hS, h => by
    simp only [wayB, Bool.and_eq_true, decide_eq_true_eq] at hB
    obtain ⟨⟨hkn, hp1, hp2⟩, hB'⟩ := hB
    have hlk : l[k]? = ops[k]? := by rw [hl]; simp
    unfold wpW at h
    rw [hlk] at h
    cases ho : ops[k]? with
    | none => rw [ho] at h; exact h.elim
    | some o =>
      rw [ho] at h
      simp only at h
      have hr : k ∈ Region.ready md ops listed := by simpa using hp1
      have hfree := Region.free_spec ho hp2
      have fin : ∀ v, YieldsIf P ops S o v a → wpW P ops S l Lq r (a.put o.dst v) w → wpZ P md ops S n (fun listed' a' w' => Region.seqB md ops g n listed' = true ∧ Lq a' w') (r.len + 1) listed a w := fun v hy hK =>
        wpZ_first ho (Region.noSelect_spec hsel) hs hc hn hkn (fun listed' a' w' hL => seqB_ready hL.1) r.len listed a w inv hfree hr hy hS
          (wpZ_of_wpW hl hsel hs hc hn r _ _ w (inv.set hr hkn) hB' hS hK)
      by_cases hw : Region.wanted o (yielded ops a.tmps) = true
      · simp only [hw, if_true] at h
        obtain ⟨v, hv, hK⟩ := h
        exact fin v (.inl ⟨hw, hv.run⟩) hK
      · simp only [hw] at h
        exact fin undef (.inr ⟨by simpa using hw, rfl⟩) h
  | .one k r, listed, a, w, inv, hB, hS, h => by
    simp only [wayB, Bool.and_eq_true, decide_eq_true_eq] at hB
    obtain ⟨⟨hkn, hp⟩, hB'⟩ := hB
    have hr : k ∈ Region.ready md ops listed := by rw [hp]; simp
    refine ⟨fun h0 => (by rw [hp] at h0; cases h0), fun j hj => ?_⟩
    rw [hp] at hj
    obtain rfl : j = k := by simpa using hj
    exact ⟨hkn, opW_of_wpDo hl hS h (fun a' w' hS' h' => wpZ_of_wpW hl hsel hs hc hn r _ a' w' (inv.set hr hkn) hB' hS' h')⟩
  | .two k1 r1 k2 r2, listed, a, w, inv, hB, hS, h => by
    simp only [wayB, Bool.and_eq_true, decide_eq_true_eq] at hB
    obtain ⟨⟨⟨⟨hk1, hk2⟩, hlen⟩, hp⟩, hB1, hB2⟩ := hB
    have hr1 : k1 ∈ Region.ready md ops listed := by rw [hp]; simp
    have hr2 : k2 ∈ Region.ready md ops listed := by rw [hp]; simp
    refine ⟨fun h0 => (by rw [hp] at h0; cases h0), fun j hj => ?_⟩
    rw [hp] at hj
    have hj2 : j = k1 ∨ j = k2 := by simpa using hj
    rcases hj2 with rfl | rfl
    · exact ⟨hk1, opW_of_wpDo hl hS h.1 (fun a' w' hS' h' => wpZ_of_wpW hl hsel hs hc hn r1 _ a' w' (inv.set hr1 hk1) hB1 hS' h')⟩
    · refine ⟨hk2, opW_of_wpDo hl hS h.2 (fun a' w' hS' h' => ?_)⟩
      have := wpZ_of_wpW hl hsel hs hc hn r2 _ a' w' (inv.set hr2 hk2) hB2 hS' h'
      rw [← hlen] at this
      exact this

def wayAllB (md : Region.Mode) (ops : Array Oper) (n : Nat) (r : Way) : Bool :=
  Region.noSelect ops && decide (n < ops.size) && decide (r.len = n) && Region.sinkB md ops n && Region.chainB md ops n && wayB md ops n (ops.size - n) r (Array.replicate ops.size false)
theorem wp_region_way {id : Nat} {Q : Exit → Act → World → Prop} {a : Act} {w : World} {l : List Oper} (n : Nat) (r : Way) (S : World → Prop) (hm : P.follows .mixedOrders = true) (hB : wayAllB .any l.toArray n r = true)
    (hS : S w.drew)
    (h : wpW P l.toArray S l (fun a' w' => wpList P l.toArray Q (l.drop n) a' w') r a w.drew) : (Code.region id l.toArray true).wp P Q a w := by
  simp only [wayAllB, Bool.and_eq_true, decide_eq_true_eq] at hB
  obtain ⟨⟨⟨⟨⟨hsel, hn⟩, hlen⟩, hs⟩, hc⟩, hheld⟩ := hB
  have hn' : n < l.length := by simpa using hn
  have hdl : (l.drop n).length = l.toArray.size - n := by simp
  have inv0 : HeadInv .any l.toArray n (Array.replicate l.toArray.size false) :=
    ⟨by simp, fun j oj _ hl => (by rw [getD_replicate_false] at hl; cases hl), fun t _ ht => getD_in (by simpa using ht) (getD_replicate_false _ _)⟩
  have H := wpZ_of_wpW (md := .any) (g := l.toArray.size - n) rfl hsel hs hc hn r _ a w.drew inv0 hheld hS h
  refine wp_region_any hm ?_
  have := wpAny_of_wpZ (Q := Q) (g := l.toArray.size - n) (fun listed a' w' hL => by
    have := wpAny_of_seq (md := .any) (Q' := Q) (l.drop n) n listed a' w' (fun j => by simp [List.getElem?_drop]) (by rw [hdl]; exact hL.1) hL.2
    rwa [hdl] at this) _ _ _ _ H
  rw [hlen, show n + (l.toArray.size - n) = l.toArray.size by omega] at this
  exact this
end
end Go.Proofs.YtaokjeokpifjgaaGreatDoor

namespace Go.Proofs.YtaokjeokpifjgaaGreatDoor
open Go.RowKit Go.MapKept
attribute [local go_sem] gives givesH
set_option maxRecDepth 100000

theorem rmark_any {w : World} {br : Nat} {R : RoomS} (h : RoomAt w br R) :
    Calls Tryz.prog 40 #[.pointer (some ⟨br, 0, none⟩)] w fun e w' => e = .returned (.int .i64 R.T.puts.length) ∧ w = w' := by
  have H := Hd (txMark_any h.tx)
  have c0 : w.cell? ⟨br, 0, none⟩ = some (.pointer (some ⟨R.bt, 0, none⟩)) := Lib.cell_of_heap h.cells 0
  go_enter Tryz.func40, Tryz.ntmps40
  go_wp2_with (go_at_call 100; refine (H.out).mono ?_; rintro e w1 ⟨rfl, rfl⟩)
  go_ret
  exact ⟨rfl, rfl⟩
def TreeIs (R : RoomS) (pl : Nat) (kv : KV) (ps : List Nat) : Prop := (R.root pl = 0 ∧ kv = [] ∧ ps = []) ∨ ∃ h p, R.root pl = p + 1 ∧ Sub (PageIs R) h p ⟨#[]⟩ kv ps
structure TurnR (R R' : RoomS) (pl : Nat) (ps new : List Nat) (m : Nat) : Prop where
  free : ∀ q ∈ new, q < R.pages ∧ R.has q = false
  nodup : new.Nodup
  has : ∀ q, q < R.pages → R'.has q = (decide (q ∈ new) || R.has q)
  text : ∀ q, q < R.pages → q ∉ ps → q ∉ new → R'.text q = R.text q
  root : ∀ j, j ≠ pl → R'.root j = R.root j
  maps : R'.maps = R.maps
  pages : R'.pages = R.pages
  puts : ∃ a, R'.T.puts = R.T.puts ++ a ∧ a.length ≤ m
section
variable {R R1 R2 R' : RoomS} {h p pl n : Nat} {lo key val : ByteArray} {kv : KV} {ps new : List Nat} {m : Nat}
theorem zero_root (h : R'.home 0 = R.home 0) (j : Nat) : R'.root j = R.root j := by unfold RoomS.root; rw [h]
theorem Turn.r (h : Turn R R' ps new m) : TurnR R R' pl ps new m := ⟨h.free, h.nodup, h.has, h.text, fun j _ => zero_root h.zero j, h.maps, h.pages, h.puts⟩
theorem Turn.rooted (h : Turn R R1 ps new m) (hfit : R.pages ≤ R.maps * 4096) (hm : R2.maps = R1.maps) (hp : R2.pages = R1.pages) (k : Rooted R1 R2 pl n) : TurnR R R2 pl ps new (m + 1) := by
  refine ⟨h.free, h.nodup, fun q hq => ?_, fun q hq h1 h2 => ?_, fun j hj => ?_, hm.trans h.maps, hp.trans h.pages, ?_⟩
  · rw [k.has q (by rw [h.maps]; omega), h.has q hq]
  · rw [k.text q (by rw [h.pages]; exact hq), h.text q hq h1 h2]
  · rw [k.root j, if_neg hj, zero_root h.zero]
  · obtain ⟨a, a1, a2⟩ := h.puts
    obtain ⟨b, b1, b2⟩ := k.puts
    exact ⟨a ++ b, by rw [b1, a1, List.append_assoc], by rw [List.length_append]; omega⟩
theorem Rooted.sub (k : Rooted R1 R2 pl n) (hfit : R1.pages ≤ R1.maps * 4096) (hp : R2.pages = R1.pages) (hs : Sub (PageIs R1) h p lo kv ps) : Sub (PageIs R2) h p lo kv ps := hs.mono (fun q hq x hx => by
  have h1 := hs.page_has q hq
  exact hx.of hp (by rw [k.has q (by omega)]; exact h1.2) (k.text q h1.1))
theorem Freshed.page {q : Nat} {x : Nd} (h : Freshed R R' q (fullS x.text)) (hfit : R.pages ≤ R.maps * 4096) (hp : R'.pages = R.pages) (ok : x.ok) (hne : x.keys ≠ []) (hs : x.size ≤ 512) : PageIs R' q x := by
  have hq := h.was.1
  exact ⟨by rw [hp]; exact hq, by rw [h.has q (by omega)]; simp, by rw [h.text q hq, if_pos rfl], ok, hne, hs⟩
theorem TurnR.mono (h : TurnR R R' pl ps new m) {ps1 : List Nat} {m1 : Nat} (hs : ∀ q ∈ ps, q ∈ ps1) (hm : m ≤ m1) : TurnR R R' pl ps1 new m1 :=
  ⟨h.free, h.nodup, h.has, fun q hq h1 h2 => h.text q hq (fun e => h1 (hs q e)) h2, h.root, h.maps, h.pages, by obtain ⟨a, a1, a2⟩ := h.puts; exact ⟨a, a1, by omega⟩⟩
theorem Freshed.turn {q : Nat} {s : ByteArray} (h : Freshed R R' q s) (hfit : R.pages ≤ R.maps * 4096) (hm : R'.maps = R.maps) (hp : R'.pages = R.pages) : Turn R R' [] [q] 3 :=
  ⟨fun r hr => by rw [List.mem_singleton.1 hr]; exact h.was, List.pairwise_singleton _ _, fun r hr => by rw [h.has r (by omega)]; simp, fun r hr _ h2 => by rw [h.text r hr, if_neg (by simpa using h2)], h.zero, hm, hp, h.puts⟩
end
theorem RoomStep.keep9 {br : Nat} {w w' : World} {R R' : RoomS} (h : RoomStep br w R w' R') : Keep (R.foot br) w w' := h.tx.keep.mono (fun _ _ e => .inr (TxS.own_foot e))
theorem RoomStep.foot9 {br : Nat} {w w' : World} {R R' : RoomS} (h : RoomStep br w R w' R') {k : Nat} (e : R'.foot br k) : R.foot br k ∨ w.heap.size ≤ k := by
  rcases e with e | e
  · exact .inl (.inl e)
  · rw [h.bt] at e
    exact (h.tx.foot e).imp .inr id
theorem row_cellsT {u : World} {b : Nat} {c : Array Value} {T : TypeId} (h : u.heap[b]? = some (.cells c T (0, 0))) {n : Nat} {l : List Value} (hn : c.toList = l := by rfl) : RowAt u (.slice (some ⟨b, 0, none⟩) l.length n) l := by
  refine ⟨some ⟨b, 0, none⟩, b, 0, n, rfl, fun _ => ⟨rfl, (Gl h)⟩, fun j v hj => ?_⟩
  rw [Nat.zero_add, Lib.cell_of_heap h j, ← hj, ← hn, Array.getElem?_toList]
theorem row_nil {u : World} : RowAt u (.slice none 0 0) [] := ⟨none, 0, 0, 0, rfl, fun h => absurd h (by simp), fun j v hj => by simp at hj⟩
theorem node_new {u : World} {B : Nat} {x : Nd} {kv vv cv : Value} (hk : RowAt u kv (strV x.keys)) (hv : RowAt u vv (strV x.vals)) (hc : RowAt u cv (intV x.kids)) (hB : B ≤ u.heap.size) (ok : ∀ k, kv.ownBlock = some k → B ≤ k) (ov : ∀ k, vv.ownBlock = some k → B ≤ k) (oc : ∀ k, cv.ownBlock = some k → B ≤ k) :
    NdRd (u.alloc (.cells #[.bool x.leaf, kv, vv, cv] 247)) u.heap.size x (fun k => B ≤ k) := by
  have hb : Below u.heap.size u (u.alloc (.cells #[.bool x.leaf, kv, vv, cv] 247)) := (Below.refl _ _).alloc (Nat.le_refl _) _
  have hn := heap_alloc_new u (.cells #[.bool x.leaf, kv, vv, cv] 247)
  exact ⟨by simp, hB, kv, vv, cv, Lib.cell_of_heap hn 0, Lib.cell_of_heap hn 1, Lib.cell_of_heap hn 2, Lib.cell_of_heap hn 3, hk.still hb, hv.still hb, hc.still hb, ok, ov, oc⟩
set_option maxHeartbeats 2000000 in
theorem tput_none {w : World} {tb br pl : Nat} {R : RoomS} {L : List Nat} {key val : ByteArray} (ht : TreeAt w tb br pl) (htb : ¬ R.foot br tb) (hr : RoomAt w br R) (hlen : R.T.puts.length + 2000 < 1000000000000) (h16 : R.pages ≤ 65536) (hpl : pl < 16) (hk : key.size ≤ 96) (hv : val.size ≤ 56)
    (hT : R.root pl = 0) (hL : ∀ q, q < R.pages → R.has q = true → q ∈ L) (hn : L.length + 1 ≤ R.pages) :
    Calls Tryz.prog 92 #[.pointer (some ⟨tb, 0, none⟩), .string key, .string val] w fun e w' => e = .returned (.int .i64 0) ∧ ∃ R' p, RoomStep br w R w' R' ∧ R'.root pl = p + 1 ∧ Sub (PageIs R') 0 p ⟨#[]⟩ [(key, val)] [p] ∧ TurnR R R' pl [] [p] 200 := by
  have hmf : ∀ (fn : Fn) (first cap : Array Value) (w : World), (Instr.makeFunc fn first cap).run Tryz.prog w = .ok (.func fn first cap) w := fun _ _ _ _ => rfl
  have HR := Hd hr
  have HT := Hd ht
  have HTb := Hd htb
  have htl := (Gl ht.cells)
  have HTl := Hd htl
  have hb3 : Below w.heap.size w (((w.alloc (.cells #[.pointer (some ⟨tb, 0, none⟩)] 170)).alloc (.cells #[.int .i64 0] 29)).alloc (.cells #[.int .i64 0] 3)) := (((Below.refl _ _).alloc (Nat.le_refl _) _).alloc (by simp) _).alloc (by simp; omega) _
  have c0 : (((w.alloc (.cells #[.pointer (some ⟨tb, 0, none⟩)] 170)).alloc (.cells #[.int .i64 0] 29)).alloc (.cells #[.int .i64 0] 3)).cell? ⟨tb, 0, none⟩ = some (.pointer (some ⟨br, 0, none⟩)) := by rw [hb3.cell (p := ⟨tb, 0, none⟩) htl]; exact Lib.cell_of_heap ht.cells 0
  have HM := Hd (rmark_any (hr.still hb3))
  obtain ⟨mk, hmk⟩ : ∃ mk, R.T.puts.length = mk := ⟨_, rfl⟩
  rw [hmk] at HM
  clear hb3 ht htb hr htl
  go_enter_defers Tryz.func92, Tryz.ntmps92
  go_wp2_with (fail)
  refine (HM.out).mono ?_
  rintro e _ ⟨rfl, rfl⟩
  clear HM c0
  go_wp2_with (fail)
  have hb3 : Below w.heap.size w (((w.alloc (.cells #[.pointer (some ⟨tb, 0, none⟩)] 170)).alloc (.cells #[.int .i64 0] 29)).alloc (.cells #[.int .i64 mk] 3)) := (((Below.refl _ _).alloc (Nat.le_refl _) _).alloc (by simp) _).alloc (by simp; omega) _
  have q1 : (((w.alloc (.cells #[.pointer (some ⟨tb, 0, none⟩)] 170)).alloc (.cells #[.int .i64 0] 29)).alloc (.cells #[.int .i64 mk] 3)).heap[w.heap.size]? = some (.cells #[.pointer (some ⟨tb, 0, none⟩)] 170 (0, 0)) :=
    (Keep.still (((Below.refl _ _).alloc (Nat.le_refl _) (.cells #[.int .i64 0] 29)).alloc (by simp) (.cells #[.int .i64 mk] 3))).at (heap_alloc_new w _) (fun e => e)
  have q2 : (((w.alloc (.cells #[.pointer (some ⟨tb, 0, none⟩)] 170)).alloc (.cells #[.int .i64 0] 29)).alloc (.cells #[.int .i64 mk] 3)).heap[w.heap.size + 1]? = some (.cells #[.int .i64 0] 29 (0, 0)) := by
    have := (Keep.still ((Below.refl _ _).alloc (Nat.le_refl _) (.cells #[.int .i64 mk] 3))).at (heap_alloc_new (w.alloc (.cells #[.pointer (some ⟨tb, 0, none⟩)] 170)) (.cells #[.int .i64 0] 29)) (fun e => e)
    rw [World.size_alloc] at this
    exact this
  obtain ⟨w3, hw3⟩ : ∃ w3, ((w.alloc (.cells #[.pointer (some ⟨tb, 0, none⟩)] 170)).alloc (.cells #[.int .i64 0] 29)).alloc (.cells #[.int .i64 mk] 3) = w3 := ⟨_, rfl⟩
  rw [hw3] at hb3 q1 q2
  rw [hw3]
  have HB3 := Hd hb3
  obtain ⟨ws, hws⟩ : ∃ ws, w.heap.size = ws := ⟨_, rfl⟩
  rw [hws] at q1 q2
  rw [hws]
  have HWs := Hd hws
  have HQ1 := Hd q1
  have HQ2 := Hd q2
  have htr3 : TreeAt w3 tb br pl := ⟨(HB3.out.block tb HTl.out).trans HT.out.cells⟩
  have hr3 := HR.out.still HB3.out
  have HT3 := Hd htr3
  have HR3 := Hd hr3
  clear hw3 hws q1 q2 hb3
  have HRt := Hd (troot_any htr3 hr3 hpl (by omega))
  rw [hT] at HRt
  have k96 : ¬ ((96 : Int) < (key.size : Int)) := by omega
  have v56 : ¬ ((56 : Int) < (val.size : Int)) := by omega
  clear htr3 hr3
  refine (HRt.out).mono ?_
  rintro e w4 ⟨rfl, hb4⟩
  have HB4 := Hd (HB3.out.trans (hb4.mono HB3.out.size))
  have q1 : w4.heap[ws]? = some (.cells #[.pointer (some ⟨tb, 0, none⟩)] 170 (0, 0)) := (hb4.block ws (Gl HQ1.out)).trans HQ1.out
  have q2 : w4.heap[ws + 1]? = some (.cells #[.int .i64 0] 29 (0, 0)) := (hb4.block (ws + 1) (Gl HQ2.out)).trans HQ2.out
  have HP1 := Hd q1
  have HP2 := Hd q2
  have HRW := Hd (HR.out.still HB4.out)
  have HTW := Hd (show TreeAt w4 tb br pl from ⟨(HB4.out.block tb HTl.out).trans HT.out.cells⟩)
  have HTbW := Hd HTb.out
  have HNF := Hd (show ∀ k, R.foot br k → k ≠ ws ∧ k ≠ ws + 1 from fun k e => by have := HR.out.foot_lt9 e; have := HWs.out; omega)
  have HFREE := Hd (free_of hL (by omega))
  have HPU := Hd (show R.T.puts.length + 500 < 1000000000000 by omega)
  have HP16 := Hd h16
  have HOX := Hd (show (leafOf [(key, val)]).ok from leaf_ok.2 (fun y hy => by rw [List.mem_singleton.1 hy]; exact ⟨hk, hv⟩))
  have HSX := Hd (show (leafOf [(key, val)]).size ≤ 512 by rw [leaf_size]; unfold kvSum; simp; omega)
  clear hb4 q1 q2 HQ1 HQ2 HT3 HR3 HRt
  go_wp2_with (fail)
  obtain ⟨S, hS⟩ : ∃ S : World → Prop, ∀ u, S u ↔ Keep (R.foot br) w4 u := ⟨fun u => Keep (R.foot br) w4 u, fun _ => Iff.rfl⟩
  have HS := Hd hS
  clear hS
  refine wp_region_way 9 (.read 0 (.read 1 (.read 2 (.read 4 (.two 3 (.one 5 (.read 6 (.one 7 (.one 8 .fin)))) 5 (.one 3 (.read 6 (.one 7 (.one 8 .fin))))))))) S (by kernel_rfl) (by kernel_rfl) ((HS.out _).2 (Keep.refl (R.foot br) w4).drew) ?_
  iterate 4
    refine wpW_read rfl (by rfl) (fun K hK => ?_)
    apply Exists.intro
    refine ⟨fun u hu => ?_, ?_⟩
    · have hu := (HS.out u).1 hu
      have c0 : u.cell? ⟨ws, 0, none⟩ = some (.pointer (some ⟨tb, 0, none⟩)) := Lib.cell_of_heap (hu.at HP1.out (fun e => (HNF.out _ e).1 rfl)) 0
      clear hu
      go_simp
      exact ⟨rfl, rfl⟩
    go_simp
    refine hK _ ?_
    clear hK K
  refine wpW_two ?_ ?_
  · refine wpDo_do rfl (by rfl) (fun K hK => ?_)
    go_simp
    have k1a : Keep (fun _ => False) w4 (w4.alloc (.cells #[.string key] 9)) := (Keep.refl (fun _ => False) w4).alloc _
    have k1 : Keep (fun _ => False) w4 (w4.alloc (.cells #[.string key] 9)).drew := k1a.drew
    refine hK _ _ ((HS.out _).2 (k1.mono (fun _ _ e => e.elim))) ?_
    clear hK K
    refine wpW_one ?_
    refine wpDo_do rfl (by rfl) (fun K hK => ?_)
    go_simp
    have k2 : Keep (fun _ => False) w4 ((w4.alloc (.cells #[.string key] 9)).alloc (.cells #[.string val] 9)).drew := (k1a.alloc _).drew
    refine hK _ _ ((HS.out _).2 (k2.mono (fun _ _ e => e.elim))) ?_
    clear hK K
    have g0 : ((w4.alloc (.cells #[.string key] 9)).alloc (.cells #[.string val] 9)).heap[w4.heap.size]? = some (.cells #[.string key] 9 (0, 0)) := (Keep.still ((Below.refl _ _).alloc (Nat.le_refl _) (.cells #[.string val] 9))).at (heap_alloc_new w4 _) (fun e => e)
    have g1 : ((w4.alloc (.cells #[.string key] 9)).alloc (.cells #[.string val] 9)).heap[w4.heap.size + 1]? = some (.cells #[.string val] 9 (0, 0)) := by
      have := heap_alloc_new (w4.alloc (.cells #[.string key] 9)) (.cells #[.string val] 9)
      rw [World.size_alloc] at this
      exact this
    refine wpW_read rfl (by rfl) (fun K hK => ?_)
    apply Exists.intro
    refine ⟨fun u hu => ?_, ?_⟩
    · go_simp
      exact ⟨rfl, rfl⟩
    go_simp
    refine hK _ ?_
    clear hK K
    refine wpW_one ?_
    refine wpDo_do rfl (by rfl) (fun K hK => ?_)
    go_simp
    have hz2 : ((w4.alloc (.cells #[.string key] 9)).alloc (.cells #[.string val] 9)).heap.size = w4.heap.size + 1 + 1 := by simp
    have hnd0 := node_new (u := ((w4.alloc (.cells #[.string key] 9)).alloc (.cells #[.string val] 9))) (B := w4.heap.size) (x := leafOf [(key, val)]) (row_cellsT (n := 1) (l := strV [key]) g0 rfl) (row_cellsT (n := 1) (l := strV [val]) g1 rfl) row_nil (by omega) (fun k e => by have e2 : w4.heap.size = k := Option.some.inj e; omega) (fun k e => by have e2 : w4.heap.size + 1 = k := Option.some.inj e; omega) (fun k e => by cases e)
    rw [hz2] at hnd0
    have hnd : NdRd (((w4.alloc (.cells #[.string key] 9)).alloc (.cells #[.string val] 9)).alloc (.cells #[.bool true, .slice (some ⟨w4.heap.size, 0, none⟩) 1 1, .slice (some ⟨w4.heap.size + 1, 0, none⟩) 1 1, .slice none 0 0] 247)).drew (w4.heap.size + 1 + 1) (leafOf [(key, val)]) (fun k => w4.heap.size ≤ k) := hnd0.keep (Keep.refl (fun _ => False) (((w4.alloc (.cells #[.string key] 9)).alloc (.cells #[.string val] 9)).alloc (.cells #[.bool true, .slice (some ⟨w4.heap.size, 0, none⟩) 1 1, .slice (some ⟨w4.heap.size + 1, 0, none⟩) 1 1, .slice none 0 0] 247))).drew (fun _ _ e => e)
    have hk5 : Keep (fun _ => False) w4 (((w4.alloc (.cells #[.string key] 9)).alloc (.cells #[.string val] 9)).alloc (.cells #[.bool true, .slice (some ⟨w4.heap.size, 0, none⟩) 1 1, .slice (some ⟨w4.heap.size + 1, 0, none⟩) 1 1, .slice none 0 0] 247)).drew := ((k1a.alloc _).alloc _).drew
    refine hK _ _ ((HS.out _).2 (hk5.mono (fun _ _ e => e.elim))) ?_
    clear hK K
    obtain ⟨w5, hw5⟩ : ∃ w5, (((w4.alloc (.cells #[.string key] 9)).alloc (.cells #[.string val] 9)).alloc (.cells #[.bool true, .slice (some ⟨w4.heap.size, 0, none⟩) 1 1, .slice (some ⟨w4.heap.size + 1, 0, none⟩) 1 1, .slice none 0 0] 247)).drew = w5 := ⟨_, rfl⟩
    rw [hw5] at hk5 hnd
    rw [hw5]
    have hb5 : Below w4.heap.size w4 w5 := hk5.below (Nat.le_refl _) (fun _ _ e => e)
    clear k1 k1a k2 g0 g1 hk5 hw5 hz2 hnd0
    have HB5 := Hd hb5
    have HNd := Hd hnd
    have htl5 := (Gl HTW.out.cells)
    have HT5 := Hd (show TreeAt w5 tb br pl from ⟨(hb5.block tb htl5).trans HTW.out.cells⟩)
    have HFr := Hd (tfresh_any (w := w5) (tb := tb) (pl := pl) (br := br) (R := R) (b := w4.heap.size + 1 + 1) (x := leafOf [(key, val)]) HT5.out HTbW.out (HRW.out.still hb5) (by have := HPU.out; omega) HFREE.out (fun w' hk => (HNd.out.keep hk (fun k e e2 => by have := HRW.out.foot_lt9 e2; omega)).r) HOX.out HSX.out)
    clear hnd htl5
    refine wpW_one ?_
    refine wpDo_do rfl (by rfl) (fun K hK => ?_)
    go_simp
    go_at_call 156
    refine (HFr.out).mono ?_
    rintro e w6 ⟨q, R5, rfl, hs6, hf6⟩
    refine hK _ _ ((HS.out _).2 ((Keep.ofBelow (S := R.foot br) hb5).trans hs6.keep9 (fun _ _ e => e))) ?_
    clear hK K
    refine wpW_fin ?_
    simp only [List.drop_succ_cons, List.drop_zero]
    clear S HS
    have hq6 : q < R.pages := hf6.was.1
    have HSr := Hd (tsetRoot_any (⟨hs6.keep9.at HT5.out.cells HTbW.out⟩ : TreeAt w6 tb br pl) hs6.at_ (by obtain ⟨a, a1, a2⟩ := hf6.puts; have := HPU.out; rw [a1, List.length_append]; omega) hpl (p := q) (by have := HP16.out; omega))
    have HS6 := Hd hs6
    have HF6 := Hd hf6
    clear hs6 hf6 hb5
    go_wp2_with (go_at_call 155; refine (HSr.out).mono ?_; rintro e w7 ⟨rfl, R2, hs7, hro7⟩
                 have hw6 : ws + 1 < w5.heap.size := by have := (Gl HP2.out); have := HB5.out.size; omega
                 have q7 : w7.heap[ws + 1]? = some (.cells #[.int .i64 0] 29 (0, 0)) := hs7.keep9.at (HS6.out.keep9.at ((HB5.out.block (ws + 1) (Gl HP2.out)).trans HP2.out) (fun e => (HNF.out _ e).2 rfl)) (fun e => (HS6.out.foot9 e).elim (fun e => (HNF.out _ e).2 rfl) (fun e => by omega))
                 have f7 : w7.frozen? ⟨ws + 1, 0, none⟩ = false := froz_of q7
                 have c7 : w7.cell? ⟨ws + 1, 0, none⟩ = some (.int .i64 0) := Lib.cell_of_heap q7 0
                 have HS7 := Hd hs7
                 have HR7 := Hd hro7
                 have HW6 := Hd hw6
                 clear q7 hs7 hro7 hw6)
    have e9 : (w7.setCell ⟨ws + 1, 0, none⟩ (.int .i64 0)).cell? ⟨ws + 1, 0, none⟩ = some (.int .i64 0) := World.cell?_setCell_same _ _ _ c7
    refine leaves_cons (f := 145) (args := #[.pointer (some ⟨ws + 1, 0, none⟩)]) (by simp) (by simp [go_sem]) ?_
    refine (guard_idle _ _).mono ?_
    rintro e u' w'' ⟨rfl, rfl, rfl⟩
    simp only [settle]
    refine leaves_cons (f := 154) (args := #[.pointer (some ⟨ws + 1, 0, none⟩), .pointer (some ⟨ws, 0, none⟩), .pointer (some ⟨ws + 1 + 1, 0, none⟩)]) (by simp) (by simp [go_sem]) ?_
    refine (put1_idle _ _ _ _ e9 _).mono ?_
    rintro e u' w'' ⟨rfl, rfl, rfl⟩
    simp [Leaves, settle, results, Tryz.results92, go_sem, e9]
    have hnf7 : ∀ k, R2.foot br k → ¬ k = ws + 1 := fun k e e2 => by
      rcases HS7.out.foot9 e with e | e
      · rcases HS6.out.foot9 e with e | e
        · exact (HNF.out _ e).2 e2
        · have := HW6.out; omega
      · have := HW6.out; have := HS6.out.tx.keep.size; omega
    have hk7 : Keep (fun k => k = ws + 1) w7 (w7.setCell ⟨ws + 1, 0, none⟩ (.int .i64 0)) := (Keep.refl (fun k => k = ws + 1) w7).setCell (p := ⟨ws + 1, 0, none⟩) (fun _ => rfl) _
    have hfit6 : R.pages ≤ R.maps * 4096 := by have := HRW.out.fit.1; omega
    have hpg6 := HF6.out.page hfit6 HS6.out.pages HOX.out (by rw [leafOf_keys]; simp) HSX.out
    have htu6 := HF6.out.turn hfit6 HS6.out.maps HS6.out.pages
    have hfit7 : R5.pages ≤ R5.maps * 4096 := by rw [HS6.out.pages, HS6.out.maps]; exact hfit6
    exact ⟨R2, (((RoomStep.still HR.out (HB4.out.trans (HB5.out.mono HB4.out.size))).trans HS6.out).trans HS7.out).aside hk7 (fun k e => by have := HWs.out; omega) hnf7, q, by rw [HR7.out.root pl, if_pos rfl], HR7.out.sub hfit7 HS7.out.pages ((Lf.mk (by simp) (fun x hx => not_bLt_nil _) (List.pairwise_singleton _ _)).whole hpg6), (htu6.rooted hfit6 HS7.out.maps HS7.out.pages HR7.out).mono (fun q h => h) (by omega)⟩
  · refine wpDo_do rfl (by rfl) (fun K hK => ?_)
    go_simp
    have k1a : Keep (fun _ => False) w4 (w4.alloc (.cells #[.string val] 9)) := (Keep.refl (fun _ => False) w4).alloc _
    have k1 : Keep (fun _ => False) w4 (w4.alloc (.cells #[.string val] 9)).drew := k1a.drew
    refine hK _ _ ((HS.out _).2 (k1.mono (fun _ _ e => e.elim))) ?_
    clear hK K
    refine wpW_one ?_
    refine wpDo_do rfl (by rfl) (fun K hK => ?_)
    go_simp
    have k2 : Keep (fun _ => False) w4 ((w4.alloc (.cells #[.string val] 9)).alloc (.cells #[.string key] 9)).drew := (k1a.alloc _).drew
    refine hK _ _ ((HS.out _).2 (k2.mono (fun _ _ e => e.elim))) ?_
    clear hK K
    have g0 : ((w4.alloc (.cells #[.string val] 9)).alloc (.cells #[.string key] 9)).heap[w4.heap.size]? = some (.cells #[.string val] 9 (0, 0)) := (Keep.still ((Below.refl _ _).alloc (Nat.le_refl _) (.cells #[.string key] 9))).at (heap_alloc_new w4 _) (fun e => e)
    have g1 : ((w4.alloc (.cells #[.string val] 9)).alloc (.cells #[.string key] 9)).heap[w4.heap.size + 1]? = some (.cells #[.string key] 9 (0, 0)) := by
      have := heap_alloc_new (w4.alloc (.cells #[.string val] 9)) (.cells #[.string key] 9)
      rw [World.size_alloc] at this
      exact this
    refine wpW_read rfl (by rfl) (fun K hK => ?_)
    apply Exists.intro
    refine ⟨fun u hu => ?_, ?_⟩
    · go_simp
      exact ⟨rfl, rfl⟩
    go_simp
    refine hK _ ?_
    clear hK K
    refine wpW_one ?_
    refine wpDo_do rfl (by rfl) (fun K hK => ?_)
    go_simp
    have hz2 : ((w4.alloc (.cells #[.string val] 9)).alloc (.cells #[.string key] 9)).heap.size = w4.heap.size + 1 + 1 := by simp
    have hnd0 := node_new (u := ((w4.alloc (.cells #[.string val] 9)).alloc (.cells #[.string key] 9))) (B := w4.heap.size) (x := leafOf [(key, val)]) (row_cellsT (n := 1) (l := strV [key]) g1 rfl) (row_cellsT (n := 1) (l := strV [val]) g0 rfl) row_nil (by omega) (fun k e => by have e2 : w4.heap.size + 1 = k := Option.some.inj e; omega) (fun k e => by have e2 : w4.heap.size = k := Option.some.inj e; omega) (fun k e => by cases e)
    rw [hz2] at hnd0
    have hnd : NdRd (((w4.alloc (.cells #[.string val] 9)).alloc (.cells #[.string key] 9)).alloc (.cells #[.bool true, .slice (some ⟨w4.heap.size + 1, 0, none⟩) 1 1, .slice (some ⟨w4.heap.size, 0, none⟩) 1 1, .slice none 0 0] 247)).drew (w4.heap.size + 1 + 1) (leafOf [(key, val)]) (fun k => w4.heap.size ≤ k) := hnd0.keep (Keep.refl (fun _ => False) (((w4.alloc (.cells #[.string val] 9)).alloc (.cells #[.string key] 9)).alloc (.cells #[.bool true, .slice (some ⟨w4.heap.size + 1, 0, none⟩) 1 1, .slice (some ⟨w4.heap.size, 0, none⟩) 1 1, .slice none 0 0] 247))).drew (fun _ _ e => e)
    have hk5 : Keep (fun _ => False) w4 (((w4.alloc (.cells #[.string val] 9)).alloc (.cells #[.string key] 9)).alloc (.cells #[.bool true, .slice (some ⟨w4.heap.size + 1, 0, none⟩) 1 1, .slice (some ⟨w4.heap.size, 0, none⟩) 1 1, .slice none 0 0] 247)).drew := ((k1a.alloc _).alloc _).drew
    refine hK _ _ ((HS.out _).2 (hk5.mono (fun _ _ e => e.elim))) ?_
    clear hK K
    obtain ⟨w5, hw5⟩ : ∃ w5, (((w4.alloc (.cells #[.string val] 9)).alloc (.cells #[.string key] 9)).alloc (.cells #[.bool true, .slice (some ⟨w4.heap.size + 1, 0, none⟩) 1 1, .slice (some ⟨w4.heap.size, 0, none⟩) 1 1, .slice none 0 0] 247)).drew = w5 := ⟨_, rfl⟩
    rw [hw5] at hk5 hnd
    rw [hw5]
    have hb5 : Below w4.heap.size w4 w5 := hk5.below (Nat.le_refl _) (fun _ _ e => e)
    clear k1 k1a k2 g0 g1 hk5 hw5 hz2 hnd0
    have HB5 := Hd hb5
    have HNd := Hd hnd
    have htl5 := (Gl HTW.out.cells)
    have HT5 := Hd (show TreeAt w5 tb br pl from ⟨(hb5.block tb htl5).trans HTW.out.cells⟩)
    have HFr := Hd (tfresh_any (w := w5) (tb := tb) (pl := pl) (br := br) (R := R) (b := w4.heap.size + 1 + 1) (x := leafOf [(key, val)]) HT5.out HTbW.out (HRW.out.still hb5) (by have := HPU.out; omega) HFREE.out (fun w' hk => (HNd.out.keep hk (fun k e e2 => by have := HRW.out.foot_lt9 e2; omega)).r) HOX.out HSX.out)
    clear hnd htl5
    refine wpW_one ?_
    refine wpDo_do rfl (by rfl) (fun K hK => ?_)
    go_simp
    go_at_call 156
    refine (HFr.out).mono ?_
    rintro e w6 ⟨q, R5, rfl, hs6, hf6⟩
    refine hK _ _ ((HS.out _).2 ((Keep.ofBelow (S := R.foot br) hb5).trans hs6.keep9 (fun _ _ e => e))) ?_
    clear hK K
    refine wpW_fin ?_
    simp only [List.drop_succ_cons, List.drop_zero]
    clear S HS
    have hq6 : q < R.pages := hf6.was.1
    have HSr := Hd (tsetRoot_any (⟨hs6.keep9.at HT5.out.cells HTbW.out⟩ : TreeAt w6 tb br pl) hs6.at_ (by obtain ⟨a, a1, a2⟩ := hf6.puts; have := HPU.out; rw [a1, List.length_append]; omega) hpl (p := q) (by have := HP16.out; omega))
    have HS6 := Hd hs6
    have HF6 := Hd hf6
    clear hs6 hf6 hb5
    go_wp2_with (go_at_call 155; refine (HSr.out).mono ?_; rintro e w7 ⟨rfl, R2, hs7, hro7⟩
                 have hw6 : ws + 1 < w5.heap.size := by have := (Gl HP2.out); have := HB5.out.size; omega
                 have q7 : w7.heap[ws + 1]? = some (.cells #[.int .i64 0] 29 (0, 0)) := hs7.keep9.at (HS6.out.keep9.at ((HB5.out.block (ws + 1) (Gl HP2.out)).trans HP2.out) (fun e => (HNF.out _ e).2 rfl)) (fun e => (HS6.out.foot9 e).elim (fun e => (HNF.out _ e).2 rfl) (fun e => by omega))
                 have f7 : w7.frozen? ⟨ws + 1, 0, none⟩ = false := froz_of q7
                 have c7 : w7.cell? ⟨ws + 1, 0, none⟩ = some (.int .i64 0) := Lib.cell_of_heap q7 0
                 have HS7 := Hd hs7
                 have HR7 := Hd hro7
                 have HW6 := Hd hw6
                 clear q7 hs7 hro7 hw6)
    have e9 : (w7.setCell ⟨ws + 1, 0, none⟩ (.int .i64 0)).cell? ⟨ws + 1, 0, none⟩ = some (.int .i64 0) := World.cell?_setCell_same _ _ _ c7
    refine leaves_cons (f := 145) (args := #[.pointer (some ⟨ws + 1, 0, none⟩)]) (by simp) (by simp [go_sem]) ?_
    refine (guard_idle _ _).mono ?_
    rintro e u' w'' ⟨rfl, rfl, rfl⟩
    simp only [settle]
    refine leaves_cons (f := 154) (args := #[.pointer (some ⟨ws + 1, 0, none⟩), .pointer (some ⟨ws, 0, none⟩), .pointer (some ⟨ws + 1 + 1, 0, none⟩)]) (by simp) (by simp [go_sem]) ?_
    refine (put1_idle _ _ _ _ e9 _).mono ?_
    rintro e u' w'' ⟨rfl, rfl, rfl⟩
    simp [Leaves, settle, results, Tryz.results92, go_sem, e9]
    have hnf7 : ∀ k, R2.foot br k → ¬ k = ws + 1 := fun k e e2 => by
      rcases HS7.out.foot9 e with e | e
      · rcases HS6.out.foot9 e with e | e
        · exact (HNF.out _ e).2 e2
        · have := HW6.out; omega
      · have := HW6.out; have := HS6.out.tx.keep.size; omega
    have hk7 : Keep (fun k => k = ws + 1) w7 (w7.setCell ⟨ws + 1, 0, none⟩ (.int .i64 0)) := (Keep.refl (fun k => k = ws + 1) w7).setCell (p := ⟨ws + 1, 0, none⟩) (fun _ => rfl) _
    have hfit6 : R.pages ≤ R.maps * 4096 := by have := HRW.out.fit.1; omega
    have hpg6 := HF6.out.page hfit6 HS6.out.pages HOX.out (by rw [leafOf_keys]; simp) HSX.out
    have htu6 := HF6.out.turn hfit6 HS6.out.maps HS6.out.pages
    have hfit7 : R5.pages ≤ R5.maps * 4096 := by rw [HS6.out.pages, HS6.out.maps]; exact hfit6
    exact ⟨R2, (((RoomStep.still HR.out (HB4.out.trans (HB5.out.mono HB4.out.size))).trans HS6.out).trans HS7.out).aside hk7 (fun k e => by have := HWs.out; omega) hnf7, q, by rw [HR7.out.root pl, if_pos rfl], HR7.out.sub hfit7 HS7.out.pages ((Lf.mk (by simp) (fun x hx => not_bLt_nil _) (List.pairwise_singleton _ _)).whole hpg6), (htu6.rooted hfit6 HS7.out.maps HS7.out.pages HR7.out).mono (fun q h => h) (by omega)⟩
def rootOf (p : Nat) (k2 : ByteArray) (q2 : Nat) : Nd := ⟨false, [⟨#[]⟩, k2], [], [p, q2]⟩
theorem rootOf_eq {p q2 : Nat} {k2 : ByteArray} {kv1 kv2 : KV} {ps1 ps2 : List Nat} : rootOf p k2 q2 = innerOf [⟨⟨#[]⟩, p, kv1, ps1⟩, ⟨k2, q2, kv2, ps2⟩] := rfl
set_option maxHeartbeats 2000000 in
theorem tput_some {w : World} {tb br pl h p : Nat} {R : RoomS} {kv : KV} {ps L : List Nat} {key val : ByteArray} (ht : TreeAt w tb br pl) (htb : ¬ R.foot br tb) (hr : RoomAt w br R) (hlen : R.T.puts.length + 2000 < 1000000000000) (h16 : R.pages ≤ 65536) (hpl : pl < 16) (hk : key.size ≤ 96) (hv : val.size ≤ 56)
    (hT : R.root pl = p + 1) (hs : Sub (PageIs R) h p ⟨#[]⟩ kv ps) (hh : h < 20) (hnd : ps.Nodup) (hL : ∀ q, q < R.pages → R.has q = true → q ∈ L) (hn : L.length + h + 2 ≤ R.pages) :
    Calls Tryz.prog 92 #[.pointer (some ⟨tb, 0, none⟩), .string key, .string val] w fun e w' => e = .returned (.int .i64 0) ∧ ∃ R' h' p' ps' new, RoomStep br w R w' R' ∧ R'.root pl = p' + 1 ∧ Sub (PageIs R') h' p' ⟨#[]⟩ (ins kv key val) ps' ∧ ps'.Perm (ps ++ new) ∧ new.length ≤ 30 ∧ TurnR R R' pl ps new 200 := by
  have hmf : ∀ (fn : Fn) (first cap : Array Value) (w : World), (Instr.makeFunc fn first cap).run Tryz.prog w = .ok (.func fn first cap) w := fun _ _ _ _ => rfl
  have HR := Hd hr
  have HT := Hd ht
  have HTb := Hd htb
  have htl := (Gl ht.cells)
  have HTl := Hd htl
  have hb3 : Below w.heap.size w (((w.alloc (.cells #[.pointer (some ⟨tb, 0, none⟩)] 170)).alloc (.cells #[.int .i64 0] 29)).alloc (.cells #[.int .i64 0] 3)) := (((Below.refl _ _).alloc (Nat.le_refl _) _).alloc (by simp) _).alloc (by simp; omega) _
  have c0 : (((w.alloc (.cells #[.pointer (some ⟨tb, 0, none⟩)] 170)).alloc (.cells #[.int .i64 0] 29)).alloc (.cells #[.int .i64 0] 3)).cell? ⟨tb, 0, none⟩ = some (.pointer (some ⟨br, 0, none⟩)) := by rw [hb3.cell (p := ⟨tb, 0, none⟩) htl]; exact Lib.cell_of_heap ht.cells 0
  have HM := Hd (rmark_any (hr.still hb3))
  obtain ⟨mk, hmk⟩ : ∃ mk, R.T.puts.length = mk := ⟨_, rfl⟩
  rw [hmk] at HM
  clear hb3 ht htb hr htl
  go_enter_defers Tryz.func92, Tryz.ntmps92
  go_wp2_with (fail)
  refine (HM.out).mono ?_
  rintro e _ ⟨rfl, rfl⟩
  clear HM c0
  go_wp2_with (fail)
  have hb3 : Below w.heap.size w (((w.alloc (.cells #[.pointer (some ⟨tb, 0, none⟩)] 170)).alloc (.cells #[.int .i64 0] 29)).alloc (.cells #[.int .i64 mk] 3)) := (((Below.refl _ _).alloc (Nat.le_refl _) _).alloc (by simp) _).alloc (by simp; omega) _
  have q1 : (((w.alloc (.cells #[.pointer (some ⟨tb, 0, none⟩)] 170)).alloc (.cells #[.int .i64 0] 29)).alloc (.cells #[.int .i64 mk] 3)).heap[w.heap.size]? = some (.cells #[.pointer (some ⟨tb, 0, none⟩)] 170 (0, 0)) :=
    (Keep.still (((Below.refl _ _).alloc (Nat.le_refl _) (.cells #[.int .i64 0] 29)).alloc (by simp) (.cells #[.int .i64 mk] 3))).at (heap_alloc_new w _) (fun e => e)
  have q2 : (((w.alloc (.cells #[.pointer (some ⟨tb, 0, none⟩)] 170)).alloc (.cells #[.int .i64 0] 29)).alloc (.cells #[.int .i64 mk] 3)).heap[w.heap.size + 1]? = some (.cells #[.int .i64 0] 29 (0, 0)) := by
    have := (Keep.still ((Below.refl _ _).alloc (Nat.le_refl _) (.cells #[.int .i64 mk] 3))).at (heap_alloc_new (w.alloc (.cells #[.pointer (some ⟨tb, 0, none⟩)] 170)) (.cells #[.int .i64 0] 29)) (fun e => e)
    rw [World.size_alloc] at this
    exact this
  obtain ⟨w3, hw3⟩ : ∃ w3, ((w.alloc (.cells #[.pointer (some ⟨tb, 0, none⟩)] 170)).alloc (.cells #[.int .i64 0] 29)).alloc (.cells #[.int .i64 mk] 3) = w3 := ⟨_, rfl⟩
  rw [hw3] at hb3 q1 q2
  rw [hw3]
  have HB3 := Hd hb3
  obtain ⟨ws, hws⟩ : ∃ ws, w.heap.size = ws := ⟨_, rfl⟩
  rw [hws] at q1 q2
  rw [hws]
  have HWs := Hd hws
  have HQ1 := Hd q1
  have HQ2 := Hd q2
  have htr3 : TreeAt w3 tb br pl := ⟨(HB3.out.block tb HTl.out).trans HT.out.cells⟩
  have hr3 := HR.out.still HB3.out
  have HT3 := Hd htr3
  have HR3 := Hd hr3
  clear hw3 hws q1 q2 hb3
  have hpp := hs.p16
  have HRt := Hd (troot_any htr3 hr3 hpl (by omega))
  rw [hT] at HRt
  have hp1 : (((p + 1 : Nat) : Int) - 1) = (p : Int) := by omega
  rw [hp1] at HRt
  have k96 : ¬ ((96 : Int) < (key.size : Int)) := by omega
  have v56 : ¬ ((56 : Int) < (val.size : Int)) := by omega
  have p0 : (0 : Int) ≤ (p : Int) := by omega
  clear htr3 hr3 hp1
  refine (HRt.out).mono ?_
  rintro e w4 ⟨rfl, hb4⟩
  have HB4 := Hd (HB3.out.trans (hb4.mono HB3.out.size))
  have q1 : w4.heap[ws]? = some (.cells #[.pointer (some ⟨tb, 0, none⟩)] 170 (0, 0)) := (hb4.block ws (Gl HQ1.out)).trans HQ1.out
  have q2 : w4.heap[ws + 1]? = some (.cells #[.int .i64 0] 29 (0, 0)) := (hb4.block (ws + 1) (Gl HQ2.out)).trans HQ2.out
  have d1 : w4.cell? ⟨ws, 0, none⟩ = some (.pointer (some ⟨tb, 0, none⟩)) := Lib.cell_of_heap q1 0
  have HO1 := Hd q1
  have HO2 := Hd q2
  have HTW4 := Hd (show TreeAt w4 tb br pl from ⟨(HB4.out.block tb HTl.out).trans HT.out.cells⟩)
  have HNF4 := Hd (show ∀ k, R.foot br k → k ≠ ws ∧ k ≠ ws + 1 from fun k e => by have := HR.out.foot_lt9 e; have := HWs.out; omega)
  have hpt := put_any (tb := tb) (br := br) (pl := pl) hk hv h (w := w4) (deep := 0) HTW4.out HTb.out (HR.out.still HB4.out) (by omega) h16 hs (not_bLt_nil key) (by omega) hnd hL (by omega)
  rw [show (((0 : Nat)) : Int) = 0 from rfl] at hpt
  have HPt := Hd hpt
  have HLn := Hd hlen
  have HLL := Hd (show (∀ q, q < R.pages → R.has q = true → q ∈ L) ∧ L.length + h + 2 ≤ R.pages from ⟨hL, hn⟩)
  have H16 := Hd h16
  have HSb := Hd hs
  have HRoot := Hd hT
  clear hb4 q1 q2 HQ1 HQ2 HT3 HR3 HRt hpt hs hnd hL hT
  go_wp2_with (fail)
  refine (HPt.out).mono ?_
  rintro e w5p ⟨R1, hs5, m, new, hsh, hkm, hkv, hpm, htu, hnl⟩
  have g1 : w5p.heap[ws]? = some (.cells #[.pointer (some ⟨tb, 0, none⟩)] 170 (0, 0)) := hs5.keep9.at HO1.out (fun e => (HNF4.out _ e).1 rfl)
  have g2 : w5p.heap[ws + 1]? = some (.cells #[.int .i64 0] 29 (0, 0)) := hs5.keep9.at HO2.out (fun e => (HNF4.out _ e).2 rfl)
  have f5 : w5p.frozen? ⟨ws + 1, 0, none⟩ = false := froz_of g2
  have c5 : w5p.cell? ⟨ws + 1, 0, none⟩ = some (.int .i64 0) := Lib.cell_of_heap g2 0
  have HP1 := Hd g1
  have HP2 := Hd g2
  have HNF := Hd (show ∀ k, R1.foot br k → k ≠ ws ∧ k ≠ ws + 1 from fun k e => (hs5.foot9 e).elim (HNF4.out k) (fun e2 => by have := (Gl HO2.out); have := (Gl HO1.out); omega))
  have HS5 := Hd ((RoomStep.still HR.out HB4.out).trans hs5)
  have HTu := Hd htu
  have HKm := Hd hkm
  have HKv := Hd hkv
  have HPm := Hd hpm
  have HNl := Hd hnl
  have HHh := Hd hh
  rcases hsh with ⟨c, rfl, hc1, rfl⟩ | ⟨c1, c2, rfl, hc1, rfl, hc2, hc3⟩
  · have HC1 := Hd hc1
    clear hs5 htu hkm hkv hpm g1 g2 hc1
    unfold noMore
    go_wp2_with (fail)
    have e9 : (w5p.setCell ⟨ws + 1, 0, none⟩ (.int .i64 0)).cell? ⟨ws + 1, 0, none⟩ = some (.int .i64 0) := World.cell?_setCell_same _ _ _ c5
    refine leaves_cons (f := 145) (args := #[.pointer (some ⟨ws + 1, 0, none⟩)]) (by simp) (by simp [go_sem]) ?_
    refine (guard_idle _ _).mono ?_
    rintro e u' w'' ⟨rfl, rfl, rfl⟩
    simp only [settle]
    refine leaves_cons (f := 154) (args := #[.pointer (some ⟨ws + 1, 0, none⟩), .pointer (some ⟨ws, 0, none⟩), .pointer (some ⟨ws + 1 + 1, 0, none⟩)]) (by simp) (by simp [go_sem]) ?_
    refine (put1_idle _ _ _ _ e9 _).mono ?_
    rintro e u' w'' ⟨rfl, rfl, rfl⟩
    simp [Leaves, settle, results, Tryz.results92, go_sem, e9]
    have hk7 : Keep (fun k => k = ws + 1) w5p (w5p.setCell ⟨ws + 1, 0, none⟩ (.int .i64 0)) := (Keep.refl (fun k => k = ws + 1) w5p).setCell (p := ⟨ws + 1, 0, none⟩) (fun _ => rfl) _
    have hsb := HKm.out.sub c (by simp)
    have hlo : c.key = ⟨#[]⟩ := by have := HKm.out.head; simpa using this
    rw [HC1.out, hlo] at hsb
    have hkv9 : c.kv = ins kv key val := by have := HKv.out; simpa using this
    rw [hkv9] at hsb
    have hpm9 : c.ps.Perm (ps ++ new) := by have := HPm.out; simpa using this
    exact ⟨R1, HS5.out.aside hk7 (fun k e => by have := HWs.out; omega) (fun k e e2 => (HNF.out k e).2 e2), h, p, by rw [zero_root HTu.out.zero, HRoot.out], c.ps, hsb, new, hpm9, by have := HHh.out; omega, (HTu.out.r).mono (fun q h => h) (by have := HHh.out; omega)⟩
  · obtain ⟨key2, hk2⟩ : ∃ key2, c2.key = key2 := ⟨_, rfl⟩
    obtain ⟨q2, hq2⟩ : ∃ q2, c2.page = q2 := ⟨_, rfl⟩
    rw [hk2] at hc2
    rw [hq2] at hc3
    rw [hk2, hq2]
    have HC1 := Hd hc1
    have HK2 := Hd hk2
    have HQ2 := Hd hq2
    have HRW := Hd hs5.at_
    have HTW := Hd (show TreeAt w5p tb br pl from ⟨hs5.keep9.at HTW4.out.cells HTb.out⟩)
    have HTbW := Hd (show ¬ R1.foot br tb from fun e => (hs5.foot9 e).elim HTb.out (fun e2 => by have := (Gl HTW4.out.cells); omega))
    have HFREE := Hd (show ∃ q, q < R1.pages ∧ R1.has q = false from by
      refine free_of (L := L ++ new) (fun q hq h => ?_) (by rw [List.length_append, htu.pages]; have := HLL.out.2; omega)
      rw [htu.pages] at hq
      rw [htu.has q hq] at h
      simp only [Bool.or_eq_true, decide_eq_true_eq] at h
      exact List.mem_append.2 (h.elim (fun e => .inr e) (fun e => .inl (HLL.out.1 q hq e))))
    have HPU := Hd (show R1.T.puts.length + 500 < 1000000000000 by obtain ⟨a, a1, a2⟩ := htu.puts; rw [a1, List.length_append]; have := HLn.out; omega)
    have HP16 := Hd (show R1.pages ≤ 65536 by rw [htu.pages]; exact H16.out)
    have HOX := Hd (show (rootOf p key2 q2).ok from by
      rw [rootOf_eq (kv1 := []) (kv2 := []) (ps1 := []) (ps2 := [])]
      refine inner_ok.2 (fun y hy => ?_)
      simp only [List.mem_cons, List.not_mem_nil, or_false] at hy
      rcases hy with e | e <;> rw [e]
      · exact ⟨(by show (⟨#[]⟩ : ByteArray).size ≤ 96; decide), (by show p < 65536; have := H16.out; omega)⟩
      · exact ⟨hc2, hc3⟩)
    have HSX := Hd (show (rootOf p key2 q2).size ≤ 512 from by
      rw [rootOf_eq (kv1 := []) (kv2 := []) (ps1 := []) (ps2 := []), inner_size]
      show 3 + ((5 + (⟨#[]⟩ : ByteArray).size) + ((5 + key2.size) + 0)) ≤ 512
      have : (⟨#[]⟩ : ByteArray).size = 0 := rfl
      omega)
    clear hs5 htu hkm hkv hpm g1 g2 hc1 hk2 hq2
    unfold oneMore
    go_wp2_with (fail)
    obtain ⟨S, hS⟩ : ∃ S : World → Prop, ∀ u, S u ↔ Keep (R1.foot br) w5p u := ⟨fun u => Keep (R1.foot br) w5p u, fun _ => Iff.rfl⟩
    have HS := Hd hS
    clear hS
    refine wp_region_way 10 (.read 0 (.read 1 (.read 2 (.read 4 (.read 5 (.two 3 (.one 6 (.read 7 (.one 8 (.one 9 .fin)))) 6 (.one 3 (.read 7 (.one 8 (.one 9 .fin)))))))))) S (by kernel_rfl) (by kernel_rfl) ((HS.out _).2 (Keep.refl (R1.foot br) w5p).drew) ?_
    iterate 5
      refine wpW_read rfl (by rfl) (fun K hK => ?_)
      apply Exists.intro
      refine ⟨fun u hu => ?_, ?_⟩
      · have hu := (HS.out u).1 hu
        have c0 : u.cell? ⟨ws, 0, none⟩ = some (.pointer (some ⟨tb, 0, none⟩)) := Lib.cell_of_heap (hu.at HP1.out (fun e => (HNF.out _ e).1 rfl)) 0
        clear hu
        go_simp
        exact ⟨rfl, rfl⟩
      go_simp
      refine hK _ ?_
      clear hK K
    refine wpW_two ?_ ?_
    · refine wpDo_do rfl (by rfl) (fun K hK => ?_)
      go_simp
      have k1a : Keep (fun _ => False) w5p (w5p.alloc (.cells #[.string ⟨#[]⟩, .string key2] 9)) := (Keep.refl (fun _ => False) w5p).alloc _
      have k1 : Keep (fun _ => False) w5p (w5p.alloc (.cells #[.string ⟨#[]⟩, .string key2] 9)).drew := k1a.drew
      refine hK _ _ ((HS.out _).2 (k1.mono (fun _ _ e => e.elim))) ?_
      clear hK K
      refine wpW_one ?_
      refine wpDo_do rfl (by rfl) (fun K hK => ?_)
      go_simp
      have k2 : Keep (fun _ => False) w5p ((w5p.alloc (.cells #[.string ⟨#[]⟩, .string key2] 9)).alloc (.cells #[.int .i64 p, .int .i64 q2] 3)).drew := (k1a.alloc _).drew
      refine hK _ _ ((HS.out _).2 (k2.mono (fun _ _ e => e.elim))) ?_
      clear hK K
      have g0 : ((w5p.alloc (.cells #[.string ⟨#[]⟩, .string key2] 9)).alloc (.cells #[.int .i64 p, .int .i64 q2] 3)).heap[w5p.heap.size]? = some (.cells #[.string ⟨#[]⟩, .string key2] 9 (0, 0)) := (Keep.still ((Below.refl _ _).alloc (Nat.le_refl _) (.cells #[.int .i64 p, .int .i64 q2] 3))).at (heap_alloc_new w5p _) (fun e => e)
      have g1 : ((w5p.alloc (.cells #[.string ⟨#[]⟩, .string key2] 9)).alloc (.cells #[.int .i64 p, .int .i64 q2] 3)).heap[w5p.heap.size + 1]? = some (.cells #[.int .i64 p, .int .i64 q2] 3 (0, 0)) := by
        have := heap_alloc_new (w5p.alloc (.cells #[.string ⟨#[]⟩, .string key2] 9)) (.cells #[.int .i64 p, .int .i64 q2] 3)
        rw [World.size_alloc] at this
        exact this
      refine wpW_read rfl (by rfl) (fun K hK => ?_)
      apply Exists.intro
      refine ⟨fun u hu => ?_, ?_⟩
      · go_simp
        exact ⟨rfl, rfl⟩
      go_simp
      refine hK _ ?_
      clear hK K
      refine wpW_one ?_
      refine wpDo_do rfl (by rfl) (fun K hK => ?_)
      go_simp
      have hz2 : ((w5p.alloc (.cells #[.string ⟨#[]⟩, .string key2] 9)).alloc (.cells #[.int .i64 p, .int .i64 q2] 3)).heap.size = w5p.heap.size + 1 + 1 := by simp
      have hnd0 := node_new (u := ((w5p.alloc (.cells #[.string ⟨#[]⟩, .string key2] 9)).alloc (.cells #[.int .i64 p, .int .i64 q2] 3))) (B := w5p.heap.size) (x := rootOf p key2 q2) (row_cellsT (n := 2) (l := strV [⟨#[]⟩, key2]) g0 rfl) row_nil (row_cellsT (n := 2) (l := intV [p, q2]) g1 rfl) (by omega) (fun k e => by have e2 : w5p.heap.size = k := Option.some.inj e; omega) (fun k e => by cases e) (fun k e => by have e2 : w5p.heap.size + 1 = k := Option.some.inj e; omega)
      rw [hz2] at hnd0
      have hnd : NdRd (((w5p.alloc (.cells #[.string ⟨#[]⟩, .string key2] 9)).alloc (.cells #[.int .i64 p, .int .i64 q2] 3)).alloc (.cells #[.bool false, .slice (some ⟨w5p.heap.size, 0, none⟩) 2 2, .slice none 0 0, .slice (some ⟨w5p.heap.size + 1, 0, none⟩) 2 2] 247)).drew (w5p.heap.size + 1 + 1) (rootOf p key2 q2) (fun k => w5p.heap.size ≤ k) := hnd0.keep (Keep.refl (fun _ => False) (((w5p.alloc (.cells #[.string ⟨#[]⟩, .string key2] 9)).alloc (.cells #[.int .i64 p, .int .i64 q2] 3)).alloc (.cells #[.bool false, .slice (some ⟨w5p.heap.size, 0, none⟩) 2 2, .slice none 0 0, .slice (some ⟨w5p.heap.size + 1, 0, none⟩) 2 2] 247))).drew (fun _ _ e => e)
      have hk5 : Keep (fun _ => False) w5p (((w5p.alloc (.cells #[.string ⟨#[]⟩, .string key2] 9)).alloc (.cells #[.int .i64 p, .int .i64 q2] 3)).alloc (.cells #[.bool false, .slice (some ⟨w5p.heap.size, 0, none⟩) 2 2, .slice none 0 0, .slice (some ⟨w5p.heap.size + 1, 0, none⟩) 2 2] 247)).drew := ((k1a.alloc _).alloc _).drew
      refine hK _ _ ((HS.out _).2 (hk5.mono (fun _ _ e => e.elim))) ?_
      clear hK K
      obtain ⟨w5, hw5⟩ : ∃ w5, (((w5p.alloc (.cells #[.string ⟨#[]⟩, .string key2] 9)).alloc (.cells #[.int .i64 p, .int .i64 q2] 3)).alloc (.cells #[.bool false, .slice (some ⟨w5p.heap.size, 0, none⟩) 2 2, .slice none 0 0, .slice (some ⟨w5p.heap.size + 1, 0, none⟩) 2 2] 247)).drew = w5 := ⟨_, rfl⟩
      rw [hw5] at hk5 hnd
      rw [hw5]
      have hb5 : Below w5p.heap.size w5p w5 := hk5.below (Nat.le_refl _) (fun _ _ e => e)
      clear k1 k1a k2 g0 g1 hk5 hw5 hz2 hnd0
      have HB5 := Hd hb5
      have HNd := Hd hnd
      have htl5 := (Gl HTW.out.cells)
      have HT5 := Hd (show TreeAt w5 tb br pl from ⟨(hb5.block tb htl5).trans HTW.out.cells⟩)
      have HFr := Hd (tfresh_any (w := w5) (tb := tb) (pl := pl) (br := br) (R := R1) (b := w5p.heap.size + 1 + 1) (x := rootOf p key2 q2) HT5.out HTbW.out (HRW.out.still hb5) (by have := HPU.out; omega) HFREE.out (fun w' hk => (HNd.out.keep hk (fun k e e2 => by have := HRW.out.foot_lt9 e2; omega)).r) HOX.out HSX.out)
      clear hnd htl5
      refine wpW_one ?_
      refine wpDo_do rfl (by rfl) (fun K hK => ?_)
      go_simp
      go_at_call 156
      refine (HFr.out).mono ?_
      rintro e w6 ⟨q, R5, rfl, hs6, hf6⟩
      refine hK _ _ ((HS.out _).2 ((Keep.ofBelow (S := R1.foot br) hb5).trans hs6.keep9 (fun _ _ e => e))) ?_
      clear hK K
      refine wpW_fin ?_
      simp only [List.drop_succ_cons, List.drop_zero]
      clear S HS
      have hq6 : q < R1.pages := hf6.was.1
      have HSr := Hd (tsetRoot_any (⟨hs6.keep9.at HT5.out.cells HTbW.out⟩ : TreeAt w6 tb br pl) hs6.at_ (by obtain ⟨a, a1, a2⟩ := hf6.puts; have := HPU.out; rw [a1, List.length_append]; omega) hpl (p := q) (by have := HP16.out; omega))
      have HS6 := Hd hs6
      have HF6 := Hd hf6
      clear hs6 hf6 hb5
      go_wp2_with (go_at_call 155; refine (HSr.out).mono ?_; rintro e w7 ⟨rfl, R2, hs7, hro7⟩
                   have hw6 : ws + 1 < w5.heap.size := by have := (Gl HP2.out); have := HB5.out.size; omega
                   have q7 : w7.heap[ws + 1]? = some (.cells #[.int .i64 0] 29 (0, 0)) := hs7.keep9.at (HS6.out.keep9.at ((HB5.out.block (ws + 1) (Gl HP2.out)).trans HP2.out) (fun e => (HNF.out _ e).2 rfl)) (fun e => (HS6.out.foot9 e).elim (fun e => (HNF.out _ e).2 rfl) (fun e => by omega))
                   have f7 : w7.frozen? ⟨ws + 1, 0, none⟩ = false := froz_of q7
                   have c7 : w7.cell? ⟨ws + 1, 0, none⟩ = some (.int .i64 0) := Lib.cell_of_heap q7 0
                   have HS7 := Hd hs7
                   have HR7 := Hd hro7
                   have HW6 := Hd hw6
                   clear q7 hs7 hro7 hw6)
      have e9 : (w7.setCell ⟨ws + 1, 0, none⟩ (.int .i64 0)).cell? ⟨ws + 1, 0, none⟩ = some (.int .i64 0) := World.cell?_setCell_same _ _ _ c7
      refine leaves_cons (f := 145) (args := #[.pointer (some ⟨ws + 1, 0, none⟩)]) (by simp) (by simp [go_sem]) ?_
      refine (guard_idle _ _).mono ?_
      rintro e u' w'' ⟨rfl, rfl, rfl⟩
      simp only [settle]
      refine leaves_cons (f := 154) (args := #[.pointer (some ⟨ws + 1, 0, none⟩), .pointer (some ⟨ws, 0, none⟩), .pointer (some ⟨ws + 1 + 1, 0, none⟩)]) (by simp) (by simp [go_sem]) ?_
      refine (put1_idle _ _ _ _ e9 _).mono ?_
      rintro e u' w'' ⟨rfl, rfl, rfl⟩
      simp [Leaves, settle, results, Tryz.results92, go_sem, e9]
      have hnf7 : ∀ k, R2.foot br k → ¬ k = ws + 1 := fun k e e2 => by
        rcases HS7.out.foot9 e with e | e
        · rcases HS6.out.foot9 e with e | e
          · exact (HNF.out _ e).2 e2
          · have := HW6.out; omega
        · have := HW6.out; have := HS6.out.tx.keep.size; omega
      have hk7 : Keep (fun k => k = ws + 1) w7 (w7.setCell ⟨ws + 1, 0, none⟩ (.int .i64 0)) := (Keep.refl (fun k => k = ws + 1) w7).setCell (p := ⟨ws + 1, 0, none⟩) (fun _ => rfl) _
      have hfit6 : R1.pages ≤ R1.maps * 4096 := by have := HRW.out.fit.1; omega
      have hpg6 := HF6.out.page hfit6 HS6.out.pages HOX.out (by unfold rootOf; simp) HSX.out
      have htu6 := HF6.out.turn hfit6 HS6.out.maps HS6.out.pages
      have hfit7 : R5.pages ≤ R5.maps * 4096 := by rw [HS6.out.pages, HS6.out.maps]; exact hfit6
      have hk2m := HKm.out.frame htu6 (fun q _ e => by cases e)
      have hlo : c1.key = ⟨#[]⟩ := by have := HKm.out.head; simpa using this
      have hro : rootOf p key2 q2 = innerOf [c1, c2] := by
        rw [← HC1.out, ← HK2.out, ← HQ2.out]
        unfold rootOf innerOf
        simp [hlo]
      rw [hro] at hpg6
      have hsub5 := hk2m.whole (by simp) hpg6
      rw [HKv.out] at hsub5
      have htt := (HTu.out.trans htu6).rooted (by have := HR.out.fit.1; omega) HS7.out.maps HS7.out.pages HR7.out
      exact ⟨R2, (((HS5.out.trans (RoomStep.still HRW.out HB5.out)).trans HS6.out).trans HS7.out).aside hk7 (fun k e => by have := HWs.out; omega) hnf7, h + 1, q, by rw [HR7.out.root pl, if_pos rfl], q :: [c1, c2].flatMap Kid.ps, HR7.out.sub hfit7 HS7.out.pages hsub5, new ++ [q], ((HPm.out.cons q).trans (by rw [← List.append_assoc]; exact List.perm_append_comm (l₁ := [q]) (l₂ := ps ++ new))), by rw [List.length_append]; have := HNl.out; simp; omega, htt.mono (fun q h => by simpa using h) (by omega)⟩
    · refine wpDo_do rfl (by rfl) (fun K hK => ?_)
      go_simp
      have k1a : Keep (fun _ => False) w5p (w5p.alloc (.cells #[.int .i64 p, .int .i64 q2] 3)) := (Keep.refl (fun _ => False) w5p).alloc _
      have k1 : Keep (fun _ => False) w5p (w5p.alloc (.cells #[.int .i64 p, .int .i64 q2] 3)).drew := k1a.drew
      refine hK _ _ ((HS.out _).2 (k1.mono (fun _ _ e => e.elim))) ?_
      clear hK K
      refine wpW_one ?_
      refine wpDo_do rfl (by rfl) (fun K hK => ?_)
      go_simp
      have k2 : Keep (fun _ => False) w5p ((w5p.alloc (.cells #[.int .i64 p, .int .i64 q2] 3)).alloc (.cells #[.string ⟨#[]⟩, .string key2] 9)).drew := (k1a.alloc _).drew
      refine hK _ _ ((HS.out _).2 (k2.mono (fun _ _ e => e.elim))) ?_
      clear hK K
      have g0 : ((w5p.alloc (.cells #[.int .i64 p, .int .i64 q2] 3)).alloc (.cells #[.string ⟨#[]⟩, .string key2] 9)).heap[w5p.heap.size]? = some (.cells #[.int .i64 p, .int .i64 q2] 3 (0, 0)) := (Keep.still ((Below.refl _ _).alloc (Nat.le_refl _) (.cells #[.string ⟨#[]⟩, .string key2] 9))).at (heap_alloc_new w5p _) (fun e => e)
      have g1 : ((w5p.alloc (.cells #[.int .i64 p, .int .i64 q2] 3)).alloc (.cells #[.string ⟨#[]⟩, .string key2] 9)).heap[w5p.heap.size + 1]? = some (.cells #[.string ⟨#[]⟩, .string key2] 9 (0, 0)) := by
        have := heap_alloc_new (w5p.alloc (.cells #[.int .i64 p, .int .i64 q2] 3)) (.cells #[.string ⟨#[]⟩, .string key2] 9)
        rw [World.size_alloc] at this
        exact this
      refine wpW_read rfl (by rfl) (fun K hK => ?_)
      apply Exists.intro
      refine ⟨fun u hu => ?_, ?_⟩
      · go_simp
        exact ⟨rfl, rfl⟩
      go_simp
      refine hK _ ?_
      clear hK K
      refine wpW_one ?_
      refine wpDo_do rfl (by rfl) (fun K hK => ?_)
      go_simp
      have hz2 : ((w5p.alloc (.cells #[.int .i64 p, .int .i64 q2] 3)).alloc (.cells #[.string ⟨#[]⟩, .string key2] 9)).heap.size = w5p.heap.size + 1 + 1 := by simp
      have hnd0 := node_new (u := ((w5p.alloc (.cells #[.int .i64 p, .int .i64 q2] 3)).alloc (.cells #[.string ⟨#[]⟩, .string key2] 9))) (B := w5p.heap.size) (x := rootOf p key2 q2) (row_cellsT (n := 2) (l := strV [⟨#[]⟩, key2]) g1 rfl) row_nil (row_cellsT (n := 2) (l := intV [p, q2]) g0 rfl) (by omega) (fun k e => by have e2 : w5p.heap.size + 1 = k := Option.some.inj e; omega) (fun k e => by cases e) (fun k e => by have e2 : w5p.heap.size = k := Option.some.inj e; omega)
      rw [hz2] at hnd0
      have hnd : NdRd (((w5p.alloc (.cells #[.int .i64 p, .int .i64 q2] 3)).alloc (.cells #[.string ⟨#[]⟩, .string key2] 9)).alloc (.cells #[.bool false, .slice (some ⟨w5p.heap.size + 1, 0, none⟩) 2 2, .slice none 0 0, .slice (some ⟨w5p.heap.size, 0, none⟩) 2 2] 247)).drew (w5p.heap.size + 1 + 1) (rootOf p key2 q2) (fun k => w5p.heap.size ≤ k) := hnd0.keep (Keep.refl (fun _ => False) (((w5p.alloc (.cells #[.int .i64 p, .int .i64 q2] 3)).alloc (.cells #[.string ⟨#[]⟩, .string key2] 9)).alloc (.cells #[.bool false, .slice (some ⟨w5p.heap.size + 1, 0, none⟩) 2 2, .slice none 0 0, .slice (some ⟨w5p.heap.size, 0, none⟩) 2 2] 247))).drew (fun _ _ e => e)
      have hk5 : Keep (fun _ => False) w5p (((w5p.alloc (.cells #[.int .i64 p, .int .i64 q2] 3)).alloc (.cells #[.string ⟨#[]⟩, .string key2] 9)).alloc (.cells #[.bool false, .slice (some ⟨w5p.heap.size + 1, 0, none⟩) 2 2, .slice none 0 0, .slice (some ⟨w5p.heap.size, 0, none⟩) 2 2] 247)).drew := ((k1a.alloc _).alloc _).drew
      refine hK _ _ ((HS.out _).2 (hk5.mono (fun _ _ e => e.elim))) ?_
      clear hK K
      obtain ⟨w5, hw5⟩ : ∃ w5, (((w5p.alloc (.cells #[.int .i64 p, .int .i64 q2] 3)).alloc (.cells #[.string ⟨#[]⟩, .string key2] 9)).alloc (.cells #[.bool false, .slice (some ⟨w5p.heap.size + 1, 0, none⟩) 2 2, .slice none 0 0, .slice (some ⟨w5p.heap.size, 0, none⟩) 2 2] 247)).drew = w5 := ⟨_, rfl⟩
      rw [hw5] at hk5 hnd
      rw [hw5]
      have hb5 : Below w5p.heap.size w5p w5 := hk5.below (Nat.le_refl _) (fun _ _ e => e)
      clear k1 k1a k2 g0 g1 hk5 hw5 hz2 hnd0
      have HB5 := Hd hb5
      have HNd := Hd hnd
      have htl5 := (Gl HTW.out.cells)
      have HT5 := Hd (show TreeAt w5 tb br pl from ⟨(hb5.block tb htl5).trans HTW.out.cells⟩)
      have HFr := Hd (tfresh_any (w := w5) (tb := tb) (pl := pl) (br := br) (R := R1) (b := w5p.heap.size + 1 + 1) (x := rootOf p key2 q2) HT5.out HTbW.out (HRW.out.still hb5) (by have := HPU.out; omega) HFREE.out (fun w' hk => (HNd.out.keep hk (fun k e e2 => by have := HRW.out.foot_lt9 e2; omega)).r) HOX.out HSX.out)
      clear hnd htl5
      refine wpW_one ?_
      refine wpDo_do rfl (by rfl) (fun K hK => ?_)
      go_simp
      go_at_call 156
      refine (HFr.out).mono ?_
      rintro e w6 ⟨q, R5, rfl, hs6, hf6⟩
      refine hK _ _ ((HS.out _).2 ((Keep.ofBelow (S := R1.foot br) hb5).trans hs6.keep9 (fun _ _ e => e))) ?_
      clear hK K
      refine wpW_fin ?_
      simp only [List.drop_succ_cons, List.drop_zero]
      clear S HS
      have hq6 : q < R1.pages := hf6.was.1
      have HSr := Hd (tsetRoot_any (⟨hs6.keep9.at HT5.out.cells HTbW.out⟩ : TreeAt w6 tb br pl) hs6.at_ (by obtain ⟨a, a1, a2⟩ := hf6.puts; have := HPU.out; rw [a1, List.length_append]; omega) hpl (p := q) (by have := HP16.out; omega))
      have HS6 := Hd hs6
      have HF6 := Hd hf6
      clear hs6 hf6 hb5
      go_wp2_with (go_at_call 155; refine (HSr.out).mono ?_; rintro e w7 ⟨rfl, R2, hs7, hro7⟩
                   have hw6 : ws + 1 < w5.heap.size := by have := (Gl HP2.out); have := HB5.out.size; omega
                   have q7 : w7.heap[ws + 1]? = some (.cells #[.int .i64 0] 29 (0, 0)) := hs7.keep9.at (HS6.out.keep9.at ((HB5.out.block (ws + 1) (Gl HP2.out)).trans HP2.out) (fun e => (HNF.out _ e).2 rfl)) (fun e => (HS6.out.foot9 e).elim (fun e => (HNF.out _ e).2 rfl) (fun e => by omega))
                   have f7 : w7.frozen? ⟨ws + 1, 0, none⟩ = false := froz_of q7
                   have c7 : w7.cell? ⟨ws + 1, 0, none⟩ = some (.int .i64 0) := Lib.cell_of_heap q7 0
                   have HS7 := Hd hs7
                   have HR7 := Hd hro7
                   have HW6 := Hd hw6
                   clear q7 hs7 hro7 hw6)
      have e9 : (w7.setCell ⟨ws + 1, 0, none⟩ (.int .i64 0)).cell? ⟨ws + 1, 0, none⟩ = some (.int .i64 0) := World.cell?_setCell_same _ _ _ c7
      refine leaves_cons (f := 145) (args := #[.pointer (some ⟨ws + 1, 0, none⟩)]) (by simp) (by simp [go_sem]) ?_
      refine (guard_idle _ _).mono ?_
      rintro e u' w'' ⟨rfl, rfl, rfl⟩
      simp only [settle]
      refine leaves_cons (f := 154) (args := #[.pointer (some ⟨ws + 1, 0, none⟩), .pointer (some ⟨ws, 0, none⟩), .pointer (some ⟨ws + 1 + 1, 0, none⟩)]) (by simp) (by simp [go_sem]) ?_
      refine (put1_idle _ _ _ _ e9 _).mono ?_
      rintro e u' w'' ⟨rfl, rfl, rfl⟩
      simp [Leaves, settle, results, Tryz.results92, go_sem, e9]
      have hnf7 : ∀ k, R2.foot br k → ¬ k = ws + 1 := fun k e e2 => by
        rcases HS7.out.foot9 e with e | e
        · rcases HS6.out.foot9 e with e | e
          · exact (HNF.out _ e).2 e2
          · have := HW6.out; omega
        · have := HW6.out; have := HS6.out.tx.keep.size; omega
      have hk7 : Keep (fun k => k = ws + 1) w7 (w7.setCell ⟨ws + 1, 0, none⟩ (.int .i64 0)) := (Keep.refl (fun k => k = ws + 1) w7).setCell (p := ⟨ws + 1, 0, none⟩) (fun _ => rfl) _
      have hfit6 : R1.pages ≤ R1.maps * 4096 := by have := HRW.out.fit.1; omega
      have hpg6 := HF6.out.page hfit6 HS6.out.pages HOX.out (by unfold rootOf; simp) HSX.out
      have htu6 := HF6.out.turn hfit6 HS6.out.maps HS6.out.pages
      have hfit7 : R5.pages ≤ R5.maps * 4096 := by rw [HS6.out.pages, HS6.out.maps]; exact hfit6
      have hk2m := HKm.out.frame htu6 (fun q _ e => by cases e)
      have hlo : c1.key = ⟨#[]⟩ := by have := HKm.out.head; simpa using this
      have hro : rootOf p key2 q2 = innerOf [c1, c2] := by
        rw [← HC1.out, ← HK2.out, ← HQ2.out]
        unfold rootOf innerOf
        simp [hlo]
      rw [hro] at hpg6
      have hsub5 := hk2m.whole (by simp) hpg6
      rw [HKv.out] at hsub5
      have htt := (HTu.out.trans htu6).rooted (by have := HR.out.fit.1; omega) HS7.out.maps HS7.out.pages HR7.out
      exact ⟨R2, (((HS5.out.trans (RoomStep.still HRW.out HB5.out)).trans HS6.out).trans HS7.out).aside hk7 (fun k e => by have := HWs.out; omega) hnf7, h + 1, q, by rw [HR7.out.root pl, if_pos rfl], q :: [c1, c2].flatMap Kid.ps, HR7.out.sub hfit7 HS7.out.pages hsub5, new ++ [q], ((HPm.out.cons q).trans (by rw [← List.append_assoc]; exact List.perm_append_comm (l₁ := [q]) (l₂ := ps ++ new))), by rw [List.length_append]; have := HNl.out; simp; omega, htt.mono (fun q h => by simpa using h) (by omega)⟩
end Go.Proofs.YtaokjeokpifjgaaGreatDoor

namespace Go.Proofs.YtaokjeokpifjgaaGreatDoor
open Go.RowKit Go.MapKept
set_option maxRecDepth 100000

def pagesB (n : Nat) : Nat := if n ≤ 506 then 1 else (n - 1) / 506 + 1
theorem pagesB_pos (n : Nat) : 1 ≤ pagesB n := by unfold pagesB; split <;> omega
theorem pagesB_covers (n : Nat) : n ≤ 506 * pagesB n := by unfold pagesB; split <;> omega
theorem pagesB_least (n i : Nat) (h : i + 1 < pagesB n) : 506 * (i + 1) < n := by unfold pagesB at h; split at h <;> omega
theorem pagesB_le (n : Nat) (h : n ≤ 131072) : pagesB n ≤ 260 := by unfold pagesB; split <;> omega

def headL (next n : Nat) : List UInt8 := [UInt8.ofNat (next / 16777216 % 256), UInt8.ofNat (next / 65536 % 256), UInt8.ofNat (next / 256 % 256), UInt8.ofNat (next % 256), UInt8.ofNat (n / 256 % 256), UInt8.ofNat (n % 256)]
def headB (next n : Nat) : ByteArray := ⟨(headL next n).toArray⟩
def pageS (next : Nat) (s : ByteArray) : ByteArray := headB next s.size ++ s
theorem headB_size (next n : Nat) : (headB next n).size = 6 := rfl
theorem pageS_size (next : Nat) (s : ByteArray) : (pageS next s).size = 6 + s.size := by
  unfold pageS; rw [ByteArray.size_append, headB_size]
theorem pageS_data (next : Nat) (s : ByteArray) : (pageS next s).data.toList = headL next s.size ++ s.data.toList := by
  unfold pageS headB; simp
theorem byteN_head (next : Nat) (s : ByteArray) (k : Nat) (hk : k < 6) : byteN (fullS (pageS next s)) k = ((headL next s.size).getD k 0).toNat := by
  rw [byteN_fullS]
  unfold byteN
  rw [pageS_data, List.getD_eq_getElem?_getD, List.getD_eq_getElem?_getD, List.getElem?_append_left (by show k < 6; exact hk)]
theorem page_heads (next : Nat) (s : ByteArray) : byteN (fullS (pageS next s)) 0 = next / 16777216 % 256 ∧ byteN (fullS (pageS next s)) 1 = next / 65536 % 256 ∧ byteN (fullS (pageS next s)) 2 = next / 256 % 256 ∧
    byteN (fullS (pageS next s)) 3 = next % 256 ∧ byteN (fullS (pageS next s)) 4 = s.size / 256 % 256 ∧ byteN (fullS (pageS next s)) 5 = s.size % 256 := by
  refine ⟨?_, ?_, ?_, ?_, ?_, ?_⟩ <;> rw [byteN_head _ _ _ (by decide)] <;> simp [headL]
theorem page_part (next : Nat) (s : ByteArray) (hs : s.size ≤ 506) : (fullS (pageS next s)).extract 6 (6 + s.size) = s := by
  have hz : (fullS (pageS next s)).size = 512 := fullS_size _ (by rw [pageS_size]; omega)
  have hb : ∀ k, byteN (fullS (pageS next s)) k = byteN (pageS next s) k := fun k => byteN_fullS _ k
  generalize fullS (pageS next s) = t at *
  have he : (t.extract 6 (6 + s.size)).size = s.size := by rw [ByteArray.size_extract]; omega
  refine bytes_ext he (fun k hk => ?_)
  rw [he] at hk
  have h1 : byteN (t.extract 6 (6 + s.size)) k = byteN t (6 + k) := by
    unfold byteN
    rw [ext_get t 6 (6 + s.size) k (by omega) (by omega)]
  rw [h1, hb]
  unfold byteN
  rw [pageS_data, List.getD_eq_getElem?_getD, List.getElem?_append_right (by show 6 ≤ 6 + k; omega)]
  show ((s.data.toList[6 + k - 6]?).getD 0).toNat = _
  rw [show 6 + k - 6 = k by omega, List.getD_eq_getElem?_getD]

theorem or4 (n : Nat) (h : n < 4294967296) : n / 16777216 % 256 * 16777216 ||| n / 65536 % 256 * 65536 ||| n / 256 % 256 * 256 ||| n % 256 = n := by
  have e1 : n / 16777216 % 256 * 16777216 ||| n / 65536 % 256 * 65536 = n / 65536 * 65536 := by
    have : n / 16777216 % 256 * 16777216 = 2 ^ 24 * (n / 16777216) := by omega
    rw [this, ← Nat.two_pow_add_eq_or_of_lt (by omega)]
    omega
  have e2 : n / 65536 * 65536 ||| n / 256 % 256 * 256 = n / 256 * 256 := by
    have : n / 65536 * 65536 = 2 ^ 16 * (n / 65536) := by omega
    rw [this, ← Nat.two_pow_add_eq_or_of_lt (by omega)]
    omega
  have e3 : n / 256 * 256 ||| n % 256 = n := by
    have : n / 256 * 256 = 2 ^ 8 * (n / 256) := by omega
    rw [this, ← Nat.two_pow_add_eq_or_of_lt (by omega)]
    omega
  rw [e1, e2, e3]
theorem or2 (n : Nat) (h : n < 65536) : n / 256 % 256 * 256 ||| n % 256 = n := by
  have : n / 256 % 256 * 256 = 2 ^ 8 * (n / 256) := by omega
  rw [this, ← Nat.two_pow_add_eq_or_of_lt (by omega)]
  omega
theorem wraps_i64 (n : Int) (h₀ : 0 ≤ n) (h₁ : n < 2 ^ 62) : IntKind.i64.wrap n = n := by rw [IntKind.wrap_i64]; omega
theorem bits_or_i64 (a b : Nat) (ha : a < 2 ^ 62) (hb : b < 2 ^ 62) : bits .or .i64 a b = ((a ||| b : Nat) : Int) :=
  (bits_nat .i64 62 (by decide) wraps_i64 a b ha hb).2

def restB (s : ByteArray) (i : Nat) : ByteArray := s.extract (506 * i) s.size
def chunkB (s : ByteArray) (i : Nat) : ByteArray := s.extract (506 * i) (min (506 * (i + 1)) s.size)
theorem restB_zero (s : ByteArray) : restB s 0 = s := by unfold restB; rw [Nat.mul_zero]; exact extract_all s
theorem restB_size (s : ByteArray) (i : Nat) : (restB s i).size = s.size - 506 * i := by unfold restB; rw [ByteArray.size_extract]; omega
theorem chunkB_size (s : ByteArray) (i : Nat) : (chunkB s i).size = min 506 (s.size - 506 * i) := by unfold chunkB; rw [ByteArray.size_extract]; omega
theorem extract2 (s : ByteArray) (a b c d : Nat) : (s.extract a b).extract c d = s.extract (a + c) (min (a + d) b) := by
  apply ByteArray.ext
  simp [Array.extract_extract]
theorem restB_take (s : ByteArray) (i n : Nat) (h : 506 * i ≤ s.size) (hn : n = min 506 (s.size - 506 * i)) : (restB s i).extract 0 n = chunkB s i := by
  unfold restB chunkB
  rw [extract2]
  congr 1
  omega
theorem restB_byte (s : ByteArray) (i k : Nat) (h : k < s.size - 506 * i) : (restB s i).data.toList.getD k 0 = s.data.toList.getD (506 * i + k) 0 := ext_get s (506 * i) s.size k (Nat.le_refl _) (by omega)
theorem restB_drop (s : ByteArray) (i n : Nat) (hn : n = min 506 (s.size - 506 * i)) : (restB s i).extract n (restB s i).size = restB s (i + 1) := by
  have hz := restB_size s i
  have hz2 := restB_size s (i + 1)
  apply bytes_ext
  · rw [ByteArray.size_extract]; omega
  · intro k hk
    rw [ByteArray.size_extract] at hk
    have e1 : ((restB s i).extract n (restB s i).size).data.toList.getD k 0 = (restB s i).data.toList.getD (n + k) 0 := ext_get (restB s i) n (restB s i).size k (Nat.le_refl _) (by omega)
    unfold byteN
    rw [e1, restB_byte s i (n + k) (by omega), restB_byte s (i + 1) k (by omega), show 506 * i + (n + k) = 506 * (i + 1) + k by omega]
theorem chunk_cat (s : ByteArray) (i : Nat) (h : 506 * i ≤ s.size) : s.data.toList.take (506 * i) ++ (chunkB s i).data.toList = s.data.toList.take (506 * (i + 1)) := by
  have hl : s.data.toList.length = s.size := by simp
  have e : (chunkB s i).data.toList = (s.data.toList.drop (506 * i)).take 506 := by
    unfold chunkB
    rw [ByteArray.data_extract, Array.toList_extract, List.extract_eq_take_drop]
    rw [List.take_eq_take_iff, List.length_drop]
    omega
  rw [e, show 506 * (i + 1) = 506 * i + 506 by omega, List.take_add]

def nextOf (ps : List Nat) (i : Nat) : Nat := if i + 1 < ps.length then ps.getD (i + 1) 0 + 1 else 0
structure BlobIn (R : RoomS) (s : ByteArray) (ps : List Nat) : Prop where
  len : ps.length = pagesB s.size
  nodup : ps.Nodup
  pages : ∀ p ∈ ps, p < R.pages ∧ R.has p = true
  text : ∀ i, i < ps.length → R.text (ps.getD i 0) = fullS (pageS (nextOf ps i) (chunkB s i))
theorem getD_memN {ps : List Nat} {i : Nat} (h : i < ps.length) : ps.getD i 0 ∈ ps := getD_mem h
theorem getD_inj {ps : List Nat} (hn : ps.Nodup) {i j : Nat} (hi : i < ps.length) (hj : j < ps.length) (h : ps.getD i 0 = ps.getD j 0) : i = j := by
  rw [List.getD_eq_getElem?_getD, List.getD_eq_getElem?_getD, List.getElem?_eq_getElem hi, List.getElem?_eq_getElem hj] at h
  exact (List.getElem_inj hn).1 h
theorem BlobIn.congr {R R' : RoomS} {s : ByteArray} {ps : List Nat} (h : BlobIn R s ps) (hp : R'.pages = R.pages) (hh : ∀ p ∈ ps, R'.has p = R.has p) (ht : ∀ p ∈ ps, R'.text p = R.text p) : BlobIn R' s ps :=
  ⟨h.len, h.nodup, fun p hm => by rw [hp, hh p hm]; exact h.pages p hm, fun i hi => by rw [ht _ (getD_mem hi)]; exact h.text i hi⟩

end Go.Proofs.YtaokjeokpifjgaaGreatDoor

namespace Go.Proofs.YtaokjeokpifjgaaGreatDoor
set_option maxRecDepth 100000

def beW (w n j : Nat) : List UInt8 := (List.range j).map (fun t => UInt8.ofNat (n / 2 ^ (8 * (w - 1 - t)) % 256))
theorem beW_succ (w n j : Nat) : beW w n (j + 1) = beW w n j ++ [UInt8.ofNat (n / 2 ^ (8 * (w - 1 - j)) % 256)] := by
  unfold beW
  rw [List.range_succ, List.map_append]
  rfl
theorem beW_length (w n j : Nat) : (beW w n j).length = j := by unfold beW; simp
theorem told_be {w n : Nat} (hn : n < 2 ^ (8 * w)) (j : Nat) (hj : j ≤ w) : beN (beW w n j) = n / 2 ^ (8 * (w - j)) := by
  induction j with
  | zero => rw [Nat.sub_zero, Nat.div_eq_of_lt hn]; rfl
  | succ j ih =>
    rw [beW_succ, beN_snoc, ih (by omega)]
    have e1 : 8 * (w - j) = 8 * (w - (j + 1)) + 8 := by omega
    have e2 : w - 1 - j = w - (j + 1) := by omega
    rw [e1, e2, Nat.pow_add, ← Nat.div_div_eq_div_mul]
    have e3 : (UInt8.ofNat (n / 2 ^ (8 * (w - (j + 1))) % 256)).toNat = n / 2 ^ (8 * (w - (j + 1))) % 256 := by simp
    rw [e3]
    omega
theorem told_beW {w n : Nat} (hn : n < 2 ^ (8 * w)) : beN (beW w n w) = n := by
  rw [told_be hn w (Nat.le_refl _), Nat.sub_self, Nat.mul_zero, Nat.pow_zero, Nat.div_one]
def wid (k : Nat) : Nat := if k = 110 then 8 else if k = 104 then 4 else if k = 98 then 1 else 0
abbrev Fld := Nat × ByteArray
def enc (k : Nat) (f : Fld) : List UInt8 := if k = 116 then beW 2 f.2.size 2 ++ f.2.data.toList else if wid k = 0 then f.2.data.toList else beW (wid k) f.1 (wid k)
def Fits (k : Nat) (f : Fld) : Prop := ((k = 110 ∨ k = 104 ∨ k = 98) ∧ f.2 = ⟨#[]⟩ ∧ f.1 < 2 ^ (8 * wid k)) ∨ ((k = 116 ∧ f.2.size ≤ 65535) ∧ f.1 = 0) ∨ (k = 114 ∧ f.1 = 0 ∧ f.2.size ≤ 1000000)
def letter (ks : ByteArray) (i : Nat) : Nat := byteN ks i
def packN (ks : ByteArray) (fs : List Fld) (j : Nat) : List UInt8 := (List.range j).flatMap (fun i => enc (letter ks i) (fs.getD i (0, ⟨#[]⟩)))
theorem packN_succ (ks : ByteArray) (fs : List Fld) (j : Nat) : packN ks fs (j + 1) = packN ks fs j ++ enc (letter ks j) (fs.getD j (0, ⟨#[]⟩)) := by
  unfold packN
  rw [List.range_succ, List.flatMap_append]
  simp
theorem packN_zero (ks : ByteArray) (fs : List Fld) : packN ks fs 0 = [] := rfl
def packed (ks : ByteArray) (fs : List Fld) : ByteArray := ⟨(packN ks fs fs.length).toArray⟩
structure Fields (ks : ByteArray) (fs : List Fld) : Prop where
  len : ks.size = fs.length
  few : fs.length ≤ 64
  fit : ∀ i, i < fs.length → Fits (letter ks i) (fs.getD i (0, ⟨#[]⟩))
  last : ∀ i, i < fs.length → letter ks i = 114 → i + 1 = fs.length
theorem enc_length {k : Nat} {f : Fld} (h : Fits k f) : (enc k f).length ≤ 1000000 := by
  unfold enc
  have hl : f.2.data.toList.length = f.2.size := by simp
  rcases h with ⟨h, h1, h2⟩ | ⟨⟨h, h1⟩, h2⟩ | ⟨h, h1, h2⟩
  · rw [if_neg (by omega)]
    split
    · rw [h1]; decide
    · rw [beW_length]; unfold wid; split <;> (try split) <;> (try split) <;> omega
  · rw [if_pos h, List.length_append, beW_length, hl]; omega
  · rw [if_neg (by omega)]
    split
    · omega
    · rw [beW_length]; unfold wid; split <;> (try split) <;> (try split) <;> omega
theorem packN_length {ks : ByteArray} {fs : List Fld} (h : Fields ks fs) (j : Nat) (hj : j ≤ fs.length) : (packN ks fs j).length ≤ 1000000 * j := by
  induction j with
  | zero => exact Nat.le_refl _
  | succ j ih =>
    rw [packN_succ, List.length_append]
    have h1 := ih (by omega)
    have h2 := enc_length (h.fit j (by omega))
    omega
def restP (ks : ByteArray) (fs : List Fld) (j : Nat) : ByteArray := ⟨((packN ks fs fs.length).drop (packN ks fs j).length).toArray⟩
theorem restP_zero (ks : ByteArray) (fs : List Fld) : restP ks fs 0 = packed ks fs := rfl
theorem restP_end (ks : ByteArray) (fs : List Fld) : restP ks fs fs.length = ⟨#[]⟩ := by unfold restP; rw [List.drop_length]
theorem packN_prefix (ks : ByteArray) (fs : List Fld) (j n : Nat) (h : j ≤ n) : ∃ t, packN ks fs n = packN ks fs j ++ t := by
  induction n with
  | zero => obtain rfl : j = 0 := by omega
            exact ⟨[], by simp⟩
  | succ n ih =>
    by_cases e : j = n + 1
    · exact ⟨[], by rw [e]; simp⟩
    · obtain ⟨t, ht⟩ := ih (by omega)
      exact ⟨t ++ enc (letter ks n) (fs.getD n (0, ⟨#[]⟩)), by rw [packN_succ, ht, List.append_assoc]⟩
theorem restP_succ (ks : ByteArray) (fs : List Fld) (j : Nat) (h : j < fs.length) : (restP ks fs j).data.toList = enc (letter ks j) (fs.getD j (0, ⟨#[]⟩)) ++ (restP ks fs (j + 1)).data.toList := by
  obtain ⟨t, ht⟩ := packN_prefix ks fs (j + 1) fs.length (by omega)
  unfold restP
  have h1 := packN_succ ks fs j
  dsimp only
  rw [ht, List.drop_left]
  rw [h1, List.append_assoc, List.drop_left]
theorem bytes_split {s t : ByteArray} {l : List UInt8} (h : s.data.toList = l ++ t.data.toList) : s.extract 0 l.length = ⟨l.toArray⟩ ∧ s.extract l.length s.size = t ∧ l.length ≤ s.size := by
  have hz : s.size = l.length + t.size := by
    have := congrArg List.length h
    rw [List.length_append, Array.length_toList, Array.length_toList] at this
    exact this
  refine ⟨?_, ?_, by omega⟩
  · apply ByteArray.ext
    apply Array.toList_inj.1
    rw [ByteArray.data_extract, Array.toList_extract, List.extract_eq_take_drop, h]
    simp
  · apply ByteArray.ext
    apply Array.toList_inj.1
    rw [ByteArray.data_extract, Array.toList_extract, List.extract_eq_take_drop, h]
    simp
    rw [List.take_of_length_le]
    rw [Array.length_toList]
    show t.size ≤ _
    omega
end Go.Proofs.YtaokjeokpifjgaaGreatDoor

namespace Go.Proofs.YtaokjeokpifjgaaGreatDoor
open Go.RowKit Go.MapKept
attribute [local go_sem] gives givesH
set_option maxRecDepth 100000

theorem blobPages_any (n : Nat) (hn : n ≤ 9223372036854775807) (w : World) :
    Calls Tryz.prog 171 #[.int .i64 n] w fun e w' => e = .returned (.int .i64 (pagesB n)) ∧ w = w' := by
  by_cases h : n ≤ 506
  · have e1 : decide ((n : Int) ≤ 506) = true := by simp; omega
    have e2 : pagesB n = 1 := by unfold pagesB; rw [if_pos h]
    rw [e2]
    clear e2
    go_enter Tryz.func171, Tryz.ntmps171
    go_wp2
    go_ret
    exact ⟨rfl, rfl⟩
  · have e1 : decide ((n : Int) ≤ 506) = false := by simp; omega
    have e2 : ((pagesB n : Nat) : Int) = ((n : Int) - 1) / 506 + 1 := by unfold pagesB; rw [if_neg h]; omega
    rw [e2]
    clear e2
    go_enter Tryz.func171, Tryz.ntmps171
    go_wp2
    go_ret
    exact ⟨rfl, rfl⟩

theorem page_any (next : Nat) (hn : next < 4294967296) (s : ByteArray) (hs : s.size ≤ 506) (w : World) :
    Calls Tryz.prog 174 #[.int .i64 next, .string s] w fun e w' => e = .returned (.string (pageS next s)) ∧ Below w.heap.size w w' := by
  have hcv : ∀ u, Lib.Bytes u w.heap.size 0 (headB next s.size) → ∀ c, (convert 121 9 (.slice (some ⟨w.heap.size, 0, none⟩) 6 c)).run Tryz.prog u = .ok (.string (headB next s.size)) u := fun u hu c => by
    have := Lib.run_convert_whole (P := Tryz.prog) u 121 5 9 Tryz.underlying121 Tryz.underlying5 Tryz.underlying9 w.heap.size 0 (headB next s.size) hu c
    rwa [headB_size] at this
  have hby : Lib.Bytes (w.alloc (Obj.cells #[Value.int IntKind.u8 ((next : Int) / 16777216), Value.int IntKind.u8 ((next : Int) / 65536 % 256), Value.int IntKind.u8 ((next : Int) / 256 % 256), Value.int IntKind.u8 ((next : Int) % 256), Value.int IntKind.u8 ((s.size : Int) / 256), Value.int IntKind.u8 ((s.size : Int) % 256)] 5)) w.heap.size 0 (headB next s.size) := by
    have hn2 : next / 16777216 < 256 := by omega
    have hs2 : s.size / 256 < 256 := by omega
    intro i hi
    rw [headB_size] at hi
    rw [Nat.zero_add]
    have e : ∀ j, (w.alloc (Obj.cells #[Value.int IntKind.u8 ((next : Int) / 16777216), Value.int IntKind.u8 ((next : Int) / 65536 % 256), Value.int IntKind.u8 ((next : Int) / 256 % 256), Value.int IntKind.u8 ((next : Int) % 256), Value.int IntKind.u8 ((s.size : Int) / 256), Value.int IntKind.u8 ((s.size : Int) % 256)] 5)).cell? ⟨w.heap.size, j, none⟩ =
        (#[Value.int IntKind.u8 ((next : Int) / 16777216), Value.int IntKind.u8 ((next : Int) / 65536 % 256), Value.int IntKind.u8 ((next : Int) / 256 % 256), Value.int IntKind.u8 ((next : Int) % 256), Value.int IntKind.u8 ((s.size : Int) / 256), Value.int IntKind.u8 ((s.size : Int) % 256)] : Array Value)[j]? := fun j => Lib.cell_of_heap (heap_alloc_new w _) j
    rw [e, byteN_get _ i (by rw [headB_size]; exact hi)]
    match i, hi with
    | 0, _ => simp [byteN, headB, headL]; omega
    | 1, _ => simp [byteN, headB, headL]
    | 2, _ => simp [byteN, headB, headL]
    | 3, _ => simp [byteN, headB, headL]
    | 4, _ => simp [byteN, headB, headL]; omega
    | 5, _ => simp [byteN, headB, headL]
  have l1 := hcv _ hby 6
  have hcat := run_string_add_sum (P := Tryz.prog) (w.alloc (Obj.cells #[Value.int IntKind.u8 ((next : Int) / 16777216), Value.int IntKind.u8 ((next : Int) / 65536 % 256), Value.int IntKind.u8 ((next : Int) / 256 % 256), Value.int IntKind.u8 ((next : Int) % 256), Value.int IntKind.u8 ((s.size : Int) / 256), Value.int IntKind.u8 ((s.size : Int) % 256)] 5)) (headB next s.size) s (by rw [headB_size]; omega)
  unfold pageS
  generalize headB next s.size = hb at *
  clear hby hcv
  go_enter Tryz.func174, Tryz.ntmps174
  go_wp2
  go_ret
  exact ⟨rfl, (Below.refl _ _).alloc (Nat.le_refl _) _⟩

theorem bits_or_mul (a b m n : Nat) (ha : a * m < 2 ^ 62) (hb : b * n < 2 ^ 62) : bits .or .i64 ((a : Int) * (m : Int)) ((b : Int) * (n : Int)) = ((a * m ||| b * n : Nat) : Int) := by
  have h := bits_or_i64 (a * m) (b * n) ha hb
  rwa [Int.natCast_mul, Int.natCast_mul] at h
theorem bits_or_mul2 (y b n : Nat) (ha : y < 2 ^ 62) (hb : b * n < 2 ^ 62) : bits .or .i64 (y : Int) ((b : Int) * (n : Int)) = ((y ||| b * n : Nat) : Int) := by
  have h := bits_or_i64 y (b * n) ha hb
  rwa [Int.natCast_mul] at h
theorem bits_or_mul3 (a b m : Nat) (ha : a * m < 2 ^ 62) (hb : b < 2 ^ 62) : bits .or .i64 ((a : Int) * (m : Int)) (b : Int) = ((a * m ||| b : Nat) : Int) := by
  have h := bits_or_i64 (a * m) b ha hb
  rwa [Int.natCast_mul] at h
theorem blobRead_ok {w : World} {br : Nat} {R : RoomS} (h : RoomAt w br R) (p : Nat) (hp : p < R.pages) (h1 : R.has p = true) (next : Nat) (c : ByteArray) (hn : next < 4294967296) (hc : c.size ≤ 506) (ht : R.text p = fullS (pageS next c)) :
    Calls Tryz.prog 180 #[.pointer (some ⟨br, 0, none⟩), .int .i64 p] w fun e w' => e = .returned (.tuple #[.int .i64 next, .string c, .int .i64 0]) ∧ Below w.heap.size w w' := by
  have H1 := Hd (read_ok h p hp h1)
  rw [ht] at H1
  have hz : (fullS (pageS next c)).size = 512 := fullS_size _ (by rw [pageS_size]; omega)
  obtain ⟨b0, b1, b2, b3, b4, b5⟩ := page_heads next c
  have hpp := page_part next c hc
  generalize fullS (pageS next c) = t at *
  have g0 : 0 < t.size := by omega
  have g1 : 1 < t.size := by omega
  have g2 : 2 < t.size := by omega
  have g3 : 3 < t.size := by omega
  have g4 : 4 < t.size := by omega
  have g5 : 5 < t.size := by omega
  have x0 := byteN_get t 0 g0
  have x1 := byteN_get t 1 g1
  have x2 := byteN_get t 2 g2
  have x3 := byteN_get t 3 g3
  have x4 := byteN_get t 4 g4
  have x5 := byteN_get t 5 g5
  rw [b0] at x0
  rw [b1] at x1
  rw [b2] at x2
  rw [b3] at x3
  rw [b4] at x4
  rw [b5] at x5
  have r4 := or4 next hn
  have r2 := or2 c.size (by omega)
  have k0 : next / 16777216 % 256 < 256 := Nat.mod_lt _ (by decide)
  have k1 : next / 65536 % 256 < 256 := Nat.mod_lt _ (by decide)
  have k2 : next / 256 % 256 < 256 := Nat.mod_lt _ (by decide)
  have k3 : next % 256 < 256 := Nat.mod_lt _ (by decide)
  have k4 : c.size / 256 % 256 < 256 := Nat.mod_lt _ (by decide)
  have k5 : c.size % 256 < 256 := Nat.mod_lt _ (by decide)
  generalize next / 16777216 % 256 = a0 at *
  generalize next / 65536 % 256 = a1 at *
  generalize next / 256 % 256 = a2 at *
  generalize next % 256 = a3 at *
  generalize c.size / 256 % 256 = a4 at *
  generalize c.size % 256 = a5 at *
  have o1 := bits_or_mul a0 a1 16777216 65536 (by omega) (by omega)
  have y1 : a0 * 16777216 ||| a1 * 65536 < 2 ^ 62 := Nat.or_lt_two_pow (by omega) (by omega)
  have o2 := bits_or_mul2 (a0 * 16777216 ||| a1 * 65536) a2 256 y1 (by omega)
  have y2 : a0 * 16777216 ||| a1 * 65536 ||| a2 * 256 < 2 ^ 62 := Nat.or_lt_two_pow y1 (by omega)
  have o3 := bits_or_i64 (a0 * 16777216 ||| a1 * 65536 ||| a2 * 256) a3 y2 (by omega)
  rw [r4] at o3
  have o4 := bits_or_mul3 a4 a5 256 (by omega) (by omega)
  rw [r2] at o4
  clear y1 y2 r4 r2
  generalize a0 * 16777216 ||| a1 * 65536 = z1 at *
  generalize z1 ||| a2 * 256 = z2 at *
  have w6 : IntKind.i64.wrap (6 + (c.size : Int)) = 6 + (c.size : Int) := wrapI (by omega) (by omega)
  have e6 : (6 + (c.size : Int)).toNat = 6 + c.size := by omega
  have n6 : (0 : Int) ≤ 6 + (c.size : Int) := by omega
  have m6 : (6 : Int) ≤ 6 + (c.size : Int) := by omega
  have l6 : (6 + (c.size : Int)) ≤ 512 := by omega
  have c6 : decide ((506 : Int) < (c.size : Int)) = false := by simp; omega
  have O1 : bits .or .i64 ((a0 : Int) * 16777216) ((a1 : Int) * 65536) = (z1 : Int) := o1
  have O2 : bits .or .i64 (z1 : Int) ((a2 : Int) * 256) = (z2 : Int) := o2
  have O4 : bits .or .i64 ((a4 : Int) * 256) (a5 : Int) = (c.size : Int) := o4
  have HPP := Hd hpp
  clear b0 b1 b2 b3 b4 b5 ht hpp h1 o1 o2 o4 h
  go_enter Tryz.func180, Tryz.ntmps180
  go_wp2_with (go_at_call 204; refine (H1.out).mono ?_; rintro e w1 ⟨rfl, hb⟩)
  go_quiet (fail)
  go_wp2
  go_quiet (fail)
  go_wp2
  go_quiet (fail)
  rw [HPP.out]
  go_wp2
  go_ret3
  exact ⟨rfl, hb.trans ⟨rfl, rfl, rfl, Nat.le_refl _, fun _ _ => rfl⟩⟩
end Go.Proofs.YtaokjeokpifjgaaGreatDoor

namespace Go.Proofs.YtaokjeokpifjgaaGreatDoor
open Go.RowKit Go.MapKept
attribute [local go_sem] gives givesH
set_option maxRecDepth 100000

theorem RoomStep.foreign {br : Nat} {w w1 w2 : World} {R R1 : RoomS} (h : RoomStep br w R w1 R1) {S : Nat → Prop} (hk : Keep S w1 w2) (hS : ∀ k, S k → w.heap.size ≤ k ∧ ¬ R1.foot br k) : RoomStep br w R w2 R1 := by
  refine ⟨h.at_.keep hk (fun k hf hs => (hS k hs).2 hf), h.bt, h.maps, h.pages, ?_⟩
  have h1 := h.tx
  refine ⟨(h.at_.keep hk (fun k hf hs => (hS k hs).2 hf)).tx |> fun x => by rw [← h.bt]; exact x, h1.bl, h1.n, h1.f, h1.Fl, h1.keep.trans hk (fun i hi hs => by have := (hS i hs).1; omega), h1.own⟩
theorem RoomStep.apart_ {br : Nat} {w w' : World} {R R' : RoomS} (h : RoomStep br w R w' R') {k : Nat} (hk : k < w.heap.size) (hn : ¬ R.foot br k) : ¬ R'.foot br k := by
  intro hf
  rcases hf with hf | hf
  · exact hn (.inl hf)
  · rw [h.bt] at hf
    rcases h.tx.foot hf with e | e
    · exact hn (.inr e)
    · omega
theorem RoomStep.keep {br : Nat} {w w' : World} {R R' : RoomS} (h : RoomStep br w R w' R') : Keep (R.foot br) w w' := h.tx.keep.mono (fun _ _ e => .inr (TxS.own_foot e))
theorem room_foot_lt {w : World} {br : Nat} {R : RoomS} (h : RoomAt w br R) {k : Nat} (hk : R.foot br k) : k < w.heap.size := by
  rcases hk with rfl | hk
  · exact (Gl h.cells)
  · exact h.tx.foot_lt hk
theorem RoomStep.size {br : Nat} {w w' : World} {R R' : RoomS} (h : RoomStep br w R w' R') : w.heap.size ≤ w'.heap.size := h.tx.keep.size

structure Took (R R' : RoomS) (ps : List Nat) : Prop where
  nodup : ps.Nodup
  new : ∀ p ∈ ps, p < R.pages ∧ R.has p = false
  has : ∀ q, q < R.maps * 4096 → R'.has q = (decide (q ∈ ps) || R.has q)
  text : ∀ q, q < R.pages → q ∉ ps → R'.text q = R.text q
  zero : R'.home 0 = R.home 0
theorem Took.nil (R : RoomS) : Took R R [] := ⟨List.nodup_nil, fun p hp => (by cases hp), fun q _ => by simp, fun q _ _ => rfl, rfl⟩
theorem RoomAt.pages_le {w : World} {br : Nat} {R : RoomS} (h : RoomAt w br R) : R.pages ≤ R.maps * 4096 := by have := h.fit.1; omega
theorem Took.alloc {R R1 R2 : RoomS} {ps : List Nat} {p : Nat} (h : Took R R1 ps) (hm : R1.maps = R.maps) (hg : R1.pages = R.pages) (hle : R.pages ≤ R.maps * 4096) (hp : p < R.pages) (h0 : R1.has p = false) (ha : Alloced R1 R2 p) : Took R R2 (ps ++ [p]) := by
  have h1 := h.has p (by omega)
  rw [h0] at h1
  have hnp : p ∉ ps := fun e => by rw [decide_eq_true e] at h1; cases h1
  have hp0 : R.has p = false := by
    rw [decide_eq_false hnp, Bool.false_or] at h1
    exact h1.symm
  refine ⟨?_, fun q hq => ?_, fun q hq => ?_, fun q hq hn => ?_, ha.zero.trans h.zero⟩
  · refine List.nodup_append.2 ⟨h.nodup, by simp, fun x hx y hy e => ?_⟩
    have hyp : y = p := by simpa using hy
    exact hnp (by rw [← hyp, ← e]; exact hx)
  · rcases List.mem_append.1 hq with hq | hq
    · exact h.new q hq
    · obtain rfl : q = p := by simpa using hq
      exact ⟨hp, hp0⟩
  · rw [ha.has q (by rw [hm]; exact hq), h.has q hq]
    by_cases e : q = p <;> simp [e, List.mem_append]
  · rw [ha.text q (by omega), if_neg (fun e => hn (by simp [e])), h.text q hq (fun e => hn (List.mem_append_left _ e))]
theorem Took.wrote {R R1 R2 : RoomS} {ps : List Nat} {p : Nat} {s : ByteArray} (h : Took R R1 ps) (hm : R1.maps = R.maps) (hg : R1.pages = R.pages) (hp : p ∈ ps) (ha : Wrote R1 R2 p s) : Took R R2 ps := by
  refine ⟨h.nodup, h.new, fun q hq => ?_, fun q hq hn => ?_, ha.zero.trans h.zero⟩
  · rw [ha.has q (by rw [hm]; exact hq), h.has q hq]
  · rw [ha.text q (by omega), if_neg (show ¬ q = p from fun e => hn (e ▸ hp)), h.text q hq hn]
theorem Took.count {R R1 : RoomS} {ps : List Nat} (h : Took R R1 ps) (hle : R.pages ≤ R.maps * 4096) : cnt R1.has R.pages = cnt R.has R.pages + ps.length := by
  rw [← cnt_mem ps R.has R.pages h.nodup (fun p hp => (h.new p hp).1) (fun p hp => (h.new p hp).2)]
  exact cnt_congr (fun q hq => h.has q (by omega))
theorem cnt_all (f : Nat → Bool) (n : Nat) (h : ∀ q, q < n → f q = true) : cnt f n = n := by
  induction n with
  | zero => rfl
  | succ n ih => rw [cnt_succ, ih (fun q hq => h q (by omega)), h n (by omega)]; rfl
theorem least_free {f : Nat → Bool} {n : Nat} (h : ¬ ∀ q, q < n → f q = true) : ∃ p, p < n ∧ f p = false ∧ ∀ q, q < p → f q = true := by
  have hex : ∃ q, q < n ∧ f q = false := by
    refine Classical.byContradiction (fun hno => h (fun q hq => ?_))
    cases hc : f q with
    | true => rfl
    | false => exact absurd ⟨q, hq, hc⟩ hno
  obtain ⟨q, hq, hq0⟩ := hex
  induction q using Nat.strongRecOn with
  | _ q ih =>
    by_cases hb : ∃ i, i < q ∧ f i = false
    · obtain ⟨i, hi, hi0⟩ := hb
      exact ih i hi (by omega) hi0
    · refine ⟨q, hq, hq0, fun i hi => ?_⟩
      cases hc : f i with
      | true => rfl
      | false => exact absurd ⟨i, hi, hc⟩ hb
theorem Took.snoc {br : Nat} {w w2 w3 : World} {R R2 : RoomS} {v v' : Value} {n : Nat} {xs : List Value} {o : Obj} (hst : RoomStep br w R w2 R2) (hrow : w2.ownsRow w.heap.size 3 1 v n xs) (hap : ∀ g, v.ownBlock = some g → ¬ R2.foot br g)
    (hg : (w2.alloc o).grownBy w3 v.ownBlock) (hloc : v'.ownBlock = v.ownBlock ∨ v'.ownBlock = some (w2.alloc o).heap.size) : RoomStep br w R w3 R2 ∧ ∀ g, v'.ownBlock = some g → ¬ R2.foot br g := by
  have hk : Keep (fun k => v.ownBlock = some k) w2 w3 := ((Keep.refl _ w2).alloc o).grown hg (fun k _ e => e)
  refine ⟨hst.foreign hk (fun k e => ⟨(hrow.lt k e).1, hap k e⟩), fun g hgv => ?_⟩
  rcases hloc with e | e
  · exact hap g (e ▸ hgv)
  · rw [e] at hgv
    have hgg : (w2.alloc o).heap.size = g := Option.some.inj hgv
    intro hf
    have := room_foot_lt hst.at_ hf
    rw [World.size_alloc] at hgg
    omega
def numV (ps : List Nat) : List Value := ps.map (fun k => Value.int .i64 (k : Nat))
def Taking (br : Nat) (w : World) (R : RoomS) (v : Value) (ps : List Nat) (c : Nat) (wr : World) : Prop :=
  ∃ R1, RoomStep br w R wr R1 ∧ Took R R1 ps ∧ wr.ownsRow w.heap.size 3 1 v ps.length (numV ps) ∧ (∀ g, v.ownBlock = some g → ¬ R1.foot br g) ∧ ∃ a, R1.T.puts = R.T.puts ++ a ∧ a.length ≤ c
theorem write_fit {w : World} {br : Nat} {R : RoomS} (h : RoomAt w br R) (hlen : R.T.puts.length < 1000000000000) (p : Nat) (hp : p < R.pages) (h1 : R.has p = true) (s : ByteArray) (hs : s.size ≤ 512) :
    Calls Tryz.prog 173 #[.pointer (some ⟨br, 0, none⟩), .int .i64 p, .string s] w fun e w' => e = .returned (.int .i64 0) ∧ ∃ R', RoomStep br w R w' R' ∧ Wrote R R' p (fullS s) :=
  (write_ok h hlen p hp h1 s (by omega)).mono fun _ _ ⟨he, R', hst, ha⟩ => by
    rw [if_neg (by omega)] at he
    exact ⟨he, R', hst, ha.elim (fun h => by omega) (fun h => h.2)⟩
theorem Wrote.texts {R R1 R2 : RoomS} {ps : List Nat} {k : Nat} {s t : ByteArray} (ht : Took R R1 ps) (hg : R1.pages = R.pages) (hk : k < ps.length) (hw : Wrote R1 R2 (ps.getD k 0) t) (h0 : t = fullS (pageS (nextOf ps k) (chunkB s k)))
    (h1 : ∀ j, j < k → R1.text (ps.getD j 0) = fullS (pageS (nextOf ps j) (chunkB s j))) : ∀ j, j < k + 1 → R2.text (ps.getD j 0) = fullS (pageS (nextOf ps j) (chunkB s j)) := by
  intro j hj
  have hjl : j < ps.length := by omega
  have hp := (ht.new _ (getD_memN hjl)).1
  rw [hw.text _ (by omega)]
  by_cases e : j = k
  · subst e; rw [if_pos rfl, h0]
  · rw [if_neg (fun e2 => e (getD_inj ht.nodup hjl hk e2))]
    exact h1 j (by omega)
theorem Took.taken {R R1 : RoomS} {ps : List Nat} (h : Took R R1 ps) (hle : R.pages ≤ R.maps * 4096) {p : Nat} (hp : p ∈ ps) : R1.has p = true := by
  rw [h.has p (by have := (h.new p hp).1; omega), decide_eq_true hp]; rfl
def Filling (br : Nat) (w : World) (R : RoomS) (v : Value) (ps : List Nat) (n : Nat) (s : ByteArray) (k : Nat) (wr : World) : Prop :=
  ∃ R1, RoomStep br w R wr R1 ∧ Took R R1 ps ∧ wr.ownsRow w.heap.size 3 1 v n (numV ps) ∧ (∀ g, v.ownBlock = some g → ¬ R1.foot br g) ∧
    (∀ j, j < k → R1.text (ps.getD j 0) = fullS (pageS (nextOf ps j) (chunkB s j))) ∧ ∃ a, R1.T.puts = R.T.puts ++ a ∧ a.length ≤ 2 * n + k
theorem numV_at (ps : List Nat) (j : Nat) (h : j < ps.length) : (numV ps)[j]? = some (.int .i64 (ps.getD j 0 : Nat)) := by
  unfold numV
  rw [List.getElem?_map, List.getElem?_eq_getElem h, List.getD_eq_getElem?_getD, List.getElem?_eq_getElem h]
  rfl
def PutPost (br : Nat) (w : World) (R : RoomS) (s : ByteArray) (e : Ending) (w' : World) : Prop :=
  (∃ R' ps, e = .returned (.tuple #[.int .i64 (ps.getD 0 0 : Nat), .int .i64 0]) ∧ RoomStep br w R w' R' ∧ Took R R' ps ∧ BlobIn R' s ps ∧ ∃ a, R'.T.puts = R.T.puts ++ a ∧ a.length ≤ 3 * pagesB s.size) ∨
  (∃ R', e = .returned (.tuple #[.int .i64 0, .int .i64 4]) ∧ RoomStep br w R w' R' ∧ R.pages < cnt R.has R.pages + pagesB s.size ∧ ∃ a, R'.T.puts = R.T.puts ++ a ∧ a.length ≤ 3 * pagesB s.size)

set_option maxHeartbeats 4000000 in
theorem bput_any {w : World} {br : Nat} {R : RoomS} (h : RoomAt w br R) (hlen : R.T.puts.length < 100000000000) (s : ByteArray) (hs : s.size ≤ 131072) :
    Calls Tryz.prog 104 #[.pointer (some ⟨br, 0, none⟩), .string s] w (PutPost br w R s) := by
  have HPg := Hd (fun w => blobPages_any s.size (by omega) w)
  have hn := pagesB_le s.size hs
  obtain ⟨n, hnn⟩ : ∃ n, pagesB s.size = n := ⟨_, rfl⟩
  rw [hnn] at HPg hn
  have HN := Hd hnn
  have HR := Hd h
  have hple := h.pages_le
  obtain ⟨i0, hi0, hz0, hz1, hz2⟩ := info_parts infoInt
  have HI := Hd hi0
  have Hz0 := Hd hz0
  have Hz1 := Hd hz1
  have Hz2 := Hd hz2
  clear h hnn hi0 hz0 hz1 hz2
  go_enter Tryz.func104, Tryz.ntmps104
  go_wp2_with (first
    | (go_at_call 171; refine (HPg.out _).mono ?_; rintro e w1 ⟨rfl, rfl⟩))
  go_loopw [6, 7, 8, 17] (fun v _ _ i wr => ∃ ps : List Nat, ps.length ≤ n ∧ i = .int .i64 ps.length ∧ Taking br w R v ps (2 * ps.length) wr) (fun _ _ _ i _ => n - (intOf i).toNat)
  case atStart => exact ⟨[], by simp, rfl, R, RoomStep.refl HR.out, Took.nil R, World.ownsRow_nil _ _ _ _, fun g hg => (by cases hg), [], by simp, by simp⟩
  case round =>
    obtain ⟨ps, hpl, rfl, R1, hst, htook, hrow, hap, a, ha, hal⟩ := hrel
    by_cases hlt : ps.length < n
    · have g1 : decide ((ps.length : Int) < (n : Int)) = true := by simp; omega
      have hA := hst.at_
      have hcount := htook.count hple
      have hm1 := hst.maps
      have hg1 := hst.pages
      by_cases hall : ∀ q, q < R1.pages → R1.has q = true
      · have HF := Hd (alloc_full hA hall)
        have hc := cnt_all R1.has R1.pages hall
        rw [hg1] at hc
        have HST := Hd hst
        have HC : R.pages < cnt R.has R.pages + n := by omega
        have HCC := Hd HC
        have HAl := Hd ha
        clear hall hc hcount hA hst htook hrow hap ha HC hm1 hg1
        go_wp2_with (go_at_call 172; refine (HF.out).mono ?_; rintro e w2 ⟨rfl, hb2⟩)
        go_ret2
        refine .inr ⟨R1, rfl, HST.out.trans (RoomStep.still HST.out.at_ hb2), by rw [HN.out]; exact HCC.out, a, HAl.out, ?_⟩
        rw [HN.out]; omega
      · obtain ⟨p, hp, hp0, hp1⟩ := least_free hall
        have HF := Hd (alloc_ok hA (by rw [ha, List.length_append]; omega) p hp hp0 hp1)
        have HST := Hd hst
        have HTo := Hd htook
        have HRow := Hd hrow
        have HAp := Hd hap
        have HAl := Hd ha
        have HP0 := Hd hp0
        have HM1 := Hd hm1
        have HG1 := Hd hg1
        clear hall hp0 hp1 hcount hA hst htook hrow hap ha hm1 hg1
        go_wp2_with (first
          | (go_at_call 172; refine (HF.out).mono ?_; rintro e w2 ⟨rfl, R2, hst2, hall2⟩
             have hst3 := HST.out.trans hst2
             have hrow2 := hst2.keep.ownsRow HRow.out HAp.out
             have hap2 : ∀ g, u6.ownBlock = some g → ¬ R2.foot br g := fun g hg => hst2.apart_ (HRow.out.lt g hg).2 (HAp.out g hg)
             have HST3 := Hd hst3
             have HRow2 := Hd hrow2
             have HAp2 := Hd hap2
             have HAll2 := Hd hall2
             clear hst2 hall2 hst3 hrow2 hap2)
          | (at_builtin
             refine wpList_append_own_at _ (by rfl) _ _ 68 (by rfl) w.heap.size 3 i0 (.int .i64 0) 1 8 Tryz.underlying68 HI.out Hz0.out Hz1.out Hz2.out (by rfl) (by decide) u6 _ _ (by rfl) (HRow2.out.alloc _) ⟨w2.heap.size, 0, none⟩ 1 1 [.int .i64 (p : Nat)] (by rfl) (by rfl) (cell_one_new _ _ _) (ints_oneCell .i64 [(p : Int)]) (by unfold maxLen; omega) (by omega) ?_ ?_
             · have := HST3.out.size; simp; omega
             intro v' w3 hown3 hg3 hnil hloc
             have hk := Took.snoc HST3.out HRow2.out HAp2.out hg3 hloc
             have HK := Hd hk
             have HO3 := Hd hown3
             clear hown3 hg3 hnil hloc hk))
        go_roundw
        case rel =>
          have e1 : (ps ++ [p]).length = ps.length + 1 := by simp
          refine ⟨ps ++ [p], by omega, by rw [e1]; go_num, R2, HK.out.1, HTo.out.alloc HM1.out HG1.out hple (by have := HG1.out; omega) HP0.out HAll2.out, ?_, HK.out.2, ?_⟩
          · have := HO3.out
            rw [e1]
            unfold numV at this ⊢
            rw [List.map_append]
            exact this
          · obtain ⟨x, hx1, hx2⟩ := HAll2.out.puts
            refine ⟨a ++ x, by rw [hx1, HAl.out, List.append_assoc], ?_⟩
            rw [List.length_append, e1]
            omega
        case measure => simp [intOf]; omega
    · have hpn : ps.length = n := by omega
      have g1 : decide (ps.length < n) = false := by simp; omega
      have hn1 : 1 ≤ n := by rw [← HN.out]; exact pagesB_pos _
      have hsm := HR.out.tx.log.small
      have hfit := HR.out.fit
      rw [hpn] at hrow
      obtain ⟨gb, c, rfl, hc1, hc2, hgB⟩ := row_posB hrow (by omega)
      have hfill : Filling br w R (.slice (some ⟨gb, 0, none⟩) n c) ps n s 0 wr := ⟨R1, hst, htook, hrow, hap, fun j hj => by omega, a, ha, by omega⟩
      have HFill := Hd hfill
      have HPN := Hd hpn
      have hcov := pagesB_covers s.size
      have hleast := pagesB_least s.size
      rw [HN.out] at hcov hleast
      have HLeast := Hd hleast
      have hpg : R.pages ≤ 65536 := by omega
      clear hst htook hrow hap ha hal hpl hfill hpn hleast hfit hsm
      have hn0 : (0 : Int) < (n : Int) := by omega
      unfold maxLen at hc2
      have HRest := Hd (restB_zero s)
      go_wp2
      go_loopw [1, 34] (fun sv i wr2 => ∃ k : Nat, k ≤ n ∧ i = .int .i64 k ∧ sv = .string (restB s k) ∧ Filling br w R (.slice (some ⟨gb, 0, none⟩) n c) ps n s k wr2) (fun _ i _ => n - (intOf i).toNat)
      case atStart => exact ⟨0, by omega, rfl, by rw [HRest.out], HFill.out⟩
      case round =>
        obtain ⟨k, hk, rfl, rfl, R1, hst, htook, hrow, hap, htext, a, ha, hal⟩ := hrel
        by_cases hlt : k < n
        · have g2 : decide ((k : Int) < (n : Int)) = true := by simp; omega
          have hkl : k < ps.length := by rw [HPN.out]; exact hlt
          have q1 := row_cells hrow k _ (numV_at ps k hkl)
          have hpk := htook.new _ (getD_memN hkl)
          have hmem := getD_memN hkl
          have hk6 : 506 * k ≤ s.size := by
            by_cases h0 : k = 0
            · omega
            · have := HLeast.out (k - 1) (by omega); omega
          obtain ⟨nx, hnx, hnx2⟩ : ∃ nx, nextOf ps k = nx ∧ ((k + 1 < n ∧ ∃ np, nx = np + 1 ∧ np ≤ 65536 ∧ wr.cell? ⟨gb, k + 1, none⟩ = some (.int .i64 np)) ∨ (¬ k + 1 < n ∧ nx = 0)) := by
            refine ⟨_, rfl, ?_⟩
            unfold nextOf
            rw [HPN.out]
            by_cases h1 : k + 1 < n
            · rw [if_pos h1]
              have h2 : k + 1 < ps.length := by rw [HPN.out]; exact h1
              have h3 := (htook.new _ (getD_memN h2)).1
              exact .inl ⟨h1, _, rfl, by omega, row_cells hrow (k + 1) _ (numV_at ps (k + 1) h2)⟩
            · rw [if_neg h1]
              exact .inr ⟨h1, rfl⟩
          have hpg1 := hst.pages
          have hR1 := hst.at_
          have hlen1 : R1.T.puts.length < 1000000000000 := by rw [ha, List.length_append]; omega
          have htk := htook.taken hple hmem
          have hck := chunkB_size s k
          have htz := restB_size s k
          obtain ⟨m, hm⟩ : ∃ m, m = min 506 (s.size - 506 * k) := ⟨_, rfl⟩
          have he1 := restB_take s k m hk6 hm
          have he2 := restB_drop s k m hm
          have hnx3 : nx < 4294967296 := by
            rcases hnx2 with ⟨_, np, h1, h2, _⟩ | ⟨_, h1⟩ <;> omega
          have HPage := Hd (fun u => page_any nx hnx3 (chunkB s k) (by omega) u)
          have HWr := Hd (fun u (hu : RoomAt u br R1) => write_fit hu hlen1 (ps.getD k 0) (by rw [hpg1]; exact hpk.1) htk (pageS nx (chunkB s k)) (by rw [pageS_size]; omega))
          have HTexts := Hd (fun R2 (hw : Wrote R1 R2 (ps.getD k 0) (fullS (pageS nx (chunkB s k)))) => hw.texts htook hpg1 hkl (by rw [hnx]) htext)
          have hmt : m ≤ (restB s k).size := by omega
          have hmI : (m : Int) ≤ ((restB s k).size : Nat) := by omega
          have hmin : min (((restB s k).size : Nat) : Int) 506 = (m : Int) := by omega
          have HST := Hd hst
          have HTo := Hd htook
          have HRow := Hd hrow
          have HAp := Hd hap
          have HAl := Hd ha
          have HMem := Hd hmem
          have HG1 := Hd hpg1
          have HM1 := Hd hst.maps
          have HR1 := Hd hR1
          have HTZ := Hd htz
          have htzb : (restB s k).size ≤ 9223372036854775807 := by omega
          generalize ps.getD k 0 = pk at *
          generalize chunkB s k = ck at *
          generalize restB s k = t at *
          generalize ht1 : restB s (k + 1) = t1 at *
          have HT1 := Hd ht1
          clear ht1
          have hk0 : (0 : Int) ≤ (k : Int) := by omega
          have hk1 : (k : Int) < (n : Int) := by omega
          have hk2 : (k : Int) < (c : Int) := by omega
          have hkb : (k : Int) ≤ 1000 := by omega
          clear hst htook hrow hap htext ha hpk hmem hpg1 hR1 hlen1 htk hck htz hm hk6 hnx hnx3
          rcases hnx2 with ⟨hk3, np, rfl, hnp, q2⟩ | ⟨hk3, rfl⟩
          · have g3 : decide ((k : Int) + 1 < (n : Int)) = true := by simp; omega
            have e3 : (k : Int) + 1 = ((k + 1 : Nat) : Int) := by omega
            have e4 : ((k : Int) + 1).toNat = k + 1 := by omega
            have hk4 : (k : Int) + 1 < (n : Int) := by omega
            have hk5 : (0 : Int) ≤ (k : Int) + 1 := by omega
            have hnpi : (np : Int) ≤ 65536 := by omega
            clear e3
            go_wp2_with (first
              | (go_at_call 174; refine (HPage.out _).mono ?_; rintro e w4 ⟨rfl, hb4⟩)
              | (go_at_call 173; refine (HWr.out _ (HR1.out.still hb4)).mono ?_; rintro e w5 ⟨rfl, R2, hst2, hw2⟩))
            have hst5 := (RoomStep.still HR1.out hb4).trans hst2
            refine ⟨⟨k + 1, by omega, by go_num, by rw [HT1.out], R2, HST.out.trans hst5, HTo.out.wrote HM1.out HG1.out HMem.out hw2, hst5.keep.ownsRow HRow.out HAp.out, fun g hg => hst5.apart_ (HRow.out.lt g hg).2 (HAp.out g hg), HTexts.out R2 hw2, ?_⟩, by simp only [intOf]; omega⟩
            obtain ⟨x, hx1, hx2⟩ := hw2.puts
            exact ⟨a ++ x, by rw [hx1, HAl.out, List.append_assoc], by rw [List.length_append]; omega⟩
          · have g3 : decide ((k : Int) + 1 < (n : Int)) = false := by simp; omega
            go_wp2_with (first
              | (go_at_call 174; refine (HPage.out _).mono ?_; rintro e w4 ⟨rfl, hb4⟩)
              | (go_at_call 173; refine (HWr.out _ (HR1.out.still hb4)).mono ?_; rintro e w5 ⟨rfl, R2, hst2, hw2⟩))
            have hst5 := (RoomStep.still HR1.out hb4).trans hst2
            refine ⟨⟨k + 1, by omega, by go_num, by rw [HT1.out], R2, HST.out.trans hst5, HTo.out.wrote HM1.out HG1.out HMem.out hw2, hst5.keep.ownsRow HRow.out HAp.out, fun g hg => hst5.apart_ (HRow.out.lt g hg).2 (HAp.out g hg), HTexts.out R2 hw2, ?_⟩, by simp only [intOf]; omega⟩
            obtain ⟨x, hx1, hx2⟩ := hw2.puts
            exact ⟨a ++ x, by rw [hx1, HAl.out, List.append_assoc], by rw [List.length_append]; omega⟩
        · obtain rfl : k = n := by omega
          have hl0 : 0 < ps.length := by rw [HPN.out]; omega
          have q1 := row_cells hrow 0 _ (numV_at ps 0 hl0)
          have g2 : decide ((k : Int) < (k : Int)) = false := by simp
          have hb : BlobIn R1 s ps := ⟨by rw [HPN.out, HN.out], htook.nodup, fun p hp => ⟨by rw [hst.pages]; exact (htook.new p hp).1, htook.taken hple hp⟩, fun i hi => htext i (by rw [← HPN.out]; exact hi)⟩
          have HB := Hd hb
          have HST := Hd hst
          have HTo := Hd htook
          have HAl := Hd ha
          have hkb : (k : Int) ≤ 1000 := by omega
          clear hst htook hrow hap htext ha hb hl0
          generalize hpk : ps.getD 0 0 = pk at *
          have HPK := Hd hpk
          clear hpk
          go_wp2
          go_ret2
          refine .inl ⟨R1, ps, by rw [HPK.out]; rfl, HST.out, HTo.out, HB.out, a, HAl.out, ?_⟩
          rw [HN.out]; omega
end Go.Proofs.YtaokjeokpifjgaaGreatDoor

namespace Go.Proofs.YtaokjeokpifjgaaGreatDoor
open Go.RowKit Go.MapKept
set_option maxRecDepth 100000

def eS : ByteArray := ⟨#[]⟩
def hbnK : ByteArray := ⟨#[104, 98, 110]⟩
def brK : ByteArray := ⟨#[98, 114]⟩
def nK : ByteArray := ⟨#[110]⟩
def chunkV (p n c : Nat) : ByteArray := packed hbnK [(p, eS), (n, eS), (c, eS)]
def entryV (s : Nat) (id : ByteArray) : ByteArray := packed brK [(s, eS), (0, id)]
def keyV (n : Nat) : ByteArray := packed nK [(n, eS)]
theorem fields_hbn {p n c : Nat} (hp : p < 4294967296) (hn : n < 256) (hc : c < 18446744073709551616) : Fields hbnK [(p, eS), (n, eS), (c, eS)] := by
  refine ⟨rfl, by show 3 ≤ 64; decide, fun i hi => ?_, fun i hi => ?_⟩
  · match i, hi with
    | 0, _ => exact .inl ⟨by decide, rfl, hp⟩
    | 1, _ => exact .inl ⟨by decide, rfl, hn⟩
    | 2, _ => exact .inl ⟨by decide, rfl, hc⟩
  · match i, hi with
    | 0, _ => intro e; exact absurd e (by decide)
    | 1, _ => intro e; exact absurd e (by decide)
    | 2, _ => intro e; exact absurd e (by decide)
theorem fields_br {s : Nat} {id : ByteArray} (hs : s < 256) (hi : id.size ≤ 1000000) : Fields brK [(s, eS), (0, id)] := by
  refine ⟨rfl, by show 2 ≤ 64; decide, fun i hi => ?_, fun i hi => ?_⟩
  · match i, hi with
    | 0, _ => exact .inl ⟨by decide, rfl, hs⟩
    | 1, _ => exact .inr (.inr ⟨by decide, rfl, by assumption⟩)
  · match i, hi with
    | 0, _ => intro e; exact absurd e (by decide)
    | 1, _ => intro _; rfl
theorem fields_n {n : Nat} (hn : n < 18446744073709551616) : Fields nK [(n, eS)] := by
  refine ⟨rfl, by show 1 ≤ 64; decide, fun i hi => ?_, fun i hi => ?_⟩
  · match i, hi with
    | 0, _ => exact .inl ⟨by decide, rfl, hn⟩
  · match i, hi with
    | 0, _ => intro e; exact absurd e (by decide)
theorem chunkV_size (p n c : Nat) : (chunkV p n c).size = 13 := by
  show (packN hbnK _ 3).toArray.size = 13
  rw [List.size_toArray, packN_succ, packN_succ, packN_succ, packN_zero, List.nil_append, List.length_append, List.length_append]
  show (beW 4 p 4).length + (beW 1 n 1).length + (beW 8 c 8).length = 13
  rw [beW_length, beW_length, beW_length]
theorem entryV_size (s : Nat) (id : ByteArray) : (entryV s id).size = 1 + id.size := by
  show (packN brK _ 2).toArray.size = _
  rw [List.size_toArray, packN_succ, packN_succ, packN_zero, List.nil_append, List.length_append]
  show (beW 1 s 1).length + id.data.toList.length = _
  rw [beW_length]
  simp
theorem keyV_size (n : Nat) : (keyV n).size = 8 := by
  show (packN nK _ 1).toArray.size = _
  rw [List.size_toArray, packN_succ, packN_zero, List.nil_append]
  show (beW 8 n 8).length = _
  rw [beW_length]

structure Kept (R R' : RoomS) (ps : List Nat) : Prop where
  has : ∀ q ∈ ps, q < R.pages → R.has q = true → R'.has q = true
  text : ∀ q ∈ ps, q < R.pages → R'.text q = R.text q
  pages : R'.pages = R.pages
theorem Kept.sub {R R' : RoomS} {ps qs : List Nat} (h : Kept R R' ps) (hq : ∀ q ∈ qs, q ∈ ps) : Kept R R' qs := ⟨fun q hm => h.has q (hq q hm), fun q hm => h.text q (hq q hm), h.pages⟩
theorem TreeIs.kept {R R' : RoomS} {pl : Nat} {kv : KV} {ps : List Nat} (h : TreeIs R pl kv ps) (hk : Kept R R' ps) (hr : R'.root pl = R.root pl) : TreeIs R' pl kv ps := by
  rcases h with ⟨h1, h2, h3⟩ | ⟨h, p, h1, h2⟩
  · exact .inl ⟨hr.trans h1, h2, h3⟩
  · exact .inr ⟨h, p, hr.trans h1, h2.mono (fun q hq x hx => hx.of hk.pages (hk.has q hq hx.1 hx.2.1) (hk.text q hq hx.1))⟩
theorem TreeIs.has {R : RoomS} {pl : Nat} {kv : KV} {ps : List Nat} (h : TreeIs R pl kv ps) : ∀ q ∈ ps, q < R.pages ∧ R.has q = true := by
  rcases h with ⟨_, _, h3⟩ | ⟨h, p, h1, h2⟩
  · intro q hq; rw [h3] at hq; cases hq
  · exact h2.page_has
theorem TreeIs.count {R : RoomS} {pl : Nat} {kv : KV} {ps : List Nat} (h : TreeIs R pl kv ps) : ps.length ≤ 2 * kv.length := by
  rcases h with ⟨_, h2, h3⟩ | ⟨h, p, h1, h2⟩
  · rw [h3]; exact Nat.zero_le _
  · have := h2.count; omega
theorem BlobIn.kept {R R' : RoomS} {t : ByteArray} {ps : List Nat} (h : BlobIn R t ps) (hk : Kept R R' ps) : BlobIn R' t ps :=
  h.congr hk.pages (fun p hp => by rw [hk.has p hp (h.pages p hp).1 (h.pages p hp).2, (h.pages p hp).2]) (fun p hp => hk.text p hp (h.pages p hp).1)
theorem TurnR.kept {R R' : RoomS} {pl : Nat} {ps new qs : List Nat} {m : Nat} (h : TurnR R R' pl ps new m) (hq : ∀ q ∈ qs, q ∉ ps ∧ R.has q = true) : Kept R R' qs :=
  ⟨fun q hm hp hh => by rw [h.has q hp, hh, Bool.or_true], fun q hm hp => h.text q hp (hq q hm).1 (fun e => by have := (h.free q e).2; rw [(hq q hm).2] at this; cases this), h.pages⟩
theorem Took.kept {R R' : RoomS} {ps qs : List Nat} (h : Took R R' ps) (hfit : R.pages ≤ R.maps * 4096) (hp : R'.pages = R.pages) (hq : ∀ q ∈ qs, R.has q = true) : Kept R R' qs :=
  ⟨fun q hm hp hh => by rw [h.has q (by omega), hh, Bool.or_true], fun q hm hp => h.text q hp (fun e => by have := (h.new q e).2; rw [hq q hm] at this; cases this), hp⟩
theorem Rooted.kept {R R' : RoomS} {k n : Nat} {qs : List Nat} (h : Rooted R R' k n) (hfit : R.pages ≤ R.maps * 4096) (hp : R'.pages = R.pages) : Kept R R' qs :=
  ⟨fun q hm hp hh => by rw [h.has q (by omega), hh], fun q hm hp => h.text q hp, hp⟩

abbrev Dict := ByteArray → Option ByteArray
def Dict.upd (D : Dict) (id t : ByteArray) : Dict := fun k => if k = id then some t else D k
structure Rest where
  kvM : KV
  psM : List Nat
  vb : List (ByteArray × List Nat)
  next : Nat
def Rest.vp (X : Rest) : List Nat := X.vb.flatMap Prod.snd
def Rest.pages (X : Rest) : List Nat := X.psM ++ X.vp
structure Out (R : RoomS) (X : Rest) : Prop where
  tm : TreeIs R 4 X.kvM X.psM
  bl : ∀ b ∈ X.vb, BlobIn R b.1 b.2
  nx : R.root 5 = X.next
theorem Out.kept {R R' : RoomS} {X : Rest} (h : Out R X) (hk : Kept R R' X.pages) (h4 : R'.root 4 = R.root 4) (h5 : R'.root 5 = R.root 5) : Out R' X :=
  ⟨h.tm.kept (hk.sub (fun _ hq => List.mem_append_left _ hq)) h4, fun b hb => (h.bl b hb).kept (hk.sub (fun _ hq => List.mem_append_right _ (List.mem_flatMap.2 ⟨b, hb, hq⟩))), h5.trans h.nx⟩
theorem Out.has {R : RoomS} {X : Rest} (h : Out R X) : ∀ q ∈ X.pages, q < R.pages ∧ R.has q = true := fun q hq => by
  rcases List.mem_append.1 hq with e | e
  · exact h.tm.has q e
  · obtain ⟨b, hb, e2⟩ := List.mem_flatMap.1 e
    exact (h.bl b hb).pages q e2
structure Cont (R : RoomS) (D : Dict) (kvI kvL : KV) (psI psL bp : List Nat) (X : Rest) : Prop where
  ti : TreeIs R 0 kvI psI
  tl : TreeIs R 1 kvL psL
  nd : (psI ++ (psL ++ bp)).Nodup
  all : ∀ q, q < R.pages → R.has q = true → q ∈ psI ++ (psL ++ bp)
  bh : ∀ q ∈ bp, q < R.pages ∧ R.has q = true
  here : ∀ id t, D id = some t → ∃ p, p ∈ bp ∧ look kvI id = some (chunkV p t.size 0) ∧ BlobIn R t [p] ∧ 1 ≤ t.size ∧ t.size ≤ 128 ∧ p ∉ X.pages
  gone : ∀ id, D id = none → look kvI id = none
  log : ∀ x ∈ kvL, ∃ s id, s < 2 ∧ id.size ≤ 60 ∧ x.2 = entryV s id
  out : Out R X
  xin : ∀ q ∈ X.pages, q ∈ bp
  xnd : X.pages.Nodup
structure Sized (R : RoomS) (kvI kvL : KV) (bp : List Nat) (X : Rest) (nz : Nat) : Prop where
  i : kvI.length ≤ nz
  l : kvL.length ≤ nz
  b : bp.length ≤ 4 * nz
  m : X.kvM.length ≤ nz
  pages : R.pages ≤ 65536
  puts : R.T.puts.length ≤ 1000 * nz
  root : R.root 2 ≤ nz
  bx : bp.length ≤ nz + X.pages.length
  v : X.vp.length ≤ nz
theorem ins_length (l : KV) (k v : ByteArray) : (ins l k v).length ≤ l.length + 1 := by
  induction l with
  | nil => exact Nat.le_refl _
  | cons x t ih =>
    obtain ⟨a, b⟩ := x
    simp only [ins]
    split
    · simp
    · split
      · simp
      · simp only [List.length_cons]; omega
section
variable {R R' : RoomS} {D : Dict} {kvI kvL : KV} {psI psL bp new ps' : List Nat} {X : Rest} {n m : Nat}
theorem Cont.len (h : Cont R D kvI kvL psI psL bp X) : (psI ++ (psL ++ bp)).length ≤ 2 * kvI.length + 2 * kvL.length + bp.length := by
  have h1 := h.ti.count
  have h2 := h.tl.count
  rw [List.length_append, List.length_append]
  omega
theorem Cont.taken (h : Cont R D kvI kvL psI psL bp X) : ∀ q ∈ psI ++ (psL ++ bp), q < R.pages ∧ R.has q = true := by
  intro q hq
  rcases List.mem_append.1 hq with e | e
  · exact h.ti.has q e
  · rcases List.mem_append.1 e with e | e
    · exact h.tl.has q e
    · exact h.bh q e
theorem Cont.blob (h : Cont R D kvI kvL psI psL bp X) {p : Nat} (hk : Took R R' [p]) (hfit : R.pages ≤ R.maps * 4096) (hp : R'.pages = R.pages) : Cont R' D kvI kvL psI psL (bp ++ [p]) X := by
  have ht := h.taken
  have hz : ∀ j, R'.root j = R.root j := zero_root hk.zero
  have hI : Kept R R' psI := hk.kept hfit hp (fun q hq => (ht q (List.mem_append_left _ hq)).2)
  have hL : Kept R R' psL := hk.kept hfit hp (fun q hq => (ht q (List.mem_append_right _ (List.mem_append_left _ hq))).2)
  have hB : Kept R R' bp := hk.kept hfit hp (fun q hq => (ht q (List.mem_append_right _ (List.mem_append_right _ hq))).2)
  have hnew := hk.new p (by simp)
  refine ⟨h.ti.kept hI (hz 0), h.tl.kept hL (hz 1), ?_, fun q hq hh => ?_, fun q hq => ?_, fun id t ht => ?_, h.gone, h.log, h.out.kept (hB.sub h.xin) (hz 4) (hz 5), fun q hq => List.mem_append_left _ (h.xin q hq), h.xnd⟩
  · rw [← List.append_assoc, ← List.append_assoc, List.append_assoc psI]
    refine List.nodup_append.2 ⟨h.nd, by simp, fun x hx y hy e => ?_⟩
    have hyp : y = p := by simpa using hy
    have := (ht x hx).2
    rw [e, hyp, hnew.2] at this
    cases this
  · rw [hp] at hq
    rw [hk.has q (by omega)] at hh
    rw [← List.append_assoc, ← List.append_assoc, List.append_assoc psI]
    by_cases e : q = p
    · exact List.mem_append_right _ (by simp [e])
    · refine List.mem_append_left _ (h.all q hq ?_)
      simpa [e] using hh
  · rw [hp]
    rcases List.mem_append.1 hq with e | e
    · exact ⟨(h.bh q e).1, hB.has q e (h.bh q e).1 (h.bh q e).2⟩
    · obtain rfl : q = p := by simpa using e
      refine ⟨hnew.1, ?_⟩
      rw [hk.has q (by have := hnew.1; omega)]
      simp
  · obtain ⟨p1, h1, h2, h3, h4⟩ := h.here id t ht
    exact ⟨p1, List.mem_append_left _ h1, h2, h3.kept (hB.sub (fun q hq => by rw [List.mem_singleton.1 hq]; exact h1)), h4⟩
theorem turn_nodup {a b ps' new : List Nat} (hnd : (a ++ b).Nodup) (hp : ps'.Perm (a ++ new)) (hn : new.Nodup) (hd : ∀ q ∈ new, q ∉ a ++ b) : (ps' ++ b).Nodup := by
  have h1 : (ps' ++ b).Perm ((a ++ b) ++ new) := (hp.append_right b).trans (by rw [List.append_assoc, List.append_assoc]; exact List.Perm.append_left a List.perm_append_comm)
  rw [h1.nodup_iff]
  exact List.nodup_append.2 ⟨hnd, hn, fun x hx y hy e => hd y hy (e ▸ hx)⟩
theorem Cont.index (h : Cont R D kvI kvL psI psL bp X) {id t : ByteArray} {p : Nat} (hp : p ∈ bp) (hb : BlobIn R t [p]) (h1 : 1 ≤ t.size) (h2 : t.size ≤ 128) (hpx : p ∉ X.pages)
    (ht : TurnR R R' 0 psI new m) (hT : TreeIs R' 0 (ins kvI id (chunkV p t.size 0)) ps') (hpm : ps'.Perm (psI ++ new)) : Cont R' (D.upd id t) (ins kvI id (chunkV p t.size 0)) kvL ps' psL bp X := by
  have htk := h.taken
  have hdj := List.nodup_append.1 h.nd
  have hL : Kept R R' psL := ht.kept (fun q hq => ⟨fun e => hdj.2.2 q e q (List.mem_append_left _ hq) rfl, (htk q (List.mem_append_right _ (List.mem_append_left _ hq))).2⟩)
  have hB : Kept R R' bp := ht.kept (fun q hq => ⟨fun e => hdj.2.2 q e q (List.mem_append_right _ hq) rfl, (htk q (List.mem_append_right _ (List.mem_append_right _ hq))).2⟩)
  have hnew : ∀ q ∈ new, q ∉ psI ++ (psL ++ bp) := fun q hq e => by have := (htk q e).2; rw [(ht.free q hq).2] at this; cases this
  refine ⟨hT, h.tl.kept hL (ht.root 1 (by decide)), turn_nodup h.nd hpm ht.nodup hnew, fun q hq hh => ?_, fun q hq => ?_, fun i s hi => ?_, fun i hi => ?_, h.log, h.out.kept (hB.sub h.xin) (ht.root 4 (by decide)) (ht.root 5 (by decide)), h.xin, h.xnd⟩
  · rw [ht.pages] at hq
    rw [ht.has q hq] at hh
    by_cases e : q ∈ new
    · exact List.mem_append_left _ (hpm.mem_iff.2 (List.mem_append_right _ e))
    · have := h.all q hq (by simpa [e] using hh)
      rcases List.mem_append.1 this with e1 | e1
      · exact List.mem_append_left _ (hpm.mem_iff.2 (List.mem_append_left _ e1))
      · exact List.mem_append_right _ e1
  · rw [ht.pages]
    exact ⟨(h.bh q hq).1, hB.has q hq (h.bh q hq).1 (h.bh q hq).2⟩
  · unfold Dict.upd at hi
    rw [look_ins]
    by_cases e : i = id
    · rw [if_pos e] at hi ⊢
      cases hi
      exact ⟨p, hp, rfl, hb.kept (hB.sub (fun q hq => by rw [List.mem_singleton.1 hq]; exact hp)), h1, h2, hpx⟩
    · rw [if_neg e] at hi ⊢
      obtain ⟨p1, k1, k2, k3, k4⟩ := h.here i s hi
      exact ⟨p1, k1, k2, k3.kept (hB.sub (fun q hq => by rw [List.mem_singleton.1 hq]; exact k1)), k4⟩
  · unfold Dict.upd at hi
    rw [look_ins]
    by_cases e : i = id
    · rw [if_pos e] at hi; cases hi
    · rw [if_neg e] at hi ⊢; exact h.gone i hi
theorem Cont.entry (h : Cont R D kvI kvL psI psL bp X) {k id : ByteArray} {s : Nat} (hs : s < 2) (hi : id.size ≤ 60)
    (ht : TurnR R R' 1 psL new m) (hT : TreeIs R' 1 (ins kvL k (entryV s id)) ps') (hpm : ps'.Perm (psL ++ new)) : Cont R' D kvI (ins kvL k (entryV s id)) psI ps' bp X := by
  have htk := h.taken
  have hdj := List.nodup_append.1 h.nd
  have hdk := List.nodup_append.1 hdj.2.1
  have hI : Kept R R' psI := ht.kept (fun q hq => ⟨fun e => hdj.2.2 q hq q (List.mem_append_left _ e) rfl, (htk q (List.mem_append_left _ hq)).2⟩)
  have hB : Kept R R' bp := ht.kept (fun q hq => ⟨fun e => hdk.2.2 q e q hq rfl, (htk q (List.mem_append_right _ (List.mem_append_right _ hq))).2⟩)
  have hnew : ∀ q ∈ new, q ∉ psI ++ (psL ++ bp) := fun q hq e => by have := (htk q e).2; rw [(ht.free q hq).2] at this; cases this
  have hperm : (psI ++ (psL ++ bp)).Perm (psL ++ (psI ++ bp)) := by
    rw [← List.append_assoc, ← List.append_assoc]
    exact List.perm_append_comm.append_right bp
  have hperm2 : (psI ++ (ps' ++ bp)).Perm (ps' ++ (psI ++ bp)) := by
    rw [← List.append_assoc, ← List.append_assoc]
    exact List.perm_append_comm.append_right bp
  refine ⟨h.ti.kept hI (ht.root 0 (by decide)), hT, ?_, fun q hq hh => ?_, fun q hq => ?_, fun i t hi => ?_, h.gone, fun x hx => ?_, h.out.kept (hB.sub h.xin) (ht.root 4 (by decide)) (ht.root 5 (by decide)), h.xin, h.xnd⟩
  · rw [hperm2.nodup_iff]
    exact turn_nodup (hperm.nodup_iff.1 h.nd) hpm ht.nodup (fun q hq e => hnew q hq (hperm.mem_iff.2 e))
  · rw [ht.pages] at hq
    rw [ht.has q hq] at hh
    rw [hperm2.mem_iff]
    by_cases e : q ∈ new
    · exact List.mem_append_left _ (hpm.mem_iff.2 (List.mem_append_right _ e))
    · have := hperm.mem_iff.1 (h.all q hq (by simpa [e] using hh))
      rcases List.mem_append.1 this with e1 | e1
      · exact List.mem_append_left _ (hpm.mem_iff.2 (List.mem_append_left _ e1))
      · exact List.mem_append_right _ e1
  · rw [ht.pages]
    exact ⟨(h.bh q hq).1, hB.has q hq (h.bh q hq).1 (h.bh q hq).2⟩
  · obtain ⟨p1, k1, k2, k3, k4⟩ := h.here i t hi
    exact ⟨p1, k1, k2, k3.kept (hB.sub (fun q hq => by rw [List.mem_singleton.1 hq]; exact k1)), k4⟩
  · rcases ins_mem hx with e | e
    · exact ⟨s, id, hs, hi, by rw [e]⟩
    · exact h.log x e
theorem Cont.next (h : Cont R D kvI kvL psI psL bp X) {v : Nat} (hr : Rooted R R' 2 v) (hfit : R.pages ≤ R.maps * 4096) (hp : R'.pages = R.pages) : Cont R' D kvI kvL psI psL bp X := by
  have hk : ∀ qs, Kept R R' qs := fun qs => hr.kept hfit hp
  refine ⟨h.ti.kept (hk _) (by rw [hr.root, if_neg (by decide)]), h.tl.kept (hk _) (by rw [hr.root, if_neg (by decide)]), h.nd, fun q hq hh => ?_, fun q hq => ?_, fun i t hi => ?_, h.gone, h.log, h.out.kept (hk _) (by rw [hr.root, if_neg (by decide)]) (by rw [hr.root, if_neg (by decide)]), h.xin, h.xnd⟩
  · rw [hp] at hq
    rw [hr.has q (by omega)] at hh
    exact h.all q hq hh
  · rw [hp]
    exact ⟨(h.bh q hq).1, (hk bp).has q hq (h.bh q hq).1 (h.bh q hq).2⟩
  · obtain ⟨p1, k1, k2, k3, k4⟩ := h.here i t hi
    exact ⟨p1, k1, k2, k3.kept (hk _), k4⟩
theorem Cont.meta_ (h : Cont R D kvI kvL psI psL bp X) {kvM : KV} (ht : TurnR R R' 4 X.psM new m) (hT : TreeIs R' 4 kvM ps') (hpm : ps'.Perm (X.psM ++ new)) : Cont R' D kvI kvL psI psL (bp ++ new) ⟨kvM, ps', X.vb, X.next⟩ := by
  have htk := h.taken
  have hdj := List.nodup_append.1 h.nd
  have hdk := List.nodup_append.1 hdj.2.1
  have hxd := List.nodup_append.1 h.xnd
  have hin : ∀ q ∈ X.psM, q ∈ bp := fun q hq => h.xin q (List.mem_append_left _ hq)
  have hI : Kept R R' psI := ht.kept (fun q hq => ⟨fun e => hdj.2.2 q hq q (List.mem_append_right _ (hin q e)) rfl, (htk q (List.mem_append_left _ hq)).2⟩)
  have hL : Kept R R' psL := ht.kept (fun q hq => ⟨fun e => hdk.2.2 q hq q (hin q e) rfl, (htk q (List.mem_append_right _ (List.mem_append_left _ hq))).2⟩)
  have hV : Kept R R' X.vp := ht.kept (fun q hq => ⟨fun e => hxd.2.2 q e q hq rfl, (h.out.has q (List.mem_append_right _ hq)).2⟩)
  have hnew : ∀ q ∈ new, q ∉ psI ++ (psL ++ bp) := fun q hq e => by have := (htk q e).2; rw [(ht.free q hq).2] at this; cases this
  have hnb : ∀ q ∈ new, q ∉ bp := fun q hq e => hnew q hq (List.mem_append_right _ (List.mem_append_right _ e))
  refine ⟨h.ti.kept hI (ht.root 0 (by decide)), h.tl.kept hL (ht.root 1 (by decide)), ?_, fun q hq hh => ?_, fun q hq => ?_, fun i t hi => ?_, h.gone, h.log, ⟨hT, fun b hb => (h.out.bl b hb).kept (hV.sub (fun q hq => List.mem_flatMap.2 ⟨b, hb, hq⟩)), (ht.root 5 (by decide)).trans h.out.nx⟩, fun q hq => ?_, ?_⟩
  · rw [← List.append_assoc, ← List.append_assoc, List.append_assoc psI]
    exact List.nodup_append.2 ⟨h.nd, ht.nodup, fun x hx y hy e => hnew y hy (e ▸ hx)⟩
  · rw [ht.pages] at hq
    rw [ht.has q hq] at hh
    rw [← List.append_assoc, ← List.append_assoc, List.append_assoc psI]
    by_cases e : q ∈ new
    · exact List.mem_append_right _ e
    · exact List.mem_append_left _ (h.all q hq (by simpa [e] using hh))
  · rw [ht.pages]
    rcases List.mem_append.1 hq with e | e
    · refine ⟨(h.bh q e).1, ?_⟩
      rw [ht.has q (h.bh q e).1, (h.bh q e).2, Bool.or_true]
    · refine ⟨(ht.free q e).1, ?_⟩
      rw [ht.has q (ht.free q e).1]
      simp [e]
  · obtain ⟨p1, k1, k2, k3, k4, k5, k6⟩ := h.here i t hi
    have hk1 : Kept R R' [p1] := ht.kept (fun q hq => by
      rw [List.mem_singleton.1 hq]
      exact ⟨fun e => k6 (List.mem_append_left _ e), (h.bh p1 k1).2⟩)
    refine ⟨p1, List.mem_append_left _ k1, k2, k3.kept hk1, k4, k5, fun e => ?_⟩
    rcases List.mem_append.1 e with e | e
    · rcases List.mem_append.1 (hpm.mem_iff.1 e) with e | e
      · exact k6 (List.mem_append_left _ e)
      · exact hnb p1 e k1
    · exact k6 (List.mem_append_right _ e)
  · rcases List.mem_append.1 hq with e | e
    · rcases List.mem_append.1 (hpm.mem_iff.1 e) with e | e
      · exact List.mem_append_left _ (hin q e)
      · exact List.mem_append_right _ e
    · exact List.mem_append_left _ (h.xin q (List.mem_append_right _ e))
  · exact turn_nodup h.xnd hpm ht.nodup (fun q hq e => hnb q hq (h.xin q e))
theorem Cont.vblob (h : Cont R D kvI kvL psI psL bp X) {t : ByteArray} {ps : List Nat} (hk : Took R R' ps) (hb : BlobIn R' t ps) (hfit : R.pages ≤ R.maps * 4096) (hp : R'.pages = R.pages) : Cont R' D kvI kvL psI psL (bp ++ ps) ⟨X.kvM, X.psM, X.vb ++ [(t, ps)], X.next⟩ := by
  have ht := h.taken
  have hz : ∀ j, R'.root j = R.root j := zero_root hk.zero
  have hA : Kept R R' (psI ++ (psL ++ bp)) := hk.kept hfit hp (fun q hq => (ht q hq).2)
  have hI : Kept R R' psI := hA.sub (fun q hq => List.mem_append_left _ hq)
  have hL : Kept R R' psL := hA.sub (fun q hq => List.mem_append_right _ (List.mem_append_left _ hq))
  have hB : Kept R R' bp := hA.sub (fun q hq => List.mem_append_right _ (List.mem_append_right _ hq))
  have hX : Kept R R' X.pages := hB.sub h.xin
  have hnew : ∀ q ∈ ps, q ∉ psI ++ (psL ++ bp) := fun q hq e => by have := (ht q e).2; rw [(hk.new q hq).2] at this; cases this
  have hnb : ∀ q ∈ ps, q ∉ bp := fun q hq e => hnew q hq (List.mem_append_right _ (List.mem_append_right _ e))
  have hpg : (⟨X.kvM, X.psM, X.vb ++ [(t, ps)], X.next⟩ : Rest).pages = X.pages ++ ps := by
    unfold Rest.pages Rest.vp
    rw [List.flatMap_append, ← List.append_assoc]
    simp
  refine ⟨h.ti.kept hI (hz 0), h.tl.kept hL (hz 1), ?_, fun q hq hh => ?_, fun q hq => ?_, fun i s hi => ?_, h.gone, h.log, ⟨h.out.tm.kept (hX.sub (fun q hq => List.mem_append_left _ hq)) (hz 4), fun b hb2 => ?_, (hz 5).trans h.out.nx⟩, fun q hq => ?_, ?_⟩
  · rw [← List.append_assoc, ← List.append_assoc, List.append_assoc psI]
    exact List.nodup_append.2 ⟨h.nd, hk.nodup, fun x hx y hy e => hnew y hy (e ▸ hx)⟩
  · rw [hp] at hq
    rw [hk.has q (by omega)] at hh
    rw [← List.append_assoc, ← List.append_assoc, List.append_assoc psI]
    by_cases e : q ∈ ps
    · exact List.mem_append_right _ e
    · exact List.mem_append_left _ (h.all q hq (by simpa [e] using hh))
  · rw [hp]
    rcases List.mem_append.1 hq with e | e
    · exact ⟨(h.bh q e).1, hB.has q e (h.bh q e).1 (h.bh q e).2⟩
    · refine ⟨(hk.new q e).1, ?_⟩
      rw [hk.has q (by have := (hk.new q e).1; omega)]
      simp [e]
  · obtain ⟨p1, k1, k2, k3, k4, k5, k6⟩ := h.here i s hi
    refine ⟨p1, List.mem_append_left _ k1, k2, k3.kept (hB.sub (fun q hq => by rw [List.mem_singleton.1 hq]; exact k1)), k4, k5, fun e => ?_⟩
    rw [hpg] at e
    rcases List.mem_append.1 e with e | e
    · exact k6 e
    · exact hnb p1 e k1
  · rcases List.mem_append.1 hb2 with e | e
    · exact (h.out.bl b e).kept (hX.sub (fun q hq => List.mem_append_right _ (List.mem_flatMap.2 ⟨b, e, hq⟩)))
    · rw [List.mem_singleton.1 e]; exact hb
  · rw [hpg] at hq
    rcases List.mem_append.1 hq with e | e
    · exact List.mem_append_left _ (h.xin q e)
    · exact List.mem_append_right _ e
  · rw [hpg]
    exact List.nodup_append.2 ⟨h.xnd, hk.nodup, fun x hx y hy e => hnb y hy (e ▸ h.xin x hx)⟩
theorem Cont.number (h : Cont R D kvI kvL psI psL bp X) {v : Nat} (hr : Rooted R R' 5 v) (hfit : R.pages ≤ R.maps * 4096) (hp : R'.pages = R.pages) : Cont R' D kvI kvL psI psL bp ⟨X.kvM, X.psM, X.vb, v⟩ := by
  have hk : ∀ qs, Kept R R' qs := fun qs => hr.kept hfit hp
  refine ⟨h.ti.kept (hk _) (by rw [hr.root, if_neg (by decide)]), h.tl.kept (hk _) (by rw [hr.root, if_neg (by decide)]), h.nd, fun q hq hh => ?_, fun q hq => ?_, fun i t hi => ?_, h.gone, h.log, ⟨h.out.tm.kept (hk _) (by rw [hr.root, if_neg (by decide)]), fun b hb => (h.out.bl b hb).kept (hk _), by rw [hr.root, if_pos rfl]⟩, h.xin, h.xnd⟩
  · rw [hp] at hq
    rw [hr.has q (by omega)] at hh
    exact h.all q hq hh
  · rw [hp]
    exact ⟨(h.bh q hq).1, (hk bp).has q hq (h.bh q hq).1 (h.bh q hq).2⟩
  · obtain ⟨p1, h1, h2, h3, h4, h5, h6⟩ := h.here i t hi
    exact ⟨p1, h1, h2, h3.kept (hk _), h4, h5, h6⟩
end
end Go.Proofs.YtaokjeokpifjgaaGreatDoor

namespace Go.Proofs.YtaokjeokpifjgaaGreatDoor
open Go.RowKit Go.MapKept
attribute [local go_sem] gives givesH
set_option maxRecDepth 100000

def kindsB : ByteArray := ⟨#[110, 104, 98, 116]⟩
theorem right_any (ks t : ByteArray) (h : Lib.trimSuffix ks.data.toList [114] = t.data.toList) (h2 : Lib.trimS t.data.toList kindsB.data.toList = []) (ht : t.size ≤ 1000) (hks : ks.size ≤ 1000) (w : World) :
    Calls Tryz.prog 150 #[.string ks] w fun e w' => e = .returned (.bool true) ∧ Below w.heap.size w w' := by
  have h1 := Tryz.strings_TrimSuffix ks ⟨#[114]⟩ w (by omega)
  have e1 : (⟨(Lib.trimSuffix ks.data.toList (⟨#[114]⟩ : ByteArray).data.toList).toArray⟩ : ByteArray) = t := by
    show (⟨(Lib.trimSuffix ks.data.toList [114]).toArray⟩ : ByteArray) = t
    rw [h]
  rw [e1] at h1
  have h3 := Any.strings_Trim_laid Tryz.lays160 (by kernel_rfl) t kindsB w (by omega) (by decide) (ascii_of_all rfl)
  rw [h2] at h3
  clear h h2 e1
  go_enter Tryz.func150, Tryz.ntmps150
  go_wp2_with (first
    | (go_at_call 209; refine h1.mono ?_; rintro e w1 ⟨rfl, rfl⟩)
    | (go_at_call 141; refine h3.mono ?_; rintro e w2 ⟨rfl, hb⟩))
  go_ret
  exact ⟨rfl, hb⟩
theorem right_hbn (w : World) : Calls Tryz.prog 150 #[.string hbnK] w fun e w' => e = .returned (.bool true) ∧ Below w.heap.size w w' := right_any hbnK hbnK (by decide) (by decide) (by decide) (by decide) w
theorem right_br (w : World) : Calls Tryz.prog 150 #[.string brK] w fun e w' => e = .returned (.bool true) ∧ Below w.heap.size w w' := right_any brK ⟨#[98]⟩ (by decide) (by decide) (by decide) (by decide) w
theorem right_n (w : World) : Calls Tryz.prog 150 #[.string nK] w fun e w' => e = .returned (.bool true) ∧ Below w.heap.size w w' := right_any nK nK (by decide) (by decide) (by decide) (by decide) w
end Go.Proofs.YtaokjeokpifjgaaGreatDoor

namespace Go.Proofs.YtaokjeokpifjgaaGreatDoor
open Go.RowKit Go.MapKept
attribute [local go_sem] gives givesH
set_option maxRecDepth 100000

theorem width_any (c : Nat) (hc : c < 256) (w : World) :
    Calls Tryz.prog 151 #[.int .u8 c] w fun e w' => e = .returned (.int .i64 (wid c)) ∧ w = w' := by
  by_cases h1 : c = 110
  · subst h1
    have e1 : ((wid 110 : Nat) : Int) = 8 := rfl
    rw [e1]
    go_enter Tryz.func151, Tryz.ntmps151
    go_wp2
    go_ret
    exact ⟨rfl, rfl⟩
  by_cases h2 : c = 104
  · subst h2
    have e1 : ((wid 104 : Nat) : Int) = 4 := rfl
    rw [e1]
    go_enter Tryz.func151, Tryz.ntmps151
    go_wp2
    go_ret
    exact ⟨rfl, rfl⟩
  by_cases h3 : c = 98
  · subst h3
    have e1 : ((wid 98 : Nat) : Int) = 1 := rfl
    rw [e1]
    go_enter Tryz.func151, Tryz.ntmps151
    go_wp2
    go_ret
    exact ⟨rfl, rfl⟩
  have e0 : ((wid c : Nat) : Int) = 0 := by unfold wid; rw [if_neg h1, if_neg h2, if_neg h3]; rfl
  have e1 : ((c : Int) == 110) = false := by simp; omega
  have e2 : ((c : Int) == 104) = false := by simp; omega
  have e3 : ((c : Int) == 98) = false := by simp; omega
  rw [e0]
  go_enter Tryz.func151, Tryz.ntmps151
  go_wp2
  go_ret
  exact ⟨rfl, rfl⟩

set_option maxHeartbeats 1000000 in
theorem number_any {w : World} {B b : Nat} {bs : List Value} (h : IsB B b bs w) (hB : B ≤ w.heap.size) (hlen : bs.length ≤ 100000000) (n wd : Nat) (hw : wd ≤ 8) :
    Calls Tryz.prog 153 #[.pointer (some ⟨b, 0, none⟩), .int .u64 n, .int .i64 wd] w fun e w' => e = .returned (.tuple #[]) ∧ IsB B b (bs ++ Lib.byteCells (beW wd n wd)) w' ∧ Below B w w' ∧ Lib.OthersKept 5 (some b) w w' := by
  have HIB := Hd h
  have HBS := Hd hB
  have HLen := Hd hlen
  have HBL := Hd (isB_lt h)
  have hwi : (wd : Int) ≤ 8 := by omega
  have hw0 : (0 : Int) ≤ (wd : Int) := by omega
  clear h hB hlen
  go_enter Tryz.func153, Tryz.ntmps153
  go_wp2_with (fail)
  go_loopw [6] (fun i wr => ∃ j : Nat, j ≤ wd ∧ i = .int .i64 (8 * ((wd : Int) - 1) - 8 * (j : Int)) ∧ IsB B b (bs ++ Lib.byteCells (beW wd n j)) wr ∧ Below B w wr ∧ Lib.OthersKept 5 (some b) w wr) (fun i _ => (intOf i + 16).toNat)
  case atStart => exact ⟨0, by omega, by go_num, by have := HIB.out; simpa [beW, Lib.byteCells] using this, Below.refl _ _, Lib.OthersKept.refl _ _ _⟩
  case round =>
    obtain ⟨j, hj, rfl, hib, hbj, hoj⟩ := hrel
    have HI1 := Hd hib
    have HB1 := Hd hbj
    have HO1 := Hd hoj
    clear hib hbj hoj
    by_cases hlt : j < wd
    · obtain ⟨sh, hsh⟩ : ∃ sh : Nat, 8 * ((wd : Int) - 1) - 8 * (j : Int) = (sh : Int) := ⟨8 * (wd - 1 - j), by omega⟩
      rw [hsh]
      have hshn : sh = 8 * (wd - 1 - j) := by omega
      have f1 : decide ((0 : Int) ≤ (sh : Int)) = true := by simp
      have hsh56 : (sh : Int) ≤ 56 := by omega
      have HSH := Hd hsh
      have HSN := Hd hshn
      clear hsh hshn
      have hcl : (bs ++ Lib.byteCells (beW wd n j)).length ≤ 100000100 := by
        have := HLen.out
        rw [List.length_append]
        simp [Lib.byteCells, beW_length]
        omega
      have A2 := Hd (writeByte_any HI1.out (Nat.le_trans HBS.out HB1.out.size) (by omega) ((n : Int) / 2 ^ sh % 256))
      have hce : ((n : Int) / 2 ^ sh % 256) = ((UInt8.ofNat (n / 2 ^ sh % 256)).toNat : Int) := by
        have h1 : (n / 2 ^ sh % 256) < 256 := Nat.mod_lt _ (by decide)
        have h2 : (UInt8.ofNat (n / 2 ^ sh % 256)).toNat = n / 2 ^ sh % 256 := by simp
        rw [h2]
        simp
      have HCE := Hd hce
      clear hcl hce
      go_wp2_with (fail)
      refine (A2.out).mono ?_
      rintro e w3 ⟨rfl, hi3, hb3, ho3⟩
      rw [HCE.out, List.append_assoc, ← byteCells_snoc] at hi3
      have hi4 : IsB B b (bs ++ Lib.byteCells (beW wd n (j + 1))) w3 := by
        rw [beW_succ, ← HSN.out]; exact hi3
      have HI4 := Hd hi4
      have HB4 := Hd (HB1.out.trans hb3)
      have HO4 := Hd (HO1.out.trans ho3)
      clear hi3 hi4 hb3 ho3
      go_wp2
      go_roundw
      case rel => exact ⟨j + 1, by omega, by have := HSH.out; congr 1; omega, HI4.out, HB4.out, HO4.out⟩
      case measure => simp [intOf]; omega
    · obtain rfl : j = wd := by omega
      have e8 : 8 * ((j : Int) - 1) - 8 * (j : Int) = -8 := by omega
      rw [e8]
      go_wp2
      go_end0
      exact ⟨rfl, HI1.out, HB1.out, HO1.out⟩
theorem or_byte64 (x c : Nat) (hx : x < 72057594037927936) (hc : c < 256) : bits .or .u64 ((x : Int) * 256) (c : Int) = ((x * 256 + c : Nat) : Int) := by
  have h1 := orR x c hc
  have h2 : IntKind.u64.wrap ((x : Int) * 256) = (x : Int) * 256 := by rw [IntKind.wrap_u64]; omega
  rw [h2] at h1
  rw [h1]
  congr 2
  omega
theorem told_any8 (s : ByteArray) (hs : s.size ≤ 8) (w : World) :
    Calls Tryz.prog 152 #[.string s] w fun e w' => e = .returned (.int .u64 (beN s.data.toList)) ∧ Below w.heap.size w w' := by
  obtain ⟨cc, wc, hcv, hbc, _, _, _, hcc⟩ := conv_bytes (P := Tryz.prog) w 9 121 5 s Tryz.underlying9 Tryz.underlying121 Tryz.underlying5
  have HCc := Hd hcc
  have HBc := Hd hbc
  clear hcc hbc
  obtain ⟨n, hn⟩ : ∃ n, s.size = n := ⟨_, rfl⟩
  rw [hn] at hcv hs
  have HN := Hd hn
  have hl : s.data.toList.length = n := by rw [Array.length_toList]; exact hn
  have HL := Hd hl
  clear hn hl
  go_enter Tryz.func152, Tryz.ntmps152
  go_wp2
  go_loop [3, 5, 9] (fun x _ i => ∃ j : Nat, j ≤ n ∧ i = .int .i64 j ∧ x = .int .u64 (beN (s.data.toList.take j))) (fun _ _ i => n - (intOf i).toNat)
  case atStart => exact ⟨0, by omega, rfl, rfl⟩
  case round =>
    obtain ⟨j, hj, rfl, rfl⟩ := hrel
    by_cases hlt : j < n
    · have g1 : decide ((j : Int) < (n : Int)) = true := by simp; omega
      have g1' : decide (j < n) = true := by simpa using hlt
      have hj1 : (j : Int) < (n : Int) := by omega
      have hs2 : j < s.size := by rw [HN.out]; exact hlt
      have q0 := HCc.out j hs2
      have hA : s.data.toList[j]? = some s[j] := by
        rw [Array.getElem?_toList]
        exact Array.getElem?_eq_getElem hs2
      have hA2 : s.data.toList.take (j + 1) = s.data.toList.take j ++ [s[j]] := by rw [List.take_add_one, hA]; rfl
      obtain ⟨x, hx⟩ : ∃ x, beN (s.data.toList.take j) = x := ⟨_, rfl⟩
      have hx2 : x < 72057594037927936 := by
        have h1 := beN_lt (s.data.toList.take j)
        have h2 : (s.data.toList.take j).length = j := by rw [List.length_take, HL.out]; omega
        rw [hx, h2] at h1
        have h3 : 256 ^ j ≤ 256 ^ 7 := Nat.pow_le_pow_right (by decide) (by omega)
        have h4 : (256 : Nat) ^ 7 = 72057594037927936 := rfl
        omega
      obtain ⟨c, hc⟩ : ∃ c, s[j].toNat = c := ⟨_, rfl⟩
      have hc2 : c < 256 := by rw [← hc]; exact s[j].toNat_lt
      have hnew : beN (s.data.toList.take (j + 1)) = x * 256 + c := by rw [hA2, beN_snoc, hx, hc]
      rw [hc] at q0
      rw [hx]
      have o1 := or_byte64 x c hx2 hc2
      have hw1 : IntKind.u64.wrap ((x : Int) * 256) = (x : Int) * 256 := by rw [IntKind.wrap_u64]; omega
      have hw3 : (x : Int) * 256 % 18446744073709551616 = (x : Int) * 256 := by omega
      have hw2 : IntKind.u64.wrap (c : Int) = (c : Int) := by rw [IntKind.wrap_u64]; omega
      have x1 : (x : Int) < 72057594037927936 := by omega
      have c1 : (c : Int) ≤ 255 := by omega
      have HNw := Hd hnew
      clear hA hA2 hx hc hnew
      go_wp2
      go_round
      case rel => exact ⟨j + 1, by omega, by go_num, by rw [HNw.out]; go_num⟩
      case measure => simp [intOf]; omega
    · have g1 : decide ((j : Int) < (n : Int)) = false := by simp; omega
      have g1' : decide (j < n) = false := by simpa using hlt
      have hjn : j = n := by omega
      have hA : s.data.toList.take j = s.data.toList := by rw [hjn, ← HL.out, List.take_length]
      rw [hA]
      go_wp2
      go_ret
      exact ⟨rfl, HBc.out⟩
end Go.Proofs.YtaokjeokpifjgaaGreatDoor
