/-
  Texts of this claim, one behind the other: VrPV VrDV VrLV VrMV VrWV SeRV RcAV RcCV RcDV VrXV VrYV VrZV VpSV Shell OpenS OpenF VpOV VpLV.
-/
import Derived.Test.YtaokjeokpifjgaaGreatDoorM5
import Derived.Test.YtaokjeokpifjgaaGreatDoorRows
import Derived.ProofKit
import Derived.OpenShut
import Derived.Deep.Slices
import Derived.Deep.Fields
import Derived.SizedLaws
import Derived.ChangeSlices
import Derived.Lib.SmallJoins
namespace Go.Proofs.YtaokjeokpifjgaaGreatDoor
open Go.RowKit Go.MapKept
attribute [local go_sem] gives givesH
set_option maxRecDepth 100000

theorem vundo_idle (br : Nat) (mark : Int) (q : Addr) (w : World) (he : w.cell? q = some (.int .i64 0)) (u : FrameMode) :
    CallsD Tryz.prog 39 #[.pointer (some ⟨br, 0, none⟩), .int .i64 mark, .pointer (some q)] u w fun e u' w' => u' = u ∧ (e = .returned (.tuple #[]) ∧ w' = w) := by
  go_enter_d Tryz.func39, Tryz.ntmps39
  go_wp2
  go_end0
  exact ⟨rfl, rfl⟩
theorem tot_range (l : RefL) (h : l.all okRef = true) : 0 ≤ tot l ∧ tot l ≤ 128 * l.length := by
  induction l with
  | nil => exact ⟨Int.le_refl _, Int.le_refl _⟩
  | cons a t ih =>
    rw [List.all_cons, Bool.and_eq_true] at h
    have h1 := (okRef_iff a).1 h.1
    have h2 := ih h.2
    unfold tot
    rw [List.length_cons]
    omega
section
variable {w : World} {sb : Nat} {s : Sto} {D : Dict} {nz : Nat} {b item : ByteArray}
set_option maxHeartbeats 8000000 in
theorem vput_st (h : StAt w sb s D nz) (hb : bucketOk b = true) {bo : Nat} (hlb : look s.X.kvM (bucketKey b) = some (bucketT 1 bo)) (hbo : bo < 18446744073709551616) (hi : itemOk item = true)
    {B : Nat} {v : Value} {l : RefL} (hrow : w.ownsRow B 98 2 v l.length (refV l)) (hl : l.length ≤ 100) (hok : l.all okRef = true)
    (hn : nz + pagesB (wrS l).size + 3 ≤ 1900 ∧ 8 * (nz + pagesB (wrS l).size + 3) + 300 ≤ s.R.pages) (hx : s.X.next + 1 < 18446744073709551616) {now : Nat} (hnow : now < 18446744073709551616) :
    Calls Tryz.prog 13 #[.pointer (some ⟨s.br, 0, none⟩), .pointer (some ⟨sb, 0, none⟩), .string b, .string item, v, .int .u64 now] w fun e w' => ∃ (size page : Nat) (ps : List Nat) (s' : Sto), e = .returned (.tuple #[.agg (vC b item (s.X.next + 1) false false now size page), .int .i64 0]) ∧ XStep w s D sb (nz + pagesB (wrS l).size + 2) w' s' ∧ s'.X.kvM = ins s.X.kvM (versionKey b item (s.X.next + 1)) (verT (howN false false) now size page) ∧ s'.X.vb = s.X.vb ++ [(wrS l, ps)] ∧ s'.X.next = s.X.next + 1 ∧ ps.getD 0 0 = page ∧ page < 65536 ∧ (size : Int) = tot l := by
  have HM := Hd (fun (u : World) (hu : Below w.heap.size w u) => rmark_any (h.still hu).room)
  have HT := Hd (fun (u : World) (hu : Below w.heap.size w u) => there_ok (h.still hu) (by omega) hb hlb (by decide) hbo hi)
  have HW := Hd (fun (u : World) (hu : Below w.heap.size w u) => rwrite_any ((Keep.still hu).ownsRow hrow (fun _ _ e => e)) hl hok)
  have HSz := Hd (fun (u : World) (hu : Below w.heap.size w u) => rsize_any ((Keep.still hu).ownsRow hrow (fun _ _ e => e)) hl hok)
  have hz := wrS_size l hok
  have HPut := Hd (fun (u : World) (hu : Below w.heap.size w u) => (h.still hu).vblob_put (wrS l) (by omega) (by omega))
  obtain ⟨t0, t1⟩ := tot_range l hok
  obtain ⟨size, hsize⟩ := Int.eq_ofNat_of_zero_le t0
  have hsz2 : size ≤ 12800 := by omega
  rw [hsize] at HSz ⊢
  have HN := Hd (fun (u : World) (s1 : Sto) (n1 : Nat) (hu : StAt u sb s1 D n1) (hp : s1.R.pages = s.R.pages) (hn1 : n1 = nz + pagesB (wrS l).size) (hx1 : s1.X.next = s.X.next) (born size page : Nat) (h2 : born < 18446744073709551616) (h3 : size < 4294967296) (h4 : page < 4294967296) => numbered_st hu (by omega) hb hi false (by omega) h2 h3 h4)
  obtain ⟨sa, sc, hv⟩ := slice_formB hrow
  subst hv
  have HSt := Hd h
  have HAh := Hd h.ahead
  generalize wrS l = text at *
  obtain ⟨mk, hmk⟩ : ∃ mk, s.R.T.puts.length = mk := ⟨_, rfl⟩
  rw [hmk] at HM
  unfold bkC at HT
  unfold vC at HN ⊢
  clear h hrow hb hlb hi hz hmk t0 t1 hsize
  go_enter_defers Tryz.func13, Tryz.ntmps13
  go_wp2_with (fail)
  have hv2 := heap_alloc_new w (.cells #[.string ⟨#[]⟩, .string ⟨#[]⟩, .int .u64 0, .bool false, .bool false, .int .u64 0, .int .i64 0, .int .i64 0] 38)
  have hb1 : Below w.heap.size w (w.alloc (.cells #[.string ⟨#[]⟩, .string ⟨#[]⟩, .int .u64 0, .bool false, .bool false, .int .u64 0, .int .i64 0, .int .i64 0] 38)) := (Below.refl _ _).alloc (Nat.le_refl _) _
  have hs1 := World.size_alloc w (.cells #[.string ⟨#[]⟩, .string ⟨#[]⟩, .int .u64 0, .bool false, .bool false, .int .u64 0, .int .i64 0, .int .i64 0] 38)
  obtain ⟨w1, hw1⟩ : ∃ w1, w.alloc (.cells #[.string ⟨#[]⟩, .string ⟨#[]⟩, .int .u64 0, .bool false, .bool false, .int .u64 0, .int .i64 0, .int .i64 0] 38) = w1 := ⟨_, rfl⟩
  rw [hw1] at hv2 hb1 hs1 ⊢
  have hb2 := hb1.alloc hb1.size (.cells #[.int .i64 0] 29)
  have he2 := heap_alloc_new w1 (.cells #[.int .i64 0] 29)
  rw [hs1] at he2
  have hv3 : (w1.alloc (.cells #[.int .i64 0] 29)).heap[w.heap.size]? = _ := (Below.heap_alloc _ _ _ (by omega)).trans hv2
  obtain ⟨w2, hw2⟩ : ∃ w2, w1.alloc (.cells #[.int .i64 0] 29) = w2 := ⟨_, rfl⟩
  rw [hw2] at hb2 he2 hv3 ⊢
  have HB2 := Hd hb2
  have HE2 := Hd he2
  have HV2 := Hd hv3
  clear hv2 hb1 hs1 hw1 hb2 he2 hv3 hw2
  obtain ⟨vb, hvb⟩ : ∃ vb, w.heap.size = vb := ⟨_, rfl⟩
  have HVb := Hd hvb
  rw [hvb] at HE2 HV2 ⊢
  clear hvb
  refine (HM.out _ HB2.out).mono ?_
  rintro e _ ⟨rfl, rfl⟩
  go_wp2_with (fail)
  refine (HT.out _ HB2.out).mono ?_
  rintro e w3 ⟨rfl, hb3⟩
  have hb3' := HB2.out.trans (hb3.mono HB2.out.size)
  have he3 := (hb3.block _ (Gl HE2.out)).trans HE2.out
  have hv3 := (hb3.block _ (Gl HV2.out)).trans HV2.out
  have hbk : Below w3.heap.size w3 (w3.alloc (.cells #[.string b, .int .i64 1, .int .u64 bo, .bool false, .string ⟨#[]⟩, .int .u64 0] 89)) := (Below.refl _ _).alloc (Nat.le_refl _) _
  have hk4 := heap_alloc_new w3 (.cells #[.string b, .int .i64 1, .int .u64 bo, .bool false, .string ⟨#[]⟩, .int .u64 0] 89)
  have he4 := (hbk.block _ (Gl he3)).trans he3
  have hv4 := (hbk.block _ (Gl hv3)).trans hv3
  have hb4 := hb3'.trans (hbk.mono hb3'.size)
  have hl3 : vb + 1 < w3.heap.size := (Gl he3)
  have ez4 : (w3.alloc (.cells #[.string b, .int .i64 1, .int .u64 bo, .bool false, .string ⟨#[]⟩, .int .u64 0] 89)).cell? ⟨vb + 1, 0, none⟩ = some (.int .i64 0) := Lib.cell_of_heap he4 0
  have yz4 : (w3.alloc (.cells #[.string b, .int .i64 1, .int .u64 bo, .bool false, .string ⟨#[]⟩, .int .u64 0] 89)).frozen? ⟨vb + 1, 0, none⟩ = false := froz_of he4
  have e5 : ((w3.alloc (.cells #[.string b, .int .i64 1, .int .u64 bo, .bool false, .string ⟨#[]⟩, .int .u64 0] 89)).setCell ⟨vb + 1, 0, none⟩ (.int .i64 0)).cell? ⟨vb + 1, 0, none⟩ = some (.int .i64 0) := World.cell?_setCell_same _ _ _ ez4
  have hk5 : Keep (fun k => k = vb + 1) (w3.alloc (.cells #[.string b, .int .i64 1, .int .u64 bo, .bool false, .string ⟨#[]⟩, .int .u64 0] 89)) ((w3.alloc (.cells #[.string b, .int .i64 1, .int .u64 bo, .bool false, .string ⟨#[]⟩, .int .u64 0] 89)).setCell ⟨vb + 1, 0, none⟩ (.int .i64 0)) := (Keep.refl (fun k => k = vb + 1) _).setCell (p := ⟨vb + 1, 0, none⟩) (fun _ => rfl) _
  have HE5 := Hd (heap_setCell_same _ (vb + 1) 0 _ _ (.int .i64 0) he4)
  have HV5 := Hd (hk5.at hv4 (fun e => by omega))
  have HK5 := Hd (hk5.at hk4 (fun e => by omega))
  have HB5 := Hd (hb4.setCell (p := ⟨vb + 1, 0, none⟩) (by have := HVb.out; show w.heap.size ≤ vb + 1; omega) (.int .i64 0))
  have HL3 := Hd hl3
  clear hb3 hb3' he3 hv3 hbk hk4 he4 hv4 hb4 hl3 hk5
  go_wp2_with (fail)
  clear e5 ez4 yz4
  obtain ⟨w5, hw5⟩ : ∃ w5, (w3.alloc (.cells #[.string b, .int .i64 1, .int .u64 bo, .bool false, .string ⟨#[]⟩, .int .u64 0] 89)).setCell ⟨vb + 1, 0, none⟩ (.int .i64 0) = w5 := ⟨_, rfl⟩
  obtain ⟨kb, hkb⟩ : ∃ kb, w3.heap.size = kb := ⟨_, rfl⟩
  rw [hw5] at HE5 HV5 HK5 HB5 ⊢
  rw [hkb] at HK5 HL3 ⊢
  clear hw5 hkb
  refine (HW.out _ HB5.out).mono ?_
  rintro e w6 ⟨rfl, hb6⟩
  have HB6 := Hd (HB5.out.trans (hb6.mono HB5.out.size))
  have HE6 := Hd ((hb6.block _ (Gl HE5.out)).trans HE5.out)
  have HV6 := Hd ((hb6.block _ (Gl HV5.out)).trans HV5.out)
  have HK6 := Hd ((hb6.block _ (Gl HK5.out)).trans HK5.out)
  clear hb6
  go_wp2_with (fail)
  obtain ⟨S, hS⟩ : ∃ S : World → Prop, ∀ u, S u ↔ Keep (fun _ => False) (w6) u := ⟨fun u => Keep (fun _ => False) (w6) u, fun _ => Iff.rfl⟩
  have HS := Hd hS
  clear hS
  refine wp_region_ord 9 [(0, true), (1, true), (2, true), (3, true), (4, true), (5, true), (6, true), (7, false), (8, true)] S (by kernel_rfl) (by kernel_rfl) ((HS.out _).2 (Keep.refl _ _).drew) ?_
  iterate 7
    first
      | (refine wpH_passed rfl (by rfl) (fun K hK => ?_); go_simp; refine hK _ ?_; clear hK K)
      | (first
           | refine wpH_read rfl rfl (fun K hK => ?_)
           | refine wpH_readw rfl (by rfl) (fun K hK => ?_)
         apply Exists.intro
         refine ⟨fun u hu => ?_, ?_⟩
         · have hu := (HS.out u).1 hu
           obtain ⟨⟨-, d1, -⟩, -⟩ := box6 (hu.at HK6.out (fun e => e))
           clear hu
           go_simp
           exact ⟨rfl, rfl⟩
         go_simp
         refine hK _ ?_
         clear hK K)
  first | refine wpH_do rfl rfl (fun K hK => ?_) | refine wpH_dow rfl (by rfl) (fun K hK => ?_)
  go_simp
  go_at_call 43
  have hdr : Below w6.heap.size w6 w6.drew := ⟨rfl, rfl, rfl, Nat.le_refl _, fun _ _ => rfl⟩
  refine (HSz.out _ (HB6.out.trans (hdr.mono HB6.out.size))).mono ?_
  rintro e w7 ⟨rfl, hb7⟩
  have hb7' : Below w6.heap.size w6 w7 := hdr.trans hb7
  have HB7 := Hd (HB6.out.trans (hb7'.mono HB6.out.size))
  have HE7 := Hd ((hb7'.block _ (Gl HE6.out)).trans HE6.out)
  have HV7 := Hd ((hb7'.block _ (Gl HV6.out)).trans HV6.out)
  refine hK _ _ ((HS.out _).2 (Keep.ofBelow hb7')) ?_
  clear hK K hb7 hb7' hdr
  iterate 1
    first
      | (refine wpH_passed rfl (by rfl) (fun K hK => ?_); go_simp; refine hK _ ?_; clear hK K)
      | (first
           | refine wpH_read rfl rfl (fun K hK => ?_)
           | refine wpH_readw rfl (by rfl) (fun K hK => ?_)
         apply Exists.intro
         refine ⟨fun u hu => ?_, ?_⟩
         · have hu := (HS.out u).1 hu
           obtain ⟨⟨-, d1, -⟩, -⟩ := box6 (hu.at HK6.out (fun e => e))
           clear hu
           go_simp
           exact ⟨rfl, rfl⟩
         go_simp
         refine hK _ ?_
         clear hK K)
  refine wpH_nil ?_
  simp only [List.drop_succ_cons, List.drop_zero]
  clear S HS
  have ez7 : w7.cell? ⟨vb + 1, 0, none⟩ = some (.int .i64 0) := Lib.cell_of_heap HE7.out 0
  obtain ⟨⟨d0, d1, d2, d3, d4, d5, d6, d7⟩, y0, y1, y2, y3, y4, y5, y6, y7⟩ := box8 HV7.out
  go_wp2_with (fail)
  clear ez7 d0 d1 d2 d3 d4 d5 d6 d7 y0 y1 y2 y3 y4 y5 y6 y7
  have hk8 := set8_keep w7 vb (.string b) (.string item) (.int .u64 0) (.bool false) (.bool false) (.int .u64 now) (.int .i64 size) (.int .i64 0)
  have hv8 := set8_heap HV7.out (.string b) (.string item) (.int .u64 0) (.bool false) (.bool false) (.int .u64 now) (.int .i64 size) (.int .i64 0)
  have hb8 := set8_below HB7.out (b := vb) (by have := HVb.out; omega) (.string b) (.string item) (.int .u64 0) (.bool false) (.bool false) (.int .u64 now) (.int .i64 size) (.int .i64 0)
  obtain ⟨w8, hw8⟩ : ∃ w8, set8 w7 vb (.string b) (.string item) (.int .u64 0) (.bool false) (.bool false) (.int .u64 now) (.int .i64 size) (.int .i64 0) = w8 := ⟨_, rfl⟩
  rw [hw8] at hk8 hv8 hb8
  unfold set8 at hw8
  rw [hw8]
  have HB8 := Hd hb8
  have HV8 := Hd hv8
  have HE8 := Hd (hk8.at HE7.out (fun e => by omega))
  clear hw8 hk8 hv8 hb8
  refine (HPut.out _ HB8.out).mono ?_
  rintro e w9 ⟨p, ps, s1, rfl, hx9, k1, k2, k3, hp, hp6⟩
  have hnf0 : ∀ k, vb ≤ k → ¬ s.foot k := fun k hk e => by have := HAh.out.2.2.2 _ e; have := HVb.out; omega
  have hl8 : vb + 1 < w8.heap.size := (Gl HE8.out)
  have HNf1 := Hd (show ∀ k, vb ≤ k → k ≤ vb + 1 → ¬ s1.foot k from fun k hk hk2 e => (hx9.step.foot k e).elim (hnf0 k hk) (fun e2 => by omega))
  have HE9 := Hd (hx9.step.keep.at HE8.out (hnf0 _ (by omega)))
  have HV9 := Hd (hx9.step.keep.at HV8.out (hnf0 _ (Nat.le_refl _)))
  have HX9 := Hd (hx9.after HB8.out)
  have HP9 := Hd (And.intro k1 (And.intro k2 (And.intro k3 (And.intro hp hp6))))
  have ez9 : w9.cell? ⟨vb + 1, 0, none⟩ = some (.int .i64 0) := Lib.cell_of_heap HE9.out 0
  have yz9 : w9.frozen? ⟨vb + 1, 0, none⟩ = false := froz_of HE9.out
  obtain ⟨⟨d0, d1, d2, d3, d4, d5, d6, d7⟩, y0, y1, y2, y3, y4, y5, y6, y7⟩ := box8 HV9.out
  clear hx9 k1 k2 k3 hp hnf0 hl8
  go_wp2_with (fail)
  clear ez9 yz9 d0 d1 d2 d3 d4 d5 d6 d7 y0 y1 y2 y3 y4 y5 y6 y7
  have hk10 : Keep (fun k => k = vb) w9 (w9.setCell ⟨vb, 7, none⟩ (.int .i64 p)) := (Keep.refl (fun k => k = vb) w9).setCell (p := ⟨vb, 7, none⟩) (fun _ => rfl) _
  have hk11 : Keep (fun k => k = vb + 1) (w9.setCell ⟨vb, 7, none⟩ (.int .i64 p)) ((w9.setCell ⟨vb, 7, none⟩ (.int .i64 p)).setCell ⟨vb + 1, 0, none⟩ (.int .i64 0)) := (Keep.refl (fun k => k = vb + 1) _).setCell (p := ⟨vb + 1, 0, none⟩) (fun _ => rfl) _
  have hv10 : (w9.setCell ⟨vb, 7, none⟩ (.int .i64 p)).heap[vb]? = some (.cells #[.string b, .string item, .int .u64 0, .bool false, .bool false, .int .u64 now, .int .i64 size, .int .i64 p] 38 (0, 0)) := heap_setCell_same _ vb 7 _ _ _ HV9.out
  have he10 := hk10.at HE9.out (fun e => by omega)
  have he11 := heap_setCell_same _ (vb + 1) 0 _ _ (.int .i64 0) he10
  have hv11 := hk11.at hv10 (fun e => by omega)
  have hX10 := HX9.out.aside HSt.out hk10 (by have := HVb.out; omega) (HNf1.out vb (Nat.le_refl _) (by omega))
  have hX11 := hX10.aside HSt.out hk11 (by have := HVb.out; omega) (HNf1.out (vb + 1) (by omega) (Nat.le_refl _))
  obtain ⟨w10, hw10⟩ : ∃ w10, (w9.setCell ⟨vb, 7, none⟩ (.int .i64 p)).setCell ⟨vb + 1, 0, none⟩ (.int .i64 0) = w10 := ⟨_, rfl⟩
  rw [hw10] at he11 hv11 hX11 ⊢
  have HE10 := Hd he11
  have HV10 := Hd hv11
  have HX10 := Hd hX11
  clear hw10 hk10 hk11 hv10 he10 he11 hv11 hX10 hX11
  have hbr := HX10.out.step.br
  have hn10 := HN.out w10 s1 _ HX10.out.st HX10.out.step.pg rfl HP9.out.2.2.1 now size p hnow (by omega) (by omega)
  rw [hbr] at hn10
  rw [HP9.out.2.2.1] at hn10
  obtain ⟨y, hy⟩ : ∃ y, s.X.next + 1 = y := ⟨_, rfl⟩
  rw [hy] at hn10
  have HY := Hd hy
  have HN10 := Hd (show Calls Tryz.prog 46 #[.pointer (some ⟨s.br, 0, none⟩), .agg #[.string b, .string item, .int .u64 0, .bool false, .bool false, .int .u64 now, .int .i64 size, .int .i64 p]] w10 _ from hn10)
  clear hbr hn10 hy
  refine (HN10.out).mono ?_
  rintro e w11 ⟨rfl, s2, hx11, m1, m2, m3⟩
  have hl10 : vb + 1 < w10.heap.size := (Gl HE10.out)
  have HNf2 := Hd (show ∀ k, vb ≤ k → k ≤ vb + 1 → ¬ s2.foot k from fun k hk hk2 e => (hx11.step.foot k e).elim (HNf1.out k hk hk2) (fun e2 => by omega))
  have HE11 := Hd (hx11.step.keep.at HE10.out (HNf1.out _ (by omega) (Nat.le_refl _)))
  have HV11 := Hd (hx11.step.keep.at HV10.out (HNf1.out _ (Nat.le_refl _) (by omega)))
  have HX11 := Hd (HX10.out.trans hx11)
  have HM11 := Hd (And.intro m1 (And.intro m2 m3))
  have ez11 : w11.cell? ⟨vb + 1, 0, none⟩ = some (.int .i64 0) := Lib.cell_of_heap HE11.out 0
  have yz11 : w11.frozen? ⟨vb + 1, 0, none⟩ = false := froz_of HE11.out
  obtain ⟨⟨d0, d1, d2, d3, d4, d5, d6, d7⟩, y0, y1, y2, y3, y4, y5, y6, y7⟩ := box8 HV11.out
  clear hx11 m1 m2 m3 hl10
  go_wp2_with (fail)
  clear ez11 yz11 d0 d1 d2 d3 d4 d5 d6 d7 y0 y1 y2 y3 y4 y5 y6 y7
  have hv12 := set8_heap HV11.out (.string b) (.string item) (.int .u64 y) (.bool false) (.bool false) (.int .u64 now) (.int .i64 size) (.int .i64 p)
  have hk12 := set8_keep w11 vb (.string b) (.string item) (.int .u64 y) (.bool false) (.bool false) (.int .u64 now) (.int .i64 size) (.int .i64 p)
  have he12 := hk12.at HE11.out (fun e => by omega)
  have hX12 := HX11.out.aside HSt.out hk12 (by have := HVb.out; omega) (HNf2.out vb (Nat.le_refl _) (by omega))
  obtain ⟨w12, hw12⟩ : ∃ w12, set8 w11 vb (.string b) (.string item) (.int .u64 y) (.bool false) (.bool false) (.int .u64 now) (.int .i64 size) (.int .i64 p) = w12 := ⟨_, rfl⟩
  rw [hw12] at hv12 he12 hX12
  unfold set8 at hw12
  rw [hw12]
  have hk13 : Keep (fun k => k = vb + 1) w12 (w12.setCell ⟨vb + 1, 0, none⟩ (.int .i64 0)) := (Keep.refl (fun k => k = vb + 1) _).setCell (p := ⟨vb + 1, 0, none⟩) (fun _ => rfl) _
  have he13 := heap_setCell_same _ (vb + 1) 0 _ _ (.int .i64 0) he12
  have hv13 := hk13.at hv12 (fun e => by omega)
  have hX13 := hX12.aside HSt.out hk13 (by have := HVb.out; omega) (HNf2.out (vb + 1) (by omega) (Nat.le_refl _))
  obtain ⟨w13, hw13⟩ : ∃ w13, w12.setCell ⟨vb + 1, 0, none⟩ (.int .i64 0) = w13 := ⟨_, rfl⟩
  rw [hw13] at he13 hv13 hX13 ⊢
  clear hw12 hk12 he12 hX12 hv12 hk13 hw13
  have hv14 := set8_heap hv13 (.string b) (.string item) (.int .u64 y) (.bool false) (.bool false) (.int .u64 now) (.int .i64 size) (.int .i64 p)
  have hk14 := set8_keep w13 vb (.string b) (.string item) (.int .u64 y) (.bool false) (.bool false) (.int .u64 now) (.int .i64 size) (.int .i64 p)
  have he14 := hk14.at he13 (fun e => by omega)
  have hX14 := hX13.aside HSt.out hk14 (by have := HVb.out; omega) (HNf2.out vb (Nat.le_refl _) (by omega))
  obtain ⟨w14, hw14⟩ : ∃ w14, set8 w13 vb (.string b) (.string item) (.int .u64 y) (.bool false) (.bool false) (.int .u64 now) (.int .i64 size) (.int .i64 p) = w14 := ⟨_, rfl⟩
  rw [hw14] at hv14 he14 hX14
  unfold set8 at hw14
  rw [hw14]
  have hk15 : Keep (fun k => k = vb + 1) w14 (w14.setCell ⟨vb + 1, 0, none⟩ (.int .i64 0)) := (Keep.refl (fun k => k = vb + 1) _).setCell (p := ⟨vb + 1, 0, none⟩) (fun _ => rfl) _
  have he15 := heap_setCell_same _ (vb + 1) 0 _ _ (.int .i64 0) he14
  have hv15 := hk15.at hv14 (fun e => by omega)
  have hX15 := hX14.aside HSt.out hk15 (by have := HVb.out; omega) (HNf2.out (vb + 1) (by omega) (Nat.le_refl _))
  obtain ⟨w15, hw15⟩ : ∃ w15, w14.setCell ⟨vb + 1, 0, none⟩ (.int .i64 0) = w15 := ⟨_, rfl⟩
  rw [hw15] at he15 hv15 hX15 ⊢
  have e15 : w15.cell? ⟨vb + 1, 0, none⟩ = some (.int .i64 0) := Lib.cell_of_heap he15 0
  clear hw14 hk14 he14 hX14 hv14 hk15 hw15 he13 hv13 hX13
  refine leaves_cons (f := 39) (args := #[.pointer (some ⟨s.br, 0, none⟩), .int .i64 mk, .pointer (some ⟨vb + 1, 0, none⟩)]) (by simp) (by simp [go_sem]) ?_
  refine (vundo_idle _ _ _ _ e15 _).mono ?_
  rintro e u' w'' ⟨rfl, rfl, rfl⟩
  have e99 := e15
  have l1 := run_loadVar_row w'' vb 38 38 _ (0, 0) _ hv15 Tryz.underlying38 rfl (by kernel_rfl)
  simp [Leaves, settle, results, Tryz.results13]
  obtain ⟨a1, a2, a3, a4, a5⟩ := HP9.out
  obtain ⟨c1, c2, c3⟩ := HM11.out
  refine ⟨.tuple #[.agg #[.string b, .string item, .int .u64 y, .bool false, .bool false, .int .u64 now, .int .i64 size, .int .i64 p], .int .i64 0], ?_, size, p, by rw [← HY.out]; simp, ps, s2, hX15, ?_, by rw [c2, a2], by rw [c3, HY.out], by simpa using a4, a5, rfl⟩
  · simp [asAddr, l1, Result.andThen]
    simp [go_sem, e99]
  · rw [c1, a1, HY.out]
end
end Go.Proofs.YtaokjeokpifjgaaGreatDoor

namespace Go.Proofs.YtaokjeokpifjgaaGreatDoor
open Go.RowKit Go.MapKept
attribute [local go_sem] gives givesH
set_option maxRecDepth 100000

section
variable {w : World} {sb : Nat} {s : Sto} {D : Dict} {nz : Nat} {b item : ByteArray}
set_option maxHeartbeats 8000000 in
theorem vdel_st (h : StAt w sb s D nz) (hb : bucketOk b = true) {bo : Nat} (hlb : look s.X.kvM (bucketKey b) = some (bucketT 1 bo)) (hbo : bo < 18446744073709551616) (hi : itemOk item = true)
    (hn : nz + 3 ≤ 1900 ∧ 8 * (nz + 3) + 300 ≤ s.R.pages) (hx : s.X.next + 1 < 18446744073709551616) {now : Nat} (hnow : now < 18446744073709551616) :
    Calls Tryz.prog 14 #[.pointer (some ⟨s.br, 0, none⟩), .pointer (some ⟨sb, 0, none⟩), .string b, .string item, .int .u64 now] w fun e w' => ∃ s' : Sto, e = .returned (.tuple #[.agg (vC b item (s.X.next + 1) false true now 0 0), .int .i64 0]) ∧ XStep w s D sb (nz + 2) w' s' ∧ s'.X.kvM = ins s.X.kvM (versionKey b item (s.X.next + 1)) (verT (howN false true) now 0 0) ∧ s'.X.vb = s.X.vb ∧ s'.X.next = s.X.next + 1 := by
  have HM := Hd (fun (u : World) (hu : Below w.heap.size w u) => rmark_any (h.still hu).room)
  have HT := Hd (fun (u : World) (hu : Below w.heap.size w u) => there_ok (h.still hu) (by omega) hb hlb (by decide) hbo hi)
  have HN := Hd (fun (u : World) (hu : Below w.heap.size w u) => numbered_st (h.still hu) (by omega) hb hi true hx hnow (size := 0) (page := 0) (by decide) (by decide))
  have HSt := Hd h
  have HAh := Hd h.ahead
  obtain ⟨mk, hmk⟩ : ∃ mk, s.R.T.puts.length = mk := ⟨_, rfl⟩
  rw [hmk] at HM
  unfold bkC at HT
  unfold vC at HN ⊢
  clear hb hlb hi hmk h
  go_enter_defers Tryz.func14, Tryz.ntmps14
  go_wp2_with (fail)
  have hv2 := heap_alloc_new w (.cells #[.string ⟨#[]⟩, .string ⟨#[]⟩, .int .u64 0, .bool false, .bool false, .int .u64 0, .int .i64 0, .int .i64 0] 38)
  have hb1 : Below w.heap.size w (w.alloc (.cells #[.string ⟨#[]⟩, .string ⟨#[]⟩, .int .u64 0, .bool false, .bool false, .int .u64 0, .int .i64 0, .int .i64 0] 38)) := (Below.refl _ _).alloc (Nat.le_refl _) _
  have hs1 := World.size_alloc w (.cells #[.string ⟨#[]⟩, .string ⟨#[]⟩, .int .u64 0, .bool false, .bool false, .int .u64 0, .int .i64 0, .int .i64 0] 38)
  obtain ⟨w1, hw1⟩ : ∃ w1, w.alloc (.cells #[.string ⟨#[]⟩, .string ⟨#[]⟩, .int .u64 0, .bool false, .bool false, .int .u64 0, .int .i64 0, .int .i64 0] 38) = w1 := ⟨_, rfl⟩
  rw [hw1] at hv2 hb1 hs1 ⊢
  have hb2 := hb1.alloc hb1.size (.cells #[.int .i64 0] 29)
  have he2 := heap_alloc_new w1 (.cells #[.int .i64 0] 29)
  rw [hs1] at he2
  have hv3 : (w1.alloc (.cells #[.int .i64 0] 29)).heap[w.heap.size]? = _ := (Below.heap_alloc _ _ _ (by omega)).trans hv2
  obtain ⟨w2, hw2⟩ : ∃ w2, w1.alloc (.cells #[.int .i64 0] 29) = w2 := ⟨_, rfl⟩
  rw [hw2] at hb2 he2 hv3 ⊢
  have HB2 := Hd hb2
  have HE2 := Hd he2
  have HV2 := Hd hv3
  clear hv2 hb1 hs1 hw1 hb2 he2 hv3 hw2
  obtain ⟨vb, hvb⟩ : ∃ vb, w.heap.size = vb := ⟨_, rfl⟩
  have HVb := Hd hvb
  rw [hvb] at HE2 HV2 ⊢
  clear hvb
  refine (HM.out _ HB2.out).mono ?_
  rintro e _ ⟨rfl, rfl⟩
  go_wp2_with (fail)
  refine (HT.out _ HB2.out).mono ?_
  rintro e w3 ⟨rfl, hb3⟩
  have hb3' := HB2.out.trans (hb3.mono HB2.out.size)
  have he3 := (hb3.block _ (Gl HE2.out)).trans HE2.out
  have hv3 := (hb3.block _ (Gl HV2.out)).trans HV2.out
  have hbk : Below w3.heap.size w3 (w3.alloc (.cells #[.string b, .int .i64 1, .int .u64 bo, .bool false, .string ⟨#[]⟩, .int .u64 0] 89)) := (Below.refl _ _).alloc (Nat.le_refl _) _
  have hk4 := heap_alloc_new w3 (.cells #[.string b, .int .i64 1, .int .u64 bo, .bool false, .string ⟨#[]⟩, .int .u64 0] 89)
  have he4 := (hbk.block _ (Gl he3)).trans he3
  have hv4 := (hbk.block _ (Gl hv3)).trans hv3
  have hb4 := hb3'.trans (hbk.mono hb3'.size)
  have hl3 : vb + 1 < w3.heap.size := (Gl he3)
  have ez4 : (w3.alloc (.cells #[.string b, .int .i64 1, .int .u64 bo, .bool false, .string ⟨#[]⟩, .int .u64 0] 89)).cell? ⟨vb + 1, 0, none⟩ = some (.int .i64 0) := Lib.cell_of_heap he4 0
  have yz4 : (w3.alloc (.cells #[.string b, .int .i64 1, .int .u64 bo, .bool false, .string ⟨#[]⟩, .int .u64 0] 89)).frozen? ⟨vb + 1, 0, none⟩ = false := froz_of he4
  have e5 : ((w3.alloc (.cells #[.string b, .int .i64 1, .int .u64 bo, .bool false, .string ⟨#[]⟩, .int .u64 0] 89)).setCell ⟨vb + 1, 0, none⟩ (.int .i64 0)).cell? ⟨vb + 1, 0, none⟩ = some (.int .i64 0) := World.cell?_setCell_same _ _ _ ez4
  have hk5 : Keep (fun k => k = vb + 1) (w3.alloc (.cells #[.string b, .int .i64 1, .int .u64 bo, .bool false, .string ⟨#[]⟩, .int .u64 0] 89)) ((w3.alloc (.cells #[.string b, .int .i64 1, .int .u64 bo, .bool false, .string ⟨#[]⟩, .int .u64 0] 89)).setCell ⟨vb + 1, 0, none⟩ (.int .i64 0)) := (Keep.refl (fun k => k = vb + 1) _).setCell (p := ⟨vb + 1, 0, none⟩) (fun _ => rfl) _
  have HE5 := Hd (heap_setCell_same _ (vb + 1) 0 _ _ (.int .i64 0) he4)
  have HV5 := Hd (hk5.at hv4 (fun e => by omega))
  have HB5 := Hd (hb4.setCell (p := ⟨vb + 1, 0, none⟩) (by have := HVb.out; show w.heap.size ≤ vb + 1; omega) (.int .i64 0))
  have k5c : ((w3.alloc (.cells #[.string b, .int .i64 1, .int .u64 bo, .bool false, .string ⟨#[]⟩, .int .u64 0] 89)).setCell ⟨vb + 1, 0, none⟩ (.int .i64 0)).cell? ⟨w3.heap.size, 1, none⟩ = some (.int .i64 1) := Lib.cell_of_heap (hk5.at hk4 (fun e => by omega)) 1
  clear hb3 hb3' he3 hv3 hbk hk4 he4 hv4 hb4 hl3 hk5
  go_wp2_with (fail)
  clear e5 ez4 yz4 k5c
  obtain ⟨w10, hw10⟩ : ∃ w10, (w3.alloc (.cells #[.string b, .int .i64 1, .int .u64 bo, .bool false, .string ⟨#[]⟩, .int .u64 0] 89)).setCell ⟨vb + 1, 0, none⟩ (.int .i64 0) = w10 := ⟨_, rfl⟩
  rw [hw10] at HE5 HV5 HB5 ⊢
  clear hw10
  have hn10 := HN.out w10 HB5.out
  obtain ⟨y, hy⟩ : ∃ y, s.X.next + 1 = y := ⟨_, rfl⟩
  rw [hy] at hn10
  have HY := Hd hy
  have HN10 := Hd (show Calls Tryz.prog 46 #[.pointer (some ⟨s.br, 0, none⟩), .agg #[.string b, .string item, .int .u64 0, .bool false, .bool true, .int .u64 now, .int .i64 0, .int .i64 0]] w10 _ from hn10)
  clear hn10 hy
  have HE10 := Hd HE5.out
  have HV10 := Hd HV5.out
  have HX10 := Hd (XStep.still HSt.out HB5.out)
  have HNf1 := Hd (show ∀ k, vb ≤ k → k ≤ vb + 1 → ¬ s.foot k from fun k hk _ e => by have := HAh.out.2.2.2 _ e; have := HVb.out; omega)
  refine (HN10.out).mono ?_
  rintro e w11 ⟨rfl, s2, hx11, m1, m2, m3⟩
  have hl10 : vb + 1 < w10.heap.size := (Gl HE10.out)
  have HNf2 := Hd (show ∀ k, vb ≤ k → k ≤ vb + 1 → ¬ s2.foot k from fun k hk hk2 e => (hx11.step.foot k e).elim (HNf1.out k hk hk2) (fun e2 => by omega))
  have HE11 := Hd (hx11.step.keep.at HE10.out (HNf1.out _ (by omega) (Nat.le_refl _)))
  have HV11 := Hd (hx11.step.keep.at HV10.out (HNf1.out _ (Nat.le_refl _) (by omega)))
  have HX11 := Hd (HX10.out.trans hx11)
  have HM11 := Hd (And.intro m1 (And.intro m2 m3))
  have ez11 : w11.cell? ⟨vb + 1, 0, none⟩ = some (.int .i64 0) := Lib.cell_of_heap HE11.out 0
  have yz11 : w11.frozen? ⟨vb + 1, 0, none⟩ = false := froz_of HE11.out
  obtain ⟨⟨d0, d1, d2, d3, d4, d5, d6, d7⟩, y0, y1, y2, y3, y4, y5, y6, y7⟩ := box8 HV11.out
  clear hx11 m1 m2 m3 hl10
  go_wp2_with (fail)
  clear ez11 yz11 d0 d1 d2 d3 d4 d5 d6 d7 y0 y1 y2 y3 y4 y5 y6 y7
  have hv12 := set8_heap HV11.out (.string b) (.string item) (.int .u64 y) (.bool false) (.bool true) (.int .u64 now) (.int .i64 0) (.int .i64 0)
  have hk12 := set8_keep w11 vb (.string b) (.string item) (.int .u64 y) (.bool false) (.bool true) (.int .u64 now) (.int .i64 0) (.int .i64 0)
  have he12 := hk12.at HE11.out (fun e => by omega)
  have hX12 := HX11.out.aside HSt.out hk12 (by have := HVb.out; omega) (HNf2.out vb (Nat.le_refl _) (by omega))
  obtain ⟨w12, hw12⟩ : ∃ w12, set8 w11 vb (.string b) (.string item) (.int .u64 y) (.bool false) (.bool true) (.int .u64 now) (.int .i64 0) (.int .i64 0) = w12 := ⟨_, rfl⟩
  rw [hw12] at hv12 he12 hX12
  unfold set8 at hw12
  rw [hw12]
  have hk13 : Keep (fun k => k = vb + 1) w12 (w12.setCell ⟨vb + 1, 0, none⟩ (.int .i64 0)) := (Keep.refl (fun k => k = vb + 1) _).setCell (p := ⟨vb + 1, 0, none⟩) (fun _ => rfl) _
  have he13 := heap_setCell_same _ (vb + 1) 0 _ _ (.int .i64 0) he12
  have hv13 := hk13.at hv12 (fun e => by omega)
  have hX13 := hX12.aside HSt.out hk13 (by have := HVb.out; omega) (HNf2.out (vb + 1) (by omega) (Nat.le_refl _))
  obtain ⟨w13, hw13⟩ : ∃ w13, w12.setCell ⟨vb + 1, 0, none⟩ (.int .i64 0) = w13 := ⟨_, rfl⟩
  rw [hw13] at he13 hv13 hX13 ⊢
  clear hw12 hk12 he12 hX12 hv12 hk13 hw13
  have hv14 := set8_heap hv13 (.string b) (.string item) (.int .u64 y) (.bool false) (.bool true) (.int .u64 now) (.int .i64 0) (.int .i64 0)
  have hk14 := set8_keep w13 vb (.string b) (.string item) (.int .u64 y) (.bool false) (.bool true) (.int .u64 now) (.int .i64 0) (.int .i64 0)
  have he14 := hk14.at he13 (fun e => by omega)
  have hX14 := hX13.aside HSt.out hk14 (by have := HVb.out; omega) (HNf2.out vb (Nat.le_refl _) (by omega))
  obtain ⟨w14, hw14⟩ : ∃ w14, set8 w13 vb (.string b) (.string item) (.int .u64 y) (.bool false) (.bool true) (.int .u64 now) (.int .i64 0) (.int .i64 0) = w14 := ⟨_, rfl⟩
  rw [hw14] at hv14 he14 hX14
  unfold set8 at hw14
  rw [hw14]
  have hk15 : Keep (fun k => k = vb + 1) w14 (w14.setCell ⟨vb + 1, 0, none⟩ (.int .i64 0)) := (Keep.refl (fun k => k = vb + 1) _).setCell (p := ⟨vb + 1, 0, none⟩) (fun _ => rfl) _
  have he15 := heap_setCell_same _ (vb + 1) 0 _ _ (.int .i64 0) he14
  have hv15 := hk15.at hv14 (fun e => by omega)
  have hX15 := hX14.aside HSt.out hk15 (by have := HVb.out; omega) (HNf2.out (vb + 1) (by omega) (Nat.le_refl _))
  obtain ⟨w15, hw15⟩ : ∃ w15, w14.setCell ⟨vb + 1, 0, none⟩ (.int .i64 0) = w15 := ⟨_, rfl⟩
  rw [hw15] at he15 hv15 hX15 ⊢
  have e15 : w15.cell? ⟨vb + 1, 0, none⟩ = some (.int .i64 0) := Lib.cell_of_heap he15 0
  clear hw14 hk14 he14 hX14 hv14 hk15 hw15 he13 hv13 hX13
  refine leaves_cons (f := 39) (args := #[.pointer (some ⟨s.br, 0, none⟩), .int .i64 mk, .pointer (some ⟨vb + 1, 0, none⟩)]) (by simp) (by simp [go_sem]) ?_
  refine (vundo_idle _ _ _ _ e15 _).mono ?_
  rintro e u' w'' ⟨rfl, rfl, rfl⟩
  have e99 := e15
  have l1 := run_loadVar_row w'' vb 38 38 _ (0, 0) _ hv15 Tryz.underlying38 rfl (by kernel_rfl)
  simp [Leaves, settle, results, Tryz.results14]
  obtain ⟨c1, c2, c3⟩ := HM11.out
  refine ⟨.tuple #[.agg #[.string b, .string item, .int .u64 y, .bool false, .bool true, .int .u64 now, .int .i64 0, .int .i64 0], .int .i64 0], ?_, by rw [← HY.out]; simp, s2, hX15, ?_, c2, by rw [c3, HY.out]⟩
  · simp [asAddr, l1, Result.andThen]
    simp [go_sem, e99]
  · rw [c1, HY.out]
end
end Go.Proofs.YtaokjeokpifjgaaGreatDoor

namespace Go.Proofs.YtaokjeokpifjgaaGreatDoor
open Go.RowKit Go.MapKept
attribute [local go_sem] gives givesH
set_option maxRecDepth 100000

structure Vr where
  id : Nat
  gone : Bool
  born : Nat
  size : Nat
  page : Nat
def Vr.ok (x : Vr) : Prop := x.id < 18446744073709551616 ∧ x.born < 18446744073709551616 ∧ x.size < 4294967296 ∧ x.page < 4294967296
def Vr.kv (b item : ByteArray) (x : Vr) : ByteArray × ByteArray := (versionKey b item x.id, verT (howN false x.gone) x.born x.size x.page)
def Vr.cells (b item : ByteArray) (x : Vr) : List Value := [.string b, .string item, .int .u64 x.id, .bool false, .bool x.gone, .int .u64 x.born, .int .i64 x.size, .int .i64 x.page]
def vrV (b item : ByteArray) (l : List Vr) : List Value := l.flatMap (Vr.cells b item)
theorem vrV_snoc (b item : ByteArray) (l : List Vr) (x : Vr) : vrV b item (l ++ [x]) = vrV b item l ++ x.cells b item := by unfold vrV; rw [List.flatMap_append]; simp
theorem infoVer : (Tryz.prog.info? 38).map (fun i => (i.zero, i.size, i.bytes)) = some (some (.agg #[.string ⟨#[]⟩, .string ⟨#[]⟩, .int .u64 0, .bool false, .bool false, .int .u64 0, .int .i64 0, .int .i64 0]), 8, 72) := by kernel_rfl
def underV (b item : ByteArray) : ByteArray := underS 118 [b, item]
def behindV (b item : ByteArray) : ByteArray := vB ++ (b ++ zB ++ item) ++ ⟨#[1]⟩
theorem underV_eq (b item : ByteArray) : underV b item = vB ++ (b ++ zB ++ item) ++ ⟨#[0]⟩ := by
  apply ByteArray.ext
  apply Array.toList_inj.1
  unfold underV underS underL vB zB
  simp
section
variable {w : World} {sb : Nat} {s : Sto} {D : Dict} {nz : Nat} {b item : ByteArray}
set_option maxHeartbeats 4000000 in
theorem vlist_st (h : StAt w sb s D nz) (hn : nz ≤ 1900) (hb : bucketOk b = true) (hi : itemOk item = true) (limit : Int) {Vs : List Vr} (hok : ∀ x ∈ Vs, x.ok) (hL : scanL (underV b item) (behindV b item) limit s.X.kvM = Vs.map (Vr.kv b item)) :
    Calls Tryz.prog 47 #[.pointer (some ⟨s.br, 0, none⟩), .string b, .string item, .int .i64 limit] w fun e w' => ∃ v B, e = .returned (.tuple #[v, .int .i64 0]) ∧ w'.ownsRow B 38 8 v Vs.length (vrV b item Vs) ∧ w.heap.size ≤ B ∧ Below w.heap.size w w' := by
  obtain ⟨b0, b1⟩ := bucketOk_zero hb
  obtain ⟨i0', i1⟩ := itemOk_zero hi
  have HU := Hd (fun (u : World) => show Calls Tryz.prog 107 #[.int .u8 118, .slice (some ⟨u.heap.size, 0, none⟩) 2 2] (u.alloc (.cells #[.string b, .string item] 9)) fun e w' => e = .returned (.string (underV b item)) ∧ Below (u.alloc (.cells #[.string b, .string item] 9)).heap.size (u.alloc (.cells #[.string b, .string item] 9)) w' from under2_any b item ⟨b0, by omega⟩ ⟨i0', by omega⟩ 118 u)
  have HBe := Hd (behind_any (vB ++ (b ++ zB ++ item)) (by rw [ByteArray.size_append, ByteArray.size_append, ByteArray.size_append]; show 1 + (b.size + 1 + item.size) ≤ 1000; omega) 0 (by decide))
  rw [← underV_eq] at HBe
  rw [show vB ++ (b ++ zB ++ item) ++ (⟨#[UInt8.ofNat ((0 : UInt8).toNat + 1)]⟩ : ByteArray) = behindV b item from rfl] at HBe
  have HM := Hd (vmeta_any s.br)
  have HSc := Hd (fun (u : World) tb (hu : Below w.heap.size w u) (ht : TreeAt u tb s.br 4) => tscan_ex (from_ := underV b item) (to_ := behindV b item) (limit := limit) ht (h.room.still hu) h.sized.pages (by decide) h.cont.out.tm (by have := h.sized.m; omega))
  rw [hL] at HSc
  have hfew : Vs.length ≤ 2000 := by
    have h1 := (scanL_more (underV b item) (behindV b item) limit s.X.kvM).2
    rw [hL, List.length_map] at h1
    have := h.sized.m
    omega
  have HRd := Hd (fun (x : Vr) (hx : x.ok) => vread_any hb hi x.gone hx.1 hx.2.1 hx.2.2.1 hx.2.2.2)
  have HOk := Hd hok
  obtain ⟨i0, hi0, hz0, hz1, hz2⟩ := info_parts infoVer
  have HI := Hd hi0
  have Hz0 := Hd hz0
  have Hz1 := Hd hz1
  have Hz2 := Hd hz2
  obtain ⟨uv, huv⟩ : ∃ uv, underV b item = uv := ⟨_, rfl⟩
  obtain ⟨bv, hbv⟩ : ∃ bv, behindV b item = bv := ⟨_, rfl⟩
  rw [huv] at HU HBe HSc
  rw [hbv] at HBe HSc
  obtain ⟨n, hnn⟩ : ∃ n, Vs.length = n := ⟨_, rfl⟩
  have HN := Hd hnn
  rw [hnn] at hfew ⊢
  unfold vC at HRd
  clear h hb hi b0 b1 i0' i1 hok hL hi0 hz0 hz1 hz2 huv hbv hnn
  go_enter Tryz.func47, Tryz.ntmps47
  go_wp2_with (first
    | (go_at_call 107; refine (HU.out _).mono ?_; rintro e w1 ⟨rfl, hb1⟩
       have HB1 := Hd (show Below w.heap.size w w1 from ((Below.refl _ _).alloc (Nat.le_refl _) _).trans (hb1.mono (by simp)))
       clear hb1)
    | (go_at_call 108; refine (HM.out _).mono ?_; rintro e w2 ⟨rfl, hw2⟩
       have hb2 : Below w1.heap.size w1 w2 := by rw [hw2]; exact (Below.refl _ _).alloc (Nat.le_refl _) _
       have HT2 := Hd (show w2.heap[w1.heap.size]? = some (.cells #[.pointer (some ⟨s.br, 0, none⟩), .int .i64 4] 242 (0, 0)) by rw [hw2]; exact heap_alloc_new w1 _)
       have HB2 := Hd (HB1.out.trans (hb2.mono HB1.out.size))
       clear hb2 hw2)
    | (go_at_call 110; refine (HBe.out _).mono ?_; rintro e w3 ⟨rfl, hb3⟩
       have HT3 := Hd ((hb3.block w1.heap.size (Gl HT2.out)).trans HT2.out)
       have HB3 := Hd (HB2.out.trans (hb3.mono HB2.out.size))
       clear hb3)
    | (go_at_call 109; refine (HSc.out _ _ HB3.out ⟨HT3.out⟩).mono ?_; rintro e w4 ⟨v, rfl, hrow, hown, hb4⟩
       obtain ⟨sa, sc, rfl⟩ := slice_formB hrow
       have HRow := Hd hrow
       have HB4 := Hd (HB3.out.trans (hb4.mono HB3.out.size))
       clear hrow hown hb4))
  rw [List.length_map, HN.out] at HRow
  try rw [HN.out]
  go_loopw [13, 15, 16, 17, 37] (fun o _ _ _ i wr => ∃ k, k ≤ n ∧ i = .int .i64 k ∧ wr.ownsRow w4.heap.size 38 8 o k (vrV b item (Vs.take k)) ∧ Below w4.heap.size w4 wr) (fun _ _ _ _ i _ => n - (intOf i).toNat)
  case atStart => exact ⟨0, by omega, rfl, World.ownsRow_nil _ _ _ _, Below.refl _ _⟩
  case round =>
    obtain ⟨k, hk, rfl, hro, hbel⟩ := hrel
    have HRo := Hd hro
    have HB := Hd hbel
    obtain ⟨oa, oc, hov⟩ := slice_formB hro
    subst hov
    clear hro
    by_cases hlt : k < n
    · have g1 : decide ((k : Int) < (n : Int)) = true := by simp; omega
      have g1' : decide (k < n) = true := by simpa using hlt
      obtain ⟨gs, cs, hs, hc1, hc2, hgB⟩ := row_posB HRow.out (by omega)
      obtain ⟨e1, e2, e3⟩ := Value.slice.inj hs
      subst e1
      have hkl : k < Vs.length := by rw [HN.out]; exact hlt
      have hkl2 : k < (Vs.map (Vr.kv b item)).length := by rw [List.length_map]; exact hkl
      obtain ⟨pa, pb⟩ := prV_at hkl2
      have hgl := (HRow.out.lt gs rfl).2
      have q0 : wr.cell? ⟨gs, k * 2, none⟩ = some (.string (Vs[k].kv b item).1) := by rw [hbel.cell (p := ⟨gs, k * 2, none⟩) hgl]; have := row_cells HRow.out _ _ pa; rwa [List.getElem_map] at this
      have q1 : wr.cell? ⟨gs, k * 2 + 1, none⟩ = some (.string (Vs[k].kv b item).2) := by rw [hbel.cell (p := ⟨gs, k * 2 + 1, none⟩) hgl]; have := row_cells HRow.out _ _ pb; rwa [List.getElem_map] at this
      have hok := HOk.out _ (List.getElem_mem hkl)
      have htk : Vs.take (k + 1) = Vs.take k ++ [Vs[k]] := List.take_succ_eq_append_getElem hkl
      obtain ⟨x, hx⟩ : ∃ x, Vs[k] = x := ⟨_, rfl⟩
      rw [hx] at q0 q1 hok htk
      have HR2 := Hd (HRd.out x hok)
      obtain ⟨id, mk, born, size, page⟩ := x
      unfold Vr.kv at q0 q1
      simp only at q0 q1 HR2
      obtain ⟨key, hkey⟩ : ∃ key, versionKey b item id = key := ⟨_, rfl⟩
      obtain ⟨val, hval⟩ : ∃ val, verT (howN false mk) born size page = val := ⟨_, rfl⟩
      rw [hkey] at q0 HR2
      rw [hval] at q1 HR2
      have HTk := Hd htk
      have hk0 : (k : Int) < (n : Int) := by omega
      have hnl : (n : Int) ≤ 2000 := by omega
      have HGl := Hd hgl
      have HN2 := Hd hfew
      clear hs e2 e3 pa pb hok htk hx hkey hval hkl2 hgl
      go_wp2_with (first
        | (go_at_call 111; refine (HR2.out _).mono ?_; rintro e w5 ⟨rfl, hb5⟩
           have hb5' : Below wr.heap.size wr w5 := ((Below.refl _ _).alloc (Nat.le_refl _) _).trans (hb5.mono (by simp))
           have HB5 := Hd hb5'
           have HRo5 := Hd ((Keep.ofBelow (S := fun _ => False) hb5').ownsRow HRo.out (fun _ _ e => e))
           have hx5 := heap_alloc_new w5 (.cells #[.string b, .string item, .int .u64 id, .bool false, .bool mk, .int .u64 born, .int .i64 size, .int .i64 page] 38)
           obtain ⟨⟨d0, d1, d2, d3, d4, d5, d6, d7⟩, -⟩ := box8 hx5
           have hx6 := heap_alloc_new (w5.alloc (.cells #[.string b, .string item, .int .u64 id, .bool false, .bool mk, .int .u64 born, .int .i64 size, .int .i64 page] 38)) (.cells #[.string b, .string item, .int .u64 id, .bool false, .bool mk, .int .u64 born, .int .i64 size, .int .i64 page] 38)
           rw [World.size_alloc] at hx6
           have HX6 := Hd hx6
           clear hb5 hb5' hx5 hx6)
        | (at_builtin
           refine wpList_append_own_at _ (by rfl) _ _ 111 (by rfl) w4.heap.size 38 i0 (.agg #[.string ⟨#[]⟩, .string ⟨#[]⟩, .int .u64 0, .bool false, .bool false, .int .u64 0, .int .i64 0, .int .i64 0]) 8 72 Tryz.underlying111 HI.out Hz0.out Hz1.out Hz2.out (by rfl) (by decide) (.slice oa k oc) _ _ (by rfl) ((HRo5.out.alloc _).alloc _) ⟨w5.heap.size + 1, 0, none⟩ 1 1 [.string b, .string item, .int .u64 id, .bool false, .bool mk, .int .u64 born, .int .i64 size, .int .i64 page] (by rfl) (by rfl) (World.news_of_block (cs := #[.string b, .string item, .int .u64 id, .bool false, .bool mk, .int .u64 born, .int .i64 size, .int .i64 page]) (t := 38) (fr := (0, 0)) HX6.out) (by simp [Value.oneCell']) (by unfold maxLen; omega) (by omega) ?_ ?_
           · have h1 := HB.out.size; have h2 := HB5.out.size; simp; omega
           intro v8 w8 hown8 hg8 hnil8 hloc8
           have HO8 := Hd hown8
           have hk8 := (((Keep.refl (fun q => (Value.slice oa k oc).ownBlock = some q) w5).alloc (.cells #[.string b, .string item, .int .u64 id, .bool false, .bool mk, .int .u64 born, .int .i64 size, .int .i64 page] 38)).alloc (.cells #[.string b, .string item, .int .u64 id, .bool false, .bool mk, .int .u64 born, .int .i64 size, .int .i64 page] 38)).grown hg8 (fun q _ e => e)
           have HB8 := Hd (show Below w4.heap.size w4 w8 from (HB.out.trans (HB5.out.mono HB.out.size)).trans (hk8.below (by have h1 := HB.out.size; have h2 := HB5.out.size; omega) (fun z hz e => by have := (HRo.out.lt z e).1; omega)))
           obtain ⟨p8, c8, hv8⟩ := slice_formB hown8
           subst hv8
           clear hown8 hg8 hnil8 hloc8 hk8))
      go_roundw
      case rel => exact ⟨k + 1, by omega, by go_num, by rw [HTk.out, vrV_snoc]; exact HO8.out, HB8.out⟩
      case measure => simp [intOf]; omega
    · obtain rfl : k = n := by omega
      have htk : Vs.take k = Vs := by rw [← HN.out, List.take_length]
      rw [htk] at HRo
      clear hbel htk
      go_wp2
      go_ret2
      exact ⟨_, _, rfl, HRo.out, HB4.out.size, HB4.out.trans (HB.out.mono HB4.out.size)⟩
end
end Go.Proofs.YtaokjeokpifjgaaGreatDoor

namespace Go.Proofs.YtaokjeokpifjgaaGreatDoor
open Go.RowKit Go.MapKept
attribute [local go_sem] gives givesH
set_option maxRecDepth 100000

section
variable {w : World} {sb : Nat} {s : Sto} {D : Dict} {nz : Nat} {b item : ByteArray}
set_option maxHeartbeats 2000000 in
theorem vfind_gone (h : StAt w sb s D nz) (hn : nz ≤ 1900) (hb : bucketOk b = true) {st bo : Nat} (hlb : look s.X.kvM (bucketKey b) = some (bucketT st bo)) (hst : st < 256) (hbo : bo < 18446744073709551616) (hi : itemOk item = true) {id born size page : Nat}
    (hok : Vr.ok ⟨id, true, born, size, page⟩) (hL : scanL (underV b item) (behindV b item) 1 s.X.kvM = [Vr.kv b item ⟨id, true, born, size, page⟩]) :
    Calls Tryz.prog 15 #[.pointer (some ⟨s.br, 0, none⟩), .string b, .string item, .int .u64 0] w fun e w' => e = .returned (.tuple #[.agg vZ, .int .i64 23]) ∧ Below w.heap.size w w' := by
  unfold vZ
  have hb0 : Below w.heap.size w (w.alloc (.cells #[.string ⟨#[]⟩, .string ⟨#[]⟩, .int .u64 0, .bool false, .bool false, .int .u64 0, .int .i64 0, .int .i64 0] 38)) := (Below.refl _ _).alloc (Nat.le_refl _) _
  have hx0 := heap_alloc_new w (.cells #[.string ⟨#[]⟩, .string ⟨#[]⟩, .int .u64 0, .bool false, .bool false, .int .u64 0, .int .i64 0, .int .i64 0] 38)
  have HT := Hd (there_ok (h.still hb0) hn hb hlb hst hbo hi)
  have HG := Hd (fun (u : World) (hu : Below w.heap.size w u) => vlist_st (h.still hu) hn hb hi 1 (Vs := [⟨id, true, born, size, page⟩]) (fun x hx => by rw [List.mem_singleton.1 hx]; exact hok) hL)
  unfold bkC at *
  have HB0 := Hd hb0
  have HX0 := Hd hx0
  clear h hb hi hL hb0 hx0 hlb
  go_enter Tryz.func15, Tryz.ntmps15
  go_wp2_with (first
    | (go_at_call 41; refine (HT.out).mono ?_; rintro e w1 ⟨rfl, hb1⟩
       have hx1 := (hb1.block w.heap.size (by simp)).trans HX0.out
       have hb1' := HB0.out.trans (hb1.mono HB0.out.size)
       have hb2 : Below w1.heap.size w1 (w1.alloc (.cells #[.string b, .int .i64 st, .int .u64 bo, .bool false, .string ⟨#[]⟩, .int .u64 0] 89)) := (Below.refl _ _).alloc (Nat.le_refl _) _
       have HX2 := Hd ((hb2.block w.heap.size (Gl hx1)).trans hx1)
       have HB2 := Hd (hb1'.trans (hb2.mono hb1'.size))
       clear hb1 hx1 hb1' hb2)
    | (go_at_call 47; refine (HG.out _ HB2.out).mono ?_; rintro e w4 ⟨v, B, rfl, hrow, hB, hb4⟩
       have hrow1 : w4.ownsRow B 38 8 v 1 (vrV b item [⟨id, true, born, size, page⟩]) := hrow
       obtain ⟨g, c, rfl, hc1, hc2, hgB⟩ := row_posB hrow1 (by decide)
       have k4 : w4.cell? ⟨g, 4, none⟩ = some (.bool true) := row_cells hrow1 4 _ rfl
       have hx4 := (hb4.block w.heap.size (Gl HX2.out)).trans HX2.out
       have HX4 := Hd hx4
       have HB4 := Hd (HB2.out.trans (hb4.mono HB2.out.size))
       obtain ⟨⟨d0, d1, d2, d3, d4, d5, d6, d7⟩, y0, y1, y2, y3, y4, y5, y6, y7⟩ := box8 hx4
       clear hb4 hx4 hrow hrow1))
  refine bodyPost_ret (results_box2 rfl _ _ w.heap.size _ _ _ _ rfl (set8_heap HX4.out _ _ _ _ _ _ _ _) Tryz.underlying38 rfl (by kernel_rfl)) rfl ?_
  exact ⟨rfl, set8_below HB4.out (Nat.le_refl _) _ _ _ _ _ _ _ _⟩
end
end Go.Proofs.YtaokjeokpifjgaaGreatDoor

namespace Go.Proofs.YtaokjeokpifjgaaGreatDoor
open Go.RowKit Go.MapKept
attribute [local go_sem] gives givesH
set_option maxRecDepth 100000

theorem chunksAt_any (br : Nat) (w : World) :
    Calls Tryz.prog 31 #[.pointer (some ⟨br, 0, none⟩)] w fun e w' => e = .returned (.pointer (some ⟨w.heap.size + 2, 0, none⟩)) ∧ w' = ((w.alloc (.cells #[.pointer (some ⟨br, 0, none⟩), .int .i64 0] 242)).alloc (.cells #[.pointer (some ⟨br, 0, none⟩), .int .i64 1] 242)).alloc (.cells #[.pointer (some ⟨br, 0, none⟩), .pointer (some ⟨w.heap.size, 0, none⟩), .pointer (some ⟨w.heap.size + 1, 0, none⟩)] 173) := by
  have T0 : ∀ u : World, Calls Tryz.prog 83 #[.pointer (some ⟨br, 0, none⟩), .int .i64 0] u fun e w' => e = .returned (.pointer (some ⟨u.heap.size, 0, none⟩)) ∧ u.alloc (.cells #[.pointer (some ⟨br, 0, none⟩), .int .i64 0] 242) = w' := fun u => (treeAt_any br 0 u).mono fun e w' ⟨a, b⟩ => ⟨a, b.symm⟩
  have T1 : ∀ u : World, Calls Tryz.prog 83 #[.pointer (some ⟨br, 0, none⟩), .int .i64 1] u fun e w' => e = .returned (.pointer (some ⟨u.heap.size, 0, none⟩)) ∧ u.alloc (.cells #[.pointer (some ⟨br, 0, none⟩), .int .i64 1] 242) = w' := fun u => (treeAt_any br 1 u).mono fun e w' ⟨a, b⟩ => ⟨a, b.symm⟩
  have HT0 := Hd (T0 w)
  have HT1 := Hd T1
  clear T0 T1
  go_enter Tryz.func31, Tryz.ntmps31
  go_wp2_with (fail)
  refine (HT0.out).mono ?_
  rintro e _ ⟨rfl, rfl⟩
  go_wp2_with (fail)
  refine (HT1.out _).mono ?_
  rintro e _ ⟨rfl, rfl⟩
  go_wp2
  go_ret
  refine ⟨?_, ?_⟩
  · simp
  · simp
theorem rootUp_zeros (k i : Nat) : rootUp (zeros 512) k i = 0 := by
  induction i with
  | zero => rfl
  | succ i ih => rw [rootUp_succ, ih, byteN_zeros]
set_option maxHeartbeats 1000000 in
theorem wide15_any (n : Nat) (hn1 : 4 ≤ n) (hn2 : n ≤ 65335) (w : World) :
    Calls Tryz.prog 9 #[.int .i64 n] w fun e w' => ∃ sb s, e = .returned (.tuple #[.pointer (some ⟨s.br, 0, none⟩), .pointer (some ⟨sb, 0, none⟩)]) ∧ StAt w' sb s (fun _ => none) 0 ∧ s.X = ⟨[], [], [], 0⟩ ∧ s.kvI = [] ∧ s.R.pages = (pagesOf n).toNat ∧ (∀ g, s.foot g → w.heap.size ≤ g) ∧ Below w.heap.size w w' := by
  have HW := Hd (wide_any n hn1 hn2 w)
  go_enter Tryz.func9, Tryz.ntmps9
  go_wp2_with (first
    | (go_at_call 28; refine (HW.out).mono ?_; rintro e w1 ⟨bd, bl, rfl, hv, hb1⟩
       have HV := Hd (begin_any hv)
       have HB1 := Hd hb1
       clear hv hb1)
    | (go_at_call 30; refine (HV.out).mono ?_; rintro e w2 ⟨bt, T, rfl, hT, hA, hbt, hb2⟩
       have hTn : T.n = n := by rw [hT]; rfl
       have HO := Hd (of_any hA (by omega))
       have HB2 := Hd (HB1.out.trans (hb2.mono HB1.out.size))
       have HT := Hd hT
       have HBt := Hd hbt
       have HTn := Hd hTn
       clear hT hA hbt hb2 hTn)
    | (go_at_call 29; refine (HO.out).mono ?_; rintro e w3 ⟨br, R, rfl, hR, hRb, hRT, hp, hbr, hb3⟩
       have HB3 := Hd (HB2.out.trans (hb3.mono HB2.out.size))
       have HR := Hd hR
       have HR2 := Hd (And.intro hRb (And.intro hRT (And.intro hp hbr)))
       clear hR hRb hRT hp hbr hb3)
    | (go_at_call 31; refine (chunksAt_any _ _).mono ?_; rintro e w4 ⟨rfl, hw4⟩
       skip))
  subst hw4
  go_ret2
  have hF : Fresh R n := ⟨by rw [HR2.out.2.1]; exact HTn.out, by rw [HR2.out.2.1, HT.out]; rfl, fun i => by rw [HR2.out.2.1, HT.out]; rfl, by rw [HR2.out.2.2.1, HTn.out]⟩
  have hp : R.pages = (pagesOf n).toNat := hF.pages
  have hp2 : R.pages ≤ 65536 := by
    rw [hp]; unfold pagesOf; split <;> omega
  have hr : ∀ k, R.root k = 0 := fun k => by unfold RoomS.root; rw [hF.home]; exact rootUp_zeros k 8
  obtain ⟨n1, n2, n3, n4⟩ := SealG.new3 w3 (.cells #[.pointer (some ⟨br, 0, none⟩), .int .i64 0] 242) (.cells #[.pointer (some ⟨br, 0, none⟩), .int .i64 1] 242) (.cells #[.pointer (some ⟨br, 0, none⟩), .pointer (some ⟨w3.heap.size, 0, none⟩), .pointer (some ⟨w3.heap.size + 1, 0, none⟩)] 173)
  have hlt : ∀ k, R.foot br k → k < w3.heap.size := fun k hk => by
    rcases hk with e | e
    · rw [e]; exact (Gl HR.out.cells)
    · exact HR.out.tx.foot_lt e
  refine ⟨_, ⟨br, w3.heap.size, w3.heap.size + 1, R, [], [], [], [], [], ⟨[], [], [], 0⟩⟩, rfl, ⟨n3, ⟨n1⟩, ⟨n2⟩, HR.out.still n4, fun e => ?_, fun e => ?_, fun e => ?_, ?_, ?_⟩, rfl, rfl, hp, fun g hg => ?_, HB3.out.trans (n4.mono HB3.out.size)⟩
  · exact absurd (hlt _ e) (by omega)
  · exact absurd (hlt _ e) (Nat.lt_irrefl _)
  · exact absurd (hlt _ e) (Nat.not_lt.2 (Nat.le_succ _))
  · exact ⟨.inl ⟨hr 0, rfl, rfl⟩, .inl ⟨hr 1, rfl, rfl⟩, List.nodup_nil, fun q _ e => (by rw [hF.has q] at e; cases e), fun q e => (by cases e), fun id t e => (by cases e), fun _ _ => rfl, fun x e => (by cases e), ⟨.inl ⟨hr 4, rfl, rfl⟩, fun b e => (by cases e), hr 5⟩, fun q e => (by cases e), List.nodup_nil⟩
  · exact ⟨Nat.le_refl _, Nat.le_refl _, Nat.le_refl _, Nat.le_refl _, hp2, by show R.T.puts.length ≤ _; rw [hF.puts]; exact Nat.zero_le _, by rw [hr 2]; exact Nat.le_refl _, Nat.le_refl _, Nat.le_refl _⟩
  · rcases hg with e | e
    · rw [e]; exact Nat.le_trans HB2.out.size HR2.out.2.2.2
    · rw [HR2.out.1, HR2.out.2.1, HT.out] at e
      have h1 := HB1.out.size
      have h2 := HBt.out
      rcases e with e | e | e | e | ⟨i, v, e, _⟩
      · omega
      · rw [e]; exact h1
      · exact e.1
      · cases e
      · cases e
end Go.Proofs.YtaokjeokpifjgaaGreatDoor

namespace Go.Proofs.YtaokjeokpifjgaaGreatDoor
open Go.RowKit Go.MapKept
attribute [local go_sem] gives givesH
set_option maxRecDepth 100000

def got (D : Dict) (r : ByteArray × Int) : Option ByteArray := match D r.1 with
  | some t => if (t.size : Int) = r.2 then some t else none
  | none => none
def texts (D : Dict) : RefL → Option (List ByteArray)
  | [] => some []
  | r :: l => match got D r with
    | some t => (texts D l).map (t :: ·)
    | none => none
theorem texts_snoc (D : Dict) (l : RefL) (r : ByteArray × Int) (t : ByteArray) (ts : List ByteArray) (h : texts D l = some ts) (ht : got D r = some t) : texts D (l ++ [r]) = some (ts ++ [t]) := by
  induction l generalizing ts with
  | nil => simp [texts] at h; subst h; simp [texts, ht]
  | cons x l ih =>
    rw [texts] at h
    rw [List.cons_append, texts]
    cases hx : got D x with
    | none => rw [hx] at h; cases h
    | some u =>
      rw [hx] at h
      simp only at h
      cases hl : texts D l with
      | none => rw [hl] at h; cases h
      | some ts' =>
        rw [hl] at h
        have h' : u :: ts' = ts := Option.some.inj h
        subst h'
        rw [ih ts' hl]
        rfl
theorem texts_none (D : Dict) (l : RefL) (k : Nat) (r : ByteArray × Int) (h : l[k]? = some r) (hr : got D r = none) : texts D l = none := by
  induction l generalizing k with
  | nil => simp at h
  | cons x l ih =>
    rw [texts]
    cases k with
    | zero => simp at h; subst h; rw [hr]
    | succ k =>
      have h' : l[k]? = some r := by simpa using h
      cases got D x with
      | none => rfl
      | some u => simp only; rw [ih k h']; rfl
theorem texts_len (D : Dict) (l : RefL) (hok : l.all okRef = true) (ts : List ByteArray) (h : texts D l = some ts) : (ts.flatMap SealG.bl).length ≤ 128 * l.length := by
  induction l generalizing ts with
  | nil => simp [texts] at h; subst h; simp
  | cons x l ih =>
    rw [List.all_cons, Bool.and_eq_true, okRef_iff] at hok
    rw [texts] at h
    unfold got at h
    cases hx : D x.1 with
    | none => rw [hx] at h; cases h
    | some u =>
      rw [hx] at h
      by_cases e : (u.size : Int) = x.2
      · simp only [if_pos e] at h
        cases hl : texts D l with
        | none => rw [hl] at h; cases h
        | some ts' =>
          rw [hl] at h
          have h' : u :: ts' = ts := Option.some.inj h
          subst h'
          have := ih hok.2 ts' hl
          rw [List.flatMap_cons, List.length_append, SealG.bl_length, List.length_cons]
          omega
      · simp only [if_neg e] at h; cases h
theorem got_ok {D : Dict} {id t : ByteArray} {len : Int} (h : D id = some t) (e : (t.size : Int) = len) : got D (id, len) = some t := by unfold got; simp only [h, if_pos e]
end Go.Proofs.YtaokjeokpifjgaaGreatDoor

namespace Go.Proofs.YtaokjeokpifjgaaGreatDoor
open Go.RowKit Go.MapKept
attribute [local go_sem] gives givesH
set_option maxRecDepth 100000

section
variable {w : World} {sb xb bb : Nat} {s : Sto} {D : Dict} {nz : Nat} {bs : List Value}
set_option maxHeartbeats 4000000 in
theorem bytes1_ok (h : StAt w sb s D nz) (hn : nz ≤ 2000 ∧ 8 * nz + 200 ≤ s.R.pages) (hbox : w.cell? ⟨xb, 0, none⟩ = some (.pointer (some ⟨sb, 0, none⟩))) (hxb : xb < w.heap.size) (hib : IsB bb bb bs w) (hbb : bb ≤ w.heap.size) (hlen : bs.length ≤ 100000) {id t : ByteArray} (hid : id.size ≤ 96) (hD : D id = some t) (ht : t.size ≤ 128) :
    Calls Tryz.prog 54 #[.agg #[.string id, .int .i64 t.size], .int .i64 0, .int .i64 t.size, .pointer (some ⟨xb, 0, none⟩), .pointer (some ⟨bb, 0, none⟩)] w fun e w' => e = .returned (.int .i64 0) ∧ IsB bb bb (bs ++ Lib.strCells t) w' ∧ Below bb w w' := by
  have hb0 : Below w.heap.size w (w.alloc (.cells #[.string id, .int .i64 t.size] 98)) := (Below.refl _ _).alloc (Nat.le_refl _) _
  have HX := Hd (heap_alloc_new w (.cells #[.string id, .int .i64 t.size] 98))
  have d0 : (w.alloc (.cells #[.string id, .int .i64 t.size] 98)).cell? ⟨w.heap.size, 0, none⟩ = some (.string id) := Lib.cell_of_heap HX.out 0
  have c0 : (w.alloc (.cells #[.string id, .int .i64 t.size] 98)).cell? ⟨xb, 0, none⟩ = some (.pointer (some ⟨sb, 0, none⟩)) := by rw [hb0.cell (p := ⟨xb, 0, none⟩) hxb]; exact hbox
  have HG := Hd (sget_some (h.still hb0) hn hid hD)
  have HB0 := Hd hb0
  have HI0 := Hd (isB_still hib hb0)
  have g1 : ((t.size : Int) != (t.size : Int)) = false := by simp
  have hx : t.extract 0 t.size = t := by simp
  clear h hbox hib hb0 hD
  go_enter Tryz.func54, Tryz.ntmps54
  go_wp2_with (first
    | (go_at_call 55; refine (HG.out).mono ?_; rintro e w3 ⟨rfl, hb3⟩
       have HB3 := Hd (HB0.out.trans (hb3.mono HB0.out.size))
       have HI3 := Hd (isB_still HI0.out hb3)
       have e1 : w3.cell? ⟨w.heap.size, 1, none⟩ = some (.int .i64 t.size) := Lib.cell_of_heap ((Keep.still hb3).at HX.out (fun e => e)) 1
       have HWS := Hd (writeString_any HI3.out (Nat.le_trans hbb HB3.out.size) t (by omega))
       clear hb3)
    | (go_at_call 56; refine (HWS.out).mono ?_; rintro e w4 ⟨rfl, hi4, hb4, -⟩
       have HI4 := Hd hi4
       have HB4 := Hd ((HB3.out.mono hbb).trans hb4)
       clear hi4 hb4))
  go_ret
  exact ⟨rfl, HI4.out, HB4.out⟩
set_option maxHeartbeats 4000000 in
theorem bytes1_bad (h : StAt w sb s D nz) (hn : nz ≤ 2000 ∧ 8 * nz + 200 ≤ s.R.pages) (hbox : w.cell? ⟨xb, 0, none⟩ = some (.pointer (some ⟨sb, 0, none⟩))) (hxb : xb < w.heap.size) {id : ByteArray} {len : Int} (hid : id.size ≤ 96) (hD : got D (id, len) = none) :
    Calls Tryz.prog 54 #[.agg #[.string id, .int .i64 len], .int .i64 0, .int .i64 len, .pointer (some ⟨xb, 0, none⟩), .pointer (some ⟨bb, 0, none⟩)] w fun e w' => e = .returned (.int .i64 6) ∧ Below w.heap.size w w' := by
  have hb0 : Below w.heap.size w (w.alloc (.cells #[.string id, .int .i64 len] 98)) := (Below.refl _ _).alloc (Nat.le_refl _) _
  have HX := Hd (heap_alloc_new w (.cells #[.string id, .int .i64 len] 98))
  have d0 : (w.alloc (.cells #[.string id, .int .i64 len] 98)).cell? ⟨w.heap.size, 0, none⟩ = some (.string id) := Lib.cell_of_heap HX.out 0
  have c0 : (w.alloc (.cells #[.string id, .int .i64 len] 98)).cell? ⟨xb, 0, none⟩ = some (.pointer (some ⟨sb, 0, none⟩)) := by rw [hb0.cell (p := ⟨xb, 0, none⟩) hxb]; exact hbox
  have HB0 := Hd hb0
  have hcase : (∃ t, D id = some t ∧ ((t.size : Int) != len) = true) ∨ D id = none := by
    unfold got at hD
    cases hd : D id with
    | none => exact .inr rfl
    | some t =>
      refine .inl ⟨t, rfl, ?_⟩
      simp only [hd] at hD
      by_cases e : (t.size : Int) = len
      · rw [if_pos e] at hD; cases hD
      · simp [e]
  have h' := h.still hb0
  clear h hbox hD hb0
  rcases hcase with ⟨t, hd, g1⟩ | hd
  · have HG := Hd (sget_some h' hn hid hd)
    clear h' hd
    go_enter Tryz.func54, Tryz.ntmps54
    go_wp2_with (go_at_call 55; refine (HG.out).mono ?_; rintro e w3 ⟨rfl, hb3⟩
                 have HB3 := Hd (HB0.out.trans (hb3.mono HB0.out.size))
                 have e1 : w3.cell? ⟨w.heap.size, 1, none⟩ = some (.int .i64 len) := Lib.cell_of_heap ((Keep.still hb3).at HX.out (fun e => e)) 1
                 clear hb3)
    go_ret
    exact ⟨rfl, HB3.out⟩
  · have HG := Hd (sget_none h' hn hid hd)
    clear h' hd
    go_enter Tryz.func54, Tryz.ntmps54
    go_wp2_with (go_at_call 55; refine (HG.out).mono ?_; rintro e w3 ⟨rfl, hb3⟩
                 have HB3 := Hd (HB0.out.trans (hb3.mono HB0.out.size))
                 clear hb3)
    go_ret
    exact ⟨rfl, HB3.out⟩
end
end Go.Proofs.YtaokjeokpifjgaaGreatDoor

namespace Go.Proofs.YtaokjeokpifjgaaGreatDoor
open Go.RowKit Go.MapKept
attribute [local go_sem] gives givesH
set_option maxRecDepth 100000

def flatB (ts : List ByteArray) : List UInt8 := ts.flatMap (fun t => t.data.toList)
theorem flatB_snoc (ts : List ByteArray) (t : ByteArray) : flatB (ts ++ [t]) = flatB ts ++ t.data.toList := by simp [flatB]
theorem flatB_len (ts : List ByteArray) : (flatB ts).length = (ts.flatMap SealG.bl).length := by
  induction ts with
  | nil => rfl
  | cons t ts ih =>
    have : flatB (t :: ts) = t.data.toList ++ flatB ts := rfl
    rw [this, List.flatMap_cons, List.length_append, List.length_append, ih, SealG.bl_length]
    simp
theorem tot_le {l : RefL} (hok : l.all okRef = true) (k : Nat) (h : k < l.length) : tot (l.take k) + l[k].2 ≤ tot l := by
  rw [← tot_take l k h]
  have e : l = l.take (k + 1) ++ l.drop (k + 1) := (List.take_append_drop _ _).symm
  have h2 : tot l = tot (l.take (k + 1)) + tot (l.drop (k + 1)) := by
    have key : ∀ a b : RefL, tot (a ++ b) = tot a + tot b := fun a b => by
      induction a with
      | nil => simp [tot]
      | cons x a ih => simp [tot, ih]; omega
    rw [← key, List.take_append_drop]
  have h3 : (l.drop (k + 1)).all okRef = true := by
    rw [List.all_eq_true] at *
    exact fun x hx => hok x (List.mem_of_mem_drop hx)
  have := tot_bd _ h3
  omega
section
variable {w : World} {sb xb bb : Nat} {s : Sto} {D : Dict} {nz : Nat}
set_option maxHeartbeats 8000000 in
theorem asked_any (hst : ∀ u, Below bb w u → StAt u sb s D nz) (hn : nz ≤ 2000 ∧ 8 * nz + 200 ≤ s.R.pages) (hbox : w.cell? ⟨xb, 0, none⟩ = some (.pointer (some ⟨sb, 0, none⟩))) (hxb : xb < bb) (hib : IsB bb bb (Lib.byteCells []) w) (hbb : bb < w.heap.size)
    {B : Nat} {v : Value} {l : RefL} (hrow : w.ownsRow B 98 2 v l.length (refV l)) (hvb : ∀ g, v.ownBlock = some g → g < bb) (hl : l.length ≤ 100) (hok : l.all okRef = true) :
    Calls Tryz.prog 53 #[v, .int .i64 0, .int .i64 1073741824, .func (.func 54) #[] #[.pointer (some ⟨xb, 0, none⟩), .pointer (some ⟨bb, 0, none⟩)]] w fun e w' => Below bb w w' ∧ (texts D l = none ∧ e = .returned (.int .i64 6) ∨ ∃ ts, texts D l = some ts ∧ e = .returned (.int .i64 0) ∧ IsB bb bb (Lib.byteCells (flatB ts)) w') := by
  have HSz := Hd (rsize_any hrow hl hok)
  obtain ⟨sa, sc, hv⟩ := slice_formB hrow
  subst hv
  have HRow := Hd hrow
  have HVb := Hd hvb
  have HSt := Hd hst
  have HBx := Hd hbox
  have HIb := Hd hib
  have HOk := Hd hok
  obtain ⟨n, hn2⟩ : ∃ n, l.length = n := ⟨_, rfl⟩
  have HN := Hd hn2
  have htb := tot_bd l hok
  rw [hn2] at HRow HSz hl htb ⊢
  obtain ⟨T, hT⟩ : ∃ T, tot l = T := ⟨_, rfl⟩
  rw [hT] at HSz htb
  have HT := Hd hT
  obtain ⟨t0, t1⟩ := htb
  have HEn := Hd (fun u => ends_any (T := T) t0 (by omega) u)
  clear hrow hn2 hvb hst hbox hib hok hT
  go_enter Tryz.func53, Tryz.ntmps53
  go_wp2_with (first
    | (go_at_call 43; refine (HSz.out).mono ?_; rintro e w1 ⟨rfl, hb1⟩
       have HB1 := Hd (hb1.mono (Nat.le_of_lt hbb))
       have HI1 := Hd (isB_still HIb.out hb1)
       clear hb1)
    | (go_at_call 117; refine (HEn.out _).mono ?_; rintro e _ ⟨rfl, rfl⟩))
  go_loopw [11, 27] (fun a i wr => ∃ k ts, k ≤ n ∧ i = .int .i64 (k : Int) ∧ a = .int .i64 (tot (l.take k)) ∧ texts D (l.take k) = some ts ∧ IsB bb bb (Lib.byteCells (flatB ts)) wr ∧ Below bb w wr) (fun _ i _ => n - (intOf i).toNat)
  case atStart => exact ⟨0, [], by omega, rfl, by simp [tot], rfl, HI1.out, HB1.out⟩
  case round =>
    obtain ⟨k, ts, hk, rfl, rfl, hts, hI, hb⟩ := hrel
    have HTs := Hd hts
    have HI := Hd hI
    have HB := Hd hb
    clear hts hI hb
    by_cases hlt : k < n
    · have g2 : decide ((k : Int) < (n : Int)) = true := by simp; omega
      have g2' : decide (k < n) = true := by simpa using hlt
      have hkl : k < l.length := by rw [HN.out]; exact hlt
      obtain ⟨gs, cs, hs, hc1, hc2, hgB⟩ := row_posB HRow.out (by omega)
      obtain ⟨e1, e2, e3⟩ := Value.slice.inj hs
      subst e1
      have hgl := HVb.out gs rfl
      obtain ⟨q1, q2⟩ := refV_get l k l[k] (List.getElem?_eq_getElem hkl)
      have q1' : wr.cell? ⟨gs, k * 2, none⟩ = some (.string l[k].1) := by rw [HB.out.cell (p := ⟨gs, k * 2, none⟩) hgl]; exact row_cells HRow.out _ _ q1
      have q2' : wr.cell? ⟨gs, k * 2 + 1, none⟩ = some (.int .i64 l[k].2) := by rw [HB.out.cell (p := ⟨gs, k * 2 + 1, none⟩) hgl]; exact row_cells HRow.out _ _ q2
      have htk : l.take (k + 1) = l.take k ++ [l[k]] := List.take_succ_eq_append_getElem hkl
      have hsn := fun t (ht : got D l[k] = some t) => texts_snoc D (l.take k) l[k] t ts HTs.out ht
      rw [← htk] at hsn
      have HSn := Hd hsn
      have HNo := Hd (texts_none D l k l[k] (List.getElem?_eq_getElem hkl))
      have hok1 : okRef l[k] = true := List.all_eq_true.1 HOk.out _ (List.getElem_mem hkl)
      have htl := texts_len D (l.take k) (all_take l k HOk.out) ts HTs.out
      rw [List.length_take] at htl
      have htl2 : (Lib.byteCells (flatB ts)).length ≤ 12800 := by rw [byteCells_length, flatB_len]; omega
      have HTl := Hd htl2
      have HTk := Hd (tot_take l k hkl)
      have hx1 := tot_bd _ (all_take l k HOk.out)
      have hx2 := tot_le HOk.out k hkl
      rw [HT.out] at hx2
      obtain ⟨⟨id, len⟩, hr⟩ : ∃ r, l[k] = r := ⟨_, rfl⟩
      obtain ⟨A, hA⟩ : ∃ A, tot (l.take k) = A := ⟨_, rfl⟩
      rw [hr] at q1' q2' HSn HNo hok1 HTk hx2
      rw [hA] at HTk hx1 hx2 ⊢
      obtain ⟨y1, -⟩ := hx1
      replace hx2 : A + len ≤ T := hx2
      obtain ⟨hid, hl1, hlen⟩ := (okRef_iff _).1 hok1
      replace hid : id.size = 33 := hid
      replace hlen : len ≤ 128 := hlen
      replace hl1 : 1 ≤ len := hl1
      clear hs e2 e3 q1 q2 hr htk hsn htl htl2 hok1 hA
      have h128 : T ≤ 12800 := by omega
      have m1 : max (IntKind.i64.wrap (-A)) 0 = 0 := by rw [IntKind.wrap_i64]; omega
      have m2 : min (IntKind.i64.wrap (T - A)) len = len := by rw [IntKind.wrap_i64]; omega
      have g3 : decide ((0 : Int) < len) = true := by simp; omega
      have hwz := HB.out.size
      have hbx := HB.out.alloc (by omega) (.cells #[.string id, .int .i64 len] 98)
      have hb2 := (Below.refl wr.heap.size wr).alloc (Nat.le_refl _) (.cells #[.string id, .int .i64 len] 98)
      have HBx3 := Hd hbx
      have x0 : (wr.alloc (.cells #[.string id, .int .i64 len] 98)).cell? ⟨wr.heap.size, 0, none⟩ = some (.string id) := Lib.cell_of_heap (heap_alloc_new wr _) 0
      have x1 : (wr.alloc (.cells #[.string id, .int .i64 len] 98)).cell? ⟨wr.heap.size, 1, none⟩ = some (.int .i64 len) := Lib.cell_of_heap (heap_alloc_new wr _) 1
      have HXl := Hd (show wr.heap.size < (wr.alloc (.cells #[.string id, .int .i64 len] 98)).heap.size by simp)
      have hib1 := isB_still HI.out hb2
      obtain ⟨wx, hwx⟩ : ∃ wx, (wr.alloc (.cells #[.string id, .int .i64 len] 98)) = wx := ⟨_, rfl⟩
      obtain ⟨eb, heb⟩ : ∃ eb, wr.heap.size = eb := ⟨_, rfl⟩
      have HWx := Hd hwx
      have HEb := Hd heb
      rw [hwx] at x0 x1 HXl hib1 hbx
      rw [heb] at x0 x1 HXl
      have hxz := hbx.size
      have HX0 := Hd x0
      have HX1 := Hd x1
      have hat : ∀ u, Below wx.heap.size wx u → Below bb w u ∧ u.cell? ⟨xb, 0, none⟩ = some (.pointer (some ⟨sb, 0, none⟩)) ∧ xb < u.heap.size ∧ bb ≤ u.heap.size ∧ IsB bb bb (Lib.byteCells (flatB ts)) u := fun u hu => by
        have h1 : Below bb w u := hbx.trans (hu.mono (by omega))
        refine ⟨h1, ?_, by have := h1.size; omega, by have := h1.size; omega, isB_still hib1 hu⟩
        rw [h1.cell (p := ⟨xb, 0, none⟩) hxb]; exact HBx.out
      have hget : (∃ t, D id = some t ∧ (t.size : Int) = len) ∨ got D (id, len) = none := by
        unfold got
        cases hd : D id with
        | none => exact .inr rfl
        | some t =>
          by_cases e : (t.size : Int) = len
          · exact .inl ⟨t, rfl, e⟩
          · exact .inr (by simp only [if_neg e])
      rcases hget with ⟨t, hd, rfl⟩ | hd
      · have HCl := Hd (fun u (hu : Below wx.heap.size wx u) => bytes1_ok (HSt.out u (hat u hu).1) hn (hat u hu).2.1 (hat u hu).2.2.1 (hat u hu).2.2.2.2 (hat u hu).2.2.2.1 (by have := HTl.out; omega) (id := id) (by omega) hd (by omega))
        have HS2 := Hd (HSn.out t (got_ok hd rfl))
        have HAt := Hd (fun u (hu : Below wx.heap.size wx u) => (hat u hu).1)
        clear hat hib1 hbx hb2 hwz hd hxz x0 x1 hwx heb
        go_wp2
        rw [HEb.out, HWx.out]
        obtain ⟨S, hS⟩ : ∃ S : World → Prop, ∀ u, S u ↔ Keep (fun _ => False) (wx) u := ⟨fun u => Keep (fun _ => False) (wx) u, fun _ => Iff.rfl⟩
        have HS := Hd hS
        clear hS
        refine wp_region_whole 12 [(0, true), (1, true), (2, true), (3, true), (4, true), (5, true), (6, true), (7, true), (8, true), (9, true), (10, true), (11, true)] S (by kernel_rfl) (by kernel_rfl) ((HS.out _).2 (Keep.refl _ _).drew) ?_
        iterate 12
          first
            | (refine wpH_passed rfl (by rfl) (fun K hK => ?_); go_simp; refine hK _ ?_; clear hK K)
            | (first
                 | refine wpH_read rfl rfl (fun K hK => ?_)
                 | refine wpH_readw rfl (by rfl) (fun K hK => ?_)
               apply Exists.intro
               refine ⟨fun u hu => ?_, ?_⟩
               · have hu := (HS.out u).1 hu
                 have e1 : u.cell? ⟨eb, 1, none⟩ = some (.int .i64 (t.size : Int)) := by rw [hu.cell (p := ⟨eb, 1, none⟩) HXl.out (fun e => e)]; exact HX1.out
                 clear hu
                 go_simp
                 exact ⟨rfl, rfl⟩
               go_simp
               refine hK _ ?_
               clear hK K)
        refine wpH_nil ?_
        simp only [List.drop_succ_cons, List.drop_zero]
        clear S HS
        have hwy : Below wx.heap.size wx wx.drew := ⟨rfl, rfl, rfl, Nat.le_refl _, fun _ _ => rfl⟩
        have x0 : wx.drew.cell? ⟨eb, 0, none⟩ = some (.string id) := HX0.out
        have x1 : wx.drew.cell? ⟨eb, 1, none⟩ = some (.int .i64 (t.size : Int)) := HX1.out
        obtain ⟨wy, hwy2⟩ : ∃ wy, wx.drew = wy := ⟨_, rfl⟩
        rw [hwy2] at hwy x0 x1 ⊢
        have HWy := Hd hwy
        clear hwy hwy2
        go_wp2_with (go_at_call 54; refine (HCl.out _ HWy.out).mono ?_; rintro e w4 ⟨rfl, hi4, hb4⟩
                     have HI4 := Hd hi4
                     have HB4 := Hd ((HAt.out _ HWy.out).trans hb4)
                     clear hi4 hb4)
        go_roundw
        case rel => exact ⟨k + 1, ts ++ [t], by omega, by go_num, by rw [HTk.out], HS2.out, by rw [flatB_snoc, byteCells_append]; have := HI4.out; rw [strCells_eq] at this; exact this, HB4.out⟩
        case measure => simp [intOf]; omega
      · have HCl := Hd (fun u (hu : Below wx.heap.size wx u) => bytes1_bad (bb := bb) (HSt.out u (hat u hu).1) hn (hat u hu).2.1 (hat u hu).2.2.1 (id := id) (by omega) hd)
        have HN2 := Hd (HNo.out hd)
        have HAt := Hd (fun u (hu : Below wx.heap.size wx u) => And.intro (hat u hu).1 (hat u hu).2.2.2.1)
        clear hat hib1 hbx hb2 hwz hd hxz x0 x1 hwx heb
        go_wp2
        rw [HEb.out, HWx.out]
        obtain ⟨S, hS⟩ : ∃ S : World → Prop, ∀ u, S u ↔ Keep (fun _ => False) (wx) u := ⟨fun u => Keep (fun _ => False) (wx) u, fun _ => Iff.rfl⟩
        have HS := Hd hS
        clear hS
        refine wp_region_whole 12 [(0, true), (1, true), (2, true), (3, true), (4, true), (5, true), (6, true), (7, true), (8, true), (9, true), (10, true), (11, true)] S (by kernel_rfl) (by kernel_rfl) ((HS.out _).2 (Keep.refl _ _).drew) ?_
        iterate 12
          first
            | (refine wpH_passed rfl (by rfl) (fun K hK => ?_); go_simp; refine hK _ ?_; clear hK K)
            | (first
                 | refine wpH_read rfl rfl (fun K hK => ?_)
                 | refine wpH_readw rfl (by rfl) (fun K hK => ?_)
               apply Exists.intro
               refine ⟨fun u hu => ?_, ?_⟩
               · have hu := (HS.out u).1 hu
                 have e1 : u.cell? ⟨eb, 1, none⟩ = some (.int .i64 len) := by rw [hu.cell (p := ⟨eb, 1, none⟩) HXl.out (fun e => e)]; exact HX1.out
                 clear hu
                 go_simp
                 exact ⟨rfl, rfl⟩
               go_simp
               refine hK _ ?_
               clear hK K)
        refine wpH_nil ?_
        simp only [List.drop_succ_cons, List.drop_zero]
        clear S HS
        have hwy : Below wx.heap.size wx wx.drew := ⟨rfl, rfl, rfl, Nat.le_refl _, fun _ _ => rfl⟩
        have x0 : wx.drew.cell? ⟨eb, 0, none⟩ = some (.string id) := HX0.out
        have x1 : wx.drew.cell? ⟨eb, 1, none⟩ = some (.int .i64 len) := HX1.out
        obtain ⟨wy, hwy2⟩ : ∃ wy, wx.drew = wy := ⟨_, rfl⟩
        rw [hwy2] at hwy x0 x1 ⊢
        have HWy := Hd hwy
        clear hwy hwy2
        go_wp2_with (go_at_call 54; refine (HCl.out _ HWy.out).mono ?_; rintro e w4 ⟨rfl, hb4⟩
                     have HB4 := Hd ((HAt.out _ HWy.out).1.trans (hb4.mono (HAt.out _ HWy.out).2))
                     clear hb4)
        go_ret
        exact ⟨HB4.out, .inl ⟨HN2.out, rfl⟩⟩
    · obtain rfl : k = n := by omega
      have g2 : decide ((k : Int) < (k : Int)) = false := by simp
      have hTk : l.take k = l := by rw [← HN.out, List.take_length]
      have hts := HTs.out
      rw [hTk] at hts ⊢
      have HTs2 := Hd hts
      clear hTk hts
      go_wp2
      go_ret
      exact ⟨HB.out, .inr ⟨ts, HTs2.out, rfl, HI.out⟩⟩
end
end Go.Proofs.YtaokjeokpifjgaaGreatDoor

namespace Go.Proofs.YtaokjeokpifjgaaGreatDoor
open Go.RowKit Go.MapKept
attribute [local go_sem] gives givesH
set_option maxRecDepth 100000

def bytesOut (D : Dict) (l : RefL) : ByteArray × Int := if l.all okRef then (match texts D l with | some ts => (⟨(flatB ts).toArray⟩, 0) | none => (⟨#[]⟩, 6)) else (⟨#[]⟩, 1)
set_option maxHeartbeats 8000000 in
theorem recipe_bytes {w : World} {sb : Nat} {s : Sto} {D : Dict} {nz : Nat} (h : StAt w sb s D nz) (hn : nz ≤ 2000 ∧ 8 * nz + 200 ≤ s.R.pages) {B : Nat} {v : Value} {l : RefL} (hrow : w.ownsRow B 98 2 v l.length (refV l)) (hl : l.length ≤ 100) :
    Calls Tryz.prog 17 #[.pointer (some ⟨sb, 0, none⟩), v, .int .i64 0, .int .i64 1073741824] w fun e w' => e = .returned (.tuple #[.string (bytesOut D l).1, .int .i64 (bytesOut D l).2]) ∧ Below w.heap.size w w' := by
  have HW := Hd (fun u (hb : Below w.heap.size w u) => waits_any (h.still hb) hn)
  have HR := Hd (fun u (hb : Below w.heap.size w u) => rright_any ((Keep.still hb).ownsRow hrow (fun g _ e => e)) hl)
  have hvl := fun g (e : v.ownBlock = some g) => (hrow.lt g e).2
  have hmf : ∀ (fn : Fn) (first cap : Array Value) (w : World), (Instr.makeFunc fn first cap).run Tryz.prog w = .ok (.func fn first cap) w := fun _ _ _ _ => rfl
  obtain ⟨sa, sc, hv⟩ := slice_formB hrow
  subst hv
  have HVl := Hd hvl
  have HRow := Hd hrow
  have HSt := Hd h
  have HL := Hd (show l.length ≤ 100 from hl)
  obtain ⟨n, hn2⟩ : ∃ n, l.length = n := ⟨_, rfl⟩
  have HN := Hd hn2
  rw [hn2] at HRow HR hl ⊢
  have hb0 : Below w.heap.size w (w.alloc (.cells #[.pointer (some ⟨sb, 0, none⟩)] 26)) := (Below.refl _ _).alloc (Nat.le_refl _) _
  have HB0 := Hd hb0
  have HE0 := Hd (heap_alloc_new w (.cells #[.pointer (some ⟨sb, 0, none⟩)] 26))
  have c0 : (w.alloc (.cells #[.pointer (some ⟨sb, 0, none⟩)] 26)).cell? ⟨w.heap.size, 0, none⟩ = some (.pointer (some ⟨sb, 0, none⟩)) := Lib.cell_of_heap HE0.out 0
  have hcase : l.all okRef = true ∨ l.all okRef = false := by cases l.all okRef <;> simp
  clear h hrow hn2 hb0 hvl
  go_enter Tryz.func17, Tryz.ntmps17
  go_wp2_with (first
    | (go_at_call 35; refine (HW.out _ HB0.out).mono ?_; rintro e w1 ⟨⟨m, rfl⟩, hb1⟩
       have HB1 := Hd (HB0.out.trans (hb1.mono (by simp)))
       have HE1 := Hd ((Keep.still hb1).at HE0.out (fun e => e))
       clear hb1)
    | (go_at_call 52; refine (HR.out _ HB1.out).mono ?_; rintro e w2 ⟨rfl, hb2⟩
       have HB2 := Hd (HB1.out.trans (hb2.mono HB1.out.size))
       have HE2 := Hd ((Keep.still hb2).at HE1.out (fun e => e))
       clear hb2
       rcases hcase with hok | hok
       all_goals
         rw [hok]
         have HOk := Hd hok
         clear hok))
  · have hz2 : w.heap.size < w2.heap.size := (Gl HE2.out)
    have hbA := HB2.out.alloc HB2.out.size (.cells #[.pointer none, .slice none 0 0] 123)
    have hA := asked_any (w := w2.alloc (.cells #[.pointer none, .slice none 0 0] 123)) (sb := sb) (xb := w.heap.size) (bb := w2.heap.size) (s := s) (D := D) (v := .slice sa n sc) (l := l) (B := B)
      (fun u hu => HSt.out.still (hbA.trans (hu.mono (Nat.le_of_lt hz2)))) hn
      (Lib.cell_of_heap (show (w2.alloc (.cells #[.pointer none, .slice none 0 0] 123)).heap[w.heap.size]? = some (.cells #[.pointer (some ⟨sb, 0, none⟩)] 26 (0, 0)) by rw [Below.heap_alloc _ _ _ hz2]; exact HE2.out) 0)
      hz2 (Lib.fresh_isBuilder _ _ w2) (by simp) (by rw [HN.out]; exact (Keep.still hbA).ownsRow HRow.out (fun g _ e => e))
      (fun g e => Nat.lt_trans (by rw [← HN.out] at e; exact HVl.out g e) hz2) HL.out HOk.out
    have HA := Hd hA
    have HBA := Hd hbA
    have HZ := Hd hz2
    clear hA hbA hz2
    go_at_call 53
    refine (HA.out).mono ?_
    rintro e w4 ⟨hb4, ⟨hts, rfl⟩ | ⟨ts, hts, rfl, hib⟩⟩
    · have HTs := Hd hts
      have HB4 := Hd (HBA.out.trans (hb4.mono (Nat.le_of_lt HZ.out)))
      clear hts hb4
      go_wp2
      go_ret2
      refine ⟨?_, HB4.out⟩
      unfold bytesOut
      rw [if_pos HOk.out, HTs.out]
      rfl
    · have HTs := Hd hts
      have HB4 := Hd (HBA.out.trans (hb4.mono (Nat.le_of_lt HZ.out)))
      have HSt4 := Hd (Tryz.Builder_String_any_k w2.heap.size w2.heap.size (flatB ts) w4 (Lib.IsBuilderF.of hib) (by have := hb4.size; simp at this; omega))
      clear hts hb4 hib
      go_wp2_with (go_at_call 57; refine (HSt4.out).mono ?_; rintro e w5 ⟨rfl, -, hb5, -⟩
                   have HB5 := Hd (HB4.out.trans (hb5.mono (Nat.le_of_lt HZ.out)))
                   clear hb5)
      go_ret2
      refine ⟨?_, HB5.out⟩
      unfold bytesOut
      rw [if_pos HOk.out, HTs.out]
      rfl
  · go_ret2
    refine ⟨?_, HB2.out⟩
    unfold bytesOut
    rw [if_neg (by rw [HOk.out]; decide)]
    rfl
end Go.Proofs.YtaokjeokpifjgaaGreatDoor

namespace Go.Proofs.YtaokjeokpifjgaaGreatDoor
open Go.RowKit Go.MapKept
set_option maxRecDepth 100000

theorem fallsS_inj {i j : Nat} (hi : i < 18446744073709551616) (hj : j < 18446744073709551616) (h : fallsS i = fallsS j) : i = j := by
  rw [← fallsS_back i hi, ← fallsS_back j hj, h]
theorem app_inj_left {a x y : ByteArray} (h : a ++ x = a ++ y) : x = y := by
  have h1 := congrArg (fun t => t.data.toList) h
  simp at h1
  exact ByteArray.ext h1
theorem versionKey_inj {b item : ByteArray} {i j : Nat} (hi : i < 18446744073709551616) (hj : j < 18446744073709551616) (h : versionKey b item i = versionKey b item j) : i = j :=
  fallsS_inj hi hj (app_inj_left h)
theorem versionKey_ne (b item : ByteArray) (i : Nat) (c : ByteArray) : versionKey b item i ≠ bucketKey c := by
  intro h
  have h1 := congrArg (fun t => t.data.toList.head?) h
  unfold versionKey bucketKey underS underL at h1
  simp at h1
theorem Met.to {D D' : Dict} {l : RefL} {ls : List ByteArray} (h : Met D l ls) (hle : D.le D') : Met D' l ls :=
  ⟨h.len, fun j r p h1 h2 => ⟨(h.one j r p h1 h2).1, (h.one j r p h1 h2).2.1, hle _ _ (h.one j r p h1 h2).2.2⟩⟩
theorem Met.tail {D : Dict} {r : ByteArray × Int} {l : RefL} {p : ByteArray} {ls : List ByteArray} (h : Met D (r :: l) (p :: ls)) : Met D l ls :=
  ⟨by have := h.len; simpa using this, fun j x y hx hy => h.one (j + 1) x y (by simpa using hx) (by simpa using hy)⟩
theorem met_texts {D : Dict} {l : RefL} {ls : List ByteArray} (h : Met D l ls) : texts D l = some ls := by
  induction l generalizing ls with
  | nil =>
    have := h.len
    cases ls with
    | nil => rfl
    | cons _ _ => simp at this
  | cons r l ih =>
    cases ls with
    | nil => have := h.len; simp at this
    | cons p ls =>
      obtain ⟨h1, h2, h3⟩ := h.one 0 r p rfl rfl
      rw [texts, show got D r = some p from by unfold got; rw [h3]; simp only; rw [if_pos h2.symm], ih h.tail]
      rfl
theorem met_right {D : Dict} {l : RefL} {ls : List ByteArray} (h : Met D l ls) (hp : ∀ p ∈ ls, 1 ≤ p.size ∧ p.size ≤ 128) : l.all okRef = true := by
  rw [List.all_eq_true]
  intro r hr
  obtain ⟨j, hj, e⟩ := List.getElem_of_mem hr
  have hj2 : j < ls.length := by rw [← h.len]; exact hj
  obtain ⟨h1, h2, h3⟩ := h.one j r ls[j] (by rw [List.getElem?_eq_getElem hj, e]) (List.getElem?_eq_getElem hj2)
  have := hp _ (List.getElem_mem hj2)
  rw [okRef_iff]
  exact ⟨h1, by omega, by omega⟩
theorem met_tot {D : Dict} {l : RefL} {ls : List ByteArray} (h : Met D l ls) : tot l = ((flatB ls).length : Int) := by
  induction l generalizing ls with
  | nil =>
    have := h.len
    cases ls with
    | nil => rfl
    | cons _ _ => simp at this
  | cons r l ih =>
    cases ls with
    | nil => have := h.len; simp at this
    | cons p ls =>
      obtain ⟨h1, h2, h3⟩ := h.one 0 r p rfl rfl
      have e : flatB (p :: ls) = p.data.toList ++ flatB ls := rfl
      have e3 : p.data.toList.length = p.size := Array.length_toList
      rw [tot, ih h.tail, h2, e, List.length_append, e3]
      exact (Int.natCast_add _ _).symm
theorem met_all {D : Dict} {l : RefL} {ls : List ByteArray} {text : ByteArray} (h : Met D l ls) (hp : PartsOf text ls) : l.all okRef = true ∧ 16 * l.length ≤ text.size + 15 ∧ tot l = (text.size : Int) ∧ bytesOut D l = (text, 0) := by
  have e1 : flatB ls = text.data.toList := hp.cat
  have hok := met_right h hp.part
  refine ⟨hok, by rw [h.len]; exact hp.few, by rw [met_tot h, e1, show text.data.toList.length = text.size from Array.length_toList], ?_⟩
  unfold bytesOut
  rw [if_pos hok, met_texts h]
  simp only
  rw [e1]
theorem pagesB_few {n k : Nat} (h : n ≤ 506 * k) (hk : 1 ≤ k) : pagesB n ≤ k := by
  unfold pagesB
  split <;> omega
def abcB : ByteArray := ⟨#[97, 98, 99]⟩
def kB : ByteArray := ⟨#[107]⟩
theorem abc_ok : bucketOk abcB = true := by kernel_rfl
theorem k_ok : itemOk kB = true := by kernel_rfl
theorem scan_two (x y u v : ByteArray) : scanL (underV abcB kB) (behindV abcB kB) 1 (ins (ins (ins (ins [] (bucketKey abcB) x) (bucketKey abcB) y) (versionKey abcB kB 1) u) (versionKey abcB kB 2) v) = [(versionKey abcB kB 2, v)] := by kernel_rfl
end Go.Proofs.YtaokjeokpifjgaaGreatDoor

namespace Go.Proofs.YtaokjeokpifjgaaGreatDoor
open Go.RowKit Go.MapKept
attribute [local go_sem] gives givesH
set_option maxRecDepth 100000

structure Held (W0 : World) (P br : Nat) (w : World) (sb : Nat) (s : Sto) (D : Dict) (nz : Nat) : Prop where
  st : StAt w sb s D nz
  foot : ∀ g, s.foot g → W0.heap.size ≤ g
  below : Below W0.heap.size W0 w
  pg : s.R.pages = P
  br_ : s.br = br
section
variable {W0 : World} {P br : Nat} {w w' : World} {sb : Nat} {s s' : Sto} {D D' : Dict} {nz nz' : Nat}
theorem Held.v (h : Held W0 P br w sb s D nz) (hs : StAt w' sb s' D' nz') (hv : VStep w s w' s') : Held W0 P br w' sb s' D' nz' :=
  ⟨hs, fun g e => (hv.foot g e).elim (h.foot g) (fun e2 => Nat.le_trans h.below.size e2), h.below.trans (hv.keep.below h.below.size (fun i hi e => Nat.not_lt.2 (h.foot i e) hi)), hv.pg.trans h.pg, hv.br.trans h.br_⟩
theorem Held.x (h : Held W0 P br w sb s D nz) (hx : XStep w s D sb nz' w' s') : Held W0 P br w' sb s' D nz' := h.v hx.st hx.step
theorem Held.still (h : Held W0 P br w sb s D nz) (hb : Below w.heap.size w w') : Held W0 P br w' sb s D nz := ⟨h.st.still hb, h.foot, h.below.trans (hb.mono h.below.size), h.pg, h.br_⟩
structure Beside (w : World) (s : Sto) (g : Nat) (o : Obj) : Prop where
  at_ : w.heap[g]? = some o
  off : ¬ s.foot g
theorem Beside.lt {g : Nat} {o : Obj} (h : Beside w s g o) : g < w.heap.size := (Gl h.at_)
theorem Beside.v {g : Nat} {o : Obj} (h : Beside w s g o) (hv : VStep w s w' s') : Beside w' s' g o :=
  ⟨hv.keep.at h.at_ h.off, fun e => (hv.foot g e).elim h.off (fun e2 => by have := h.lt; omega)⟩
theorem Beside.still {g : Nat} {o : Obj} (h : Beside w s g o) (hb : Below w.heap.size w w') : Beside w' s g o := ⟨(hb.block _ h.lt).trans h.at_, h.off⟩
theorem Beside.new (h : StAt w sb s D nz) (o : Obj) : Beside (w.alloc o) s w.heap.size o :=
  ⟨heap_alloc_new w o, fun e => Nat.lt_irrefl _ (h.ahead.2.2.2 _ e)⟩
end
theorem look_two0 (x y u v : ByteArray) : look (ins (ins (ins (ins [] (bucketKey abcB) x) (bucketKey abcB) y) (versionKey abcB kB 1) u) (versionKey abcB kB 2) v) (bucketKey abcB) = some y := by kernel_rfl
theorem look_two1 (x y u v : ByteArray) : look (ins (ins (ins (ins [] (bucketKey abcB) x) (bucketKey abcB) y) (versionKey abcB kB 1) u) (versionKey abcB kB 2) v) (versionKey abcB kB 1) = some u := by kernel_rfl
theorem look_mk (x : ByteArray) : look (ins [] (bucketKey abcB) x) (bucketKey abcB) = some x := by kernel_rfl
theorem look_st (x y : ByteArray) : look (ins (ins [] (bucketKey abcB) x) (bucketKey abcB) y) (bucketKey abcB) = some y := by kernel_rfl
theorem look_put (x y u : ByteArray) : look (ins (ins (ins [] (bucketKey abcB) x) (bucketKey abcB) y) (versionKey abcB kB 1) u) (bucketKey abcB) = some y := by kernel_rfl
theorem pages_3000 : (pagesOf (3000 : Nat)).toNat = 2998 := by decide
theorem pages_30000 : (pagesOf (30000 : Nat)).toNat = 29991 := by decide
end Go.Proofs.YtaokjeokpifjgaaGreatDoor

namespace Go.Proofs.YtaokjeokpifjgaaGreatDoor
open Go.RowKit Go.MapKept
attribute [local go_sem] gives givesH
set_option maxRecDepth 100000

def helloB : ByteArray := ⟨#[104, 101, 108, 108, 111]⟩
set_option maxHeartbeats 2000000 in
theorem awake15_any (w : World) : Calls Tryz.prog 8 #[] w fun e w' => e = .returned (.bool true) ∧ Below w.heap.size w w' := by
  have HW := Hd (wide15_any 3000 (by omega) (by omega) w)
  go_enter Tryz.func8, Tryz.ntmps8
  go_wp2_with (first
    | (go_at_call 9; refine (HW.out).mono ?_; rintro e w1 ⟨sb, s, rfl, hs, hX, hkv, hpg, hft, hb1⟩
       have hd : Held w 2998 s.br w1 sb s (fun _ => none) 0 := ⟨hs, hft, hb1, hpg.trans pages_3000, rfl⟩
       have HX := Hd (And.intro hX hkv)
       have HM := Hd (bmake_st hs (by have := hd.pg; omega) abc_ok (by rw [hX]; rfl) (now := 1) (by decide))
       have HD := Hd hd
       clear hs hX hkv hpg hft hb1 hd)
    | (go_at_call 10; refine (HM.out).mono ?_; rintro e w2 ⟨rfl, s2, hx, h1, h2, h3⟩
       have hd := HD.out.x hx
       rw [HX.out.1] at h1 h2 h3
       have hp2 := hd.pg
       have hbs := bstate_st hx.st (by omega) abc_ok (by rw [h1]; exact look_mk _) (by decide) (by decide)
       rw [hd.br_] at hbs
       have HS := Hd hbs
       have HD2 := Hd hd
       have HX2 := Hd (And.intro h1 (And.intro h2 (And.intro h3 (hx.kv.trans HX.out.2))))
       clear hx h1 h2 h3 hd hp2 hbs)
    | (go_at_call 11; refine (HS.out).mono ?_; rintro e w3 ⟨rfl, s3, hx, h1, h2, h3⟩
       have hd := HD2.out.x hx
       obtain ⟨q1, q2, q3, q4⟩ := HX2.out
       rw [q1] at h1
       rw [q2] at h2
       rw [q3] at h3
       have hp2 := hd.pg
       have q5 := hx.kv.trans q4
       have HB := Hd (build_st hx.st helloB (by decide) (by rw [show helloB.size = 5 from rfl]; omega) (by rw [q5]; decide))
       have HD3 := Hd hd
       have HX3 := Hd (And.intro h1 (And.intro h2 h3))
       clear hx h1 h2 h3 hd hp2 q1 q2 q3 q4 q5)
    | (go_at_call 12; refine (HB.out).mono ?_; rintro e w4 ⟨v, l, ls, s4, D4, k, rfl, hpt, hmt, hrow, hvo, hst, hk, hss, hkv, hle⟩
       have hd := HD3.out.v hst hss.v
       obtain ⟨q1, q2, q3, q4⟩ := met_all hmt hpt
       have hp2 := hd.pg
       have hz := wrS_size l q1
       rw [show helloB.size = 5 from rfl] at hk q2 q3
       have hp1 := pagesB_few (n := (wrS l).size) (k := 1) (by omega) (by decide)
       have hX4 : s4.X = s3.X := hss.X
       have hn1 : s4.X.next + 1 = 1 := by rw [hX4, HX3.out.2.2]
       have hpu := vput_st hst abc_ok (bo := 1) (by rw [hX4, HX3.out.1]; exact look_st _ _) (by decide) k_ok hrow (by omega) q1 (by omega) (by omega) (now := 2) (by decide)
       rw [hn1, q3, hd.br_] at hpu
       have HP := Hd hpu
       have HPl := Hd (show pagesB (wrS l).size ≤ 1 ∧ k ≤ 1 from ⟨hp1, by omega⟩)
       have HX4 := Hd (show s4.X.kvM = _ from hX4 ▸ HX3.out.1)
       obtain ⟨va, vc, hv⟩ := slice_formB hrow
       subst hv
       have HD4 := Hd hd
       clear hpt hmt hrow hvo hst hk hss hkv hle hd q1 q2 q3 q4 hp2 hz hp1 hX4 hn1 hpu)
    | (go_at_call 13; refine (HP.out).mono ?_; rintro e w5 ⟨size, page, ps, s5, rfl, hx, h1, h2, h3, h4, h5, h6⟩
       obtain rfl : size = 5 := by omega
       have hd := HD4.out.x hx
       have hp2 := hd.pg
       rw [HX4.out] at h1
       have hpl := HPl.out
       unfold vC
       have hv5 := Beside.new hx.st (.cells #[.string abcB, .string kB, .int .u64 1, .bool false, .bool false, .int .u64 2, .int .i64 5, .int .i64 page] 38)
       have hb5 : Below w5.heap.size w5 (w5.alloc (.cells #[.string abcB, .string kB, .int .u64 1, .bool false, .bool false, .int .u64 2, .int .i64 5, .int .i64 page] 38)) := (Below.refl _ _).alloc (Nat.le_refl _) _
       have hn1 : s5.X.next + 1 = 2 := by rw [h3]
       have hde := vdel_st (hx.st.still hb5) abc_ok (bo := 1) (by rw [h1]; exact look_put _ _ _) (by decide) k_ok (by omega) (by omega) (now := 3) (by decide)
       rw [hn1, hd.br_] at hde
       have HDe := Hd hde
       have HD5 := Hd (hd.still hb5)
       have HV5 := Hd hv5
       have HX5 := Hd h1
       have HPg := Hd h5
       clear hx hd hp2 h1 h2 h3 h4 h5 h6 hpl hv5 hb5 hn1 hde))
  refine (HDe.out).mono ?_
  rintro e w6 ⟨s6, rfl, hx, h1, h2, h3⟩
  have hd := HD5.out.x hx
  rw [HX5.out] at h1
  have hpl := HPl.out
  have hpg := HPg.out
  unfold vC
  have hv6 := HV5.out.v hx.step
  have hm6 := Beside.new hx.st (.cells #[.string abcB, .string kB, .int .u64 2, .bool false, .bool true, .int .u64 3, .int .i64 0, .int .i64 0] 38)
  have hb6 : Below w6.heap.size w6 (w6.alloc (.cells #[.string abcB, .string kB, .int .u64 2, .bool false, .bool true, .int .u64 3, .int .i64 0, .int .i64 0] 38)) := (Below.refl _ _).alloc (Nat.le_refl _) _
  have hd6 := hd.still hb6
  have hok : Vr.ok ⟨2, true, 3, 0, 0⟩ := by unfold Vr.ok; decide
  have hf0 := (vfind_gone hd6.st (by omega) abc_ok (st := 1) (bo := 1) (by rw [h1]; exact look_two0 _ _ _ _) (by decide) (by decide) k_ok hok (by rw [h1]; exact scan_two _ _ _ _))
  have hf1 := (fun (u : World) hu => vfind_id (hd6.st.still (u := u) hu) (by omega) abc_ok (st := 1) (bo := 1) (by rw [h1]; exact look_two0 _ _ _ _) (by decide) (by decide) k_ok (id := 1) (born := 2) (size := 5) (page := page) (by decide) (by decide) (by decide) (by decide) (by omega) (by rw [h1]; exact look_two1 _ _ _ _))
  rw [hd6.br_] at hf0
  rw [hd6.br_] at hf1
  have HF0 := Hd hf0
  have HF1 := Hd hf1
  have HD6 := Hd hd6
  have HV6 := Hd (hv6.still hb6)
  have HM6 := Hd hm6
  clear hx hd h1 h2 h3 hpl hpg hv6 hm6 hb6 hd6 hok hf0 hf1
  go_wp2_with (fail)
  refine (HF0.out).mono ?_
  rintro e w7 ⟨rfl, hb7⟩
  unfold vZ
  have hb8 := (Below.refl w7.heap.size w7).alloc (Nat.le_refl _) (.cells #[.string ⟨#[]⟩, .string ⟨#[]⟩, .int .u64 0, .bool false, .bool false, .int .u64 0, .int .i64 0, .int .i64 0] 38)
  have hb9 := hb7.trans (hb8.mono hb7.size)
  have HD8 := Hd (HD6.out.still hb9)
  have hv8 := HV6.out.still hb9
  have HV8 := Hd hv8
  have HM8 := Hd (HM6.out.still hb9)
  have HF2 := Hd (HF1.out _ hb9)
  obtain ⟨⟨d0, d1, d2, d3, d4, d5, d6, d7⟩, y0, y1, y2, y3, y4, y5, y6, y7⟩ := box8 hv8.at_
  clear hb7 hb8 hb9 hv8 y0 y1 y2 y3 y4 y5 y6 y7
  go_wp2_with (fail)
  clear d0 d1 d2 d3 d4 d5 d6 d7
  refine (HF2.out).mono ?_
  rintro e w9 ⟨rfl, hb9⟩
  unfold vC
  have hv9 := HV8.out.still hb9
  have hm9 := HM8.out.still hb9
  have hd9 := HD8.out.still hb9
  have hb10 : Below w9.heap.size w9 (w9.alloc (.cells #[.string abcB, .string kB, .int .u64 1, .bool false, .bool false, .int .u64 2, .int .i64 5, .int .i64 page] 38)) := (Below.refl _ _).alloc (Nat.le_refl _) _
  have hw10 := heap_alloc_new w9 (.cells #[.string abcB, .string kB, .int .u64 1, .bool false, .bool false, .int .u64 2, .int .i64 5, .int .i64 page] 38)
  obtain ⟨⟨d0, d1, d2, d3, d4, d5, d6, d7⟩, y0, y1, y2, y3, y4, y5, y6, y7⟩ := box8 (hv9.still hb10).at_
  obtain ⟨⟨e0, e1, e2, e3, e4, e5, e6, e7⟩, z0, z1, z2, z3, z4, z5, z6, z7⟩ := box8 (hm9.still hb10).at_
  obtain ⟨⟨f0, f1, f2, f3, f4, f5, f6, f7⟩, x0, x1, x2, x3, x4, x5, x6, x7⟩ := box8 hw10
  have HB10 := Hd (hd9.still hb10).below
  clear hb9 hv9 hm9 hd9 hb10 hw10 y0 y1 y2 y3 y4 y5 y6 y7 z0 z1 z2 z3 z4 z5 z6 z7 x0 x1 x2 x3 x4 x5 x6 x7
  go_wp2_with (fail)
  go_ret
  exact ⟨rfl, HB10.out⟩
end Go.Proofs.YtaokjeokpifjgaaGreatDoor

namespace Go.Proofs.YtaokjeokpifjgaaGreatDoor
open Go.RowKit Go.MapKept
set_option maxRecDepth 100000

structure Pst where
  l : RefL
  ls : List ByteArray
  ps : List Nat
  id : Nat
  size : Nat
  page : Nat
structure Stands (s : Sto) (D : Dict) (t : ByteArray) (i : Nat) (r : Pst) : Prop where
  lo : 1 ≤ r.id
  hi : r.id ≤ s.X.next
  kv : look s.X.kvM (versionKey abcB kB r.id) = some (verT (howN false false) i r.size r.page)
  vb : (wrS r.l, r.ps) ∈ s.X.vb
  pg : r.ps.getD 0 0 = r.page
  pl : r.page < 65536
  sz : r.size < 4294967296
  met : Met D r.l r.ls
  parts : PartsOf t r.ls
structure Past (A : List ByteArray) (s : Sto) (D : Dict) (rs : List Pst) : Prop where
  bk : look s.X.kvM (bucketKey abcB) = some (bucketT 1 0)
  nx : s.X.next ≤ 2 * rs.length
  top : ∀ r ∈ rs, r.id ≤ s.X.next
  one : ∀ (i : Nat) r t, rs[i]? = some r → A[i]? = some t → Stands s D t i r
  up : ∀ (i : Nat) r r', rs[i]? = some r → rs[i + 1]? = some r' → r.id < r'.id
section
variable {A : List ByteArray} {s s' : Sto} {D D' : Dict} {rs : List Pst}
theorem Past.build (h : Past A s D rs) (hX : s'.X = s.X) (hle : D.le D') : Past A s' D' rs := by
  refine ⟨by rw [hX]; exact h.bk, by rw [hX]; exact h.nx, fun r hr => by rw [hX]; exact h.top r hr, fun i r t h1 h2 => ?_, h.up⟩
  have k := h.one i r t h1 h2
  exact ⟨k.lo, by rw [hX]; exact k.hi, by rw [hX]; exact k.kv, by rw [hX]; exact k.vb, k.pg, k.pl, k.sz, k.met.to hle, k.parts⟩
theorem Past.del (h : Past A s D rs) (hn : s.X.next + 1 ≤ 2 * rs.length) (hb : s.X.next + 1 < 18446744073709551616) {v : ByteArray} (h1 : s'.X.kvM = ins s.X.kvM (versionKey abcB kB (s.X.next + 1)) v) (h2 : s'.X.vb = s.X.vb) (h3 : s'.X.next = s.X.next + 1) : Past A s' D rs := by
  refine ⟨?_, by omega, fun r hr => by have := h.top r hr; omega, fun i r t g1 g2 => ?_, h.up⟩
  · rw [h1, look_ins, if_neg (fun e => versionKey_ne _ _ _ _ e.symm)]
    exact h.bk
  · have k := h.one i r t g1 g2
    have k2 := k.hi
    refine ⟨k.lo, by omega, ?_, by rw [h2]; exact k.vb, k.pg, k.pl, k.sz, k.met, k.parts⟩
    rw [h1, look_ins, if_neg (fun e => by have := versionKey_inj (by omega) hb e; omega)]
    exact k.kv
theorem Past.put (h : Past A s D rs) {t : ByteArray} (ht : A[rs.length]? = some t) (hb : s.X.next + 1 < 18446744073709551616) {l : RefL} {ls : List ByteArray} {ps : List Nat} {size page : Nat}
    (h1 : s'.X.kvM = ins s.X.kvM (versionKey abcB kB (s.X.next + 1)) (verT (howN false false) rs.length size page)) (h2 : s'.X.vb = s.X.vb ++ [(wrS l, ps)]) (h3 : s'.X.next = s.X.next + 1)
    (h4 : ps.getD 0 0 = page) (h5 : page < 65536) (h6 : size < 4294967296) (hm : Met D l ls) (hp : PartsOf t ls) : Past A s' D (rs ++ [⟨l, ls, ps, s.X.next + 1, size, page⟩]) := by
  have hl : (rs ++ [(⟨l, ls, ps, s.X.next + 1, size, page⟩ : Pst)]).length = rs.length + 1 := by simp
  have hnx := h.nx
  refine ⟨?_, by rw [hl]; omega, fun r hr => ?_, fun i r t' g1 g2 => ?_, fun i r r' g1 g2 => ?_⟩
  · rw [h1, look_ins, if_neg (fun e => versionKey_ne _ _ _ _ e.symm)]
    exact h.bk
  · rcases List.mem_append.1 hr with e | e
    · have := h.top r e; omega
    · rw [List.mem_singleton.1 e]; show s.X.next + 1 ≤ _; omega
  · by_cases hi : i < rs.length
    · rw [List.getElem?_append_left hi] at g1
      have k := h.one i r t' g1 g2
      have k2 := k.hi
      refine ⟨k.lo, by omega, ?_, by rw [h2]; exact List.mem_append_left _ k.vb, k.pg, k.pl, k.sz, k.met, k.parts⟩
      rw [h1, look_ins, if_neg (fun e => by have := versionKey_inj (by omega) hb e; omega)]
      exact k.kv
    · have hi2 : i < rs.length + 1 := by rw [← hl]; exact (List.getElem?_eq_some_iff.1 g1).1
      obtain rfl : i = rs.length := by omega
      rw [List.getElem?_append_right (Nat.le_refl _), Nat.sub_self] at g1
      have e : (⟨l, ls, ps, s.X.next + 1, size, page⟩ : Pst) = r := by simpa using g1
      subst e
      have e2 : t = t' := by rw [ht] at g2; exact Option.some.inj g2
      subst e2
      refine ⟨by show 1 ≤ s.X.next + 1; omega, by show s.X.next + 1 ≤ _; omega, ?_, by rw [h2]; exact List.mem_append_right _ (List.mem_singleton.2 rfl), h4, h5, h6, hm, hp⟩
      rw [h1, look_ins, if_pos rfl]
  · by_cases hi : i + 1 < rs.length
    · rw [List.getElem?_append_left hi] at g2
      rw [List.getElem?_append_left (by omega)] at g1
      exact h.up i r r' g1 g2
    · have hi2 : i + 1 < rs.length + 1 := by rw [← hl]; exact (List.getElem?_eq_some_iff.1 g2).1
      have hi3 : i + 1 = rs.length := by omega
      rw [List.getElem?_append_left (by omega)] at g1
      rw [hi3, List.getElem?_append_right (Nat.le_refl _), Nat.sub_self] at g2
      have e : (⟨l, ls, ps, s.X.next + 1, size, page⟩ : Pst) = r' := by simpa using g2
      subst e
      have := h.top r (List.mem_of_getElem? g1)
      show r.id < s.X.next + 1
      omega
end
def sumB (l : List ByteArray) : Nat := (l.map ByteArray.size).sum
theorem sumB_take {A : List ByteArray} {j : Nat} {t : ByteArray} (h : A[j]? = some t) : sumB (A.take (j + 1)) = sumB (A.take j) + t.size := by
  obtain ⟨hj, e⟩ := List.getElem?_eq_some_iff.1 h
  unfold sumB
  rw [List.take_succ_eq_append_getElem hj, List.map_append, List.sum_append, e]
  simp
theorem sumB_le (A : List ByteArray) (j : Nat) : sumB (A.take j) ≤ sumB A := by
  have h : sumB A = sumB (A.take j) + sumB (A.drop j) := by
    conv => lhs; rw [← List.take_append_drop j A]
    unfold sumB
    rw [List.map_append, List.sum_append]
  omega
theorem sumB_max (A : List ByteArray) (m : Nat) (h : ∀ t ∈ A, t.size ≤ m) (j : Nat) : sumB (A.take j) ≤ j * m := by
  induction j with
  | zero => simp [sumB]
  | succ j ih =>
    by_cases hj : j < A.length
    · rw [sumB_take (List.getElem?_eq_getElem hj), Nat.succ_mul]
      have := h _ (List.getElem_mem hj)
      omega
    · rw [List.take_of_length_le (by omega)] at ih ⊢
      rw [Nat.succ_mul]
      omega
structure Few (A : List ByteArray) (j nz : Nat) (s : Sto) : Prop where
  n : 8 * nz ≤ 16 + 100 * j + sumB (A.take j)
  k : 16 * s.kvI.length ≤ sumB (A.take j) + 15 * j
end Go.Proofs.YtaokjeokpifjgaaGreatDoor

namespace Go.Proofs.YtaokjeokpifjgaaGreatDoor
open Go.ChangeShapes Go.WideShapes Go.ChangeAt Go.RowKit

theorem Tryz.own : ownKnob Tryz.prog.godebug = none := by kernel_rfl
theorem Tryz.laidOut : laidOutB Tryz.prog = true := by kernel_rfl

theorem law_post2 {H : Type} {enc : TypeId × Value → H} {f : Func} {s : ChangeSpec} {fresh handsOn : Bool} {W W' : World} {t0 t1 : TypeId} {v0 v1 : Value} {d0 d1 : DataW H} {p0 p1 : List MemPlace}
    (hf : f.params = #[t0, t1]) (hr : f.resultTypes = #[4]) (hvars : s.vars = []) (hs : s.fn H ([d0, d1] ++ []) = { results := [.lit (.bool true)], args := [d0, d1] })
    (hW : DataW.Whole enc Tryz.prog f.params.toList s.vars false W (#[v0, v1] : Array Value).toList [d0, d1] [] (p0 ++ p1)) (h0 : DataW.Trod enc Tryz.prog W 0 (fun _ => true) true t0 v0 d0 p0) (h1 : DataW.Trod enc Tryz.prog W 0 (fun _ => true) true t1 v1 d1 p1)
    (r0 : Tryz.prog.readableRec t0 = true) (z0 : t0 < Tryz.prog.types.size) (r1 : Tryz.prog.readableRec t1 = true) (z1 : t1 < Tryz.prog.types.size) (hb : Below W.heap.size W W') :
    s.post enc Tryz.prog f false fresh handsOn false W #[v0, v1] (.bool true) W' := by
  have hlt := hW.lt
  refine ⟨_, _, _, [], p0 ++ p1, [], hW, ?_, ?_, ?_, hb.frame _, fun h => by cases h⟩
  · rw [hs, hr]; exact trodAll_mk1 (shut_bool Tryz.underlying4 _)
  · rw [hs, hf]; exact trodAll_mk2 (Below.trod Tryz.laidOut r0 z0 h0 hb (fun x hx => hlt x (List.mem_append_left _ hx))) (Below.trod Tryz.laidOut r1 z1 h1 hb (fun x hx => hlt x (List.mem_append_right _ hx)))
  · rw [hs, hvars]; rfl
end Go.Proofs.YtaokjeokpifjgaaGreatDoor

namespace Go.Proofs.YtaokjeokpifjgaaGreatDoor
open Go.ChangeShapes Go.WideShapes Go.ChangeAt Go.RowKit Go.Joins
set_option maxRecDepth 100000

theorem add_none (b off i : Nat) : (⟨b, off, none⟩ : Addr).add i = ⟨b, off + i, none⟩ := by unfold Addr.add; split <;> simp_all
def cInt (cs : List Value) (j : Nat) : Int := match cs[j]? with | some (.int _ z) => z | _ => 0
def cStr (cs : List Value) (j : Nat) : ByteArray := match cs[j]? with | some (.string s) => s | _ => ⟨#[]⟩
def cBool (cs : List Value) (j : Nat) : Bool := match cs[j]? with | some (.bool s) => s | _ => false
end Go.Proofs.YtaokjeokpifjgaaGreatDoor

namespace Go.Proofs.YtaokjeokpifjgaaGreatDoor
open Go.ChangeShapes Go.WideShapes Go.ChangeAt Go.RowKit Go.Joins
set_option maxRecDepth 100000

section
variable {H : Type} {enc : TypeId × Value → H} {W : World}
def FitsD (t : TypeId) (d : DataW H) : Prop := ∀ n ∈ d.weights Tryz.prog t, n ≤ reachBytes
theorem weightsAll_mem {e : TypeId} : ∀ {ds : List (DataW H)} {d : DataW H}, d ∈ ds → ∀ n ∈ d.weights Tryz.prog e, n ∈ DataW.weightsAll Tryz.prog e ds
  | d0 :: r, d, hd, n, hn => by
    simp only [DataW.weightsAll, List.mem_append]
    rcases List.mem_cons.1 hd with rfl | hd
    · exact .inl hn
    · exact .inr (weightsAll_mem hd n hn)
theorem open_cell {t e : TypeId} {n : Nat} {u : Value} {x : DataW H × List MemPlace} (C : Nat) (hpos : 0 < C) (ht : Tryz.prog.underlying t = some (.slice e)) (hC : Tryz.prog.cellsOf e = C)
    (h : DataW.trod enc Tryz.prog W 0 (fun _ => true) true n t [u] = some x) (hw : FitsD t x.1) :
    u = .slice none 0 0 ∨ ∃ (ad : Addr) (len cap b off : Nat) (cs : Nat → List Value), u = .slice (some ad) len cap ∧ (len ≤ maxLen ∧ len * Tryz.prog.bytesOf e ≤ reachBytes) ∧ (0 < len → ad = ⟨b, off, none⟩ ∧ b < W.heap.size) ∧
      ∀ k, k < len → (cs k).length = C ∧ (∀ j, j < C → W.cell? ⟨b, off + k * C + j, none⟩ = (cs k)[j]?) ∧ ∃ n x, DataW.trod enc Tryz.prog W 0 (fun _ => true) true n e (cs k) = some x ∧ FitsD e x.1 := by
  rcases Go.Deep.open_slice ht h with ⟨hcs, _⟩ | ⟨a, len, cap, m, n, D, Pl, hcs, _, hl, hm, hmm, hx, hi⟩
  · exact .inl (by simpa using hcs)
  · right
    have hu : u = .slice (some a) len cap := by simpa using hcs
    have hby : len * Tryz.prog.bytesOf e ≤ reachBytes := by
      have h1 := hw ((((List.range len).map D).length + ((List.range (m - len)).map fun j => D (len + j)).length) * Tryz.prog.bytesOf e) (by rw [hx]; simp [DataW.weights, ht])
      rw [List.length_map, List.length_range] at h1
      exact Nat.le_trans (Nat.mul_le_mul_right _ (Nat.le_add_right _ _)) h1
    have hfit : ∀ k, k < len → FitsD e (D k) := fun k hk n hn => by
      refine hw n ?_
      rw [hx]
      simp only [DataW.weights, ht, List.mem_cons, List.mem_append]
      exact .inr (.inl (weightsAll_mem (List.mem_map.2 ⟨k, by simpa using hk, rfl⟩) n hn))
    simp only [if_true] at hmm
    rw [hC] at hi
    obtain ⟨b, off, spot⟩ := a
    have hex : ∀ k, ∃ cs' : List Value, k < len → W.cells? 0 ((⟨b, off, spot⟩ : Addr).add (k * C)) C = some cs' ∧ DataW.trod enc Tryz.prog W 0 (fun _ => true) true n e cs' = some (D k, Pl k) := fun k => by
      by_cases hk : k < len
      · obtain ⟨cs', h1, h2⟩ := hi k (by omega)
        exact ⟨cs', fun _ => ⟨h1, h2⟩⟩
      · exact ⟨[], fun h => absurd h hk⟩
    obtain ⟨cs, hcs⟩ := Classical.skolem.1 hex
    have hcell : ∀ k, k < len → (cs k).length = C ∧ ∀ j, j < C → W.cell? (((⟨b, off, spot⟩ : Addr).add (k * C)).add j) = (cs k)[j]? := fun k hk => (World.cells?_some (hcs k hk).1).2
    have hspot : 0 < len → spot = none ∧ b < W.heap.size := fun h0 => by
      obtain ⟨h1, h2⟩ := hcell 0 h0
      have h3 := h2 0 hpos
      rw [List.getElem?_eq_getElem (by omega)] at h3
      have hsp : spot = none := by simpa [Addr.add] using World.cell?_spot h3
      subst hsp
      have := World.block_lt_of_cell? _ _ h3
      refine ⟨rfl, ?_⟩
      simpa [Addr.add] using this
    refine ⟨_, len, cap, b, off, cs, hu, ⟨by omega, hby⟩, fun h0 => ?_, fun k hk => ⟨(hcell k hk).1, fun j hj => ?_, _, _, (hcs k hk).2, hfit k hk⟩⟩
    · obtain ⟨rfl, hb⟩ := hspot h0
      exact ⟨rfl, hb⟩
    · obtain ⟨rfl, hb⟩ := hspot (by omega)
      rw [← (hcell k hk).2 j hj]
      rw [add_none, add_none]
theorem map_range_get {α : Type} (f : Nat → α) (n k : Nat) (x : α) (h : ((List.range n).map f)[k]? = some x) : k < n ∧ x = f k := by
  rw [List.getElem?_map] at h
  by_cases hk : k < n
  · rw [List.getElem?_range hk] at h
    exact ⟨hk, (Option.some.inj h).symm⟩
  · rw [List.getElem?_eq_none (by simpa using hk)] at h
    cases h
def BoolsAt (w : World) (B : Nat) (v : Value) (l : List Bool) : Prop :=
  ∃ a b off cap, v = .slice a l.length cap ∧ (0 < l.length → a = some ⟨b, off, none⟩ ∧ b < B) ∧ ∀ k, k < l.length → w.cell? ⟨b, off + k, none⟩ = some (.bool (l.getD k false))
theorem open_bools {n : Nat} {u : Value} {x : DataW H × List MemPlace} (h : DataW.trod enc Tryz.prog W 0 (fun _ => true) true n 23 [u] = some x) (hw : FitsD 23 x.1) : ∃ l, BoolsAt W W.heap.size u l := by
  rcases open_cell 1 (by decide) Tryz.underlying23 (by kernel_rfl) h hw with rfl | ⟨ad, len, cap, b, off, cs, rfl, hl, ha, hc⟩
  · exact ⟨[], none, 0, 0, 0, rfl, fun h => absurd h (by simp), fun k hk => absurd hk (by simp)⟩
  · refine ⟨(List.range len).map (fun k => cBool (cs k) 0), some ad, b, off, cap, by simp, fun h0 => ?_, fun k hk => ?_⟩
    · have := ha (by simpa using h0)
      exact ⟨by rw [this.1], this.2⟩
    · have hk2 : k < len := by simpa using hk
      obtain ⟨h1, h2, m, y, h3, _⟩ := hc k hk2
      have h4 : ∃ z, cs k = [.bool z] := by
        obtain ⟨z, hz, _⟩ := DataW.trod_bool Tryz.underlying4 h3
        exact ⟨z, hz⟩
      obtain ⟨z, hz⟩ := h4
      have h5 := h2 0 (by decide)
      rw [Nat.mul_one, Nat.add_zero, hz] at h5
      rw [h5, List.getD_eq_getElem?_getD, List.getElem?_map, List.getElem?_range hk2]
      simp [hz, cBool]
end
end Go.Proofs.YtaokjeokpifjgaaGreatDoor

namespace Go.Proofs.YtaokjeokpifjgaaGreatDoor
open Go.ChangeShapes Go.WideShapes Go.ChangeAt Go.RowKit Go.Joins
set_option maxRecDepth 100000

def LinesAt (w : World) (B : Nat) (v : Value) (l : List ByteArray) : Prop :=
  ∃ a b off cap, v = .slice a l.length cap ∧ l.length ≤ 140737488355328 ∧ (0 < l.length → a = some ⟨b, off, none⟩ ∧ b < B) ∧ ∀ (k : Nat) x, l[k]? = some x → w.cell? ⟨b, off + k, none⟩ = some (.string x) ∧ x.size ≤ 2251799813685248
section
variable {H : Type} {enc : TypeId × Value → H} {W : World}
theorem open_lines7 {v : Value} {d : DataW H} {p : List MemPlace} (hv : ∃ u, v.cells = #[u] ∧ u = v) (h : DataW.Trod enc Tryz.prog W 0 (fun _ => true) true 22 v d p) (hw : FitsD 22 d) : ∃ A, LinesAt W W.heap.size v A := by
  obtain ⟨fuel, hf⟩ := h
  obtain ⟨u, hu, rfl⟩ := hv
  rw [hu] at hf
  rcases open_cell 1 (by decide) Tryz.underlying22 (by kernel_rfl) hf hw with rfl | ⟨ad, len, cap, b, off, cs, rfl, hl, ha, hc⟩
  · exact ⟨[], none, 0, 0, 0, rfl, by show (0 : Nat) ≤ _; omega, fun h => absurd h (by simp), fun k x hx => by simp at hx⟩
  · have hlen : len ≤ 140737488355328 := by
      have h1 := hl.2
      have h2 : Tryz.prog.bytesOf 9 = 16 := by kernel_rfl
      rw [h2] at h1
      unfold reachBytes at h1
      omega
    refine ⟨(List.range len).map (fun k => cStr (cs k) 0), some ad, b, off, cap, by simp, by simpa using hlen, fun h0 => ?_, fun k x hx => ?_⟩
    · have := ha (by simpa using h0)
      exact ⟨by rw [this.1], this.2⟩
    · obtain ⟨hk2, rfl⟩ := map_range_get _ _ _ _ hx
      obtain ⟨h1, h2, m, y, h3, h4⟩ := hc k hk2
      obtain ⟨z, hz, hy, hwf⟩ := DataW.trod_string Tryz.underlying9 h3
      have h5 := h2 0 (by decide)
      rw [Nat.mul_one, Nat.add_zero, hz] at h5
      rw [h5]
      have e : cStr (cs k) 0 = z := by unfold cStr; rw [hz]; rfl
      rw [e]
      refine ⟨rfl, ?_⟩
      have h6 := h4 z.size (by rw [hy]; simp [DataW.weights])
      unfold reachBytes at h6
      omega
theorem open_bools7 {v : Value} {d : DataW H} {p : List MemPlace} (hv : ∃ u, v.cells = #[u] ∧ u = v) (h : DataW.Trod enc Tryz.prog W 0 (fun _ => true) true 23 v d p) (hw : FitsD 23 d) : ∃ A, BoolsAt W W.heap.size v A := by
  obtain ⟨fuel, hf⟩ := h
  obtain ⟨u, hu, rfl⟩ := hv
  rw [hu] at hf
  exact open_bools hf hw
end
end Go.Proofs.YtaokjeokpifjgaaGreatDoor

namespace Go.Proofs.YtaokjeokpifjgaaGreatDoor
open Go.RowKit Go.MapKept
attribute [local go_sem] gives givesH
set_option maxRecDepth 100000

theorem infoU64v : (Tryz.prog.info? 31).map (fun i => (i.zero, i.size, i.bytes)) = some (some (.int .u64 0), 1, 8) := by kernel_rfl
def idV (rs : List Pst) : List Value := rs.map (fun r => Value.int .u64 r.id)
theorem idV_snoc (rs : List Pst) (r : Pst) : idV (rs ++ [r]) = idV rs ++ [Value.int .u64 r.id] := by unfold idV; rw [List.map_append]; rfl
structure IdsAt (B : Nat) (ids : Value) (w : World) (sb : Nat) (s : Sto) (rs : List Pst) : Prop where
  row : w.ownsRow B 31 1 ids rs.length (idV rs)
  apart : ∀ g, ids.ownBlock = some g → ¬ s.foot g ∧ g ≠ sb ∧ g ≠ s.ib ∧ g ≠ s.lb
section
variable {B : Nat} {ids : Value} {w w' : World} {sb nz : Nat} {s s' : Sto} {D : Dict} {rs : List Pst}
theorem IdsAt.v (h : IdsAt B ids w sb s rs) (hv : VStep w s w' s') : IdsAt B ids w' sb s' rs :=
  ⟨hv.keep.ownsRow h.row (fun g e => (h.apart g e).1), fun g e => ⟨fun e2 => (hv.foot g e2).elim (h.apart g e).1 (fun e3 => by have := (World.ownsRow.lt h.row g e).2; omega), (h.apart g e).2.1, by rw [hv.ib]; exact (h.apart g e).2.2.1, by rw [hv.lb]; exact (h.apart g e).2.2.2⟩⟩
theorem IdsAt.still (h : IdsAt B ids w sb s rs) (hb : Below w.heap.size w w') : IdsAt B ids w' sb s rs := ⟨(Keep.still hb).ownsRow h.row (fun _ _ e => e), h.apart⟩
theorem Held.keep {W0 : World} {P br : Nat} (h : Held W0 P br w sb s D nz) (hi : IdsAt W0.heap.size ids w sb s rs) (hk : Keep (fun q => ids.ownBlock = some q) w w') : Held W0 P br w' sb s D nz :=
  ⟨h.st.keep hk (fun e => (hi.apart _ e).2.1 rfl) (fun e => (hi.apart _ e).2.2.1 rfl) (fun e => (hi.apart _ e).2.2.2 rfl) (fun k e e2 => (hi.apart k e2).1 e), h.foot, h.below.trans (hk.below h.below.size (fun i hl e => by have := (World.ownsRow.lt hi.row i e).1; omega)), h.pg, h.br_⟩
theorem Beside.keep {g : Nat} {o : Obj} (h : Beside w s g o) (hk : Keep (fun q => ids.ownBlock = some q) w w') (hn : ids.ownBlock ≠ some g) : Beside w' s g o := ⟨hk.at h.at_ hn, h.off⟩
end
structure PastI (w : World) (br sb : Nat) (A : List ByteArray) (j : Nat) (ids : Value) (wr : World) (s : Sto) (D : Dict) (nz : Nat) (rs : List Pst) : Prop where
  held : Held w 29991 br wr sb s D nz
  past : Past A s D rs
  len : rs.length = j
  few : Few A j nz s
  ids : IdsAt w.heap.size ids wr sb s rs
set_option maxHeartbeats 3000000 in
theorem versionpast_walk {v gv : Value} {A : List ByteArray} {G : List Bool} (w : World) (hA : LinesAt w w.heap.size v A) (hG : BoolsAt w w.heap.size gv G) :
    Calls Tryz.prog 3 #[v, gv] w fun e w' => e = .returned (.bool true) ∧ Below w.heap.size w w' := by
  have H1 := Hd (awake15_any w)
  obtain ⟨pa, pb, po, pc, rfl, hp48, hpp, hpc⟩ := hA
  obtain ⟨ga, gb, go, gc, rfl, hgp, hgc⟩ := hG
  obtain ⟨pl, hpl⟩ : ∃ pl, A.length = pl := ⟨_, rfl⟩
  obtain ⟨gl, hgl⟩ : ∃ gl, G.length = gl := ⟨_, rfl⟩
  rw [hpl] at hpp hp48 ⊢
  rw [hgl] at hgp hgc ⊢
  have HPp := Hd hpp
  have HPc := Hd hpc
  have HPl := Hd hpl
  have HGp := Hd hgp
  have HGc := Hd hgc
  have hmx : ∀ t ∈ A, t.size ≤ 2251799813685248 := fun t ht => by
    obtain ⟨k, hk, e⟩ := List.getElem_of_mem ht
    exact (hpc k t (by rw [List.getElem?_eq_getElem hk, e])).2
  have HMx := Hd hmx
  clear hpp hpc hpl hgp hgc hgl hmx
  go_enter Tryz.func3, Tryz.ntmps3
  go_wp2_with (go_at_call 8; refine (H1.out).mono ?_; rintro e w1 ⟨rfl, hb1⟩
               have HB1 := Hd hb1
               clear hb1)
  go_loopw [5, 7, 31] (fun n _ i wr => ∃ (k : Nat) (z : Int), k ≤ pl ∧ i = .int .i64 (k : Int) ∧ n = .int .i64 z ∧ (k ≤ 8 → z = (sumB (A.take k) : Int)) ∧ Below w.heap.size w wr) (fun _ _ i _ => pl - (intOf i).toNat)
  case atStart => exact ⟨0, 0, by omega, rfl, rfl, fun _ => by simp [sumB], HB1.out⟩
  case round =>
    obtain ⟨k, z, hk, rfl, rfl, hz, hb⟩ := hrel
    have HB := Hd hb
    have HZ := Hd hz
    clear hb hz
    by_cases hlt : k < pl
    · have g2 : decide ((k : Int) < (pl : Int)) = true := by simp; omega
      have g2' : decide (k < pl) = true := by simpa using hlt
      obtain ⟨rfl, hbl⟩ := HPp.out (by omega)
      obtain ⟨t, hx⟩ : ∃ t, A[k]? = some t := ⟨_, List.getElem?_eq_getElem (by rw [HPl.out]; exact hlt)⟩
      obtain ⟨q0, hts⟩ := HPc.out k _ hx
      have HX := Hd hx
      rw [← HB.out.cell (p := ⟨pb, po + k, none⟩) hbl] at q0
      have hk0 : (0 : Int) ≤ (k : Int) := by omega
      have hk1 : (k : Int) < (pl : Int) := by omega
      clear hx
      go_wp2
      go_roundw
      case rel =>
        refine ⟨k + 1, _, by omega, by go_num, rfl, fun h8 => ?_, HB.out⟩
        have h1 := HZ.out (by omega)
        have h2 := sumB_max A _ HMx.out k
        have h3 := sumB_take HX.out
        rw [h1, h3]
        have e : ((sumB (A.take k) : Nat) : Int) + (t.size : Int) = ((sumB (A.take k) + t.size : Nat) : Int) := by omega
        rw [e]
        exact IntWalk.wrap64_in _ (by omega)
      case measure => simp [intOf]; omega
    · obtain rfl : k = pl := by omega
      have g2 : decide ((k : Int) < (k : Int)) = false := by simp
      by_cases c1 : 8 < k
      · have d1 : decide ((8 : Int) < (k : Int)) = true := by simp; omega
        have d1' : decide (8 < k) = true := by simpa using c1
        go_wp2
        go_ret
        exact ⟨rfl, HB.out⟩
      have d1 : decide ((8 : Int) < (k : Int)) = false := by simp; omega
      have d1' : decide (8 < k) = false := by simpa using c1
      obtain ⟨S, hS⟩ : ∃ S, sumB A = S := ⟨_, rfl⟩
      have hzz : z = (S : Int) := by
        have := HZ.out (by omega)
        rw [List.take_of_length_le (by rw [HPl.out]; exact Nat.le_refl _), hS] at this
        exact this
      subst hzz
      by_cases c2 : 800 < S
      · have d2 : decide ((800 : Int) < (S : Int)) = true := by simp; omega
        have d2' : decide (800 < S) = true := by simpa using c2
        go_wp2
        go_ret
        exact ⟨rfl, HB.out⟩
      have d2 : decide ((800 : Int) < (S : Int)) = false := by simp; omega
      have d2' : decide (800 < S) = false := by simpa using c2
      have HW := Hd (wide15_any 30000 (by omega) (by omega) wr)
      have HS := Hd hS
      clear hS
      go_wp2_with (first
        | (go_at_call 9; refine (HW.out).mono ?_; rintro e w1 ⟨sb, s, rfl, hs, hX, hkv, hpg, hft, hb1⟩
           have hd : Held w 29991 s.br w1 sb s (fun _ => none) 0 := ⟨hs, fun g e => Nat.le_trans HB.out.size (hft g e), HB.out.trans (hb1.mono HB.out.size), hpg.trans pages_30000, rfl⟩
           have HX := Hd (And.intro hX hkv)
           have HM := Hd (bmake_st hs (by have := hd.pg; omega) abc_ok (by rw [hX]; rfl) (now := 0) (by decide))
           have HD := Hd hd
           clear hs hX hkv hpg hft hb1 hd)
        | (go_at_call 10; refine (HM.out).mono ?_; rintro e w2 ⟨rfl, s2, hx, h1, h2, h3⟩
           have hd := HD.out.x hx
           rw [HX.out.1] at h1 h2 h3
           have hp2 := hd.pg
           have hbs := bstate_st hx.st (by omega) abc_ok (by rw [h1]; exact look_mk _) (by decide) (by decide)
           rw [hd.br_] at hbs
           have HSt := Hd hbs
           have HD2 := Hd hd
           have HX2 := Hd (And.intro h1 (And.intro h2 (And.intro h3 (hx.kv.trans HX.out.2))))
           clear hx h1 h2 h3 hd hp2 hbs)
        | (go_at_call 11; refine (HSt.out).mono ?_; rintro e w3 ⟨rfl, s3, hx, h1, h2, h3⟩
           have hd := HD2.out.x hx
           obtain ⟨q1, q2, q3, q4⟩ := HX2.out
           rw [q1] at h1
           rw [q3] at h3
           have q5 := hx.kv.trans q4
           have hi : PastI w s.br sb A 0 (.slice none 0 0) w3 s3 (fun _ => none) 2 [] := by
             refine ⟨hd, ⟨by rw [h1]; exact look_st _ _, by rw [h3]; exact Nat.zero_le _, fun r hr => (by cases hr), fun i r t e => (by simp at e), fun i r r' e => (by simp at e)⟩, rfl, ⟨by omega, by rw [q5]; simp⟩, ⟨World.ownsRow_nil _ _ _ _, fun g e => (by cases e)⟩⟩
           have HI := Hd hi
           clear hx h1 h2 h3 hd q1 q2 q3 q4 q5 hi))
      obtain ⟨i0, hi0, hz0, hz1, hz2⟩ := info_parts infoU64v
      have HIn := Hd hi0
      have Hz0 := Hd hz0
      have Hz1 := Hd hz1
      have Hz2 := Hd hz2
      clear hi0 hz0 hz1 hz2
      obtain ⟨br, hbr⟩ : ∃ br, s.br = br := ⟨_, rfl⟩
      rw [hbr] at HI ⊢
      clear hbr
      go_loopw [10, 11, 12, 13, 14, 15, 16, 17, 18, 61] (fun ids _ _ _ _ _ _ _ _ i wr => ∃ (j : Nat) (s' : Sto) (D' : Dict) (nz : Nat) (rs : List Pst), j ≤ k ∧ i = .int .i64 (j : Int) ∧ PastI w br sb A j ids wr s' D' nz rs) (fun _ _ _ _ _ _ _ _ _ i _ => k - (intOf i).toNat)
      case atStart => exact ⟨0, s3, _, _, [], by omega, rfl, HI.out⟩
      case round =>
        obtain ⟨j, s4, D4, nz, rs, hj, rfl, hpi⟩ := hrel
        obtain ⟨ia, ic, hiv⟩ := slice_formB hpi.ids.row
        rw [hpi.len] at hiv
        subst hiv
        have HI4 := Hd hpi
        by_cases hlt : j < k
        · have g2 : decide ((j : Int) < (k : Int)) = true := by simp; omega
          have g2' : decide (j < k) = true := by simpa using hlt
          obtain ⟨rfl, hbl⟩ := HPp.out (by omega)
          obtain ⟨t, hx⟩ : ∃ t, A[j]? = some t := ⟨_, List.getElem?_eq_getElem (by rw [HPl.out]; exact hlt)⟩
          obtain ⟨q0, hts⟩ := HPc.out j _ hx
          have HAt := Hd hx
          rw [← hpi.held.below.cell (p := ⟨pb, po + j, none⟩) hbl] at q0
          have hj0 : (0 : Int) ≤ (j : Int) := by omega
          have hj1 : (j : Int) < (k : Int) := by omega
          have hst3 := sumB_take hx
          have hsl := sumB_le A (j + 1)
          have hSS := HS.out
          have hf1 := hpi.few.n
          have hf2 := hpi.few.k
          have hpg := hpi.held.pg
          have HB4 := Hd (build_st hpi.held.st t (by omega) (by omega) (by omega))
          have HTs := Hd (show sumB (A.take (j + 1)) = sumB (A.take j) + t.size ∧ sumB (A.take (j + 1)) ≤ 800 ∧ t.size ≤ 800 from ⟨hst3, by omega, by omega⟩)
          clear hx hst3 hsl hSS hf1 hf2 hpg hpi
          go_wp2_with (first
            | (go_at_call 12; refine (HB4.out).mono ?_; rintro e w5 ⟨v5, l, ls, s5, D5, kk, rfl, hpt, hmt, hrow, hvo, hst, hkk, hss, hkv, hle⟩
               have hd := HI4.out.held.v hst hss.v
               have hpa := HI4.out.past.build hss.X hle
               have hid5 := HI4.out.ids.v hss.v
               obtain ⟨q1, q2, q3, q4⟩ := met_all hmt hpt
               have hp5 := hd.pg
               have hz := wrS_size l q1
               have hts := HTs.out
               have hp1 := pagesB_few (n := (wrS l).size) (k := 4) (by omega) (by decide)
               have hf := HI4.out.few.n
               have hnx := hpa.nx
               rw [HI4.out.len] at hnx
               have hj8 : j < 8 := by omega
               have hpu := vput_st hst abc_ok hpa.bk (by decide) k_ok hrow (by omega) q1 (by omega) (by omega) (now := j) (by omega)
               rw [hd.br_, q3] at hpu
               obtain ⟨id, hid⟩ : ∃ id, s5.X.next + 1 = id := ⟨_, rfl⟩
               have HNx := Hd (show s5.X.next + 1 = id ∧ id ≤ 2 * j + 1 from ⟨hid, by omega⟩)
               rw [hid] at hpu
               unfold vC at hpu
               have HPu := Hd hpu
               have HD5 := Hd hd
               have HPa5 := Hd hpa
               have HId5 := Hd hid5
               have HMt := Hd hmt
               have HPt := Hd hpt
               have HPg5 := Hd (show pagesB (wrS l).size ≤ 4 ∧ 16 * kk ≤ t.size + 15 ∧ s5.kvI.length ≤ s4.kvI.length + kk ∧ j < 8 from ⟨hp1, hkk, hkv, hj8⟩)
               obtain ⟨va, vc, hv5⟩ := slice_formB hrow
               subst hv5
               clear hpt hmt hrow hvo hst hkk hss hkv hle hd hpa hid5 q1 q2 q3 q4 hp5 hz hts hp1 hf hnx hpu hid hj8)
            | (go_at_call 13; refine (HPu.out).mono ?_; rintro e w6 ⟨size, page, ps, s6, rfl, hx, h1, h2, h3, h4, h5, h6⟩
               obtain rfl : size = t.size := by omega
               have hd := HD5.out.x hx
               have hid6 := HId5.out.v hx.step
               have hts := HTs.out
               have hlen := HI4.out.len
               have hpa := HPa5.out.put (t := t) (by rw [hlen]; exact HAt.out) (by have := HNx.out; have := HPg5.out; omega) (by rw [hlen, HNx.out.1]; exact h1) h2 (by rw [HNx.out.1]; exact h3) h4 h5 (by omega) HMt.out HPt.out
               rw [HNx.out.1] at hpa
               have hv6 := Beside.new hx.st (.cells #[.string abcB, .string kB, .int .u64 id, .bool false, .bool false, .int .u64 j, .int .i64 t.size, .int .i64 page] 38)
               have hb6 : Below w6.heap.size w6 (w6.alloc (.cells #[.string abcB, .string kB, .int .u64 id, .bool false, .bool false, .int .u64 j, .int .i64 t.size, .int .i64 page] 38)) := (Below.refl _ _).alloc (Nat.le_refl _) _
               have HD6 := Hd (hd.still hb6)
               have HId6 := Hd (hid6.still hb6)
               have hrow6 := (hid6.still hb6).row
               rw [hlen] at hrow6
               have HRow6 := Hd (hrow6.alloc (.cells #[.int .u64 id] 31))
               have HSz6 := Hd (show w.heap.size ≤ w6.heap.size from hd.below.size)
               have HLt6 := Hd (fun g (e : (Value.slice ia j ic).ownBlock = some g) => (World.ownsRow.lt hid6.row g e).2)
               have HPa6 := Hd hpa
               have HV6 := Hd hv6
               have HX6 := Hd (show s6.X.next = id ∧ s6.kvI = s5.kvI from ⟨h3, hx.kv⟩)
               have hx7 := heap_alloc_new (w6.alloc (.cells #[.string abcB, .string kB, .int .u64 id, .bool false, .bool false, .int .u64 j, .int .i64 t.size, .int .i64 page] 38)) (.cells #[.int .u64 id] 31)
               rw [World.size_alloc] at hx7
               have HX7 := Hd hx7
               obtain ⟨⟨d0, d1, d2, d3, d4, d5, d6, d7⟩, y0, y1, y2, y3, y4, y5, y6, y7⟩ := box8 hv6.at_
               clear hx h1 h2 h3 h4 h5 h6 hd hid6 hts hlen hpa hv6 hb6 hx7 hrow6 y0 y1 y2 y3 y4 y5 y6 y7)
            | (at_builtin
               refine wpList_append_own_at _ (by rfl) _ _ 33 (by rfl) w.heap.size 31 i0 (.int .u64 0) 1 8 Tryz.underlying33 HIn.out Hz0.out Hz1.out Hz2.out (by rfl) (by decide) (.slice ia j ic) _ _ (by rfl) HRow6.out ⟨w6.heap.size + 1, 0, none⟩ 1 1 [.int .u64 id] (by rfl) (by rfl) (World.news_of_block (cs := #[.int .u64 id]) (t := 31) (fr := (0, 0)) HX7.out) (by simp [Value.oneCell']) (by unfold maxLen; have := HPg5.out; omega) (by omega) ?_ ?_
               · have h1 := HSz6.out; simp; omega
               intro v8 w8 hown8 hg8 hnil8 hloc8
               have hk8 := ((Keep.refl (fun q => (Value.slice ia j ic).ownBlock = some q) (w6.alloc (.cells #[.string abcB, .string kB, .int .u64 id, .bool false, .bool false, .int .u64 j, .int .i64 t.size, .int .i64 page] 38))).alloc (.cells #[.int .u64 id] 31)).grown hg8 (fun q _ e => e)
               have HLoc := Hd (show ∀ g, v8.ownBlock = some g → (Value.slice ia j ic).ownBlock = some g ∨ w6.heap.size + 1 ≤ g from fun g e => hloc8.imp (fun e2 => by rw [← e2]; exact e) (fun e2 => by
                 rw [e2] at e
                 have e3 := Option.some.inj e
                 simp at e3
                 omega))
               obtain ⟨p8, c8, hv8⟩ := slice_formB hown8
               subst hv8
               have hn6 : (Value.slice ia j ic).ownBlock ≠ some w6.heap.size := fun e => by have := HLt6.out _ e; omega
               have hd8 := HD6.out.keep HId6.out hk8
               have hv8 := HV6.out.keep hk8 hn6
               have hah := HD6.out.st.ahead
               rw [World.size_alloc] at hah
               have hids8 : IdsAt w.heap.size (.slice p8 (j + 1) c8) w8 sb s6 (rs ++ [⟨l, ls, ps, id, t.size, page⟩]) := by
                 refine ⟨?_, fun g e => (HLoc.out g e).elim (HId6.out.apart g) (fun e2 => ⟨fun e3 => ?_, fun e3 => ?_, fun e3 => ?_, fun e3 => ?_⟩)⟩
                 · rw [List.length_append, HI4.out.len, idV_snoc]; exact hown8
                 · have := hah.2.2.2 g e3; omega
                 · have := hah.1; omega
                 · have := hah.2.1; omega
                 · have := hah.2.2.1; omega
               have hpi8 : PastI w br sb A (j + 1) (.slice p8 (j + 1) c8) w8 s6 D5 (nz + 2 * kk + pagesB (wrS l).size + 2) (rs ++ [⟨l, ls, ps, id, t.size, page⟩]) := by
                 refine ⟨hd8, HPa6.out, by rw [List.length_append, HI4.out.len]; rfl, ⟨?_, ?_⟩, hids8⟩
                 · have h1 := HI4.out.few.n; have h2 := HTs.out; have h3 := HPg5.out; omega
                 · have h1 := HI4.out.few.k; have h2 := HTs.out; have h3 := HPg5.out; rw [HX6.out.2]; omega
               have HPi8 := Hd hpi8
               have HV8 := Hd hv8
               have hcase : (decide ((j : Int) < (gl : Int)) = true ∧ decide (j < gl) = true ∧ ga = some ⟨gb, go, none⟩ ∧ w8.cell? ⟨gb, go + j, none⟩ = some (.bool true) ∧ (j : Int) < (gl : Int)) ∨ (decide ((j : Int) < (gl : Int)) = true ∧ decide (j < gl) = true ∧ ga = some ⟨gb, go, none⟩ ∧ w8.cell? ⟨gb, go + j, none⟩ = some (.bool false) ∧ (j : Int) < (gl : Int)) ∨ (decide ((j : Int) < (gl : Int)) = false ∧ decide (j < gl) = false) := by
                 by_cases e : j < gl
                 · obtain ⟨e1, hgb⟩ := HGp.out (by omega)
                   have qg := HGc.out j e
                   rw [← HPi8.out.held.below.cell (p := ⟨gb, go + j, none⟩) hgb] at qg
                   have e2 : decide ((j : Int) < (gl : Int)) = true := by simp; omega
                   have e3 : decide (j < gl) = true := by simpa using e
                   cases hbv : G.getD j false
                   · rw [hbv] at qg; exact .inr (.inl ⟨e2, e3, e1, qg, by omega⟩)
                   · rw [hbv] at qg; exact .inl ⟨e2, e3, e1, qg, by omega⟩
                 · exact .inr (.inr ⟨by simp; omega, by simpa using e⟩)
               have hnx := HX6.out.1
               have hf := HPi8.out.few.n
               have hpg := HPi8.out.held.pg
               have hts := HTs.out
               have hnn := HNx.out
               have hj8 := HPg5.out.2.2.2
               have hde := vdel_st HPi8.out.held.st abc_ok HPi8.out.past.bk (by decide) k_ok (by omega) (by omega) (now := j) (by omega)
               rw [hnx, HPi8.out.held.br_] at hde
               obtain ⟨id2, hid2⟩ : ∃ id2, id + 1 = id2 := ⟨_, rfl⟩
               rw [hid2] at hde
               unfold vC at hde
               have HDe := Hd hde
               have g3 : decide ((id2 : Int) ≤ (id : Int)) = false := by simp; omega
               have g3' : decide (id2 ≤ id) = false := by simp; omega
               have HId2 := Hd hid2
               clear hown8 hg8 hnil8 hloc8 hk8 hn6 hd8 hv8 hah hids8 hpi8 hnx hf hpg hts hnn hj8 hde hid2
               rcases hcase with ⟨f4, f4', rfl, qg, hg1⟩ | ⟨f4, f4', rfl, qg, hg1⟩ | ⟨f4, f4'⟩)
            | (go_at_call 14; refine (HDe.out).mono ?_; rintro e w9 ⟨s7, rfl, hx, h1, h2, h3⟩
               have hv9 := HV8.out.v hx.step
               have hm9 := Beside.new hx.st (.cells #[.string abcB, .string kB, .int .u64 id2, .bool false, .bool true, .int .u64 j, .int .i64 0, .int .i64 0] 38)
               have hb9 : Below w9.heap.size w9 (w9.alloc (.cells #[.string abcB, .string kB, .int .u64 id2, .bool false, .bool true, .int .u64 j, .int .i64 0, .int .i64 0] 38)) := (Below.refl _ _).alloc (Nat.le_refl _) _
               have hnx := HX6.out.1
               have hpi9 : PastI w br sb A (j + 1) (.slice p8 (j + 1) c8) (w9.alloc (.cells #[.string abcB, .string kB, .int .u64 id2, .bool false, .bool true, .int .u64 j, .int .i64 0, .int .i64 0] 38)) s7 D5 (nz + 2 * kk + pagesB (wrS l).size + 2 + 2) (rs ++ [⟨l, ls, ps, id, t.size, page⟩]) := by
                 refine ⟨(HPi8.out.held.x hx).still hb9, HPi8.out.past.del ?_ ?_ (by rw [hnx, HId2.out]; exact h1) h2 (by rw [hnx, HId2.out]; exact h3), HPi8.out.len, ⟨?_, ?_⟩, (HPi8.out.ids.v hx.step).still hb9⟩
                 · rw [hnx, HPi8.out.len]; have := HNx.out; omega
                 · rw [hnx]; have := HNx.out; have := HPg5.out; omega
                 · have h1 := HI4.out.few.n; have h2 := HTs.out; have h3 := HPg5.out; omega
                 · rw [hx.kv]; exact HPi8.out.few.k
               have HPi9 := Hd hpi9
               obtain ⟨⟨d0, d1, d2, d3, d4, d5, d6, d7⟩, y0, y1, y2, y3, y4, y5, y6, y7⟩ := box8 (hv9.still hb9).at_
               obtain ⟨⟨e0, e1, e2, e3, e4, e5, e6, e7⟩, z0, z1, z2, z3, z4, z5, z6, z7⟩ := box8 hm9.at_
               clear hx h1 h2 h3 hv9 hm9 hb9 hnx hpi9 y0 y1 y2 y3 y4 y5 y6 y7 z0 z1 z2 z3 z4 z5 z6 z7))
          · go_roundw
            case rel => exact ⟨j + 1, s7, D5, _, _, by omega, by go_num, HPi9.out⟩
            case measure => simp [intOf]; omega
          · go_roundw
            case rel => exact ⟨j + 1, s6, D5, _, _, by omega, by go_num, HPi8.out⟩
            case measure => simp [intOf]; omega
          · go_roundw
            case rel => exact ⟨j + 1, s6, D5, _, _, by omega, by go_num, HPi8.out⟩
            case measure => simp [intOf]; omega
        · obtain rfl : j = k := by omega
          have g2 : decide ((j : Int) < (j : Int)) = false := by simp
          clear hpi
          obtain ⟨wz, rfl⟩ : ∃ wz, wz = wr := ⟨_, rfl⟩
          have hrow := HI4.out.ids.row
          rw [HI4.out.len] at hrow
          have HRow := Hd hrow
          have hst := HI4.out.held.st
          have hbr4 := HI4.out.held.br_
          have hbel := HI4.out.held.below
          have hbk := HI4.out.past.bk
          have hn4 : nz ≤ 202 := by
            have h1 := HI4.out.few.n
            have h2 := sumB_le A j
            have h3 := HS.out
            omega
          have hpg4 := HI4.out.held.pg
          have hnx4 : s4.X.next ≤ 16 := by
            have := HI4.out.past.nx
            have := HI4.out.len
            omega
          have HSt := Hd hst
          have HBr4 := Hd hbr4
          have HBel := Hd hbel
          have HBk := Hd hbk
          have HN4 := Hd (show nz ≤ 202 ∧ s4.R.pages = 29991 ∧ s4.X.next ≤ 16 from ⟨hn4, hpg4, hnx4⟩)
          clear hrow hst hbr4 hbel hbk hn4 hpg4 hnx4
          go_wp2
          go_loopw [19, 20, 21, 22, 23, 24, 25, 26, 131] (fun _ _ _ _ _ _ _ _ i wx => ∃ m : Nat, m ≤ j ∧ i = .int .i64 (m : Int) ∧ Below wz.heap.size wz wx) (fun _ _ _ _ _ _ _ _ i _ => j - (intOf i).toNat)
          case atStart => exact ⟨0, by omega, rfl, Below.refl _ _⟩
          case round =>
            obtain ⟨m, hm, rfl, hbm⟩ := hrel
            have HBm := Hd hbm
            clear hbm
            by_cases hlm : m < j
            · have g3 : decide ((m : Int) < (j : Int)) = true := by simp; omega
              have g3' : decide (m < j) = true := by simpa using hlm
              obtain ⟨rfl, hbl⟩ := HPp.out (by omega)
              obtain ⟨t, hx⟩ : ∃ t, A[m]? = some t := ⟨_, List.getElem?_eq_getElem (by rw [HPl.out]; exact hlm)⟩
              obtain ⟨r, hr⟩ : ∃ r, rs[m]? = some r := ⟨_, List.getElem?_eq_getElem (by rw [HI4.out.len]; exact hlm)⟩
              have hsd := HI4.out.past.one m r t hr hx
              obtain ⟨gs, cs, hs, hc1, hc2, hgB⟩ := row_posB HRow.out (by omega)
              obtain ⟨e1, e2, e3⟩ := Value.slice.inj hs
              subst e1
              have hgl := (World.ownsRow.lt HRow.out gs rfl).2
              have qi : wz.cell? ⟨gs, m, none⟩ = some (.int .u64 r.id) := row_cells HRow.out m _ (by unfold idV; rw [List.getElem?_map, hr]; rfl)
              rw [← HBm.out.cell (p := ⟨gs, m, none⟩) hgl] at qi
              have q0 := (HPc.out m _ hx).1
              have hbl2 : pb < wz.heap.size := Nat.lt_of_lt_of_le hbl HBel.out.size
              rw [← HBel.out.cell (p := ⟨pb, po + m, none⟩) hbl] at q0
              have hcase : m = 0 ∨ ∃ r' : Pst, 1 ≤ m ∧ wz.cell? ⟨gs, m - 1, none⟩ = some (.int .u64 r'.id) ∧ r'.id < r.id := by
                by_cases e : m = 0
                · exact .inl e
                · obtain ⟨r', hr'⟩ : ∃ r', rs[m - 1]? = some r' := ⟨_, List.getElem?_eq_getElem (by rw [HI4.out.len]; omega)⟩
                  exact .inr ⟨r', by omega, row_cells HRow.out (m - 1) _ (by unfold idV; rw [List.getElem?_map, hr']; rfl), HI4.out.past.up (m - 1) r' r hr' (by rw [show m - 1 + 1 = m by omega]; exact hr)⟩
              have hall := met_all hsd.met hsd.parts
              have hn4 := HN4.out
              have hhi := hsd.hi
              have htsz : t.size ≤ 800 := by
                have h1 := sumB_take hx
                have h2 := sumB_le A (m + 1)
                have h3 := HS.out
                omega
              have hpl6 := hsd.pl
              have hfi := vfind_id (HSt.out.still HBm.out) (by omega) abc_ok HBk.out (by decide) (by decide) k_ok hsd.lo (by omega) (by omega) hsd.sz (by omega) hsd.kv
              rw [HBr4.out] at hfi
              unfold vC at hfi
              have hre := fun (u : World) (hu : Below wz.heap.size wz u) => refs_v (b := abcB) (item := kB) (id := r.id) (born := m) (size := r.size) (HSt.out.still hu) (by omega) hall.1 hsd.vb hsd.pg
              simp only [HBr4.out] at hre
              unfold vC at hre
              have HFi := Hd hfi
              have HRe := Hd hre
              have HAll := Hd hall
              have HTsz := Hd htsz
              have HQ0 := Hd q0
              have HBl2 := Hd hbl2
              have HGl := Hd hgl
              have HCase := Hd hcase
              have hm0 : (0 : Int) ≤ (m : Int) := by omega
              have hm1 : (m : Int) < (j : Int) := by omega
              clear hx hr hsd hs e2 e3 hgl q0 hbl hbl2 hcase hall hn4 hhi htsz hpl6 hfi hre
              go_wp2_with (first
                | (go_at_call 15; refine (HFi.out).mono ?_; rintro e w11 ⟨rfl, hb11⟩
                   have hx11 := heap_alloc_new w11 (.cells #[.string abcB, .string kB, .int .u64 r.id, .bool false, .bool false, .int .u64 m, .int .i64 r.size, .int .i64 r.page] 38)
                   have hbx : Below w11.heap.size w11 (w11.alloc (.cells #[.string abcB, .string kB, .int .u64 r.id, .bool false, .bool false, .int .u64 m, .int .i64 r.size, .int .i64 r.page] 38)) := (Below.refl _ _).alloc (Nat.le_refl _) _
                   have h11 := HBm.out.trans (hb11.mono HBm.out.size)
                   have hb12 := h11.trans (hbx.mono h11.size)
                   have HR12 := Hd (HRe.out _ hb12)
                   have HB12 := Hd hb12
                   have HX12 := Hd hx11
                   obtain ⟨⟨d0, d1, d2, d3, d4, d5, d6, d7⟩, y0, y1, y2, y3, y4, y5, y6, y7⟩ := box8 hx11
                   clear qi hx11 hbx h11 hb12 hb11 y0 y1 y2 y3 y4 y5 y6 y7)
                | (go_at_call 16; refine (HR12.out).mono ?_; rintro e w13 ⟨v13, B13, rfl, hrow13, hB13, hb13⟩
                   have hb13' := HB12.out.trans (hb13.mono HB12.out.size)
                   have hll := HAll.out.2.1
                   have hts := HTsz.out
                   have hn4 := HN4.out
                   have hby := recipe_bytes (HSt.out.still hb13') (by omega) hrow13 (by omega)
                   rw [HAll.out.2.2.2] at hby
                   have HBy := Hd hby
                   have HB13 := Hd hb13'
                   have HX13 := Hd ((hb13.block _ (Gl HX12.out)).trans HX12.out)
                   obtain ⟨va, vc, hv13⟩ := slice_formB hrow13
                   subst hv13
                   clear d0 d1 d2 d3 d4 d5 d6 d7 hrow13 hB13 hb13 hb13' hll hts hn4 hby)
                | (go_at_call 17; refine (HBy.out).mono ?_; rintro e w14 ⟨rfl, hb14⟩
                   have hb14' := HB13.out.trans (hb14.mono HB13.out.size)
                   have q0 := HQ0.out
                   rw [← hb14'.cell (p := ⟨pb, po + m, none⟩) HBl2.out] at q0
                   have hx14 := (hb14.block _ (Gl HX13.out)).trans HX13.out
                   obtain ⟨⟨d0, d1, d2, d3, d4, d5, d6, d7⟩, y0, y1, y2, y3, y4, y5, y6, y7⟩ := box8 hx14
                   have HB14 := Hd hb14'
                   have hca : (decide ((0 : Int) < (m : Int)) = false ∧ decide (0 < m) = false) ∨ (∃ r' : Int, (decide ((0 : Int) < (m : Int)) = true ∧ decide (0 < m) = true) ∧ w14.cell? ⟨gs, m - 1, none⟩ = some (.int .u64 r') ∧ decide ((r.id : Int) ≤ r') = false ∧ (1 : Int) ≤ (m : Int) ∧ (m : Int) - 1 < (j : Int)) := by
                     rcases HCase.out with e | ⟨r', h1, h2, h3⟩
                     · exact .inl ⟨by simp; omega, by simp; omega⟩
                     · rw [← hb14'.cell (p := ⟨gs, m - 1, none⟩) HGl.out] at h2
                       exact .inr ⟨_, ⟨by simp; omega, by simp; omega⟩, h2, by simp; omega, by omega, by omega⟩
                   clear hb14 hb14' hx14 y0 y1 y2 y3 y4 y5 y6 y7
                   rcases hca with ⟨z1, z2⟩ | ⟨r', ⟨z1, z2⟩, z3, z4, z5, z6⟩))
              all_goals first
                | (refine ⟨⟨m + 1, by omega, by go_num, HB14.out⟩, ?_⟩; simp [intOf]; omega)
                | (exfalso; omega)
            · obtain rfl : m = j := by omega
              have g3 : decide ((m : Int) < (m : Int)) = false := by simp
              go_wp2
              go_ret
              exact ⟨rfl, HBel.out.trans (HBm.out.mono HBel.out.size)⟩
end Go.Proofs.YtaokjeokpifjgaaGreatDoor
