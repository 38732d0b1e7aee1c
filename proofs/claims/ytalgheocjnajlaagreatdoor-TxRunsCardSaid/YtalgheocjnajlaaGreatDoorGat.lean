/-
  THE LOG, walked: gather.
-/
import Derived.Test.YtalgheocjnajlaaGreatDoorCat
import Derived.BigQuiet
import Derived.WalkSmall
namespace Go.Proofs.YtalgheocjnajlaaGreatDoor
open Go.RowKit Go.MapKept
attribute [local go_sem] gives givesH
set_option maxRecDepth 100000

/-- what is wrong with a group: the first put that is -/
def gErr (homes : Nat) : Puts → Int
  | [] => 0
  | x :: p => if x.1 < 0 ∨ (homes : Int) ≤ x.1 then 2 else if 512 < x.2.size then 5 else gErr homes p
/-- a group's texts -/
def fullG (p : Puts) : Int → Option ByteArray := fun i => (lastOf p i).map fullS
theorem fullG_snoc (p : Puts) (x : Int × ByteArray) : strs (fullG (p ++ [x])) = putAt (strs (fullG p)) x.1 (.string (fullS x.2)) := by
  funext i
  unfold putAt strs fullG
  rw [lastOf_snoc]
  by_cases h : i = x.1
  · subst h; simp
  · rw [if_neg h, if_neg (fun e => h e.symm)]
theorem ListsAt.mono {w : World} {B B' : Nat} {v : Value} {ps : List Puts} (h : ListsAt w B v ps) (hB : B ≤ B') : ListsAt w B' v ps :=
  h.imp id (fun ⟨ad, b, off, cap, vs, h1, h2, h3⟩ => ⟨ad, b, off, cap, vs, h1, fun h => ⟨(h2 h).1, Nat.lt_of_lt_of_le (h2 h).2 hB⟩, fun k p hp => ⟨(h3 k p hp).1, (h3 k p hp).2.imp id (fun ⟨ad, b, off, cap, h1, h2, h3⟩ => ⟨ad, b, off, cap, h1, fun h => ⟨(h2 h).1, Nat.lt_of_lt_of_le (h2 h).2 hB⟩, h3⟩)⟩⟩)
def Gathered (w : World) (homes : Nat) (p : Puts) (e : Ending) (w' : World) : Prop :=
  Below w.heap.size w w' ∧ ((gErr homes p = 0 ∧ ∃ bm n, e = .returned (.tuple #[.map (some bm), .int .i64 0]) ∧ IMap w' bm (strs (fullG p)) n ∧ w.heap.size ≤ bm) ∨
    (gErr homes p ≠ 0 ∧ e = .returned (.tuple #[.map none, .int .i64 (gErr homes p)])))
set_option maxHeartbeats 4000000 in
theorem gather_any {w : World} {bl : Nat} {L : LogS} (h : LogAt w bl L) {v : Value} {ps : List Puts} (hv : ListsAt w w.heap.size v ps) (hn : ps.flatten.length ≤ 1000000) (hl : ps.length ≤ 1000000) (hsz : ∀ x ∈ ps.flatten, x.2.size ≤ 9223372036854775807) :
    Calls Tryz.prog 92 #[.pointer (some ⟨bl, 0, none⟩), v] w (Gathered w L.homes ps.flatten) := by
  have H1 := Lib.hid (fun u (hu : LogAt u bl L) => logHomes_any hu)
  have hb1 : Below w.heap.size w (w.alloc (.map #[] 0)) := (Below.refl _ _).alloc (Nat.le_refl _) _
  have HCt := Lib.hid (concat_any ((hv.still hb1).mono (B' := (w.alloc (.map #[] 0)).heap.size) (by simp)) hn hl)
  obtain ⟨p, hp⟩ : ∃ p, ps.flatten = p := ⟨_, rfl⟩
  rw [hp] at HCt hn hsz ⊢
  obtain ⟨n, hnn⟩ : ∃ n, p.length = n := ⟨_, rfl⟩
  rw [hnn] at HCt hn
  have HN := Lib.hid hnn
  have HSz := Lib.hid hsz
  have hm0 : IMap (w.alloc (.map #[] 0)) w.heap.size (strs (fullG [])) 0 := by
    have e : strs (fullG []) = fun _ => none := by funext i; simp [strs, fullG, lastOf]
    rw [e]
    exact IMap_made w
  have HM0 := Lib.hid hm0
  obtain ⟨hom, hhom⟩ : ∃ hom, L.homes = hom := ⟨_, rfl⟩
  rw [hhom] at H1 ⊢
  have hh63 : hom ≤ 65536 := by rw [← hhom]; unfold LogS.homes; have := h.disk.size; omega
  have HLg := Lib.hid h
  have hmm := @run_makeMap Tryz.prog
  have hbw : (w.alloc (.map #[] 0)).heap.size = w.heap.size + 1 := by simp
  have HBw := Lib.hid hbw
  clear hb1 hv hl hp hnn hsz hm0 hhom h hbw
  go_enter Tryz.func92, Tryz.ntmps92
  go_wp2_with (go_at_call 107; refine (HCt.out).mono ?_; rintro e w2 ⟨v2, rfl, hrow, hb2⟩
               have HB2 := Lib.hid (((Below.refl _ w).alloc (Nat.le_refl _) (.map #[] 0)).trans (hb2.mono (by simp)))
               have HM2 := Lib.hid (HM0.out.keep (Keep.still hb2) (fun e => e))
               obtain ⟨a2, c2, rfl⟩ := slice_formB hrow
               have HR2 := Lib.hid hrow
               clear hrow hb2)
  go_loopw [13] (fun i wr2 => ∃ k : Nat, k ≤ n ∧ i = .int .i64 k ∧ gErr hom p = gErr hom (p.drop k) ∧ (∃ m, IMap wr2 w.heap.size (strs (fullG (p.take k))) m) ∧ Below w.heap.size w wr2 ∧ wr2.ownsRow (w.heap.size + 1) 60 2 (.slice a2 n c2) n (writeCells p)) (fun i _ => n - (intOf i).toNat)
  case atStart => exact ⟨0, by omega, rfl, rfl, ⟨_, HM2.out⟩, HB2.out, HBw.out ▸ HR2.out⟩
  case round =>
    obtain ⟨k, hk, rfl, hge, hmap, hbel, hrow⟩ := hrel
    have HGe := Lib.hid hge
    have HMp := Lib.hid hmap
    have HB := Lib.hid hbel
    have HR := Lib.hid hrow
    clear hge hmap hbel hrow
    by_cases hlt : k < n
    · have g1 : decide ((k : Int) < (n : Int)) = true := by simp; omega
      have g1' : decide (k < n) = true := by simpa using hlt
      obtain ⟨x, hx⟩ : ∃ x, p[k]? = some x := ⟨_, List.getElem?_eq_getElem (by rw [HN.out]; exact hlt)⟩
      obtain ⟨ga, cb, hga, hcb, hcm, hgb⟩ := row_posB HR.out (by omega)
      obtain ⟨rfl, rfl⟩ : a2 = some ⟨ga, 0, none⟩ ∧ cb = c2 := by cases hga; exact ⟨rfl, rfl⟩
      clear hga
      have q0 := row_cells HR.out (k * 2) _ (writeCells_row p k x hx).1
      have q1 := row_cells HR.out (k * 2 + 1) _ (writeCells_row p k x hx).2
      have hdrop : p.drop k = x :: p.drop (k + 1) := by
        obtain ⟨hk2, hxe⟩ := List.getElem?_eq_some_iff.1 hx
        rw [List.drop_eq_getElem_cons hk2, hxe]
      have htake : p.take (k + 1) = p.take k ++ [x] := by rw [List.take_add_one, hx]; rfl
      have hxs := HSz.out x (List.mem_of_getElem? hx)
      have hge : gErr hom p = if x.1 < 0 ∨ (hom : Int) ≤ x.1 then 2 else if 512 < x.2.size then 5 else gErr hom (p.drop (k + 1)) := by
        rw [HGe.out, hdrop]; rfl
      have HG2 := Lib.hid hge
      have HTk := Lib.hid htake
      have hbb : Below w.heap.size w (wr.alloc (Obj.cells #[Value.int IntKind.i64 x.1, Value.string x.2] 60)) := HB.out.alloc HB.out.size _
      have HBb := Lib.hid hbb
      have HMb : Hid (∃ m, IMap (wr.alloc (Obj.cells #[Value.int IntKind.i64 x.1, Value.string x.2] 60)) w.heap.size (strs (fullG (p.take k))) m) := by
        refine Lib.hid ?_
        obtain ⟨m, hm⟩ := HMp.out
        exact ⟨m, hm.keep ((Keep.refl (fun _ => False) wr).alloc _) (fun e => e)⟩
      have HRb := Lib.hid (HR.out.alloc (Obj.cells #[Value.int IntKind.i64 x.1, Value.string x.2] 60))
      have hk0 : (0 : Int) ≤ (k : Int) := by omega
      have hk1 : (k : Int) < (n : Int) := by omega
      have bx0 : (wr.alloc (Obj.cells #[Value.int IntKind.i64 x.1, Value.string x.2] 60)).cell? ⟨wr.heap.size, 0, none⟩ = some (.int .i64 x.1) := Lib.cell_of_heap (heap_alloc_new wr _) 0
      have bx1 : (wr.alloc (Obj.cells #[Value.int IntKind.i64 x.1, Value.string x.2] 60)).cell? ⟨wr.heap.size, 1, none⟩ = some (.string x.2) := Lib.cell_of_heap (heap_alloc_new wr _) 1
      have HX0 := Lib.hid bx0
      have HX1 := Lib.hid bx1
      obtain ⟨xi, xs⟩ := x
      simp only at *
      clear hx hdrop htake hge hbb bx0 bx1
      by_cases c1 : xi < 0
      · have d1 : decide (xi < 0) = true := by simpa using c1
        have hg : gErr hom p = 2 := by rw [HG2.out, if_pos (.inl c1)]
        have HGg := Lib.hid hg
        clear c1 hg
        go_wp2
        have b0 := HX0.out
        go_quiet (fail)
        go_wp2
        go_ret2
        exact ⟨below_drewN HBb.out _, .inr ⟨by rw [HGg.out]; decide, by rw [HGg.out]; rfl⟩⟩
      have d1 : decide (xi < 0) = false := by simpa using c1
      have hwbs : wr.heap.size < (wr.alloc (Obj.cells #[Value.int IntKind.i64 xi, Value.string xs] 60)).heap.size := by simp
      obtain ⟨C, hC⟩ : ∃ C : World → Prop, ∀ u, C u ↔ Below ((wr.alloc (Obj.cells #[Value.int IntKind.i64 xi, Value.string xs] 60))).heap.size ((wr.alloc (Obj.cells #[Value.int IntKind.i64 xi, Value.string xs] 60))) u := ⟨fun u => Below ((wr.alloc (Obj.cells #[Value.int IntKind.i64 xi, Value.string xs] 60))).heap.size ((wr.alloc (Obj.cells #[Value.int IntKind.i64 xi, Value.string xs] 60))) u, fun _ => Iff.rfl⟩
      have F : ∀ u, C u → LogAt u bl L ∧ u.cell? ⟨wr.heap.size, 0, none⟩ = some (.int .i64 xi) ∧ u.cell? ⟨wr.heap.size, 1, none⟩ = some (.string xs) := fun u hu => by
        have hu := (hC u).1 hu
        exact ⟨HLg.out.still (HBb.out.trans (hu.mono HBb.out.size)), by rw [hu.cell (p := ⟨wr.heap.size, 0, none⟩) hwbs]; exact HX0.out, by rw [hu.cell (p := ⟨wr.heap.size, 1, none⟩) hwbs]; exact HX1.out⟩
      have step : ∀ u u', C u → Below u.heap.size u u' → C u' := fun u u' hu hb => (hC u').2 (((hC u).1 hu).trans (hb.mono ((hC u).1 hu).size))
      have HC := Lib.hid hC
      have FF := Lib.hid F
      clear hC F
      by_cases c2 : (hom : Int) ≤ xi
      · have d2 : decide ((hom : Int) ≤ xi) = true := by simpa using c2
        have hg : gErr hom p = 2 := by rw [HG2.out, if_pos (.inr c2)]
        have HGg := Lib.hid hg
        clear hg
        go_wp2
        refine wp_region_inv 10 C (by kernel_rfl) (by kernel_rfl) ((HC.out _).2 (Below.refl _ _).drew) ?_
        simp only [List.take_succ_cons, List.take_zero, List.drop_succ_cons, List.drop_zero]
        repeat
          first
          | (refine wpInv_plain rfl (fun K hK => ?_)
             apply Exists.intro
             refine ⟨fun u hu => ?_, ?_⟩
             · have HU := Lib.hid hu
               obtain ⟨ff, f0, f1⟩ := FF.out u hu
               clear hu
               go_simp
               first
                 | exact ⟨HU.out, rfl⟩
                 | (go_at_call 56; with_reducible refine (H1.out u (FF.out u HU.out).1).mono ?_; rintro e w' ⟨rfl, hb⟩; exact ⟨rfl, step _ _ HU.out hb⟩)
             go_simp
             refine hK _ ?_
             clear hK K)
          | (refine wpInv_passed (by rfl) (fun K hK => ?_); go_simp; refine hK _ ?_; clear hK K)
          | (refine wpInv_wanted (by rfl) (fun K hK => ?_)
             apply Exists.intro
             refine ⟨fun u hu => ?_, ?_⟩
             · have HU := Lib.hid hu
               obtain ⟨ff, f0, f1⟩ := FF.out u hu
               clear hu
               go_simp
               first
                 | exact ⟨HU.out, rfl⟩
                 | (go_at_call 56; with_reducible refine (H1.out u (FF.out u HU.out).1).mono ?_; rintro e w' ⟨rfl, hb⟩; exact ⟨rfl, step _ _ HU.out hb⟩)
             go_simp
             refine hK _ ?_
             clear hK K)
        refine wpInv_nil ?_
        intro w3 hw3
        have HB3 := Lib.hid (HBb.out.trans (((HC.out _).1 hw3).mono HBb.out.size))
        clear hw3
        go_wp2
        go_ret2
        exact ⟨HB3.out, .inr ⟨by rw [HGg.out]; decide, by rw [HGg.out]; rfl⟩⟩
      have d2 : decide ((hom : Int) ≤ xi) = false := by simpa using c2
      have h12 : ¬ (xi < 0 ∨ (hom : Int) ≤ xi) := by omega
      have H12 := Lib.hid h12
      by_cases c3 : 512 < xs.size
      · have d3 : decide ((512 : Int) < (xs.size : Int)) = true := by simp; omega
        have hg : gErr hom p = 5 := by rw [HG2.out, if_neg H12.out, if_pos c3]
        have HGg := Lib.hid hg
        clear hg h12
        go_wp2
        refine wp_region_inv 10 C (by kernel_rfl) (by kernel_rfl) ((HC.out _).2 (Below.refl _ _).drew) ?_
        simp only [List.take_succ_cons, List.take_zero, List.drop_succ_cons, List.drop_zero]
        repeat
          first
          | (refine wpInv_plain rfl (fun K hK => ?_)
             apply Exists.intro
             refine ⟨fun u hu => ?_, ?_⟩
             · have HU := Lib.hid hu
               obtain ⟨ff, f0, f1⟩ := FF.out u hu
               clear hu
               go_simp
               first
                 | exact ⟨HU.out, rfl⟩
                 | (go_at_call 56; with_reducible refine (H1.out u (FF.out u HU.out).1).mono ?_; rintro e w' ⟨rfl, hb⟩; exact ⟨rfl, step _ _ HU.out hb⟩)
             go_simp
             refine hK _ ?_
             clear hK K)
          | (refine wpInv_passed (by rfl) (fun K hK => ?_); go_simp; refine hK _ ?_; clear hK K)
          | (refine wpInv_wanted (by rfl) (fun K hK => ?_)
             apply Exists.intro
             refine ⟨fun u hu => ?_, ?_⟩
             · have HU := Lib.hid hu
               obtain ⟨ff, f0, f1⟩ := FF.out u hu
               clear hu
               go_simp
               first
                 | exact ⟨HU.out, rfl⟩
                 | (go_at_call 56; with_reducible refine (H1.out u (FF.out u HU.out).1).mono ?_; rintro e w' ⟨rfl, hb⟩; exact ⟨rfl, step _ _ HU.out hb⟩)
             go_simp
             refine hK _ ?_
             clear hK K)
        refine wpInv_nil ?_
        intro w3 hw3
        have HB3 := Lib.hid (HBb.out.trans (((HC.out _).1 hw3).mono HBb.out.size))
        obtain ⟨ff, f0, f1⟩ := FF.out w3 hw3
        clear hw3 ff
        go_wp2
        go_ret2
        exact ⟨HB3.out, .inr ⟨by rw [HGg.out]; decide, by rw [HGg.out]; rfl⟩⟩
      have d3 : decide ((512 : Int) < (xs.size : Int)) = false := by simp; omega
      have hg : gErr hom p = gErr hom (p.drop (k + 1)) := by rw [HG2.out, if_neg H12.out, if_neg c3]
      have HGg := Lib.hid hg
      have hxs2 : xs.size ≤ 512 := by omega
      have hwf : (Lit.int .i64 xi).wf = true := keyOk (by omega) (by omega)
      have H3 := Lib.hid (fun u => repeat_zero xs hxs2 u)
      have HCat := Lib.hid (fun u => fullS_cat xs hxs2 u)
      have e4 : IntKind.i64.wrap ((512 : Int) - (xs.size : Nat)) = (512 : Int) - (xs.size : Nat) := wrapI (by omega) (by omega)
      generalize padS xs = z at *
      clear hg h12
      go_wp2
      refine wp_region_inv 10 C (by kernel_rfl) (by kernel_rfl) ((HC.out _).2 (Below.refl _ _).drew) ?_
      simp only [List.take_succ_cons, List.take_zero, List.drop_succ_cons, List.drop_zero]
      repeat
        first
        | (refine wpInv_plain rfl (fun K hK => ?_)
           apply Exists.intro
           refine ⟨fun u hu => ?_, ?_⟩
           · have HU := Lib.hid hu
             obtain ⟨ff, f0, f1⟩ := FF.out u hu
             clear hu
             go_simp
             first
               | exact ⟨HU.out, rfl⟩
               | (go_at_call 56; with_reducible refine (H1.out u (FF.out u HU.out).1).mono ?_; rintro e w' ⟨rfl, hb⟩; exact ⟨rfl, step _ _ HU.out hb⟩)
           go_simp
           refine hK _ ?_
           clear hK K)
        | (refine wpInv_passed (by rfl) (fun K hK => ?_); go_simp; refine hK _ ?_; clear hK K)
        | (refine wpInv_wanted (by rfl) (fun K hK => ?_)
           apply Exists.intro
           refine ⟨fun u hu => ?_, ?_⟩
           · have HU := Lib.hid hu
             obtain ⟨ff, f0, f1⟩ := FF.out u hu
             clear hu
             go_simp
             first
               | exact ⟨HU.out, rfl⟩
               | (go_at_call 56; with_reducible refine (H1.out u (FF.out u HU.out).1).mono ?_; rintro e w' ⟨rfl, hb⟩; exact ⟨rfl, step _ _ HU.out hb⟩)
           go_simp
           refine hK _ ?_
           clear hK K)
      refine wpInv_nil ?_
      intro w3 hw3
      have hb3 := (HC.out _).1 hw3
      have HB3 := Lib.hid (HBb.out.trans (hb3.mono HBb.out.size))
      have HM3 : Hid (∃ m, IMap w3 w.heap.size (strs (fullG (p.take k))) m) := by
        refine Lib.hid ?_
        obtain ⟨m, hm⟩ := HMb.out
        exact ⟨m, hm.keep (Keep.still hb3) (fun e => e)⟩
      have HR3 := Lib.hid ((Keep.still hb3).ownsRow HRb.out (fun _ _ e => e))
      obtain ⟨ff, f0, f1⟩ := FF.out w3 hw3
      have hs3 : wr.heap.size < w3.heap.size := Nat.lt_of_lt_of_le hwbs hb3.size
      have HF0 := Lib.hid f0
      have HF1 := Lib.hid f1
      clear hw3 ff hb3 HC FF step C
      go_wp2
      obtain ⟨S, hS⟩ : ∃ S : World → Prop, ∀ u, S u ↔ Keep (fun _ => False) (w3) u := ⟨fun u => Keep (fun _ => False) (w3) u, fun _ => Iff.rfl⟩
      have HS := Lib.hid hS
      clear hS
      refine wp_region_ord 11 [(0, true), (1, true), (2, true), (3, true), (4, true), (5, true), (6, true), (7, true), (8, true), (9, false), (10, true)] S (by kernel_rfl) (by kernel_rfl) ((HS.out _).2 (Keep.refl _ _).drew) ?_
      iterate 9
        first
          | (refine wpH_passed rfl (by rfl) (fun K hK => ?_); go_simp; refine hK _ ?_; clear hK K)
          | (first
               | refine wpH_read rfl rfl (fun K hK => ?_)
               | refine wpH_readw rfl (by rfl) (fun K hK => ?_)
             apply Exists.intro
             refine ⟨fun u hu => ?_, ?_⟩
             · have hu := (HS.out u).1 hu
               have b0 : u.cell? ⟨wr.heap.size, 0, none⟩ = some (.int .i64 xi) := by rw [hu.cell (p := ⟨wr.heap.size, 0, none⟩) hs3 (fun e => e)]; exact HF0.out
               have b1 : u.cell? ⟨wr.heap.size, 1, none⟩ = some (.string xs) := by rw [hu.cell (p := ⟨wr.heap.size, 1, none⟩) hs3 (fun e => e)]; exact HF1.out
               have l1 := HCat.out u
               clear hu
               go_simp
               exact ⟨rfl, rfl⟩
             go_simp
             refine hK _ ?_
             clear hK K)
      refine wpH_do rfl rfl (fun K hK => ?_)
      go_simp
      go_at_call 53
      refine (H3.out _).mono ?_
      rintro e u5 ⟨rfl, hb5⟩
      have k5 : Keep (fun _ => False) w3 u5 := (Keep.refl _ _).drew.trans (Keep.ofBelow (S := fun _ => False) hb5) (fun _ _ h => h)
      refine hK _ _ ((HS.out _).2 k5) ?_
      clear hK K
      iterate 1
        first
          | (refine wpH_passed rfl (by rfl) (fun K hK => ?_); go_simp; refine hK _ ?_; clear hK K)
          | (first
               | refine wpH_read rfl rfl (fun K hK => ?_)
               | refine wpH_readw rfl (by rfl) (fun K hK => ?_)
             apply Exists.intro
             refine ⟨fun u hu => ?_, ?_⟩
             · have hu := (HS.out u).1 hu
               have b0 : u.cell? ⟨wr.heap.size, 0, none⟩ = some (.int .i64 xi) := by rw [hu.cell (p := ⟨wr.heap.size, 0, none⟩) hs3 (fun e => e)]; exact HF0.out
               have b1 : u.cell? ⟨wr.heap.size, 1, none⟩ = some (.string xs) := by rw [hu.cell (p := ⟨wr.heap.size, 1, none⟩) hs3 (fun e => e)]; exact HF1.out
               have l1 := HCat.out u
               clear hu
               go_simp
               exact ⟨rfl, rfl⟩
             go_simp
             refine hK _ ?_
             clear hK K)
      refine wpH_nil ?_
      simp only [List.drop_succ_cons, List.drop_zero]
      obtain ⟨m, hm3⟩ := HM3.out
      obtain ⟨u6, hr6, hm6, hk6, hz6, hd6⟩ := (hm3.keep k5 (fun e => e)).run_update Tryz.underlying3 Tryz.underlying94 hwf (.string (fullS xs))
      have hfs : strs (fullG (p.take (k + 1))) = putAt (strs (fullG (p.take k))) xi (.string (fullS xs)) := by rw [HTk.out]; exact fullG_snoc _ _
      rw [← hfs] at hm6
      have HM6 := Lib.hid hm6
      have HB6 := Lib.hid (HB3.out.trans (((k5.mono (fun _ _ e => e.elim) : Keep (· = w.heap.size) w3 u5).trans hk6 (fun _ _ e => e)).below HB3.out.size (fun i hi e => by omega)))
      have HR6 := Lib.hid (hk6.ownsRow (k5.ownsRow HR3.out (fun _ _ e => e)) (fun g hg e => by have := (HR3.out.lt g hg).1; omega))
      clear hm3 hm6 hk6 hz6 hd6 hfs k5 hb5 S HS
      go_wp2
      go_roundw
      case rel => exact ⟨k + 1, by omega, rfl, HGg.out, ⟨_, HM6.out⟩, HB6.out, HR6.out⟩
      case measure => simp [intOf]; omega
    · have g1 : decide ((k : Int) < (n : Int)) = false := by simp; omega
      have g1' : decide (k < n) = false := by simpa using hlt
      have hfin : gErr hom p = 0 ∧ ∃ m, IMap wr w.heap.size (strs (fullG p)) m := by
        have e1 : p.drop k = [] := List.drop_eq_nil_of_le (by rw [HN.out]; omega)
        have e2 : p.take k = p := List.take_of_length_le (by rw [HN.out]; omega)
        obtain ⟨m, hm⟩ := HMp.out
        rw [e2] at hm
        exact ⟨by rw [HGe.out, e1]; rfl, m, hm⟩
      have HFin := Lib.hid hfin
      clear hfin
      go_wp2
      go_ret2
      obtain ⟨m, hm⟩ := HFin.out.2
      exact ⟨HB.out, .inl ⟨HFin.out.1, w.heap.size, m, rfl, hm, Nat.le_refl _⟩⟩
end Go.Proofs.YtalgheocjnajlaaGreatDoor
