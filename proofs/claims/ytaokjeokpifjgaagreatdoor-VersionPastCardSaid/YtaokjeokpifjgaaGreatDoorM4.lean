/-
  Texts of this claim, one behind the other: PkWV HeldA PkDV ScanV ScanIV Bl3 StMV StFV StGV StWV StKV Sm1 Sm2 Sm3 StPuV StAdV.
-/
import Derived.Test.YtaokjeokpifjgaaGreatDoorM3
namespace Go.Proofs.YtaokjeokpifjgaaGreatDoor
open Go.RowKit Go.MapKept
attribute [local go_sem] gives givesH
set_option maxRecDepth 100000

def FldsAt (w : World) (fb : Nat) (fs : List Fld) : Prop := fb < w.heap.size ∧ ∀ j, j < fs.length → w.cell? ⟨fb, j * 2, none⟩ = some (.int .u64 (fs.getD j (0, ⟨#[]⟩)).1) ∧ w.cell? ⟨fb, j * 2 + 1, none⟩ = some (.string (fs.getD j (0, ⟨#[]⟩)).2)
theorem FldsAt.below {w u : World} {fb B : Nat} {fs : List Fld} (h : FldsAt w fb fs) (hb : Below B w u) (hB : fb < B) : FldsAt u fb fs :=
  ⟨Nat.lt_of_lt_of_le h.1 hb.size, fun j hj => ⟨(hb.cell (p := ⟨fb, j * 2, none⟩) hB).trans (h.2 j hj).1, (hb.cell (p := ⟨fb, j * 2 + 1, none⟩) hB).trans (h.2 j hj).2⟩⟩
theorem byteCells_length (l : List UInt8) : (Lib.byteCells l).length = l.length := by simp [Lib.byteCells]
set_option maxHeartbeats 4000000 in
theorem pwrite_any {ks : ByteArray} {fs : List Fld} (hf : Fields ks fs) (hr : ∀ w : World, Calls Tryz.prog 150 #[.string ks] w fun e w' => e = .returned (.bool true) ∧ Below w.heap.size w w') {w : World} {fb c : Nat} (hfs : FldsAt w fb fs) :
    Calls Tryz.prog 90 #[.string ks, .slice (some ⟨fb, 0, none⟩) fs.length c] w fun e w' => e = .returned (.tuple #[.string (packed ks fs), .bool true]) ∧ Below w.heap.size w w' := by
  have hz := hf.len
  have hfew := hf.few
  obtain ⟨n, hn⟩ : ∃ n, fs.length = n := ⟨_, rfl⟩
  rw [hn] at hz hfew ⊢
  have HF := Hd hf
  have HN := Hd hn
  have HFs := Hd hfs
  have e1 : (((n : Nat) : Int) != (n : Int)) = false := by simp
  clear hf hn hfs
  go_enter Tryz.func90, Tryz.ntmps90
  go_wp2_with (go_at_call 150; refine (hr _).mono ?_; rintro e w1 ⟨rfl, hb1⟩)
  obtain ⟨bb, hbb⟩ : ∃ bb, w1.heap.size = bb := ⟨_, rfl⟩
  have HBb := Hd hbb
  have hf0 : IsB bb bb [] (w1.alloc (.cells #[.pointer none, .slice none 0 0] 123)) := by rw [← hbb]; exact Lib.fresh_isBuilder _ _ w1
  have HI0 := Hd hf0
  have HF1 := Hd (HFs.out.below hb1 HFs.out.1)
  rw [hbb]
  have HBe1 := Hd hb1
  clear hf0 hb1 hbb
  go_loopw [7, 8, 9, 22] (fun _ _ _ i wr => ∃ k : Nat, k ≤ n ∧ i = .int .i64 k ∧ IsB bb bb (Lib.byteCells (packN ks fs k)) wr ∧ Below bb w1 wr) (fun _ _ _ i _ => n - (intOf i).toNat)
  case atStart => exact ⟨0, by omega, rfl, HI0.out, by rw [← HBb.out]; exact (Below.refl _ _).alloc (Nat.le_refl _) _⟩
  case round =>
    obtain ⟨k, hk, rfl, hib, hbel⟩ := hrel
    have HI := Hd hib
    have HB := Hd hbel
    by_cases hlt : k < n
    · have g1 : decide ((k : Int) < (n : Int)) = true := by simp; omega
      have g1' : decide (k < n) = true := by simpa using hlt
      obtain ⟨q0, q1⟩ := (HF1.out.below hbel (by rw [← HBb.out]; exact HF1.out.1)).2 k (by rw [HN.out]; exact hlt)
      have hfit := HF.out.fit k (by rw [HN.out]; exact hlt)
      have hsnoc := packN_succ ks fs k
      have hlen := packN_length HF.out k (by rw [HN.out]; omega)
      have hki : k < ks.size := by omega
      have hkx := byteN_get ks k hki
      have hlet : byteN ks k = letter ks k := rfl
      rw [hlet] at hkx
      obtain ⟨f, hfe⟩ : ∃ f, fs.getD k (0, ⟨#[]⟩) = f := ⟨_, rfl⟩
      rw [hfe] at q0 q1 hfit hsnoc
      obtain ⟨f1, f2⟩ := f
      clear hfe
      obtain ⟨kd, hkd⟩ : ∃ kd, letter ks k = kd := ⟨_, rfl⟩
      have hkd2 : kd < 256 := by rw [← hkd, ← hkx]; exact ks[k].toNat_lt
      rw [hkd] at hkx hfit hsnoc
      have HSn := Hd hsnoc
      have HW := Hd (width_any kd hkd2)
      have hkl : (k : Int) < (n : Int) := by omega
      have hnl : (n : Int) ≤ 64 := by omega
      have HZ := Hd hz
      have HLe := Hd hlen
      clear hib hbel hsnoc hlet hkd hlen
      have hba : Below wr.heap.size wr (wr.alloc (.cells #[.int .u64 f1, .string f2] 182)) := (Below.refl _ _).alloc (Nat.le_refl _) _
      have HA := Hd hba
      have HA' := Hd (show Below bb w1 (wr.alloc (.cells #[.int .u64 f1, .string f2] 182)) from HB.out.alloc (by rw [← HBb.out]; exact HB.out.size) _)
      have HBS := Hd (show bb ≤ wr.heap.size by rw [← HBb.out]; exact HB.out.size)
      have HBL := Hd (show bb < wr.heap.size by obtain ⟨p, v, h⟩ := isB_lt HI.out; exact (Gl h))
      clear hba
      rcases hfit with ⟨hkk, rfl, hf1⟩ | ⟨⟨rfl, hs2⟩, rfl⟩ | ⟨rfl, rfl, hs2⟩
      · rcases hkk with rfl | rfl | rfl
        · have hw8 : ∀ w : World, Calls Tryz.prog 151 #[.int .u8 110] w fun e w' => e = .returned (.int .i64 8) ∧ w = w' := fun w => width_any 110 (by decide) w
          have hf8 : f1 < 2 ^ (8 * 8) := hf1
          have hn8 := number_any (isB_still HI.out HA.out) (Nat.le_trans HBS.out HA.out.size) (by rw [byteCells_length]; have := HLe.out; omega) f1 8 (by decide)
          have HN8 := Hd (show ∀ u, u = wr.alloc (.cells #[.int .u64 f1, .string ⟨#[]⟩] 182) → Calls Tryz.prog 153 #[.pointer (some ⟨bb, 0, none⟩), .int .u64 f1, .int .i64 8] u fun e w' => e = .returned (.tuple #[]) ∧ IsB bb bb (Lib.byteCells (packN ks fs k) ++ Lib.byteCells (beW 8 f1 8)) w' ∧ Below bb u w' ∧ Lib.OthersKept 5 (some bb) u w' from fun u hu => by rw [hu]; exact hn8)
          clear HW hn8
          go_wp2_with (first
            | (go_at_call 151; with_reducible refine (hw8 _).mono ?_; rintro e w3 ⟨rfl, rfl⟩)
            | (go_at_call 153; refine (HN8.out _ rfl).mono ?_; rintro e w4 ⟨rfl, hi4, hb4, -⟩
               have HI4 := Hd hi4
               have HB4 := Hd (HA'.out.trans hb4)
               clear hi4 hb4))
          have hi5 : IsB bb bb (Lib.byteCells (packN ks fs (k + 1))) w4 := by rw [HSn.out, byteCells_append]; exact HI4.out
          go_roundw
          case rel =>
            exact ⟨k + 1, by omega, by go_num, hi5, HB4.out⟩
          case measure => simp [intOf]; omega
        · have hw8 : ∀ w : World, Calls Tryz.prog 151 #[.int .u8 104] w fun e w' => e = .returned (.int .i64 4) ∧ w = w' := fun w => width_any 104 (by decide) w
          have hf8 : f1 < 2 ^ (8 * 4) := hf1
          have hz4 : (f1 : Int) / 4294967296 = 0 := by omega
          have hn8 := number_any (isB_still HI.out HA.out) (Nat.le_trans HBS.out HA.out.size) (by rw [byteCells_length]; have := HLe.out; omega) f1 4 (by decide)
          have HN8 := Hd (show ∀ u, u = wr.alloc (.cells #[.int .u64 f1, .string ⟨#[]⟩] 182) → Calls Tryz.prog 153 #[.pointer (some ⟨bb, 0, none⟩), .int .u64 f1, .int .i64 4] u fun e w' => e = .returned (.tuple #[]) ∧ IsB bb bb (Lib.byteCells (packN ks fs k) ++ Lib.byteCells (beW 4 f1 4)) w' ∧ Below bb u w' ∧ Lib.OthersKept 5 (some bb) u w' from fun u hu => by rw [hu]; exact hn8)
          clear HW hn8
          go_wp2_with (first
            | (go_at_call 151; with_reducible refine (hw8 _).mono ?_; rintro e w3 ⟨rfl, rfl⟩)
            | (go_at_call 153; refine (HN8.out _ rfl).mono ?_; rintro e w4 ⟨rfl, hi4, hb4, -⟩
               have HI4 := Hd hi4
               have HB4 := Hd (HA'.out.trans hb4)
               clear hi4 hb4))
          have hi5 : IsB bb bb (Lib.byteCells (packN ks fs (k + 1))) w4 := by rw [HSn.out, byteCells_append]; exact HI4.out
          go_roundw
          case rel =>
            exact ⟨k + 1, by omega, by go_num, hi5, HB4.out⟩
          case measure => simp [intOf]; omega
        · have hw8 : ∀ w : World, Calls Tryz.prog 151 #[.int .u8 98] w fun e w' => e = .returned (.int .i64 1) ∧ w = w' := fun w => width_any 98 (by decide) w
          have hf8 : f1 < 2 ^ (8 * 1) := hf1
          have hz1 : (f1 : Int) / 256 = 0 := by omega
          have hn8 := number_any (isB_still HI.out HA.out) (Nat.le_trans HBS.out HA.out.size) (by rw [byteCells_length]; have := HLe.out; omega) f1 1 (by decide)
          have HN8 := Hd (show ∀ u, u = wr.alloc (.cells #[.int .u64 f1, .string ⟨#[]⟩] 182) → Calls Tryz.prog 153 #[.pointer (some ⟨bb, 0, none⟩), .int .u64 f1, .int .i64 1] u fun e w' => e = .returned (.tuple #[]) ∧ IsB bb bb (Lib.byteCells (packN ks fs k) ++ Lib.byteCells (beW 1 f1 1)) w' ∧ Below bb u w' ∧ Lib.OthersKept 5 (some bb) u w' from fun u hu => by rw [hu]; exact hn8)
          clear HW hn8
          go_wp2_with (first
            | (go_at_call 151; with_reducible refine (hw8 _).mono ?_; rintro e w3 ⟨rfl, rfl⟩)
            | (go_at_call 153; refine (HN8.out _ rfl).mono ?_; rintro e w4 ⟨rfl, hi4, hb4, -⟩
               have HI4 := Hd hi4
               have HB4 := Hd (HA'.out.trans hb4)
               clear hi4 hb4))
          have hi5 : IsB bb bb (Lib.byteCells (packN ks fs (k + 1))) w4 := by rw [HSn.out, byteCells_append]; exact HI4.out
          go_roundw
          case rel =>
            exact ⟨k + 1, by omega, by go_num, hi5, HB4.out⟩
          case measure => simp [intOf]; omega
      · have hw8 : ∀ w : World, Calls Tryz.prog 151 #[.int .u8 116] w fun e w' => e = .returned (.int .i64 0) ∧ w = w' := fun w => width_any 116 (by decide) w
        have hs3 : f2.size ≤ 65535 := hs2
        have hc8 : decide ((65535 : Int) < (f2.size : Int)) = false := by simp; omega
        have hw64 : IntKind.u64.wrap (f2.size : Int) = (f2.size : Int) := by rw [IntKind.wrap_u64]; omega
        have hf9 : f2.size ≤ 9223372036854775807 := by omega
        have hn8 := number_any (isB_still HI.out HA.out) (Nat.le_trans HBS.out HA.out.size) (by rw [byteCells_length]; have := HLe.out; omega) f2.size 2 (by decide)
        have HN8 := Hd (show ∀ u, u = wr.alloc (.cells #[.int .u64 (0 : Nat), .string f2] 182) → Calls Tryz.prog 153 #[.pointer (some ⟨bb, 0, none⟩), .int .u64 f2.size, .int .i64 2] u fun e w' => e = .returned (.tuple #[]) ∧ IsB bb bb (Lib.byteCells (packN ks fs k) ++ Lib.byteCells (beW 2 f2.size 2)) w' ∧ Below bb u w' ∧ Lib.OthersKept 5 (some bb) u w' from fun u hu => by rw [hu]; exact hn8)
        have HWS := Hd (show ∀ (u : World) (bs : List Value), bs = Lib.byteCells (packN ks fs k) ++ Lib.byteCells (beW 2 f2.size 2) → IsB bb bb bs u → bb ≤ u.heap.size → Calls Tryz.prog 56 #[.pointer (some ⟨bb, 0, none⟩), .string f2] u fun e w' => e = .returned (.tuple #[.int .i64 f2.size, .nilIface]) ∧ IsB bb bb (bs ++ Lib.strCells f2) w' ∧ Below bb u w' ∧ Lib.OthersKept 5 (some bb) u w' from fun u bs hbs hi hu => writeString_any hi hu f2 (by rw [hbs, List.length_append, byteCells_length, byteCells_length, beW_length]; have := HLe.out; omega))
        clear HW hn8
        go_wp2_with (first
          | (go_at_call 151; with_reducible refine (hw8 _).mono ?_; rintro e w3 ⟨rfl, rfl⟩)
          | (go_at_call 153; refine (HN8.out _ rfl).mono ?_; rintro e w4 ⟨rfl, hi4, hb4, ho4⟩
             have HI4 := Hd hi4
             have HB4 := Hd (HA'.out.trans hb4)
             have c0 : w4.cell? ⟨wr.heap.size, 0, none⟩ = some (.int .u64 0) := Lib.cell_of_heap (ho4 _ _ (heap_alloc_new wr _) (fun e => by cases e; have := HBL.out; omega) (fun c fz e => by cases e)) 0
             have c1 : w4.cell? ⟨wr.heap.size, 1, none⟩ = some (.string f2) := Lib.cell_of_heap (ho4 _ _ (heap_alloc_new wr _) (fun e => by cases e; have := HBL.out; omega) (fun c fz e => by cases e)) 1
             clear hi4 hb4 ho4)
          | (go_at_call 56; refine (HWS.out _ _ rfl HI4.out (by have := HB4.out.size; have := HBb.out; omega)).mono ?_; rintro e w5 ⟨rfl, hi5, hb5, -⟩
             have HI5 := Hd hi5
             have HB5 := Hd (HB4.out.trans hb5)
             clear hi5 hb5))
        have hi6 : IsB bb bb (Lib.byteCells (packN ks fs (k + 1))) w5 := by
          rw [HSn.out, byteCells_append]; have := HI5.out; rw [strCells_eq, List.append_assoc, ← byteCells_append] at this; exact this
        go_roundw
        case rel =>
          exact ⟨k + 1, by omega, by go_num, hi6, HB5.out⟩
        case measure => simp [intOf]; omega
      · have hw8 : ∀ w : World, Calls Tryz.prog 151 #[.int .u8 114] w fun e w' => e = .returned (.int .i64 0) ∧ w = w' := fun w => width_any 114 (by decide) w
        have hs3 : f2.size ≤ 1000000 := hs2
        have hws := writeString_any (isB_still HI.out HA.out) (Nat.le_trans HBS.out HA.out.size) f2 (by rw [byteCells_length]; have := HLe.out; omega)
        have HWS := Hd (show ∀ u, u = wr.alloc (.cells #[.int .u64 (0 : Nat), .string f2] 182) → Calls Tryz.prog 56 #[.pointer (some ⟨bb, 0, none⟩), .string f2] u fun e w' => e = .returned (.tuple #[.int .i64 f2.size, .nilIface]) ∧ IsB bb bb (Lib.byteCells (packN ks fs k) ++ Lib.strCells f2) w' ∧ Below bb u w' ∧ Lib.OthersKept 5 (some bb) u w' from fun u hu => by rw [hu]; exact hws)
        clear HW hws
        go_wp2_with (first
          | (go_at_call 151; with_reducible refine (hw8 _).mono ?_; rintro e w3 ⟨rfl, rfl⟩)
          | (go_at_call 56; refine (HWS.out _ rfl).mono ?_; rintro e w5 ⟨rfl, hi5, hb5, -⟩
             have HI5 := Hd hi5
             have HB5 := Hd (HA'.out.trans hb5)
             clear hi5 hb5))
        have hi6 : IsB bb bb (Lib.byteCells (packN ks fs (k + 1))) w5 := by
          rw [HSn.out, byteCells_append]; have := HI5.out; rw [strCells_eq] at this; exact this
        go_roundw
        case rel =>
          exact ⟨k + 1, by omega, by go_num, hi6, HB5.out⟩
        case measure => simp [intOf]; omega
    · obtain rfl : k = n := by omega
      have hib2 : IsB bb bb (Lib.byteCells (packN ks fs fs.length)) wr := by rw [HN.out]; exact hib
      have HSt := Hd (Tryz.Builder_String_any_k bb bb (packN ks fs fs.length) wr (Lib.IsBuilderF.of hib2) (by have := HB.out.size; have := HBb.out; omega))
      clear hib hbel hib2
      go_wp2_with (go_at_call 57; refine (HSt.out).mono ?_; rintro e w5 ⟨rfl, hi5, hb5, ho5⟩
                   have HB5 := Hd (HB.out.trans hb5)
                   clear hi5 hb5 ho5)
      go_ret2
      refine ⟨rfl, ?_⟩
      have h5 := HB5.out
      rw [← HBb.out] at h5
      exact HBe1.out.trans (h5.mono HBe1.out.size)
end Go.Proofs.YtaokjeokpifjgaaGreatDoor

namespace Go.Proofs.YtaokjeokpifjgaaGreatDoor
section
variable {P : Program} {ops : Array Oper} {md : Region.Mode} {S : World → Prop}
theorem wpZ_firstA {n i : Nat} {oi : Oper} {v : Value} {L : Array Bool → Act → World → Prop} (hi : ops[i]? = some oi) (hsel : ∀ (j : Nat) (o : Oper) cs b, ops[j]? = some o → o.op ≠ .select cs b)
    (hn : n = ops.size) (hin : i < n)
    (hdone : ∀ listed a w, L listed a w → ∀ j ∈ Region.ready md ops listed, n ≤ j) :
    ∀ (f : Nat) (listed : Array Bool) (a : Act) (w : World), HeadInv md ops n listed →
      (∀ j oj, ops[j]? = some oj → j ≠ i → listed.getD j true = false → (∀ e ∈ oj.after, Region.binds md e = true → e.on ≠ i) → oi.apart ops oj = true) →
      i ∈ Region.ready md ops listed → YieldsIf P ops S oi v a → S w →
      wpZ P md ops S n L f (listed.setIfInBounds i true) (a.put oi.dst v) w → wpZ P md ops S n L (f + 1) listed a w := by
  intro f
  induction f with
  | zero =>
    intro listed a w inv _ hr hy hS H
    refine ⟨fun h => (by rw [h] at hr; cases hr), fun j hj => ?_⟩
    have hjn : j < n := by
      obtain ⟨_, oj, hoj, _⟩ := mem_ready.1 hj
      have := (Gl hoj)
      omega
    refine ⟨hjn, ?_⟩
    by_cases hji : j = i
    · subst hji; exact opW_yields hi hy hS ⟨hS, H⟩
    · have := hdone _ _ _ H j (ready_mono hj hji)
      omega
  | succ f ih =>
    intro listed a w inv hfree hr hy hS H
    refine ⟨fun h => (by rw [h] at hr; cases hr), fun j hj => ?_⟩
    have hjn : j < n := by
      obtain ⟨_, oj, hoj, _⟩ := mem_ready.1 hj
      have := (Gl hoj)
      omega
    refine ⟨hjn, ?_⟩
    by_cases hji : j = i
    · subst hji; exact opW_yields hi hy hS ⟨hS, H⟩
    · have h1 := (H.2 j (ready_mono hj hji)).2
      obtain ⟨hjun, oj, hoj, hall⟩ := mem_ready.1 hj
      have hnot : ∀ e ∈ oj.after, Region.binds md e = true → e.on ≠ i := fun e he hb heq => by
        have h1 := hall e he hb
        rw [heq, getD_both (mem_ready.1 hr).1] at h1
        cases h1
      have h2 := opW_put hoj (hfree j oj hoj hji hjun hnot) (fun cs b => hsel i oi cs b hi) (fun cs b => hsel j oj cs b hoj) hy h1
      have hfree' : ∀ k ok, ops[k]? = some ok → k ≠ i → (listed.setIfInBounds j true).getD k true = false →
          (∀ e ∈ ok.after, Region.binds md e = true → e.on ≠ i) → oi.apart ops ok = true := fun k ok hk hki hun hno => by
        refine hfree k ok hk hki ?_ hno
        by_cases hjk : j = k
        · subst hjk; exact hjun
        · rw [getD_set_ne true hjk] at hun; exact hun
      refine opW_mono (fun a' w' h3 => ⟨h3.2.1, ih (listed.setIfInBounds j true) a' w' (inv.set hj hjn) hfree' (ready_mono hr (Ne.symm hji)) h3.1 h3.2.1 ?_⟩) h2
      rw [Array.setIfInBounds_comm _ _ hji]
      exact h3.2.2

theorem wpZ_of_wpHA {n g : Nat} {l : List Oper} {Lq : Act → World → Prop} (hl : ops = l.toArray) (hsel : Region.noSelect ops = true) (hn : n = ops.size) :
    ∀ (r : List (Nat × Bool)) (listed : Array Bool) (a : Act) (w : World), HeadInv md ops n listed → heldB md ops n g r listed = true → S w → wpH P ops S l Lq r a w →
    wpZ P md ops S n (fun listed' a' w' => Region.seqB md ops g n listed' = true ∧ Lq a' w') r.length listed a w
  | [], listed, a, w, _, hB, _, h => ⟨by simpa [heldB] using hB, h⟩
  | (k, p) :: r, listed, a, w, inv, hB, hS, h => by
    simp only [heldB, Bool.and_eq_true, decide_eq_true_eq] at hB
    obtain ⟨⟨hkn, hp⟩, hB'⟩ := hB
    have hlk : l[k]? = ops[k]? := by rw [hl]; simp
    have hlt : k < ops.size := by omega
    unfold wpH at h
    rw [hlk] at h
    cases ho : ops[k]? with
    | none => rw [ho] at h; exact h.elim
    | some o =>
      rw [ho] at h
      simp only at h
      cases p with
      | true =>
        simp only [if_true, Bool.and_eq_true] at hp
        have hr : k ∈ Region.ready md ops listed := by simpa using hp.1
        have hfree := Region.free_spec ho hp.2
        have fin : ∀ v, YieldsIf P ops S o v a → wpH P ops S l Lq r (a.put o.dst v) w → wpZ P md ops S n (fun listed' a' w' => Region.seqB md ops g n listed' = true ∧ Lq a' w') (r.length + 1) listed a w := fun v hy hK =>
          wpZ_firstA ho (Region.noSelect_spec hsel) hn hkn (fun listed' a' w' hL => seqB_ready hL.1) r.length listed a w inv hfree hr hy hS
            (wpZ_of_wpHA hl hsel hn r _ _ w (inv.set hr hkn) hB' hS hK)
        by_cases hw : Region.wanted o (yielded ops a.tmps) = true
        · simp only [hw, if_true] at h
          obtain ⟨v, hv, hK⟩ := h
          exact fin v (.inl ⟨hw, hv.run⟩) hK
        · simp only [hw] at h
          exact fin undef (.inr ⟨by simpa using hw, rfl⟩) h
      | false =>
        simp only [Bool.false_eq_true, if_false, decide_eq_true_eq] at hp
        have hr : k ∈ Region.ready md ops listed := by rw [hp]; simp
        refine ⟨fun h0 => (by rw [hp] at h0; cases h0), fun j hj => ?_⟩
        rw [hp] at hj
        obtain rfl : j = k := by simpa using hj
        refine ⟨hkn, ?_⟩
        unfold opW
        simp only [ho]
        by_cases hw : Region.wanted o (yielded ops a.tmps) = true
        · simp only [hw, if_true, Bool.false_eq_true, if_false] at h ⊢
          exact Oper.wp_mono (fun a' w' h' => ⟨h'.1, wpZ_of_wpHA hl hsel hn r _ a' w' (inv.set hr hkn) hB' h'.1 h'.2⟩) h
        · simp only [hw] at h ⊢
          exact ⟨hS, wpZ_of_wpHA hl hsel hn r _ _ w (inv.set hr hkn) hB' hS h⟩

def heldAllA (md : Region.Mode) (ops : Array Oper) (n : Nat) (r : List (Nat × Bool)) : Bool :=
  Region.noSelect ops && decide (n = ops.size) && decide (r.length = n) && heldB md ops n (ops.size - n) r (Array.replicate ops.size false)

theorem wp_region_whole {id : Nat} {Q : Exit → Act → World → Prop} {a : Act} {w : World} {l : List Oper} (n : Nat) (r : List (Nat × Bool)) (S : World → Prop) (hm : P.follows .mixedOrders = true) (hB : heldAllA .any l.toArray n r = true)
    (hS : S w.drew)
    (h : wpH P l.toArray S l (fun a' w' => wpList P l.toArray Q (l.drop n) a' w') r a w.drew) : (Code.region id l.toArray true).wp P Q a w := by
  simp only [heldAllA, Bool.and_eq_true, decide_eq_true_eq] at hB
  obtain ⟨⟨⟨hsel, hn⟩, hlen⟩, hheld⟩ := hB
  have hdl : (l.drop n).length = l.toArray.size - n := by simp
  have inv0 : HeadInv .any l.toArray n (Array.replicate l.toArray.size false) :=
    ⟨by simp, fun j oj _ hl => (by rw [getD_replicate_false] at hl; cases hl), fun t _ ht => getD_in (by simpa using ht) (getD_replicate_false _ _)⟩
  have H := wpZ_of_wpHA (md := .any) (g := l.toArray.size - n) rfl hsel hn r _ a w.drew inv0 hheld hS h
  refine wp_region_any hm ?_
  have := wpAny_of_wpZ (Q := Q) (g := l.toArray.size - n) (fun listed a' w' hL => by
    have := wpAny_of_seq (md := .any) (Q' := Q) (l.drop n) n listed a' w' (fun j => by simp [List.getElem?_drop]) (by rw [hdl]; exact hL.1) hL.2
    rwa [hdl] at this) _ _ _ _ H
  rw [hlen, show n + (l.toArray.size - n) = l.toArray.size by omega] at this
  exact this
end
end Go.Proofs.YtaokjeokpifjgaaGreatDoor

namespace Go.Proofs.YtaokjeokpifjgaaGreatDoor
open Go.RowKit Go.MapKept
attribute [local go_sem] gives givesH
set_option maxRecDepth 100000

def fldV (l : List Fld) : List Value := l.flatMap (fun f => [Value.int .u64 f.1, Value.string f.2])
theorem fldV_snoc (l : List Fld) (f : Fld) : fldV (l ++ [f]) = fldV l ++ [Value.int .u64 f.1, Value.string f.2] := by unfold fldV; rw [List.flatMap_append]; simp
theorem infoFld : (Tryz.prog.info? 182).map (fun i => (i.zero, i.size, i.bytes)) = some (some (.agg #[.int .u64 0, .string ⟨#[]⟩]), 2, 24) := by kernel_rfl
set_option maxHeartbeats 4000000 in
theorem pread_any {ks : ByteArray} {fs : List Fld} (hf : Fields ks fs) (hr : ∀ w : World, Calls Tryz.prog 150 #[.string ks] w fun e w' => e = .returned (.bool true) ∧ Below w.heap.size w w') (w : World) :
    Calls Tryz.prog 89 #[.string ks, .string (packed ks fs)] w fun e w' => ∃ v, e = .returned (.tuple #[v, .bool true]) ∧ w'.ownsRow w.heap.size 182 2 v fs.length (fldV fs) ∧ Below w.heap.size w w' := by
  have hz := hf.len
  have hfew := hf.few
  obtain ⟨n, hn⟩ : ∃ n, fs.length = n := ⟨_, rfl⟩
  rw [hn] at hz hfew ⊢
  rw [← restP_zero]
  have HF := Hd hf
  have HN := Hd hn
  obtain ⟨i0, hi0, hz0, hz1, hz2⟩ := info_parts infoFld
  have HI := Hd hi0
  have Hz0 := Hd hz0
  have Hz1 := Hd hz1
  have Hz2 := Hd hz2
  obtain ⟨t0, ht0⟩ : ∃ t, restP ks fs 0 = t := ⟨_, rfl⟩
  rw [ht0]
  have HT0 := Hd ht0
  clear hf hn hi0 hz0 hz1 hz2 ht0
  go_enter Tryz.func89, Tryz.ntmps89
  go_wp2_with (go_at_call 150; refine (hr _).mono ?_; rintro e w1 ⟨rfl, hb1⟩)
  have HB1 := Hd hb1
  clear hb1
  go_loopw [1, 6, 7, 8, 9, 10, 16] (fun s v _ _ _ _ i wr => ∃ k : Nat, k ≤ n ∧ i = .int .i64 k ∧ s = .string (restP ks fs k) ∧ wr.ownsRow w.heap.size 182 2 v k (fldV (fs.take k)) ∧ Below w.heap.size w wr) (fun _ _ _ _ _ _ i _ => n - (intOf i).toNat)
  case atStart => exact ⟨0, by omega, rfl, by rw [HT0.out], World.ownsRow_nil _ _ _ _, HB1.out⟩
  case round =>
    obtain ⟨k, hk, rfl, rfl, hrow, hbel⟩ := hrel
    have HRow := Hd hrow
    have HB := Hd hbel
    obtain ⟨sa, sc, hsv⟩ := slice_formB hrow
    subst hsv
    clear hbel
    by_cases hlt : k < n
    · have g1 : decide ((k : Int) < (n : Int)) = true := by simp; omega
      have g1' : decide (k < n) = true := by simpa using hlt
      have hkn : k < fs.length := by rw [HN.out]; exact hlt
      have hfit := HF.out.fit k hkn
      have hrl := restP_succ ks fs k hkn
      have hlast := HF.out.last k hkn
      have hsp := bytes_split (restP_succ ks fs k hkn)
      have htake : fs.take (k + 1) = fs.take k ++ [fs.getD k (0, ⟨#[]⟩)] := by
        rw [List.take_succ_eq_append_getElem hkn, List.getD_eq_getElem?_getD, List.getElem?_eq_getElem hkn]; rfl
      have hki : k < ks.size := by omega
      have hkx := byteN_get ks k hki
      have hlet : byteN ks k = letter ks k := rfl
      rw [hlet] at hkx
      have hend := fun (e : k + 1 = fs.length) => (show restP ks fs (k + 1) = ⟨#[]⟩ by rw [e]; exact restP_end ks fs)
      obtain ⟨f, hfe⟩ : ∃ f, fs.getD k (0, ⟨#[]⟩) = f := ⟨_, rfl⟩
      rw [hfe] at hfit hsp htake hrl
      obtain ⟨f1, f2⟩ := f
      obtain ⟨kd, hkd⟩ : ∃ kd, letter ks k = kd := ⟨_, rfl⟩
      rw [hkd] at hkx hfit hsp hrl hlast
      obtain ⟨t, ht⟩ : ∃ t, restP ks fs k = t := ⟨_, rfl⟩
      obtain ⟨t2, ht2⟩ : ∃ t, restP ks fs (k + 1) = t := ⟨_, rfl⟩
      rw [ht, ht2] at hsp hrl
      have HRl := Hd hrl
      rw [ht2] at hend
      rw [ht]
      have HT2 := Hd ht2
      have HTk := Hd htake
      have hkl : (k : Int) < (n : Int) := by omega
      have hnl : (n : Int) ≤ 64 := by omega
      have HZ := Hd hz
      have HEnd := Hd hend
      have HLast := Hd hlast
      clear hlet hkd hfe ht ht2 htake hrow hend hlast hrl
      obtain ⟨s1, s2, s3⟩ := hsp
      rcases hfit with ⟨hkk, rfl, hf1⟩ | ⟨⟨rfl, hs2⟩, rfl⟩ | ⟨rfl, rfl, hs2⟩
      · rcases hkk with rfl | rfl | rfl
        · have hw8 : ∀ w : World, Calls Tryz.prog 151 #[.int .u8 110] w fun e w' => e = .returned (.int .i64 8) ∧ w = w' := fun w => width_any 110 (by decide) w
          have he : enc 110 (f1, ⟨#[]⟩) = beW 8 f1 8 := rfl
          have hel : (enc 110 (f1, ⟨#[]⟩)).length = 8 := by rw [he, beW_length]
          rw [hel] at s1 s2 s3
          have htold := told_any8 ⟨(enc 110 (f1, ⟨#[]⟩)).toArray⟩ (by show (List.toArray _).size ≤ 8; rw [List.size_toArray, hel]; decide)
          have hbn : beN (⟨(enc 110 (f1, ⟨#[]⟩)).toArray⟩ : ByteArray).data.toList = f1 := by rw [he]; exact told_beW hf1
          rw [hbn] at htold
          generalize (⟨(enc 110 (f1, ⟨#[]⟩)).toArray⟩ : ByteArray) = sf at *
          have HTold := Hd htold
          have hts : (8 : Int) ≤ (t.size : Int) := by omega
          have htc : decide ((t.size : Int) < 8) = false := by simp; omega
          clear he hel hbn htold
          go_wp2_with (first
            | (go_at_call 151; with_reducible refine (hw8 _).mono ?_; rintro e w3 ⟨rfl, rfl⟩)
            | (go_at_call 152; refine (HTold.out _).mono ?_; rintro e w4 ⟨rfl, hb4⟩
               have hbx : w4.heap[wr.heap.size]? = some (.cells #[.int .u64 0, .string sf] 182 (0, 0)) := (hb4.block _ (by simp)).trans (heap_alloc_new wr _)
               have d0 : w4.cell? ⟨wr.heap.size, 0, none⟩ = some (.int .u64 0) := Lib.cell_of_heap hbx 0
               have d1 : w4.cell? ⟨wr.heap.size, 1, none⟩ = some (.string sf) := Lib.cell_of_heap hbx 1
               have y0 : w4.frozen? ⟨wr.heap.size, 0, none⟩ = false := by simp [World.frozen?, hbx]
               have y1 : w4.frozen? ⟨wr.heap.size, 1, none⟩ = false := by simp [World.frozen?, hbx]
               have HBx := Hd hbx
               have HB4 := Hd (show Below wr.heap.size wr w4 from ((Below.refl _ _).alloc (Nat.le_refl _) _).trans (hb4.mono (by simp)))
               clear hb4 hbx))
          clear d0 d1 y0 y1
          have hbx5 : ((w4.setCell ⟨wr.heap.size, 0, none⟩ (.int .u64 f1)).setCell ⟨wr.heap.size, 1, none⟩ (.string ⟨#[]⟩)).heap[wr.heap.size]? = some (.cells #[.int .u64 f1, .string ⟨#[]⟩] 182 (0, 0)) := heap_setCell_same _ _ _ _ _ _ (heap_setCell_same _ _ _ _ _ _ HBx.out)
          have hb5 : Below wr.heap.size wr ((w4.setCell ⟨wr.heap.size, 0, none⟩ (.int .u64 f1)).setCell ⟨wr.heap.size, 1, none⟩ (.string ⟨#[]⟩)) := (HB4.out.setCell (p := ⟨wr.heap.size, 0, none⟩) (Nat.le_refl _) _).setCell (p := ⟨wr.heap.size, 1, none⟩) (Nat.le_refl _) _
          obtain ⟨w5, hw5⟩ : ∃ w5, (w4.setCell ⟨wr.heap.size, 0, none⟩ (.int .u64 f1)).setCell ⟨wr.heap.size, 1, none⟩ (.string ⟨#[]⟩) = w5 := ⟨_, rfl⟩
          rw [hw5] at hbx5 hb5 ⊢
          clear hw5 HBx HB4
          have HS5 := Hd hb5
          have HX5 := Hd hbx5
          have HRow5 := Hd ((Keep.ofBelow (S := fun _ => False) hb5).ownsRow HRow.out (fun _ _ e => e))
          have hz5 : wr.heap.size < w5.heap.size := (Gl hbx5)
          have HZ5 := Hd hz5
          have HAp := Hd (show ∀ q, (Value.slice sa k sc).ownBlock = some q → q ≠ wr.heap.size from fun q e => by have := (HRow.out.lt q e).2; omega)
          clear hb5 hbx5 hz5
          obtain ⟨wb, hwb⟩ : ∃ wb, wr.heap.size = wb := ⟨_, rfl⟩
          rw [hwb] at HX5 HZ5 HAp ⊢
          have HWb := Hd hwb
          clear hwb
          obtain ⟨S, hS⟩ : ∃ S : World → Prop, ∀ u, S u ↔ Keep (fun q => (Value.slice sa k sc).ownBlock = some q) (w5) u := ⟨fun u => Keep (fun q => (Value.slice sa k sc).ownBlock = some q) (w5) u, fun _ => Iff.rfl⟩
          have HS := Hd hS
          clear hS
          refine wp_region_whole 9 [(0, true), (1, true), (4, true), (5, true), (6, true), (2, false), (3, false), (7, true), (8, true)] S (by kernel_rfl) (by kernel_rfl) ((HS.out _).2 (Keep.refl _ _).drew) ?_
          iterate 5
            first
              | (refine wpH_passed rfl (by rfl) (fun K hK => ?_); go_simp; refine hK _ ?_; clear hK K)
              | (first
                   | refine wpH_read rfl rfl (fun K hK => ?_)
                   | refine wpH_readw rfl (by rfl) (fun K hK => ?_)
                 apply Exists.intro
                 refine ⟨fun u hu => ?_, ?_⟩
                 · have hu := (HS.out u).1 hu
                   have hbu := hu.at HX5.out (fun e => HAp.out _ e rfl)
                   have d0 : u.cell? ⟨wb, 0, none⟩ = some (.int .u64 f1) := Lib.cell_of_heap hbu 0
                   have d1 : u.cell? ⟨wb, 1, none⟩ = some (.string ⟨#[]⟩) := Lib.cell_of_heap hbu 1
                   clear hbu
                   clear hu
                   go_simp
                   exact ⟨rfl, rfl⟩
                 go_simp
                 refine hK _ ?_
                 clear hK K)
          first | refine wpH_do rfl rfl (fun K hK => ?_) | refine wpH_dow rfl (by rfl) (fun K hK => ?_)
          go_simp
          have ka : Keep (fun q => (Value.slice sa k sc).ownBlock = some q) w5 (w5.alloc (.cells #[.int .u64 f1, .string ⟨#[]⟩] 182)).drew := ((Keep.refl _ w5).alloc _).drew
          refine hK _ _ ((HS.out _).2 ka) ?_
          clear hK K
          have hrb : ((w5.alloc (.cells #[.int .u64 f1, .string ⟨#[]⟩] 182)).drew).ownsRow w.heap.size 182 2 (.slice sa k sc) k (fldV (fs.take k)) := (HRow5.out.alloc _).drew
          have HRb := Hd hrb
          have HKa := Hd ka
          clear hrb ka
          first | refine wpH_do rfl rfl (fun K hK => ?_) | refine wpH_dow rfl (by rfl) (fun K hK => ?_)
          refine wp_append_at _ _ 178 (by rfl) w.heap.size 182 i0 _ 2 24 Tryz.underlying178 HI.out Hz0.out Hz1.out Hz2.out (by rfl) (by decide) _ _ _ (by rfl) HRb.out ⟨w5.heap.size, 0, none⟩ 1 1 [.int .u64 f1, .string ⟨#[]⟩] (by rfl) (by rfl) (World.news_of_block (cs := #[.int .u64 f1, .string ⟨#[]⟩]) (t := 182) (fr := (0, 0)) (heap_alloc_new w5 _)) (by simp [Value.oneCell']) (by unfold maxLen; omega) (by omega) (by have h1 := HB.out.size; have h2 := HS5.out.size; show w.heap.size ≤ (w5.alloc _).heap.size; simp; omega) ?_
          intro v8 w8 hown8 hg8 hloc
          have hown9 : w8.ownsRow w.heap.size 182 2 v8 (k + 1) (fldV (fs.take k) ++ [.int .u64 f1, .string ⟨#[]⟩]) := hown8
          rw [← fldV_snoc _ (f1, ⟨#[]⟩), ← HTk.out] at hown9
          obtain ⟨p8, c8, hsl⟩ := slice_formB hown9
          subst hsl
          have kg := HKa.out.trans ((Keep.refl (fun q => (Value.slice sa k sc).ownBlock = some q) _).grown hg8 (fun q _ e => e)) (fun _ _ e => e)
          have HOw := Hd hown9
          have HB8 := Hd (HB.out.trans ((HS5.out.mono HB.out.size).trans (kg.below (Nat.le_trans HB.out.size HS5.out.size) (fun q hq e => by have := (HRow.out.lt q e).1; omega))))
          refine hK _ _ ((HS.out _).2 kg) ?_
          clear hK K hown8 hown9 hg8 hloc kg
          iterate 2
            first
              | (refine wpH_passed rfl (by rfl) (fun K hK => ?_); go_simp; refine hK _ ?_; clear hK K)
              | (first
                   | refine wpH_read rfl rfl (fun K hK => ?_)
                   | refine wpH_readw rfl (by rfl) (fun K hK => ?_)
                 apply Exists.intro
                 refine ⟨fun u hu => ?_, ?_⟩
                 · have hu := (HS.out u).1 hu
                   have hbu := hu.at HX5.out (fun e => HAp.out _ e rfl)
                   have d0 : u.cell? ⟨wb, 0, none⟩ = some (.int .u64 f1) := Lib.cell_of_heap hbu 0
                   have d1 : u.cell? ⟨wb, 1, none⟩ = some (.string ⟨#[]⟩) := Lib.cell_of_heap hbu 1
                   clear hbu
                   clear hu
                   go_simp
                   exact ⟨rfl, rfl⟩
                 go_simp
                 refine hK _ ?_
                 clear hK K)
          refine wpH_nil ?_
          simp only [List.drop_succ_cons, List.drop_zero]
          clear S HS
          go_wp2
          go_roundw
          case rel => exact ⟨k + 1, by omega, by go_num, by rw [HT2.out], HOw.out, HB8.out⟩
          case measure => simp [intOf]; omega
        · have hw8 : ∀ w : World, Calls Tryz.prog 151 #[.int .u8 104] w fun e w' => e = .returned (.int .i64 4) ∧ w = w' := fun w => width_any 104 (by decide) w
          have he : enc 104 (f1, ⟨#[]⟩) = beW 4 f1 4 := rfl
          have hel : (enc 104 (f1, ⟨#[]⟩)).length = 4 := by rw [he, beW_length]
          rw [hel] at s1 s2 s3
          have htold := told_any8 ⟨(enc 104 (f1, ⟨#[]⟩)).toArray⟩ (by show (List.toArray _).size ≤ 8; rw [List.size_toArray, hel]; decide)
          have hbn : beN (⟨(enc 104 (f1, ⟨#[]⟩)).toArray⟩ : ByteArray).data.toList = f1 := by rw [he]; exact told_beW hf1
          rw [hbn] at htold
          generalize (⟨(enc 104 (f1, ⟨#[]⟩)).toArray⟩ : ByteArray) = sf at *
          have HTold := Hd htold
          have hts : (4 : Int) ≤ (t.size : Int) := by omega
          have htc : decide ((t.size : Int) < 4) = false := by simp; omega
          clear he hel hbn htold
          go_wp2_with (first
            | (go_at_call 151; with_reducible refine (hw8 _).mono ?_; rintro e w3 ⟨rfl, rfl⟩)
            | (go_at_call 152; refine (HTold.out _).mono ?_; rintro e w4 ⟨rfl, hb4⟩
               have hbx : w4.heap[wr.heap.size]? = some (.cells #[.int .u64 0, .string sf] 182 (0, 0)) := (hb4.block _ (by simp)).trans (heap_alloc_new wr _)
               have d0 : w4.cell? ⟨wr.heap.size, 0, none⟩ = some (.int .u64 0) := Lib.cell_of_heap hbx 0
               have d1 : w4.cell? ⟨wr.heap.size, 1, none⟩ = some (.string sf) := Lib.cell_of_heap hbx 1
               have y0 : w4.frozen? ⟨wr.heap.size, 0, none⟩ = false := by simp [World.frozen?, hbx]
               have y1 : w4.frozen? ⟨wr.heap.size, 1, none⟩ = false := by simp [World.frozen?, hbx]
               have HBx := Hd hbx
               have HB4 := Hd (show Below wr.heap.size wr w4 from ((Below.refl _ _).alloc (Nat.le_refl _) _).trans (hb4.mono (by simp)))
               clear hb4 hbx))
          clear d0 d1 y0 y1
          have hbx5 : ((w4.setCell ⟨wr.heap.size, 0, none⟩ (.int .u64 f1)).setCell ⟨wr.heap.size, 1, none⟩ (.string ⟨#[]⟩)).heap[wr.heap.size]? = some (.cells #[.int .u64 f1, .string ⟨#[]⟩] 182 (0, 0)) := heap_setCell_same _ _ _ _ _ _ (heap_setCell_same _ _ _ _ _ _ HBx.out)
          have hb5 : Below wr.heap.size wr ((w4.setCell ⟨wr.heap.size, 0, none⟩ (.int .u64 f1)).setCell ⟨wr.heap.size, 1, none⟩ (.string ⟨#[]⟩)) := (HB4.out.setCell (p := ⟨wr.heap.size, 0, none⟩) (Nat.le_refl _) _).setCell (p := ⟨wr.heap.size, 1, none⟩) (Nat.le_refl _) _
          obtain ⟨w5, hw5⟩ : ∃ w5, (w4.setCell ⟨wr.heap.size, 0, none⟩ (.int .u64 f1)).setCell ⟨wr.heap.size, 1, none⟩ (.string ⟨#[]⟩) = w5 := ⟨_, rfl⟩
          rw [hw5] at hbx5 hb5 ⊢
          clear hw5 HBx HB4
          have HS5 := Hd hb5
          have HX5 := Hd hbx5
          have HRow5 := Hd ((Keep.ofBelow (S := fun _ => False) hb5).ownsRow HRow.out (fun _ _ e => e))
          have hz5 : wr.heap.size < w5.heap.size := (Gl hbx5)
          have HZ5 := Hd hz5
          have HAp := Hd (show ∀ q, (Value.slice sa k sc).ownBlock = some q → q ≠ wr.heap.size from fun q e => by have := (HRow.out.lt q e).2; omega)
          clear hb5 hbx5 hz5
          obtain ⟨wb, hwb⟩ : ∃ wb, wr.heap.size = wb := ⟨_, rfl⟩
          rw [hwb] at HX5 HZ5 HAp ⊢
          have HWb := Hd hwb
          clear hwb
          obtain ⟨S, hS⟩ : ∃ S : World → Prop, ∀ u, S u ↔ Keep (fun q => (Value.slice sa k sc).ownBlock = some q) (w5) u := ⟨fun u => Keep (fun q => (Value.slice sa k sc).ownBlock = some q) (w5) u, fun _ => Iff.rfl⟩
          have HS := Hd hS
          clear hS
          refine wp_region_whole 9 [(0, true), (1, true), (4, true), (5, true), (6, true), (2, false), (3, false), (7, true), (8, true)] S (by kernel_rfl) (by kernel_rfl) ((HS.out _).2 (Keep.refl _ _).drew) ?_
          iterate 5
            first
              | (refine wpH_passed rfl (by rfl) (fun K hK => ?_); go_simp; refine hK _ ?_; clear hK K)
              | (first
                   | refine wpH_read rfl rfl (fun K hK => ?_)
                   | refine wpH_readw rfl (by rfl) (fun K hK => ?_)
                 apply Exists.intro
                 refine ⟨fun u hu => ?_, ?_⟩
                 · have hu := (HS.out u).1 hu
                   have hbu := hu.at HX5.out (fun e => HAp.out _ e rfl)
                   have d0 : u.cell? ⟨wb, 0, none⟩ = some (.int .u64 f1) := Lib.cell_of_heap hbu 0
                   have d1 : u.cell? ⟨wb, 1, none⟩ = some (.string ⟨#[]⟩) := Lib.cell_of_heap hbu 1
                   clear hbu
                   clear hu
                   go_simp
                   exact ⟨rfl, rfl⟩
                 go_simp
                 refine hK _ ?_
                 clear hK K)
          first | refine wpH_do rfl rfl (fun K hK => ?_) | refine wpH_dow rfl (by rfl) (fun K hK => ?_)
          go_simp
          have ka : Keep (fun q => (Value.slice sa k sc).ownBlock = some q) w5 (w5.alloc (.cells #[.int .u64 f1, .string ⟨#[]⟩] 182)).drew := ((Keep.refl _ w5).alloc _).drew
          refine hK _ _ ((HS.out _).2 ka) ?_
          clear hK K
          have hrb : ((w5.alloc (.cells #[.int .u64 f1, .string ⟨#[]⟩] 182)).drew).ownsRow w.heap.size 182 2 (.slice sa k sc) k (fldV (fs.take k)) := (HRow5.out.alloc _).drew
          have HRb := Hd hrb
          have HKa := Hd ka
          clear hrb ka
          first | refine wpH_do rfl rfl (fun K hK => ?_) | refine wpH_dow rfl (by rfl) (fun K hK => ?_)
          refine wp_append_at _ _ 178 (by rfl) w.heap.size 182 i0 _ 2 24 Tryz.underlying178 HI.out Hz0.out Hz1.out Hz2.out (by rfl) (by decide) _ _ _ (by rfl) HRb.out ⟨w5.heap.size, 0, none⟩ 1 1 [.int .u64 f1, .string ⟨#[]⟩] (by rfl) (by rfl) (World.news_of_block (cs := #[.int .u64 f1, .string ⟨#[]⟩]) (t := 182) (fr := (0, 0)) (heap_alloc_new w5 _)) (by simp [Value.oneCell']) (by unfold maxLen; omega) (by omega) (by have h1 := HB.out.size; have h2 := HS5.out.size; show w.heap.size ≤ (w5.alloc _).heap.size; simp; omega) ?_
          intro v8 w8 hown8 hg8 hloc
          have hown9 : w8.ownsRow w.heap.size 182 2 v8 (k + 1) (fldV (fs.take k) ++ [.int .u64 f1, .string ⟨#[]⟩]) := hown8
          rw [← fldV_snoc _ (f1, ⟨#[]⟩), ← HTk.out] at hown9
          obtain ⟨p8, c8, hsl⟩ := slice_formB hown9
          subst hsl
          have kg := HKa.out.trans ((Keep.refl (fun q => (Value.slice sa k sc).ownBlock = some q) _).grown hg8 (fun q _ e => e)) (fun _ _ e => e)
          have HOw := Hd hown9
          have HB8 := Hd (HB.out.trans ((HS5.out.mono HB.out.size).trans (kg.below (Nat.le_trans HB.out.size HS5.out.size) (fun q hq e => by have := (HRow.out.lt q e).1; omega))))
          refine hK _ _ ((HS.out _).2 kg) ?_
          clear hK K hown8 hown9 hg8 hloc kg
          iterate 2
            first
              | (refine wpH_passed rfl (by rfl) (fun K hK => ?_); go_simp; refine hK _ ?_; clear hK K)
              | (first
                   | refine wpH_read rfl rfl (fun K hK => ?_)
                   | refine wpH_readw rfl (by rfl) (fun K hK => ?_)
                 apply Exists.intro
                 refine ⟨fun u hu => ?_, ?_⟩
                 · have hu := (HS.out u).1 hu
                   have hbu := hu.at HX5.out (fun e => HAp.out _ e rfl)
                   have d0 : u.cell? ⟨wb, 0, none⟩ = some (.int .u64 f1) := Lib.cell_of_heap hbu 0
                   have d1 : u.cell? ⟨wb, 1, none⟩ = some (.string ⟨#[]⟩) := Lib.cell_of_heap hbu 1
                   clear hbu
                   clear hu
                   go_simp
                   exact ⟨rfl, rfl⟩
                 go_simp
                 refine hK _ ?_
                 clear hK K)
          refine wpH_nil ?_
          simp only [List.drop_succ_cons, List.drop_zero]
          clear S HS
          go_wp2
          go_roundw
          case rel => exact ⟨k + 1, by omega, by go_num, by rw [HT2.out], HOw.out, HB8.out⟩
          case measure => simp [intOf]; omega
        · have hw8 : ∀ w : World, Calls Tryz.prog 151 #[.int .u8 98] w fun e w' => e = .returned (.int .i64 1) ∧ w = w' := fun w => width_any 98 (by decide) w
          have he : enc 98 (f1, ⟨#[]⟩) = beW 1 f1 1 := rfl
          have hel : (enc 98 (f1, ⟨#[]⟩)).length = 1 := by rw [he, beW_length]
          rw [hel] at s1 s2 s3
          have htold := told_any8 ⟨(enc 98 (f1, ⟨#[]⟩)).toArray⟩ (by show (List.toArray _).size ≤ 8; rw [List.size_toArray, hel]; decide)
          have hbn : beN (⟨(enc 98 (f1, ⟨#[]⟩)).toArray⟩ : ByteArray).data.toList = f1 := by rw [he]; exact told_beW hf1
          rw [hbn] at htold
          generalize (⟨(enc 98 (f1, ⟨#[]⟩)).toArray⟩ : ByteArray) = sf at *
          have HTold := Hd htold
          have hts : (1 : Int) ≤ (t.size : Int) := by omega
          have htc : decide ((t.size : Int) < 1) = false := by simp; omega
          clear he hel hbn htold
          go_wp2_with (first
            | (go_at_call 151; with_reducible refine (hw8 _).mono ?_; rintro e w3 ⟨rfl, rfl⟩)
            | (go_at_call 152; refine (HTold.out _).mono ?_; rintro e w4 ⟨rfl, hb4⟩
               have hbx : w4.heap[wr.heap.size]? = some (.cells #[.int .u64 0, .string sf] 182 (0, 0)) := (hb4.block _ (by simp)).trans (heap_alloc_new wr _)
               have d0 : w4.cell? ⟨wr.heap.size, 0, none⟩ = some (.int .u64 0) := Lib.cell_of_heap hbx 0
               have d1 : w4.cell? ⟨wr.heap.size, 1, none⟩ = some (.string sf) := Lib.cell_of_heap hbx 1
               have y0 : w4.frozen? ⟨wr.heap.size, 0, none⟩ = false := by simp [World.frozen?, hbx]
               have y1 : w4.frozen? ⟨wr.heap.size, 1, none⟩ = false := by simp [World.frozen?, hbx]
               have HBx := Hd hbx
               have HB4 := Hd (show Below wr.heap.size wr w4 from ((Below.refl _ _).alloc (Nat.le_refl _) _).trans (hb4.mono (by simp)))
               clear hb4 hbx))
          clear d0 d1 y0 y1
          have hbx5 : ((w4.setCell ⟨wr.heap.size, 0, none⟩ (.int .u64 f1)).setCell ⟨wr.heap.size, 1, none⟩ (.string ⟨#[]⟩)).heap[wr.heap.size]? = some (.cells #[.int .u64 f1, .string ⟨#[]⟩] 182 (0, 0)) := heap_setCell_same _ _ _ _ _ _ (heap_setCell_same _ _ _ _ _ _ HBx.out)
          have hb5 : Below wr.heap.size wr ((w4.setCell ⟨wr.heap.size, 0, none⟩ (.int .u64 f1)).setCell ⟨wr.heap.size, 1, none⟩ (.string ⟨#[]⟩)) := (HB4.out.setCell (p := ⟨wr.heap.size, 0, none⟩) (Nat.le_refl _) _).setCell (p := ⟨wr.heap.size, 1, none⟩) (Nat.le_refl _) _
          obtain ⟨w5, hw5⟩ : ∃ w5, (w4.setCell ⟨wr.heap.size, 0, none⟩ (.int .u64 f1)).setCell ⟨wr.heap.size, 1, none⟩ (.string ⟨#[]⟩) = w5 := ⟨_, rfl⟩
          rw [hw5] at hbx5 hb5 ⊢
          clear hw5 HBx HB4
          have HS5 := Hd hb5
          have HX5 := Hd hbx5
          have HRow5 := Hd ((Keep.ofBelow (S := fun _ => False) hb5).ownsRow HRow.out (fun _ _ e => e))
          have hz5 : wr.heap.size < w5.heap.size := (Gl hbx5)
          have HZ5 := Hd hz5
          have HAp := Hd (show ∀ q, (Value.slice sa k sc).ownBlock = some q → q ≠ wr.heap.size from fun q e => by have := (HRow.out.lt q e).2; omega)
          clear hb5 hbx5 hz5
          obtain ⟨wb, hwb⟩ : ∃ wb, wr.heap.size = wb := ⟨_, rfl⟩
          rw [hwb] at HX5 HZ5 HAp ⊢
          have HWb := Hd hwb
          clear hwb
          obtain ⟨S, hS⟩ : ∃ S : World → Prop, ∀ u, S u ↔ Keep (fun q => (Value.slice sa k sc).ownBlock = some q) (w5) u := ⟨fun u => Keep (fun q => (Value.slice sa k sc).ownBlock = some q) (w5) u, fun _ => Iff.rfl⟩
          have HS := Hd hS
          clear hS
          refine wp_region_whole 9 [(0, true), (1, true), (4, true), (5, true), (6, true), (2, false), (3, false), (7, true), (8, true)] S (by kernel_rfl) (by kernel_rfl) ((HS.out _).2 (Keep.refl _ _).drew) ?_
          iterate 5
            first
              | (refine wpH_passed rfl (by rfl) (fun K hK => ?_); go_simp; refine hK _ ?_; clear hK K)
              | (first
                   | refine wpH_read rfl rfl (fun K hK => ?_)
                   | refine wpH_readw rfl (by rfl) (fun K hK => ?_)
                 apply Exists.intro
                 refine ⟨fun u hu => ?_, ?_⟩
                 · have hu := (HS.out u).1 hu
                   have hbu := hu.at HX5.out (fun e => HAp.out _ e rfl)
                   have d0 : u.cell? ⟨wb, 0, none⟩ = some (.int .u64 f1) := Lib.cell_of_heap hbu 0
                   have d1 : u.cell? ⟨wb, 1, none⟩ = some (.string ⟨#[]⟩) := Lib.cell_of_heap hbu 1
                   clear hbu
                   clear hu
                   go_simp
                   exact ⟨rfl, rfl⟩
                 go_simp
                 refine hK _ ?_
                 clear hK K)
          first | refine wpH_do rfl rfl (fun K hK => ?_) | refine wpH_dow rfl (by rfl) (fun K hK => ?_)
          go_simp
          have ka : Keep (fun q => (Value.slice sa k sc).ownBlock = some q) w5 (w5.alloc (.cells #[.int .u64 f1, .string ⟨#[]⟩] 182)).drew := ((Keep.refl _ w5).alloc _).drew
          refine hK _ _ ((HS.out _).2 ka) ?_
          clear hK K
          have hrb : ((w5.alloc (.cells #[.int .u64 f1, .string ⟨#[]⟩] 182)).drew).ownsRow w.heap.size 182 2 (.slice sa k sc) k (fldV (fs.take k)) := (HRow5.out.alloc _).drew
          have HRb := Hd hrb
          have HKa := Hd ka
          clear hrb ka
          first | refine wpH_do rfl rfl (fun K hK => ?_) | refine wpH_dow rfl (by rfl) (fun K hK => ?_)
          refine wp_append_at _ _ 178 (by rfl) w.heap.size 182 i0 _ 2 24 Tryz.underlying178 HI.out Hz0.out Hz1.out Hz2.out (by rfl) (by decide) _ _ _ (by rfl) HRb.out ⟨w5.heap.size, 0, none⟩ 1 1 [.int .u64 f1, .string ⟨#[]⟩] (by rfl) (by rfl) (World.news_of_block (cs := #[.int .u64 f1, .string ⟨#[]⟩]) (t := 182) (fr := (0, 0)) (heap_alloc_new w5 _)) (by simp [Value.oneCell']) (by unfold maxLen; omega) (by omega) (by have h1 := HB.out.size; have h2 := HS5.out.size; show w.heap.size ≤ (w5.alloc _).heap.size; simp; omega) ?_
          intro v8 w8 hown8 hg8 hloc
          have hown9 : w8.ownsRow w.heap.size 182 2 v8 (k + 1) (fldV (fs.take k) ++ [.int .u64 f1, .string ⟨#[]⟩]) := hown8
          rw [← fldV_snoc _ (f1, ⟨#[]⟩), ← HTk.out] at hown9
          obtain ⟨p8, c8, hsl⟩ := slice_formB hown9
          subst hsl
          have kg := HKa.out.trans ((Keep.refl (fun q => (Value.slice sa k sc).ownBlock = some q) _).grown hg8 (fun q _ e => e)) (fun _ _ e => e)
          have HOw := Hd hown9
          have HB8 := Hd (HB.out.trans ((HS5.out.mono HB.out.size).trans (kg.below (Nat.le_trans HB.out.size HS5.out.size) (fun q hq e => by have := (HRow.out.lt q e).1; omega))))
          refine hK _ _ ((HS.out _).2 kg) ?_
          clear hK K hown8 hown9 hg8 hloc kg
          iterate 2
            first
              | (refine wpH_passed rfl (by rfl) (fun K hK => ?_); go_simp; refine hK _ ?_; clear hK K)
              | (first
                   | refine wpH_read rfl rfl (fun K hK => ?_)
                   | refine wpH_readw rfl (by rfl) (fun K hK => ?_)
                 apply Exists.intro
                 refine ⟨fun u hu => ?_, ?_⟩
                 · have hu := (HS.out u).1 hu
                   have hbu := hu.at HX5.out (fun e => HAp.out _ e rfl)
                   have d0 : u.cell? ⟨wb, 0, none⟩ = some (.int .u64 f1) := Lib.cell_of_heap hbu 0
                   have d1 : u.cell? ⟨wb, 1, none⟩ = some (.string ⟨#[]⟩) := Lib.cell_of_heap hbu 1
                   clear hbu
                   clear hu
                   go_simp
                   exact ⟨rfl, rfl⟩
                 go_simp
                 refine hK _ ?_
                 clear hK K)
          refine wpH_nil ?_
          simp only [List.drop_succ_cons, List.drop_zero]
          clear S HS
          go_wp2
          go_roundw
          case rel => exact ⟨k + 1, by omega, by go_num, by rw [HT2.out], HOw.out, HB8.out⟩
          case measure => simp [intOf]; omega
      · have hw8 : ∀ w : World, Calls Tryz.prog 151 #[.int .u8 116] w fun e w' => e = .returned (.int .i64 0) ∧ w = w' := fun w => width_any 116 (by decide) w
        have he : enc 116 (0, f2) = beW 2 f2.size 2 ++ f2.data.toList := rfl
        have hrl := HRl.out
        rw [he, List.append_assoc] at hrl
        obtain ⟨t', ht'⟩ : ∃ t' : ByteArray, t'.data.toList = f2.data.toList ++ t2.data.toList := ⟨⟨(f2.data.toList ++ t2.data.toList).toArray⟩, by simp⟩
        rw [← ht'] at hrl
        obtain ⟨u1, u2, u3⟩ := bytes_split hrl
        obtain ⟨v1, v2, v3⟩ := bytes_split ht'
        rw [beW_length] at u1 u2 u3
        have hf2l : f2.data.toList.length = f2.size := by simp
        have hf2e : (⟨f2.data.toList.toArray⟩ : ByteArray) = f2 := rfl
        rw [hf2l] at v1 v2 v3
        rw [hf2e] at v1
        have hs3 : f2.size ≤ 65535 := hs2
        have htold := told_any8 ⟨(beW 2 f2.size 2).toArray⟩ (by show (List.toArray _).size ≤ 8; rw [List.size_toArray, beW_length]; decide)
        have hbn : beN (⟨(beW 2 f2.size 2).toArray⟩ : ByteArray).data.toList = f2.size := told_beW (w := 2) (by omega)
        rw [hbn] at htold
        generalize (⟨(beW 2 f2.size 2).toArray⟩ : ByteArray) = sf at *
        obtain ⟨fz, hfz⟩ : ∃ fz, f2.size = fz := ⟨_, rfl⟩
        rw [hfz] at htold v1 v2 v3 hs3
        have HTold := Hd htold
        have hts : (2 : Int) ≤ (t.size : Int) := by omega
        have htc : decide ((t.size : Int) < 2) = false := by simp; omega
        have hts' : (fz : Int) ≤ (t'.size : Int) := by omega
        have htc' : decide ((t'.size : Int) < (fz : Int)) = false := by simp; omega
        have hfw : IntKind.i64.wrap (fz : Int) = (fz : Int) := wrapI (by omega) (by omega)
        clear he hrl ht' hf2l hf2e hbn htold s1 s2 s3 hs2 hfz
        go_wp2_with (go_at_call 151; with_reducible refine (hw8 _).mono ?_; rintro e w3 ⟨rfl, rfl⟩)
        obtain ⟨S, hS⟩ : ∃ S : World → Prop, ∀ u, S u ↔ Keep (fun _ => False) (wr) u := ⟨fun u => Keep (fun _ => False) (wr) u, fun _ => Iff.rfl⟩
        have HS := Hd hS
        clear hS
        refine wp_region_whole 8 [(0, true), (1, true), (4, true), (5, true), (2, false), (3, true), (6, true), (7, true)] S (by kernel_rfl) (by kernel_rfl) ((HS.out _).2 (Keep.refl _ _).drew) ?_
        iterate 4
          first
            | (refine wpH_passed rfl (by rfl) (fun K hK => ?_); go_simp; refine hK _ ?_; clear hK K)
            | (first
                 | refine wpH_read rfl rfl (fun K hK => ?_)
                 | refine wpH_readw rfl (by rfl) (fun K hK => ?_)
               apply Exists.intro
               refine ⟨fun u hu => ?_, ?_⟩
               · have hu := (HS.out u).1 hu
                 clear hu
                 go_simp
                 exact ⟨rfl, rfl⟩
               go_simp
               refine hK _ ?_
               clear hK K)
        first | refine wpH_do rfl rfl (fun K hK => ?_) | refine wpH_dow rfl (by rfl) (fun K hK => ?_)
        go_simp
        go_at_call 152
        refine (HTold.out _).mono ?_
        rintro e w4 ⟨rfl, hb4⟩
        have hb4' : Below wr.heap.size wr w4 := ⟨hb4.os, hb4.tape, hb4.output, hb4.size, hb4.block⟩
        have HBw := Hd hb4'
        refine hK _ _ ((HS.out _).2 (Keep.ofBelow hb4')) ?_
        clear hK K hb4 hb4'
        iterate 3
          first
            | (refine wpH_passed rfl (by rfl) (fun K hK => ?_); go_simp; refine hK _ ?_; clear hK K)
            | (first
                 | refine wpH_read rfl rfl (fun K hK => ?_)
                 | refine wpH_readw rfl (by rfl) (fun K hK => ?_)
               apply Exists.intro
               refine ⟨fun u hu => ?_, ?_⟩
               · have hu := (HS.out u).1 hu
                 clear hu
                 go_simp
                 exact ⟨rfl, rfl⟩
               go_simp
               refine hK _ ?_
               clear hK K)
        refine wpH_nil ?_
        simp only [List.drop_succ_cons, List.drop_zero]
        clear S HS
        go_wp2
        obtain ⟨f1, hf10⟩ : ∃ f1 : Nat, f1 = 0 := ⟨0, rfl⟩
        have e0 : (0 : Int) = (f1 : Int) := by omega
        have hbx5 : (w4.alloc (.cells #[.int .u64 0, .string f2] 182)).heap[w4.heap.size]? = some (.cells #[.int .u64 f1, .string f2] 182 (0, 0)) := by rw [← e0]; exact heap_alloc_new w4 _
        have hb5 : Below wr.heap.size wr (w4.alloc (.cells #[.int .u64 0, .string f2] 182)) := HBw.out.alloc HBw.out.size _
        rw [← hf10] at HTk
        have hz4 := HBw.out.size
        obtain ⟨w5, hw5⟩ : ∃ w5, w4.alloc (.cells #[.int .u64 0, .string f2] 182) = w5 := ⟨_, rfl⟩
        rw [hw5] at hbx5 hb5 ⊢
        clear hw5 e0 hf10
        have HS5 := Hd hb5
        have HX5 := Hd hbx5
        have HZ4 := Hd hz4
        clear hz4
        have HRow5 := Hd ((Keep.ofBelow (S := fun _ => False) hb5).ownsRow HRow.out (fun _ _ e => e))
        have hz5 : w4.heap.size < w5.heap.size := (Gl hbx5)
        have HZ5 := Hd hz5
        have HAp := Hd (show ∀ q, (Value.slice sa k sc).ownBlock = some q → q ≠ w4.heap.size from fun q e => by have := (HRow.out.lt q e).2; have := HZ4.out; omega)
        clear hb5 hbx5 hz5
        obtain ⟨wb, hwb⟩ : ∃ wb, w4.heap.size = wb := ⟨_, rfl⟩
        rw [hwb] at HX5 HZ5 HAp ⊢
        have HWb := Hd hwb
        clear hwb
        obtain ⟨S, hS⟩ : ∃ S : World → Prop, ∀ u, S u ↔ Keep (fun q => (Value.slice sa k sc).ownBlock = some q) (w5) u := ⟨fun u => Keep (fun q => (Value.slice sa k sc).ownBlock = some q) (w5) u, fun _ => Iff.rfl⟩
        have HS := Hd hS
        clear hS
        refine wp_region_whole 9 [(0, true), (1, true), (4, true), (5, true), (6, true), (2, false), (3, false), (7, true), (8, true)] S (by kernel_rfl) (by kernel_rfl) ((HS.out _).2 (Keep.refl _ _).drew) ?_
        iterate 5
          first
            | (refine wpH_passed rfl (by rfl) (fun K hK => ?_); go_simp; refine hK _ ?_; clear hK K)
            | (first
                 | refine wpH_read rfl rfl (fun K hK => ?_)
                 | refine wpH_readw rfl (by rfl) (fun K hK => ?_)
               apply Exists.intro
               refine ⟨fun u hu => ?_, ?_⟩
               · have hu := (HS.out u).1 hu
                 have hbu := hu.at HX5.out (fun e => HAp.out _ e rfl)
                 have d0 : u.cell? ⟨wb, 0, none⟩ = some (.int .u64 f1) := Lib.cell_of_heap hbu 0
                 have d1 : u.cell? ⟨wb, 1, none⟩ = some (.string f2) := Lib.cell_of_heap hbu 1
                 clear hbu
                 clear hu
                 go_simp
                 exact ⟨rfl, rfl⟩
               go_simp
               refine hK _ ?_
               clear hK K)
        first | refine wpH_do rfl rfl (fun K hK => ?_) | refine wpH_dow rfl (by rfl) (fun K hK => ?_)
        go_simp
        have ka : Keep (fun q => (Value.slice sa k sc).ownBlock = some q) w5 (w5.alloc (.cells #[.int .u64 f1, .string f2] 182)).drew := ((Keep.refl _ w5).alloc _).drew
        refine hK _ _ ((HS.out _).2 ka) ?_
        clear hK K
        have hrb : ((w5.alloc (.cells #[.int .u64 f1, .string f2] 182)).drew).ownsRow w.heap.size 182 2 (.slice sa k sc) k (fldV (fs.take k)) := (HRow5.out.alloc _).drew
        have HRb := Hd hrb
        have HKa := Hd ka
        clear hrb ka
        first | refine wpH_do rfl rfl (fun K hK => ?_) | refine wpH_dow rfl (by rfl) (fun K hK => ?_)
        refine wp_append_at _ _ 178 (by rfl) w.heap.size 182 i0 _ 2 24 Tryz.underlying178 HI.out Hz0.out Hz1.out Hz2.out (by rfl) (by decide) _ _ _ (by rfl) HRb.out ⟨w5.heap.size, 0, none⟩ 1 1 [.int .u64 f1, .string f2] (by rfl) (by rfl) (World.news_of_block (cs := #[.int .u64 f1, .string f2]) (t := 182) (fr := (0, 0)) (heap_alloc_new w5 _)) (by simp [Value.oneCell']) (by unfold maxLen; omega) (by omega) (by have h1 := HB.out.size; have h2 := HS5.out.size; show w.heap.size ≤ (w5.alloc _).heap.size; simp; omega) ?_
        intro v8 w8 hown8 hg8 hloc
        have hown9 : w8.ownsRow w.heap.size 182 2 v8 (k + 1) (fldV (fs.take k) ++ [.int .u64 f1, .string f2]) := hown8
        rw [← fldV_snoc _ (f1, f2), ← HTk.out] at hown9
        obtain ⟨p8, c8, hsl⟩ := slice_formB hown9
        subst hsl
        have kg := HKa.out.trans ((Keep.refl (fun q => (Value.slice sa k sc).ownBlock = some q) _).grown hg8 (fun q _ e => e)) (fun _ _ e => e)
        have HOw := Hd hown9
        have HB8 := Hd (HB.out.trans ((HS5.out.mono HB.out.size).trans (kg.below (Nat.le_trans HB.out.size HS5.out.size) (fun q hq e => by have := (HRow.out.lt q e).1; omega))))
        refine hK _ _ ((HS.out _).2 kg) ?_
        clear hK K hown8 hown9 hg8 hloc kg
        iterate 2
          first
            | (refine wpH_passed rfl (by rfl) (fun K hK => ?_); go_simp; refine hK _ ?_; clear hK K)
            | (first
                 | refine wpH_read rfl rfl (fun K hK => ?_)
                 | refine wpH_readw rfl (by rfl) (fun K hK => ?_)
               apply Exists.intro
               refine ⟨fun u hu => ?_, ?_⟩
               · have hu := (HS.out u).1 hu
                 have hbu := hu.at HX5.out (fun e => HAp.out _ e rfl)
                 have d0 : u.cell? ⟨wb, 0, none⟩ = some (.int .u64 f1) := Lib.cell_of_heap hbu 0
                 have d1 : u.cell? ⟨wb, 1, none⟩ = some (.string f2) := Lib.cell_of_heap hbu 1
                 clear hbu
                 clear hu
                 go_simp
                 exact ⟨rfl, rfl⟩
               go_simp
               refine hK _ ?_
               clear hK K)
        refine wpH_nil ?_
        simp only [List.drop_succ_cons, List.drop_zero]
        clear S HS
        go_wp2
        go_roundw
        case rel => exact ⟨k + 1, by omega, by go_num, by rw [HT2.out], HOw.out, HB8.out⟩
        case measure => simp [intOf]; omega
      · have hw8 : ∀ w : World, Calls Tryz.prog 151 #[.int .u8 114] w fun e w' => e = .returned (.int .i64 0) ∧ w = w' := fun w => width_any 114 (by decide) w
        have he : enc 114 (0, f2) = f2.data.toList := rfl
        have hel : (enc 114 (0, f2)).length = f2.size := by rw [he, Array.length_toList]; rfl
        have hst : (⟨(enc 114 (0, f2)).toArray⟩ : ByteArray) = f2 := by rw [he]
        rw [hel] at s1 s2 s3
        rw [hst] at s1
        have htz : t.size = f2.size := by
          have h1 := HEnd.out (HLast.out rfl)
          have h2 := congrArg ByteArray.size s2
          rw [h1, ByteArray.size_extract] at h2
          have h3 : (⟨#[]⟩ : ByteArray).size = 0 := rfl
          omega
        rw [← htz] at s1 s2
        have htl : t.size ≤ 9223372036854775807 := by rw [htz]; have : f2.size ≤ 1000000 := hs2; omega
        have HT2e := Hd (show t2 = ⟨#[]⟩ from HEnd.out (HLast.out rfl))
        clear he hel hst htz s3 hs2
        go_wp2_with (go_at_call 151; with_reducible refine (hw8 _).mono ?_; rintro e w3 ⟨rfl, rfl⟩)
        obtain ⟨f1, hf10⟩ : ∃ f1 : Nat, f1 = 0 := ⟨0, rfl⟩
        have e0 : (0 : Int) = (f1 : Int) := by omega
        have hbx5 : (wr.alloc (.cells #[.int .u64 0, .string f2] 182)).heap[wr.heap.size]? = some (.cells #[.int .u64 f1, .string f2] 182 (0, 0)) := by rw [← e0]; exact heap_alloc_new wr _
        have hb5 : Below wr.heap.size wr (wr.alloc (.cells #[.int .u64 0, .string f2] 182)) := (Below.refl _ _).alloc (Nat.le_refl _) _
        rw [← hf10] at HTk
        obtain ⟨w5, hw5⟩ : ∃ w5, wr.alloc (.cells #[.int .u64 0, .string f2] 182) = w5 := ⟨_, rfl⟩
        rw [hw5] at hbx5 hb5 ⊢
        clear hw5 e0 hf10
        have HS5 := Hd hb5
        have HX5 := Hd hbx5
        have HRow5 := Hd ((Keep.ofBelow (S := fun _ => False) hb5).ownsRow HRow.out (fun _ _ e => e))
        have hz5 : wr.heap.size < w5.heap.size := (Gl hbx5)
        have HZ5 := Hd hz5
        have HAp := Hd (show ∀ q, (Value.slice sa k sc).ownBlock = some q → q ≠ wr.heap.size from fun q e => by have := (HRow.out.lt q e).2; omega)
        clear hb5 hbx5 hz5
        obtain ⟨wb, hwb⟩ : ∃ wb, wr.heap.size = wb := ⟨_, rfl⟩
        rw [hwb] at HX5 HZ5 HAp ⊢
        have HWb := Hd hwb
        clear hwb
        obtain ⟨S, hS⟩ : ∃ S : World → Prop, ∀ u, S u ↔ Keep (fun q => (Value.slice sa k sc).ownBlock = some q) (w5) u := ⟨fun u => Keep (fun q => (Value.slice sa k sc).ownBlock = some q) (w5) u, fun _ => Iff.rfl⟩
        have HS := Hd hS
        clear hS
        refine wp_region_whole 9 [(0, true), (1, true), (4, true), (5, true), (6, true), (2, false), (3, false), (7, true), (8, true)] S (by kernel_rfl) (by kernel_rfl) ((HS.out _).2 (Keep.refl _ _).drew) ?_
        iterate 5
          first
            | (refine wpH_passed rfl (by rfl) (fun K hK => ?_); go_simp; refine hK _ ?_; clear hK K)
            | (first
                 | refine wpH_read rfl rfl (fun K hK => ?_)
                 | refine wpH_readw rfl (by rfl) (fun K hK => ?_)
               apply Exists.intro
               refine ⟨fun u hu => ?_, ?_⟩
               · have hu := (HS.out u).1 hu
                 have hbu := hu.at HX5.out (fun e => HAp.out _ e rfl)
                 have d0 : u.cell? ⟨wb, 0, none⟩ = some (.int .u64 f1) := Lib.cell_of_heap hbu 0
                 have d1 : u.cell? ⟨wb, 1, none⟩ = some (.string f2) := Lib.cell_of_heap hbu 1
                 clear hbu
                 clear hu
                 go_simp
                 exact ⟨rfl, rfl⟩
               go_simp
               refine hK _ ?_
               clear hK K)
        first | refine wpH_do rfl rfl (fun K hK => ?_) | refine wpH_dow rfl (by rfl) (fun K hK => ?_)
        go_simp
        have ka : Keep (fun q => (Value.slice sa k sc).ownBlock = some q) w5 (w5.alloc (.cells #[.int .u64 f1, .string f2] 182)).drew := ((Keep.refl _ w5).alloc _).drew
        refine hK _ _ ((HS.out _).2 ka) ?_
        clear hK K
        have hrb : ((w5.alloc (.cells #[.int .u64 f1, .string f2] 182)).drew).ownsRow w.heap.size 182 2 (.slice sa k sc) k (fldV (fs.take k)) := (HRow5.out.alloc _).drew
        have HRb := Hd hrb
        have HKa := Hd ka
        clear hrb ka
        first | refine wpH_do rfl rfl (fun K hK => ?_) | refine wpH_dow rfl (by rfl) (fun K hK => ?_)
        refine wp_append_at _ _ 178 (by rfl) w.heap.size 182 i0 _ 2 24 Tryz.underlying178 HI.out Hz0.out Hz1.out Hz2.out (by rfl) (by decide) _ _ _ (by rfl) HRb.out ⟨w5.heap.size, 0, none⟩ 1 1 [.int .u64 f1, .string f2] (by rfl) (by rfl) (World.news_of_block (cs := #[.int .u64 f1, .string f2]) (t := 182) (fr := (0, 0)) (heap_alloc_new w5 _)) (by simp [Value.oneCell']) (by unfold maxLen; omega) (by omega) (by have h1 := HB.out.size; have h2 := HS5.out.size; show w.heap.size ≤ (w5.alloc _).heap.size; simp; omega) ?_
        intro v8 w8 hown8 hg8 hloc
        have hown9 : w8.ownsRow w.heap.size 182 2 v8 (k + 1) (fldV (fs.take k) ++ [.int .u64 f1, .string f2]) := hown8
        rw [← fldV_snoc _ (f1, f2), ← HTk.out] at hown9
        obtain ⟨p8, c8, hsl⟩ := slice_formB hown9
        subst hsl
        have kg := HKa.out.trans ((Keep.refl (fun q => (Value.slice sa k sc).ownBlock = some q) _).grown hg8 (fun q _ e => e)) (fun _ _ e => e)
        have HOw := Hd hown9
        have HB8 := Hd (HB.out.trans ((HS5.out.mono HB.out.size).trans (kg.below (Nat.le_trans HB.out.size HS5.out.size) (fun q hq e => by have := (HRow.out.lt q e).1; omega))))
        refine hK _ _ ((HS.out _).2 kg) ?_
        clear hK K hown8 hown9 hg8 hloc kg
        iterate 2
          first
            | (refine wpH_passed rfl (by rfl) (fun K hK => ?_); go_simp; refine hK _ ?_; clear hK K)
            | (first
                 | refine wpH_read rfl rfl (fun K hK => ?_)
                 | refine wpH_readw rfl (by rfl) (fun K hK => ?_)
               apply Exists.intro
               refine ⟨fun u hu => ?_, ?_⟩
               · have hu := (HS.out u).1 hu
                 have hbu := hu.at HX5.out (fun e => HAp.out _ e rfl)
                 have d0 : u.cell? ⟨wb, 0, none⟩ = some (.int .u64 f1) := Lib.cell_of_heap hbu 0
                 have d1 : u.cell? ⟨wb, 1, none⟩ = some (.string f2) := Lib.cell_of_heap hbu 1
                 clear hbu
                 clear hu
                 go_simp
                 exact ⟨rfl, rfl⟩
               go_simp
               refine hK _ ?_
               clear hK K)
        refine wpH_nil ?_
        simp only [List.drop_succ_cons, List.drop_zero]
        clear S HS
        go_wp2
        go_roundw
        case rel => exact ⟨k + 1, by omega, by go_num, by rw [HT2.out, HT2e.out]; rfl, HOw.out, HB8.out⟩
        case measure => simp [intOf]; omega
    · obtain rfl : k = n := by omega
      have he : restP ks fs k = ⟨#[]⟩ := by rw [← HN.out]; exact restP_end ks fs
      rw [he]
      have hft : fs.take k = fs := by rw [← HN.out, List.take_length]
      rw [hft] at HRow
      clear he hft hrow
      go_wp2
      go_ret2
      exact ⟨_, rfl, HRow.out, HB.out⟩
end Go.Proofs.YtaokjeokpifjgaaGreatDoor

namespace Go.Proofs.YtaokjeokpifjgaaGreatDoor
open Go.RowKit Go.MapKept
attribute [local go_sem] gives givesH
set_option maxRecDepth 100000

theorem infoPair : (Tryz.prog.info? 202).map (fun i => (i.zero, i.size, i.bytes)) = some (some (.agg #[.string ⟨#[]⟩, .string ⟨#[]⟩]), 2, 32) := by kernel_rfl
def prV (l : KV) : List Value := l.flatMap (fun x => [Value.string x.1, Value.string x.2])
theorem prV_append (a b : KV) : prV (a ++ b) = prV a ++ prV b := by unfold prV; rw [List.flatMap_append]
structure PrsAt (w : World) (lb : Nat) (v : Value) (l : KV) : Prop where
  cells : w.heap[lb]? = some (.cells #[v] 198 (0, 0))
  row : w.ownsRow 0 202 2 v l.length (prV l)
  ne : v.ownBlock ≠ some lb
def prOwn (lb : Nat) (v : Value) (k : Nat) : Prop := k = lb ∨ v.ownBlock = some k
theorem PrsAt.keep {S : Nat → Prop} {w w' : World} {lb : Nat} {v : Value} {l : KV} (h : PrsAt w lb v l) (hk : Keep S w w') (hn : ∀ k, prOwn lb v k → ¬ S k) : PrsAt w' lb v l :=
  ⟨hk.at h.cells (hn _ (.inl rfl)), hk.ownsRow h.row (fun k e => hn k (.inr e)), h.ne⟩
theorem PrsAt.still {w w' : World} {lb : Nat} {v : Value} {l : KV} (h : PrsAt w lb v l) (hb : Below w.heap.size w w') : PrsAt w' lb v l := h.keep (Keep.still hb) (fun _ _ e => e)
theorem PrsAt.lt {w : World} {lb : Nat} {v : Value} {l : KV} (h : PrsAt w lb v l) {k : Nat} (hk : prOwn lb v k) : k < w.heap.size := by
  rcases hk with e | e
  · subst e; exact (Gl h.cells)
  · exact (h.row.lt k e).2
structure PrsStep (lb : Nat) (w : World) (v : Value) (w' : World) (v' : Value) (l' : KV) : Prop where
  at_ : PrsAt w' lb v' l'
  keep : Keep (prOwn lb v) w w'
  own : ∀ k, prOwn lb v' k → prOwn lb v k ∨ w.heap.size ≤ k
theorem PrsStep.refl {lb : Nat} {w : World} {v : Value} {l : KV} (h : PrsAt w lb v l) : PrsStep lb w v w v l := ⟨h, Keep.refl _ _, fun _ e => .inl e⟩
theorem PrsStep.still {lb : Nat} {w w' : World} {v : Value} {l : KV} (h : PrsAt w lb v l) (hb : Below w.heap.size w w') : PrsStep lb w v w' v l := ⟨h.still hb, Keep.ofBelow hb, fun _ e => .inl e⟩
theorem PrsStep.trans {lb : Nat} {w w1 w2 : World} {v v1 v2 : Value} {l1 l2 : KV} (h : PrsStep lb w v w1 v1 l1) (k : PrsStep lb w1 v1 w2 v2 l2) : PrsStep lb w v w2 v2 l2 :=
  ⟨k.at_, h.keep.trans k.keep (fun i hi e => (h.own i e).elim id (fun e2 => by omega)), fun i e => (k.own i e).elim (h.own i) (fun e2 => .inr (Nat.le_trans h.keep.size e2))⟩
theorem PrsAt.push {lb : Nat} {w w8 : World} {v v8 : Value} {l : KV} {a b : ByteArray} (h : PrsAt w lb v l) (K1 : Keep (fun k => v.ownBlock = some k) w w8) (hrow : w8.ownsRow 0 202 2 v8 (l.length + 1) (prV l ++ [.string a, .string b])) (hloc : ∀ k, v8.ownBlock = some k → v.ownBlock = some k ∨ w.heap.size ≤ k) :
    PrsStep lb w v (w8.setCell ⟨lb, 0, none⟩ v8) v8 (l ++ [(a, b)]) := by
  have hlt := h.lt (.inl rfl)
  have hb' : v8.ownBlock ≠ some lb := fun e => (hloc lb e).elim (fun n => h.ne n) (fun n => by omega)
  have K2 : Keep (fun k => k = lb) w8 (w8.setCell ⟨lb, 0, none⟩ v8) := (Keep.refl (fun k => k = lb) w8).setCell (p := ⟨lb, 0, none⟩) (fun _ => rfl) _
  have hc := K1.at h.cells (fun e => h.ne e)
  refine ⟨⟨by simp [World.setCell, Array.getElem?_modify, hc], ?_, hb'⟩, (K1.mono (S' := prOwn lb v) (fun k _ e => .inr e)).trans K2 (fun k _ e => .inl e), fun k e => e.elim (fun e => .inl (.inl e)) (fun e => (hloc k e).imp .inr id)⟩
  have e1 : prV (l ++ [(a, b)]) = prV l ++ [.string a, .string b] := by rw [prV_append]; rfl
  rw [List.length_append, e1]
  exact K2.ownsRow hrow (fun k e e2 => hb' (by rw [← e2]; exact e))
def pick (f t : ByteArray) (limit : Int) : KV → KV → Bool × KV
  | l, [] => (true, l)
  | l, x :: r => if bLt x.1 f then pick f t limit l r else if (l.length : Int) = limit ∨ (t ≠ ⟨#[]⟩ ∧ ¬ bLt x.1 t) then (false, l) else pick f t limit (l ++ [x]) r
section
variable {f t : ByteArray} {limit : Int}
theorem pick_skip : ∀ {a : KV} (l b : KV), (∀ x ∈ a, bLt x.1 f) → pick f t limit l (a ++ b) = pick f t limit l b
  | [], l, b, _ => rfl
  | x :: a, l, b, h => by
    show pick f t limit l (x :: (a ++ b)) = _
    rw [pick, if_pos (h x (by simp))]
    exact pick_skip l b (fun y hy => h y (by simp [hy]))
theorem pick_stop (l r : KV) (x : ByteArray × ByteArray) (h : ¬ bLt x.1 f) (hs : (l.length : Int) = limit ∨ (t ≠ ⟨#[]⟩ ∧ ¬ bLt x.1 t)) : pick f t limit l (x :: r) = (false, l) := by
  rw [pick, if_neg h, if_pos hs]
theorem pick_one (l r : KV) (x : ByteArray × ByteArray) (h : ¬ bLt x.1 f) (hs : ¬ ((l.length : Int) = limit ∨ (t ≠ ⟨#[]⟩ ∧ ¬ bLt x.1 t))) : pick f t limit l (x :: r) = pick f t limit (l ++ [x]) r := by
  rw [pick, if_neg h, if_neg hs]
theorem pick_append : ∀ (a l b : KV), pick f t limit l (a ++ b) = if (pick f t limit l a).1 = true then pick f t limit (pick f t limit l a).2 b else pick f t limit l a
  | [], l, b => by
    show pick f t limit l b = _
    rw [pick, if_pos rfl]
  | x :: a, l, b => by
    show pick f t limit l (x :: (a ++ b)) = _
    rw [pick, pick]
    split
    · exact pick_append a l b
    · split
      · rw [if_neg (by simp)]
      · exact pick_append a _ b
theorem pick_more (a l : KV) : ∃ r, (pick f t limit l a).2 = l ++ r ∧ (∀ x ∈ r, x ∈ a) ∧ r.length ≤ a.length := by
  induction a generalizing l with
  | nil => exact ⟨[], by rw [pick, List.append_nil], by simp, by simp⟩
  | cons x a ih =>
    rw [pick]
    split
    · obtain ⟨r, h1, h2, h3⟩ := ih l
      exact ⟨r, h1, fun y hy => List.mem_cons_of_mem _ (h2 y hy), by simp; omega⟩
    · split
      · exact ⟨[], by rw [List.append_nil], by simp, by simp⟩
      · obtain ⟨r, h1, h2, h3⟩ := ih (l ++ [x])
        refine ⟨x :: r, by rw [h1, List.append_assoc]; rfl, fun y hy => ?_, by simp; omega⟩
        rcases List.mem_cons.1 hy with e | e
        · rw [e]; simp
        · exact List.mem_cons_of_mem _ (h2 y e)
end
def Scanned (lb : Nat) (f t : ByteArray) (limit : Int) (w : World) (v : Value) (l kv : KV) (e : Ending) (w' : World) : Prop :=
  e = .returned (.bool (pick f t limit l kv).1) ∧ ∃ v', PrsStep lb w v w' v' (pick f t limit l kv).2
theorem bGe_eq (s t : ByteArray) : (!(Op.bytesLess s.toList t.toList)) = decide (¬ bLt s t) := by
  rw [bLess_eq]
  by_cases h : bLt s t
  · rw [decide_eq_true h, decide_eq_false (fun e => e h)]; rfl
  · rw [decide_eq_false h, decide_eq_true h]; rfl
theorem isEmpty_eq (s : ByteArray) : s.toList.isEmpty = decide (s = ⟨#[]⟩) := by
  rw [Lib.toList_data]
  by_cases h : s = ⟨#[]⟩
  · subst h; rfl
  · rw [decide_eq_false h]
    cases hc : s.data.toList with
    | nil => exact absurd (ByteArray.ext (Array.toList_inj.1 hc)) h
    | cons a b => rfl
set_option maxHeartbeats 2000000 in
theorem scan_leaf {w : World} {tb br pl deep p lb : Nat} {R : RoomS} {kv l : KV} {v : Value} {from_ to_ : ByteArray} {limit : Int} (ht : TreeAt w tb br pl) (hr : RoomAt w br R) (hp : PageIs R p (leafOf kv)) (hsr : Sorted kv) (hl : PrsAt w lb v l) (hn : l.length + kv.length ≤ 1000000) (hd : deep ≤ 20) :
    Calls Tryz.prog 177 #[.pointer (some ⟨tb, 0, none⟩), .int .i64 p, .string from_, .string to_, .int .i64 limit, .pointer (some ⟨lb, 0, none⟩), .int .i64 deep] w fun e w' => Scanned lb from_ to_ limit w v l kv e w' := by
  obtain ⟨i0, hi0, hz0, hz1, hz2⟩ := info_parts infoPair
  have HI := Hd hi0
  have Hz0 := Hd hz0
  have Hz1 := Hd hz1
  have Hz2 := Hd hz2
  have HRd := Hd (tread_any ht hr hp)
  obtain ⟨l1, l2, he, h1, h2⟩ := leaf_at hsr from_
  have hlen6 := (leafOf kv).keys_lt hp.2.2.2.1 (by have := hp.2.2.2.2.2; omega)
  have HFd := Hd (fun u b (hu : NdR u b (leafOf kv)) => find_any (key := from_) (l1 := l1.map Prod.fst) (l2 := l2.map Prod.fst) hu (by rw [leafOf_keys, he, List.map_append]) (fun k hk => by
    obtain ⟨x, hx, rfl⟩ := List.mem_map.1 hk
    exact h1 x hx) (fun k hk => by
    obtain ⟨x, hx, rfl⟩ := List.mem_map.1 hk
    exact h2 x hx) hlen6)
  rw [List.length_map] at HFd
  have hkl : (leafOf kv).keys.length = kv.length := by rw [leafOf_keys, List.length_map]
  have hvl : (leafOf kv).vals.length = kv.length := by show (kv.map Prod.snd).length = _; rw [List.length_map]
  have hil0 : l1.length ≤ kv.length := by rw [he, List.length_append]; omega
  have hd0 : kv.drop l1.length = l2 := by rw [he, List.drop_left]
  have HP0 := Hd (show pick from_ to_ limit l kv = pick from_ to_ limit l (kv.drop l1.length) by rw [hd0, he]; exact pick_skip l l2 h1)
  have HG0 := Hd (show ∀ x ∈ kv.drop l1.length, ¬ bLt x.1 from_ by rw [hd0]; exact h2)
  clear hd0
  obtain ⟨m, hm⟩ : ∃ m, kv.length = m := ⟨_, rfl⟩
  rw [hm] at hkl hvl hil0 hn
  rw [hkl] at hlen6
  have HM := Hd hm
  have HKl := Hd hkl
  have HVl := Hd hvl
  have d0 : ¬ ((20 : Int) < (deep : Int)) := by omega
  obtain ⟨i, hil⟩ : ∃ i, l1.length = i := ⟨_, rfl⟩
  rw [hil] at HFd hil0 HP0 HG0
  obtain ⟨bb, hbb⟩ : ∃ bb, decide ((l2.map Prod.fst).head? = some from_) = bb := ⟨_, rfl⟩
  rw [hbb] at HFd
  have HL := Hd hl
  clear ht hr hp hsr he h1 h2 hi0 hz0 hz1 hz2 hl hkl hvl hm hbb hil
  go_enter Tryz.func177, Tryz.ntmps177
  go_wp2_with (fail)
  refine (HRd.out).mono ?_
  rintro e w1 ⟨nb, ka, va, ca, rfl, hnd, hnw, hb1⟩
  have c0 : w1.cell? ⟨nb, 0, none⟩ = some (.bool true) := Lib.cell_of_heap hnd.cells 0
  have HF1 := Hd (HFd.out w1 nb hnd.read)
  have HN1 := Hd hnd
  have HNw1 := Hd hnw
  have HB1 := Hd hb1
  clear hnd hnw hb1
  go_wp2_with (fail)
  refine (HF1.out).mono ?_
  rintro e w2 ⟨rfl, hb2⟩
  have HN2 := Hd (HN1.out.still hb2)
  have HB2 := Hd (HB1.out.trans (hb2.mono HB1.out.size))
  have HL2 := Hd (HL.out.still HB2.out)
  clear hb2 c0
  have hkr := HN2.out.keys
  have hvr := HN2.out.vals
  rw [HKl.out] at hkr
  rw [HVl.out] at hvr
  obtain ⟨ksa, ksc, hka⟩ := slice_formB hkr
  obtain ⟨vsa, vsc, hva⟩ := slice_formB hvr
  subst hka hva
  clear hkr hvr
  go_wp2_with (fail)
  go_loopw [18] (fun i wr => ∃ (j : Nat) (v' : Value) (lx : KV), i = .int .i64 j ∧ j ≤ m ∧ PrsStep lb w2 v wr v' lx ∧ pick from_ to_ limit l kv = pick from_ to_ limit lx (kv.drop j) ∧ (∀ x ∈ kv.drop j, ¬ bLt x.1 from_) ∧ lx.length ≤ l.length + j) (fun i _ => m - (intOf i).toNat)
  case atStart => exact ⟨i, v, l, rfl, hil0, PrsStep.refl HL2.out, HP0.out, HG0.out, by omega⟩
  case round =>
    obtain ⟨j, v', lx, rfl, hj, hst, hpk, hge, hlx⟩ := hrel
    have hnr := HN2.out.keep hst.keep (fun k hk e => by
      have h3 := HL.out.lt e
      rcases hk with hk | hk
      · have := HNw1.out k (.inl hk); omega
      · have := HNw1.out k (.inr hk); omega)
    have c1 : wr.cell? ⟨nb, 1, none⟩ = some (.slice ksa m ksc) := Lib.cell_of_heap hnr.cells 1
    have c2 : wr.cell? ⟨nb, 2, none⟩ = some (.slice vsa m vsc) := Lib.cell_of_heap hnr.cells 2
    obtain ⟨psa, psc, hpv⟩ := slice_formB hst.at_.row
    subst hpv
    have q0 : wr.cell? ⟨lb, 0, none⟩ = some (.slice psa lx.length psc) := Lib.cell_of_heap hst.at_.cells 0
    have HSt := Hd hst
    have HNr := Hd hnr
    have HPk := Hd hpk
    have HGe := Hd hge
    by_cases hjm : j < m
    · have j1 : (j : Int) < (m : Int) := by omega
      have hkr2 := hnr.keys
      have hvr2 := hnr.vals
      rw [HKl.out] at hkr2
      rw [HVl.out] at hvr2
      obtain ⟨kg, kc, hke, _, hkb, _⟩ := row_posB hkr2 (by omega)
      obtain ⟨vg, vc, hve, _, hvb, _⟩ := row_posB hvr2 (by omega)
      injection hke with e1 _ e2
      injection hve with e3 _ e4
      subst e1 e2 e3 e4
      have k1 : wr.cell? ⟨kg, j, none⟩ = some (.string ((leafOf kv).keys.getD j ⟨#[]⟩)) := by
        have := hkr2.cells rfl j _ (strV_get _ _ (by rw [HKl.out]; exact hjm))
        rwa [addr_add9] at this
      have v1 : wr.cell? ⟨vg, j, none⟩ = some (.string ((leafOf kv).vals.getD j ⟨#[]⟩)) := by
        have := hvr2.cells rfl j _ (strV_get _ _ (by rw [HVl.out]; exact hjm))
        rwa [addr_add9] at this
      obtain ⟨key, hkey⟩ : ∃ key, (leafOf kv).keys.getD j ⟨#[]⟩ = key := ⟨_, rfl⟩
      obtain ⟨val, hval⟩ : ∃ val, (leafOf kv).vals.getD j ⟨#[]⟩ = val := ⟨_, rfl⟩
      rw [hkey] at k1
      rw [hval] at v1
      have hin : kv.drop j = (key, val) :: kv.drop (j + 1) := by
        rw [← HM.out] at hjm
        have h5 : kv[j] = (key, val) := by
          have e5 : (leafOf kv).keys.getD j ⟨#[]⟩ = kv[j].1 := by show (kv.map Prod.fst).getD j ⟨#[]⟩ = _; rw [List.getD_eq_getElem?_getD, List.getElem?_map, List.getElem?_eq_getElem hjm]; rfl
          have e6 : (leafOf kv).vals.getD j ⟨#[]⟩ = kv[j].2 := by show (kv.map Prod.snd).getD j ⟨#[]⟩ = _; rw [List.getD_eq_getElem?_getD, List.getElem?_map, List.getElem?_eq_getElem hjm]; rfl
          rw [← hkey, ← hval, e5, e6]
        rw [← h5]
        exact List.drop_eq_getElem_cons hjm
      have hkf : ¬ bLt key from_ := hge (key, val) (by rw [hin]; simp)
      have hg2 : ∀ x ∈ kv.drop (j + 1), ¬ bLt x.1 from_ := fun x hx => hge x (by rw [hin]; exact List.mem_cons_of_mem _ hx)
      have HK1 := Hd k1
      have HV1 := Hd v1
      have HC1 := Hd c1
      have HC2 := Hd c2
      have HQ0 := Hd q0
      have HIn := Hd hin
      have HBx := Hd (show nb < wr.heap.size ∧ kg < wr.heap.size ∧ vg < wr.heap.size ∧ lb < wr.heap.size from ⟨hnr.lt (.inl rfl), (hkr2.lt kg rfl).2, (hvr2.lt vg rfl).2, hst.at_.lt (.inl rfl)⟩)
      have HAp := Hd (show ∀ k, (Value.slice psa lx.length psc).ownBlock = some k → k ≠ nb ∧ k ≠ kg ∧ k ≠ vg ∧ k ≠ lb from fun k e => by
        have h7 : ∀ q, ndOwn nb (.slice (some ⟨kg, 0, none⟩) m ksc) (.slice (some ⟨vg, 0, none⟩) m vsc) ca q → q ≠ k := fun q hq e2 => by
          have h8 := HNw1.out q hq
          have h9 := HN2.out.lt hq
          rcases hst.own k (.inr e) with h | h
          · have := HL.out.lt h; omega
          · omega
        exact ⟨(h7 nb (.inl rfl)).symm, (h7 kg (.inr (.inl rfl))).symm, (h7 vg (.inr (.inr (.inl rfl)))).symm, fun e2 => hst.at_.ne (by rw [← e2]; exact e)⟩)
      have HLen := Hd (show lx.length ≤ 1000000 by omega)
      have HKf := Hd hkf
      have HG2 := Hd hg2
      clear hst hnr hpk hge hkf hg2 hkr2 hvr2 hkey hval hin
      obtain ⟨ln, hln⟩ : ∃ ln, lx.length = ln := ⟨_, rfl⟩
      rw [hln] at q0 HQ0 HAp HLen
      have HLn := Hd hln
      have hcase : ((ln : Int) == limit) = true ∧ (ln : Int) = limit ∨ ((ln : Int) == limit) = false ∧ to_.toList.isEmpty = false ∧ (!(Op.bytesLess key.toList to_.toList)) = true ∧ (to_ ≠ ⟨#[]⟩ ∧ ¬ bLt key to_) ∨
          ((ln : Int) == limit) = false ∧ to_.toList.isEmpty = true ∧ ¬ ((ln : Int) = limit ∨ (to_ ≠ ⟨#[]⟩ ∧ ¬ bLt key to_)) ∨ ((ln : Int) == limit) = false ∧ to_.toList.isEmpty = false ∧ (!(Op.bytesLess key.toList to_.toList)) = false ∧ ¬ ((ln : Int) = limit ∨ (to_ ≠ ⟨#[]⟩ ∧ ¬ bLt key to_)) := by
        rw [isEmpty_eq, bGe_eq]
        by_cases q1 : (ln : Int) = limit
        · exact .inl ⟨by simp [q1], q1⟩
        have q1' : ((ln : Int) == limit) = false := by simp [q1]
        by_cases q2 : to_ = ⟨#[]⟩
        · exact .inr (.inr (.inl ⟨q1', by simp [q2], fun e => e.elim q1 (fun e => e.1 q2)⟩))
        by_cases q3 : bLt key to_
        · exact .inr (.inr (.inr ⟨q1', by simp [q2], by simp [q3], fun e => e.elim q1 (fun e => e.2 q3)⟩))
        · exact .inr (.inl ⟨q1', by simp [q2], by simp [q3], q2, q3⟩)
      rcases hcase with ⟨g1, g9⟩ | ⟨g1, g2, g3, g9⟩ | ⟨g1, g2, g9⟩ | ⟨g1, g2, g3, g9⟩
      · have HG9 := Hd g9
        clear g9
        go_wp2_with (fail)
        go_ret
        have hp := HPk.out
        rw [HIn.out, pick_stop _ _ _ HKf.out (.inl (by rw [HLn.out]; exact HG9.out))] at hp
        exact ⟨by rw [hp]; rfl, _, by rw [hp]; exact (PrsStep.still HL.out HB2.out).trans HSt.out⟩
      · have HG9 := Hd g9
        clear g9
        go_wp2_with (fail)
        go_ret
        have hp := HPk.out
        rw [HIn.out, pick_stop _ _ _ HKf.out (.inr HG9.out)] at hp
        exact ⟨by rw [hp]; rfl, _, by rw [hp]; exact (PrsStep.still HL.out HB2.out).trans HSt.out⟩
      all_goals
        have HGo := Hd g9
        clear g9
        go_wp2_with (fail)
      all_goals
        obtain ⟨S, hS⟩ : ∃ S : World → Prop, ∀ u, S u ↔ Keep (fun k => (Value.slice psa ln psc).ownBlock = some k) (wr) u := ⟨fun u => Keep (fun k => (Value.slice psa ln psc).ownBlock = some k) (wr) u, fun _ => Iff.rfl⟩
        have HS := Hd hS
        clear hS
        refine wp_region_ord 21 [(0, true), (1, true), (2, true), (3, true), (4, true), (5, true), (6, true), (7, true), (8, true), (9, true), (10, true), (11, true), (12, true), (13, true), (14, true), (15, true), (16, true), (17, true), (18, true), (19, false), (20, false)] S (by kernel_rfl) (by kernel_rfl) ((HS.out _).2 (Keep.refl _ _).drew) ?_
        iterate 19
          first
            | (refine wpH_passed rfl (by rfl) (fun K hK => ?_); go_simp; refine hK _ ?_; clear hK K)
            | (first
                 | refine wpH_read rfl rfl (fun K hK => ?_)
                 | refine wpH_readw rfl (by rfl) (fun K hK => ?_)
               apply Exists.intro
               refine ⟨fun u hu => ?_, ?_⟩
               · have hu := (HS.out u).1 hu
                 have c1 : u.cell? ⟨nb, 1, none⟩ = some (.slice (some ⟨kg, 0, none⟩) m ksc) := by rw [hu.cell (p := ⟨nb, 1, none⟩) HBx.out.1 (fun e => (HAp.out _ e).1 rfl)]; exact HC1.out
                 have c2 : u.cell? ⟨nb, 2, none⟩ = some (.slice (some ⟨vg, 0, none⟩) m vsc) := by rw [hu.cell (p := ⟨nb, 2, none⟩) HBx.out.1 (fun e => (HAp.out _ e).1 rfl)]; exact HC2.out
                 have k1 : u.cell? ⟨kg, j, none⟩ = some (.string key) := by rw [hu.cell (p := ⟨kg, j, none⟩) HBx.out.2.1 (fun e => (HAp.out _ e).2.1 rfl)]; exact HK1.out
                 have v1 : u.cell? ⟨vg, j, none⟩ = some (.string val) := by rw [hu.cell (p := ⟨vg, j, none⟩) HBx.out.2.2.1 (fun e => (HAp.out _ e).2.2.1 rfl)]; exact HV1.out
                 have q0 : u.cell? ⟨lb, 0, none⟩ = some (.slice psa ln psc) := by rw [hu.cell (p := ⟨lb, 0, none⟩) HBx.out.2.2.2 (fun e => (HAp.out _ e).2.2.2 rfl)]; exact HQ0.out
                 clear hu
                 go_simp
                 exact ⟨rfl, rfl⟩
               go_simp
               refine hK _ ?_
               clear hK K)
        first | refine wpH_do rfl rfl (fun K hK => ?_) | refine wpH_dow rfl (by rfl) (fun K hK => ?_)
        go_simp
        have ka : Keep (fun k => (Value.slice psa ln psc).ownBlock = some k) wr (wr.alloc (.cells #[.string key, .string val] 202)).drew := ((Keep.refl _ wr).alloc _).drew
        refine hK _ _ ((HS.out _).2 ka) ?_
        clear hK K
        have hra := HSt.out.at_.row
        rw [HLn.out] at hra
        have hrb : ((wr.alloc (.cells #[.string key, .string val] 202)).drew).ownsRow 0 202 2 (.slice psa ln psc) ln (prV lx) := (hra.alloc _).drew
        have HRb := Hd hrb
        have HKa := Hd ka
        clear hra hrb ka
        first | refine wpH_do rfl rfl (fun K hK => ?_) | refine wpH_dow rfl (by rfl) (fun K hK => ?_)
        refine wp_append_at _ _ 198 (by rfl) 0 202 i0 _ 2 32 Tryz.underlying198 HI.out Hz0.out Hz1.out Hz2.out (by rfl) (by decide) _ _ _ (by rfl) HRb.out ⟨wr.heap.size, 0, none⟩ 1 1 [.string key, .string val] (by rfl) (by rfl) (World.news_of_block (cs := #[.string key, .string val]) (t := 202) (fr := (0, 0)) (heap_alloc_new wr _)) (by simp [Value.oneCell']) (by have := HLen.out; unfold maxLen; omega) (by have := HLen.out; omega) (Nat.zero_le _) ?_
        intro v8 w8 hown8 hg8 hloc
        have hown9 : w8.ownsRow 0 202 2 v8 (ln + 1) (prV lx ++ [.string key, .string val]) := hown8
        obtain ⟨p8, c8, hsl⟩ := slice_formB hown9
        subst hsl
        have kg := HKa.out.trans ((Keep.refl (fun k => (Value.slice psa ln psc).ownBlock = some k) _).grown hg8 (fun q _ e => e)) (fun _ _ e => e)
        have HOw := Hd hown9
        have HKg := Hd kg
        have HLc := Hd (show ∀ k, (Value.slice p8 (ln + 1) c8).ownBlock = some k → (Value.slice psa ln psc).ownBlock = some k ∨ wr.heap.size ≤ k from fun k e => hloc.imp (fun e2 => by rw [← e2]; exact e) (fun e2 => by
          rw [e2] at e
          have e3 := Option.some.inj e
          simp at e3
          omega))
        have q8 : w8.heap[lb]? = some (.cells #[.slice psa ln psc] 198 (0, 0)) := by
          have := HSt.out.at_.cells
          rw [HLn.out] at this
          exact kg.at this (fun e => (HAp.out _ e).2.2.2 rfl)
        have z8 : w8.cell? ⟨lb, 0, none⟩ = some (.slice psa ln psc) := Lib.cell_of_heap q8 0
        have y8 : w8.frozen? ⟨lb, 0, none⟩ = false := froz_of q8
        refine hK _ _ ((HS.out _).2 kg) ?_
        clear hK K hown8 hown9 hg8 hloc kg q8
        refine wpH_nil ?_
        simp only [List.drop_succ_cons, List.drop_zero]
        clear S HS
        go_wp2_with (fail)
        go_roundw
        case rel =>
          have hat := HSt.out.at_
          rw [← HLn.out] at HKg HOw HLc
          have hpush := hat.push HKg.out HOw.out HLc.out
          refine ⟨j + 1, .slice p8 (ln + 1) c8, lx ++ [(key, val)], by go_num, by omega, ?_, ?_, HG2.out, by rw [List.length_append]; simp; omega⟩
          · rw [HLn.out] at hpush
            have hst9 := HSt.out
            rw [HLn.out] at hst9
            exact hst9.trans hpush
          · have hgo := HGo.out
            rw [← HLn.out] at hgo
            rw [HPk.out, HIn.out, pick_one _ _ _ HKf.out hgo]
        case measure => simp [intOf]; omega
    · have j1 : ¬ ((j : Int) < (m : Int)) := by omega
      clear hst hnr hpk hge
      go_wp2_with (fail)
      go_ret
      have hp := HPk.out
      rw [List.drop_eq_nil_of_le (by rw [HM.out]; omega), pick] at hp
      exact ⟨by rw [hp]; rfl, _, by rw [hp]; exact (PrsStep.still HL.out HB2.out).trans HSt.out⟩
end Go.Proofs.YtaokjeokpifjgaaGreatDoor

namespace Go.Proofs.YtaokjeokpifjgaaGreatDoor
open Go.RowKit Go.MapKept
attribute [local go_sem] gives givesH
set_option maxRecDepth 100000

theorem take_succ_flat {cs : List Kid} {j : Nat} (h : j < cs.length) : ((cs.take (j + 1)).flatMap Kid.kv).length = ((cs.take j).flatMap Kid.kv).length + cs[j].kv.length := by
  rw [List.take_succ_eq_append_getElem h, List.flatMap_append, List.length_append]
  simp
theorem kids_split {cs : List Kid} (hb : cs.Pairwise Before) (key : ByteArray) : ∃ l1 l2 : List Kid, cs = l1 ++ l2 ∧ (∀ d ∈ l1, ¬ bLt key d.key) ∧ ∀ d ∈ l2, bLt key d.key := by
  induction cs with
  | nil => exact ⟨[], [], rfl, by simp, by simp⟩
  | cons a t ih =>
    have hp := List.pairwise_cons.1 hb
    by_cases hk : bLt key a.key
    · refine ⟨[], a :: t, rfl, by simp, fun d hd => ?_⟩
      rcases List.mem_cons.1 hd with e | e
      · rw [e]; exact hk
      · exact bLt_trans hk (hp.1 d e).1
    · obtain ⟨l1, l2, e, h1, h2⟩ := ih hp.2
      refine ⟨a :: l1, l2, by rw [e]; rfl, fun d hd => ?_, h2⟩
      rcases List.mem_cons.1 hd with e1 | e1
      · rw [e1]; exact hk
      · exact h1 d e1
theorem kids_skip {cs l1 l2 : List Kid} {key : ByteArray} (he : cs = l1 ++ l2) (hb : cs.Pairwise Before) (h1 : ∀ d ∈ l1, ¬ bLt key d.key) : ∀ x ∈ (cs.take (l1.length - 1)).flatMap Kid.kv, bLt x.1 key := by
  rcases List.eq_nil_or_concat l1 with e | ⟨l, d, e⟩
  · subst e
    intro x hx
    simp at hx
  · rw [List.concat_eq_append] at e
    subst e
    have e1 : cs.take ((l ++ [d]).length - 1) = l := by rw [he, List.length_append]; simp
    rw [e1]
    intro x hx
    obtain ⟨c, hc, hxc⟩ := List.mem_flatMap.1 hx
    rw [he, List.append_assoc] at hb
    have h2 := (List.pairwise_append.1 hb).2.2 c hc d (by simp)
    exact bLt_of_lt_not (h2.2 x hxc) (h1 d (by simp))
theorem drop_flat {cs : List Kid} {j : Nat} (h : j < cs.length) : (cs.drop j).flatMap Kid.kv = cs[j].kv ++ (cs.drop (j + 1)).flatMap Kid.kv := by
  rw [List.drop_eq_getElem_cons h, List.flatMap_cons]
set_option maxHeartbeats 2000000 in
theorem scan_inner {w : World} {tb br pl deep p lb : Nat} {R : RoomS} {cs : List Kid} {l : KV} {v : Value} {from_ to_ : ByteArray} {limit : Int} (ht : TreeAt w tb br pl) (hr : RoomAt w br R) (hp : PageIs R p (innerOf cs)) (hpk : ∀ c ∈ cs, c.page < 65536)
    (hne : 0 < cs.length) (hbf : cs.Pairwise Before) (hl : PrsAt w lb v l) (hsep : ∀ k, prOwn lb v k → ¬ R.foot br k ∧ k ≠ tb) (hn : l.length + (cs.flatMap Kid.kv).length ≤ 1000000) (hd : deep + 1 ≤ 20)
    (hrec : ∀ c ∈ cs, ∀ (w1 : World) (v1 : Value) (l1 : KV), TreeAt w1 tb br pl → RoomAt w1 br R → PrsAt w1 lb v1 l1 → (∀ k, prOwn lb v1 k → ¬ R.foot br k ∧ k ≠ tb) → l1.length + c.kv.length ≤ 1000000 →
      Calls Tryz.prog 177 #[.pointer (some ⟨tb, 0, none⟩), .int .i64 c.page, .string from_, .string to_, .int .i64 limit, .pointer (some ⟨lb, 0, none⟩), .int .i64 ((deep : Int) + 1)] w1 fun e w' => Scanned lb from_ to_ limit w1 v1 l1 c.kv e w') :
    Calls Tryz.prog 177 #[.pointer (some ⟨tb, 0, none⟩), .int .i64 p, .string from_, .string to_, .int .i64 limit, .pointer (some ⟨lb, 0, none⟩), .int .i64 deep] w fun e w' => Scanned lb from_ to_ limit w v l (cs.flatMap Kid.kv) e w' := by
  have HRd := Hd (tread_any ht hr hp)
  have hlen6 := (innerOf cs).keys_lt hp.2.2.2.1 (by have := hp.2.2.2.2.2; omega)
  obtain ⟨l1, l2, he, h1, h3⟩ := kids_split hbf from_
  have HWy := Hd (fun u b (hu : NdR u b (innerOf cs)) => way_any (key := from_) (l1 := l1.map Kid.key) (l2 := l2.map Kid.key) hu (by show cs.map Kid.key = _; rw [he, List.map_append]) (fun k hk => by
    obtain ⟨x, hx, rfl⟩ := List.mem_map.1 hk
    exact h1 x hx) (fun k hk => by
    obtain ⟨x, hx, rfl⟩ := List.mem_map.1 hk
    exact h3 x hx) hlen6)
  rw [List.length_map] at HWy
  have hkl : (innerOf cs).keys.length = cs.length := by show (cs.map Kid.key).length = _; rw [List.length_map]
  have hcl : (innerOf cs).kids.length = cs.length := by show (cs.map Kid.page).length = _; rw [List.length_map]
  have hil0 : l1.length - 1 < cs.length := by rw [he, List.length_append] at hne ⊢; omega
  have HP0 := Hd (show pick from_ to_ limit l (cs.flatMap Kid.kv) = pick from_ to_ limit l ((cs.drop (l1.length - 1)).flatMap Kid.kv) by
    have e9 : cs.flatMap Kid.kv = (cs.take (l1.length - 1)).flatMap Kid.kv ++ (cs.drop (l1.length - 1)).flatMap Kid.kv := by rw [← List.flatMap_append, List.take_append_drop]
    rw [e9]
    exact pick_skip l _ (kids_skip he hbf h1))
  obtain ⟨m, hm⟩ : ∃ m, cs.length = m := ⟨_, rfl⟩
  rw [hm] at hcl hil0 hne
  rw [hkl, hm] at hlen6
  have HM := Hd hm
  have HCl := Hd hcl
  have d0 : ¬ ((20 : Int) < (deep : Int)) := by omega
  have d1 : (0 : Int) ≤ (deep : Int) := by omega
  have d2 : (deep : Int) < 20 := by omega
  obtain ⟨i, hil⟩ : ∃ i, l1.length - 1 = i := ⟨_, rfl⟩
  rw [hil] at HWy hil0 HP0
  have HL := Hd hl
  have HR := Hd hr
  have HT := Hd ht
  have HSep := Hd hsep
  have HRec := Hd hrec
  have HPk := Hd hpk
  clear ht hr hp he h1 h3 hbf hl hkl hcl hm hil hrec hsep hpk
  go_enter Tryz.func177, Tryz.ntmps177
  go_wp2_with (fail)
  refine (HRd.out).mono ?_
  rintro e w1 ⟨nb, ka, va, ca, rfl, hnd, hnw, hb1⟩
  have c0 : w1.cell? ⟨nb, 0, none⟩ = some (.bool false) := Lib.cell_of_heap hnd.cells 0
  have hkr := hnd.kids
  rw [HCl.out] at hkr
  obtain ⟨g2, p2, hca, hnp, hmx, _⟩ := row_posB hkr (by omega)
  subst hca
  have c3 : w1.cell? ⟨nb, 3, none⟩ = some (.slice (some ⟨g2, 0, none⟩) m p2) := Lib.cell_of_heap hnd.cells 3
  have hdw : Below w1.heap.size w1 w1.drew := ⟨rfl, rfl, rfl, Nat.le_refl _, fun _ _ => rfl⟩
  have HW1 := Hd (HWy.out w1.drew nb (hnd.read.still hdw))
  have HN1 := Hd hnd
  have HNw1 := Hd hnw
  have HB1 := Hd hb1
  have HC3 := Hd c3
  have HNB := Hd (show nb < w1.heap.size from hnd.lt (.inl rfl))
  have i0 : (0 : Int) ≤ (i : Int) := by omega
  have i1 : (i : Int) ≤ (m : Int) := by omega
  have i2 : (i : Int) ≤ (p2 : Int) := by omega
  have i3 : (m : Int) ≤ (p2 : Int) := by omega
  clear hnd hnw hb1 hkr hdw
  go_wp2_with (fail)
  obtain ⟨S, hS⟩ : ∃ S : World → Prop, ∀ u, S u ↔ Keep (fun _ => False) (w1) u := ⟨fun u => Keep (fun _ => False) (w1) u, fun _ => Iff.rfl⟩
  have HS := Hd hS
  clear hS
  refine wp_region_whole 10 [(0, true), (1, true), (2, true), (3, true), (4, true), (5, true), (9, true), (6, false), (7, true), (8, true)] S (by kernel_rfl) (by kernel_rfl) ((HS.out _).2 (Keep.refl _ _).drew) ?_
  iterate 7
    first
      | (refine wpH_passed rfl (by rfl) (fun K hK => ?_); go_simp; refine hK _ ?_; clear hK K)
      | (first
           | refine wpH_read rfl rfl (fun K hK => ?_)
           | refine wpH_readw rfl (by rfl) (fun K hK => ?_)
         apply Exists.intro
         refine ⟨fun u hu => ?_, ?_⟩
         · have hu := (HS.out u).1 hu
           have c3 : u.cell? ⟨nb, 3, none⟩ = some (.slice (some ⟨g2, 0, none⟩) m p2) := by rw [hu.cell (p := ⟨nb, 3, none⟩) HNB.out (fun e => e)]; exact HC3.out
           clear hu
           go_simp
           exact ⟨rfl, rfl⟩
         go_simp
         refine hK _ ?_
         clear hK K)
  first | refine wpH_do rfl rfl (fun K hK => ?_) | refine wpH_dow rfl (by rfl) (fun K hK => ?_)
  go_simp
  go_at_call 149
  refine (HW1.out).mono ?_
  rintro e w2 ⟨rfl, hb2⟩
  have HB2 := Hd (show Below w1.heap.size w1 w2 from ⟨hb2.os, hb2.tape, hb2.output, hb2.size, hb2.block⟩)
  refine hK _ _ ((HS.out _).2 (Keep.ofBelow HB2.out)) ?_
  clear hK K hb2
  iterate 2
    first
      | (refine wpH_passed rfl (by rfl) (fun K hK => ?_); go_simp; refine hK _ ?_; clear hK K)
      | (first
           | refine wpH_read rfl rfl (fun K hK => ?_)
           | refine wpH_readw rfl (by rfl) (fun K hK => ?_)
         apply Exists.intro
         refine ⟨fun u hu => ?_, ?_⟩
         · have hu := (HS.out u).1 hu
           have c3 : u.cell? ⟨nb, 3, none⟩ = some (.slice (some ⟨g2, 0, none⟩) m p2) := by rw [hu.cell (p := ⟨nb, 3, none⟩) HNB.out (fun e => e)]; exact HC3.out
           clear hu
           go_simp
           exact ⟨rfl, rfl⟩
         go_simp
         refine hK _ ?_
         clear hK K)
  refine wpH_nil ?_
  simp only [List.drop_succ_cons, List.drop_zero]
  clear S HS
  have HL2 := Hd (HL.out.still (HB1.out.trans (HB2.out.mono HB1.out.size)))
  have HBa := Hd (HB1.out.trans (HB2.out.mono HB1.out.size))
  have HN2 := Hd (HN1.out.still HB2.out)
  clear c0 c3
  obtain ⟨n, hni⟩ : ∃ n, m - i = n := ⟨_, rfl⟩
  have hni2 : (m : Int) - (i : Int) = (n : Int) := by omega
  go_wp2_with (fail)
  go_loopw [40] (fun kx wr => ∃ (k : Nat) (v' : Value) (lx : KV), kx = .int .i64 k ∧ i + k ≤ m ∧ PrsStep lb w2 v wr v' lx ∧ pick from_ to_ limit l (cs.flatMap Kid.kv) = pick from_ to_ limit lx ((cs.drop (i + k)).flatMap Kid.kv) ∧ lx.length ≤ l.length + ((cs.take (i + k)).flatMap Kid.kv).length) (fun kx _ => m - (intOf kx).toNat)
  case atStart => exact ⟨0, v, l, rfl, by omega, PrsStep.refl HL2.out, HP0.out, by omega⟩
  case round =>
    obtain ⟨k, v', lx, rfl, hk, hst, hpk, hlx⟩ := hrel
    have HSt := Hd hst
    have HPk' := Hd hpk
    by_cases hkn : k < n
    · have hnr := HN2.out.keep hst.keep (fun q hq e => by
        have h3 := HL.out.lt e
        have := HNw1.out q hq
        omega)
      have hc := HM.out
      have hix : i + k < cs.length := by omega
      obtain ⟨c9, hc9⟩ : ∃ c9, cs[i + k] = c9 := ⟨_, rfl⟩
      have hm9 : c9 ∈ cs := by rw [← hc9]; exact List.getElem_mem hix
      have hpg9 := HPk.out c9 hm9
      have q1 : wr.cell? ⟨g2, i + k, none⟩ = some (.int .i64 (c9.page : Nat)) := by
        have := hnr.kids.cells rfl (i + k) (.int .i64 (c9.page : Nat)) (by
          show ((cs.map Kid.page).map _)[i + k]? = _
          rw [List.getElem?_map, List.getElem?_map, List.getElem?_eq_getElem hix, hc9]
          rfl)
        rwa [addr_add9] at this
      have hts := take_succ_flat hix
      rw [hc9] at hts
      have hdr := drop_flat hix
      rw [hc9] at hdr
      have hsum : ((cs.take (i + k + 1)).flatMap Kid.kv).length ≤ (cs.flatMap Kid.kv).length := by
        have e : cs.flatMap Kid.kv = (cs.take (i + k + 1)).flatMap Kid.kv ++ (cs.drop (i + k + 1)).flatMap Kid.kv := by rw [← List.flatMap_append, List.take_append_drop]
        rw [e, List.length_append]
        omega
      have htb2 : tb < w.heap.size := (Gl HT.out.cells)
      have HRc := Hd (HRec.out c9 hm9 wr v' lx ⟨hst.keep.at ((HBa.out.block tb htb2).trans HT.out.cells) (fun e => (HSep.out tb e).2 rfl)⟩ ((HR.out.still HBa.out).keep hst.keep (fun q hq e => (HSep.out q e).1 hq)) hst.at_
        (fun q e => (hst.own q e).elim (HSep.out q) (fun h => by
          have := HBa.out.size
          exact ⟨fun hf => by have := HR.out.foot_lt9 hf; omega, fun e2 => by omega⟩)) (by omega))
      have HDr := Hd hdr
      have HTs := Hd hts
      have HM9 := Hd hm9
      obtain ⟨pg, hpg⟩ : ∃ pg, c9.page = pg := ⟨_, rfl⟩
      rw [hpg] at q1 HRc
      have k0 : (0 : Int) ≤ (k : Int) := by omega
      have k1 : (k : Int) < (n : Int) := by omega
      clear hst hpk hnr hc hc9 hm9 hpg9 hts hpg htb2 hdr
      go_wp2_with (fail)
      refine (HRc.out).mono ?_
      rintro e w3 ⟨rfl, v2, hst2⟩
      obtain ⟨r9, hr9, -, hrl9⟩ := pick_more (f := from_) (t := to_) (limit := limit) c9.kv lx
      have hp9 := HPk'.out
      rw [HDr.out, pick_append] at hp9
      obtain ⟨pr, hpr⟩ : ∃ pr, pick from_ to_ limit lx c9.kv = pr := ⟨_, rfl⟩
      rw [hpr] at hr9 hp9 hst2 ⊢
      obtain ⟨b, l3⟩ := pr
      have hl3 : l3.length ≤ lx.length + c9.kv.length := by
        have e8 : l3 = lx ++ r9 := hr9
        rw [e8, List.length_append]; omega
      have HSt2 := Hd (HSt.out.trans hst2)
      have HP9 := Hd hp9
      have HLl := Hd (show l3.length ≤ l.length + ((cs.take (i + k + 1)).flatMap Kid.kv).length by rw [HTs.out]; omega)
      clear hst2 hr9 hrl9 hp9 hpr hl3
      cases b with
      | false =>
        go_wp2_with (fail)
        go_ret
        have hp := HP9.out
        rw [if_neg (by simp)] at hp
        exact ⟨by rw [hp]; rfl, v2, by rw [hp]; exact (PrsStep.still HL.out HBa.out).trans HSt2.out⟩
      | true =>
        go_wp2_with (fail)
        go_roundw
        case rel =>
          have hp := HP9.out
          rw [if_pos trivial] at hp
          exact ⟨k + 1, v2, l3, by go_num, by omega, HSt2.out, hp, by rw [← Nat.add_assoc]; exact HLl.out⟩
        case measure => simp [intOf]; omega
    · have k1 : ¬ ((k : Int) < (n : Int)) := by omega
      clear hst hpk
      go_wp2_with (fail)
      go_ret
      have hp := HPk'.out
      rw [List.drop_eq_nil_of_le (by have := HM.out; omega), List.flatMap_nil, pick] at hp
      exact ⟨by rw [hp]; rfl, v', by rw [hp]; exact (PrsStep.still HL.out HBa.out).trans HSt.out⟩
theorem scan_any {tb br pl lb : Nat} {R : RoomS} {from_ to_ : ByteArray} {limit : Int} (h16 : R.pages ≤ 65536) (h : Nat) : ∀ {w : World} {p deep : Nat} {lo : ByteArray} {kv l : KV} {ps : List Nat} {v : Value}, TreeAt w tb br pl → RoomAt w br R → Sub (PageIs R) h p lo kv ps → PrsAt w lb v l → (∀ k, prOwn lb v k → ¬ R.foot br k ∧ k ≠ tb) → l.length + kv.length ≤ 1000000 → deep + h ≤ 20 →
    Calls Tryz.prog 177 #[.pointer (some ⟨tb, 0, none⟩), .int .i64 p, .string from_, .string to_, .int .i64 limit, .pointer (some ⟨lb, 0, none⟩), .int .i64 deep] w fun e w' => Scanned lb from_ to_ limit w v l kv e w' := by
  induction h with
  | zero =>
    intro w p deep lo kv l ps v ht hr hs hl hsep hn hd
    obtain ⟨_, _, hP, _, hsr⟩ := hs
    exact scan_leaf ht hr hP hsr hl hn (by omega)
  | succ h ih =>
    intro w p deep lo kv l ps v ht hr hs hl hsep hn hd
    obtain ⟨cs, hks, h2, hP, rfl, rfl⟩ := hs.kids
    refine scan_inner ht hr hP (fun c hc => by have := (hks.sub c hc).p16; omega) (by omega) hks.bef hl hsep hn (by omega) (fun c hc w1 v1 l1 ht1 hr1 hl1 hsep1 hn1 => ?_)
    exact ih (deep := deep + 1) ht1 hr1 (hks.sub c hc) hl1 hsep1 hn1 (by omega)
theorem scan1_idle (q pl : Addr) (w : World) (he : w.cell? q = some (.int .i64 0)) (u : FrameMode) :
    CallsD Tryz.prog 176 #[.pointer (some q), .pointer (some pl)] u w fun e u' w' => u' = u ∧ (e = .returned (.tuple #[]) ∧ w' = w) := by
  go_enter_d Tryz.func176, Tryz.ntmps176
  go_wp2
  go_end0
  exact ⟨rfl, rfl⟩
def scanL (f t : ByteArray) (limit : Int) (kv : KV) : KV := if 0 < limit then (pick f t limit [] kv).2 else []
theorem scanL_more (f t : ByteArray) (limit : Int) (kv : KV) : (∀ x ∈ scanL f t limit kv, x ∈ kv) ∧ (scanL f t limit kv).length ≤ kv.length := by
  unfold scanL
  split
  · obtain ⟨r, h1, h2, h3⟩ := pick_more (f := f) (t := t) (limit := limit) kv []
    rw [h1, List.nil_append]
    exact ⟨h2, h3⟩
  · exact ⟨by simp, by simp⟩
def ScanEx (w : World) (L : KV) (e : Ending) (w' : World) : Prop := ∃ v', e = .returned (.tuple #[v', .int .i64 0]) ∧ w'.ownsRow 0 202 2 v' L.length (prV L) ∧ (∀ k, v'.ownBlock = some k → w.heap.size ≤ k) ∧ Below w.heap.size w w'
def ScanOut (w : World) (kv : KV) (e : Ending) (w' : World) : Prop := ∃ v' l2, e = .returned (.tuple #[v', .int .i64 0]) ∧ w'.ownsRow 0 202 2 v' l2.length (prV l2) ∧ (∀ k, v'.ownBlock = some k → w.heap.size ≤ k) ∧ (∀ x ∈ l2, x ∈ kv) ∧ l2.length ≤ kv.length ∧ Below w.heap.size w w'
theorem tscan_ex {w : World} {tb br pl : Nat} {R : RoomS} {kv : KV} {ps : List Nat} {from_ to_ : ByteArray} {limit : Int} (ht : TreeAt w tb br pl) (hr : RoomAt w br R) (h16 : R.pages ≤ 65536) (hpl : pl < 16) (hT : TreeIs R pl kv ps) (hn : kv.length ≤ 100000) :
    Calls Tryz.prog 109 #[.pointer (some ⟨tb, 0, none⟩), .string from_, .string to_, .int .i64 limit] w fun e w' => ScanEx w (scanL from_ to_ limit kv) e w' := by
  have hmf : ∀ (fn : Fn) (first cap : Array Value) (w : World), (Instr.makeFunc fn first cap).run Tryz.prog w = .ok (.func fn first cap) w := fun _ _ _ _ => rfl
  have HT := Hd ht
  have HR := Hd hr
  have htl := (Gl ht.cells)
  have HTl := Hd htl
  have hrt : R.root pl ≤ 65536 := by
    rcases hT with ⟨e, _⟩ | ⟨h, p, e, hs⟩
    · omega
    · have := hs.p16; omega
  clear ht hr htl
  go_enter_defers Tryz.func109, Tryz.ntmps109
  go_wp2_with (fail)
  have hb2 : Below w.heap.size w ((w.alloc (.cells #[.slice none 0 0] 198)).alloc (.cells #[.int .i64 0] 29)) := ((Below.refl _ _).alloc (Nat.le_refl _) _).alloc (by simp) _
  have q1 : ((w.alloc (.cells #[.slice none 0 0] 198)).alloc (.cells #[.int .i64 0] 29)).heap[w.heap.size]? = some (.cells #[.slice none 0 0] 198 (0, 0)) :=
    (Keep.still ((Below.refl _ _).alloc (Nat.le_refl _) (.cells #[.int .i64 0] 29))).at (heap_alloc_new w _) (fun e => e)
  have q2 : ((w.alloc (.cells #[.slice none 0 0] 198)).alloc (.cells #[.int .i64 0] 29)).heap[w.heap.size + 1]? = some (.cells #[.int .i64 0] 29 (0, 0)) := by
    have := heap_alloc_new (w.alloc (.cells #[.slice none 0 0] 198)) (.cells #[.int .i64 0] 29)
    rw [World.size_alloc] at this
    exact this
  obtain ⟨w2, hw2⟩ : ∃ w2, (w.alloc (.cells #[.slice none 0 0] 198)).alloc (.cells #[.int .i64 0] 29) = w2 := ⟨_, rfl⟩
  rw [hw2] at hb2 q1 q2
  rw [hw2]
  have HB2 := Hd hb2
  obtain ⟨ws, hws⟩ : ∃ ws, w.heap.size = ws := ⟨_, rfl⟩
  rw [hws] at q1 q2
  rw [hws]
  have HWs := Hd hws
  have HQ2 := Hd q2
  have hz2 : ws + 1 < w2.heap.size := (Gl q2)
  have HL2 := Hd (show PrsAt w2 ws (.slice none 0 0) [] from ⟨q1, ⟨rfl, .inl ⟨rfl, rfl⟩⟩, fun e => by cases e⟩)
  have HRt := Hd (troot_any (w := w2) ⟨(HB2.out.block tb HTl.out).trans HT.out.cells⟩ (HR.out.still HB2.out) hpl hrt)
  clear hw2 hws q1 q2 hb2
  refine (HRt.out).mono ?_
  rintro e w4 ⟨rfl, hb4⟩
  rcases hT with ⟨e0, hkv0, -⟩ | ⟨h, p, e0, hs⟩
  · rw [e0]
    have r0 : (((0 : Nat) : Int) - 1) = -1 := by omega
    rw [r0]
    clear e0 r0
    have HP4 := Hd (HL2.out.still hb4)
    have HE4 := Hd (show w4.heap[ws + 1]? = some (.cells #[.int .i64 0] 29 (0, 0)) from (hb4.block _ (by omega)).trans HQ2.out)
    have HB4 := Hd (HB2.out.trans (hb4.mono HB2.out.size))
    obtain ⟨lx, hlx⟩ : ∃ lx : KV, lx = [] := ⟨_, rfl⟩
    have HEq := Hd (show scanL from_ to_ limit kv = lx by rw [hlx, hkv0]; unfold scanL; split <;> rfl)
    clear hkv0
    obtain ⟨v4, hv40⟩ : ∃ v4, v4 = Value.slice none 0 0 := ⟨_, rfl⟩
    rw [← hlx, ← hv40] at HP4
    have HOwn := Hd (show ∀ k, v4.ownBlock = some k → w.heap.size ≤ k from fun k e => by rw [hv40] at e; cases e)
    have HNe := Hd (show ∀ k, v4.ownBlock = some k → k ≠ ws + 1 from fun k e => by rw [hv40] at e; cases e)
    clear hlx hv40 hb4
    have z8 : w4.cell? ⟨ws, 0, none⟩ = some v4 := Lib.cell_of_heap HP4.out.cells 0
    have y8 : w4.frozen? ⟨ws, 0, none⟩ = false := froz_of HP4.out.cells
    have z9 : w4.cell? ⟨ws + 1, 0, none⟩ = some (.int .i64 0) := Lib.cell_of_heap HE4.out 0
    have y9 : w4.frozen? ⟨ws + 1, 0, none⟩ = false := froz_of HE4.out
    obtain ⟨sa4, sc4, hv4⟩ := slice_formB HP4.out.row
    obtain ⟨n4, hn4⟩ : ∃ n4, lx.length = n4 := ⟨_, rfl⟩
    rw [hn4] at hv4
    subst hv4
    go_wp2_with (fail)
    have K4 : Keep (fun k => k = ws ∨ k = ws + 1) w4 ((w4.setCell ⟨ws, 0, none⟩ (.slice sa4 n4 sc4)).setCell ⟨ws + 1, 0, none⟩ (.int .i64 0)) := ((Keep.refl (fun k => k = ws ∨ k = ws + 1) w4).setCell (p := ⟨ws, 0, none⟩) (fun _ => .inl rfl) _).setCell (p := ⟨ws + 1, 0, none⟩) (fun _ => .inr rfl) _
    have e9 : ((w4.setCell ⟨ws, 0, none⟩ (.slice sa4 n4 sc4)).setCell ⟨ws + 1, 0, none⟩ (.int .i64 0)).cell? ⟨ws + 1, 0, none⟩ = some (.int .i64 0) := World.cell?_setCell_same _ _ _ (by rw [World.cell?_setCell_other _ _ _ _ (by simp)]; exact z9)
    have e8 : ((w4.setCell ⟨ws, 0, none⟩ (.slice sa4 n4 sc4)).setCell ⟨ws + 1, 0, none⟩ (.int .i64 0)).cell? ⟨ws, 0, none⟩ = some (.slice sa4 n4 sc4) := by rw [World.cell?_setCell_other _ _ _ _ (by simp)]; exact World.cell?_setCell_same _ _ _ z8
    obtain ⟨w5, hw5⟩ : ∃ w5, (w4.setCell ⟨ws, 0, none⟩ (.slice sa4 n4 sc4)).setCell ⟨ws + 1, 0, none⟩ (.int .i64 0) = w5 := ⟨_, rfl⟩
    rw [hw5] at K4 e8 e9
    rw [hw5]
    refine leaves_cons (f := 145) (args := #[.pointer (some ⟨ws + 1, 0, none⟩)]) (by simp) (by simp [go_sem]) ?_
    refine (guard_idle _ _).mono ?_
    rintro e u' w'' ⟨rfl, rfl, rfl⟩
    simp only [settle]
    refine leaves_cons (f := 176) (args := #[.pointer (some ⟨ws + 1, 0, none⟩), .pointer (some ⟨ws, 0, none⟩)]) (by simp) (by simp [go_sem]) ?_
    refine (scan1_idle _ _ _ e9 _).mono ?_
    rintro e u' w'' ⟨rfl, rfl, rfl⟩
    simp [Leaves, settle, results, Tryz.results109, go_sem, e9, e8]
    rw [HEq.out]
    refine ⟨_, rfl, ?_, fun k e => ?_, ?_⟩
    · rw [hn4]
      have hrw := HP4.out.row
      rw [hn4] at hrw
      exact K4.ownsRow hrw (fun k e e2 => e2.elim (fun e3 => HP4.out.ne (by rw [← e3]; exact e)) (fun e3 => HNe.out k e e3))
    · exact HOwn.out k e
    · exact HB4.out.trans (K4.below HB4.out.size (fun k _ e => by have := HWs.out; omega))
  · rw [e0]
    have r0 : (((p + 1 : Nat) : Int) - 1) = (p : Int) := by omega
    rw [r0]
    have p0 : (0 : Int) ≤ (p : Int) := by omega
    by_cases hlim : 0 < limit
    · clear r0
      have hh : h < 20 := by
        rcases Nat.lt_or_ge h 20 with e | e
        · exact e
        · have h1 := hs.height
          have h2 := Nat.pow_le_pow_right (n := 2) (by omega) e
          omega
      have hsc := scan_any (tb := tb) (br := br) (pl := pl) (lb := ws) (from_ := from_) (to_ := to_) (limit := limit) h16 h (w := w4) (deep := 0) (l := []) ⟨((HB2.out.trans (hb4.mono HB2.out.size)).block tb HTl.out).trans HT.out.cells⟩ (HR.out.still (HB2.out.trans (hb4.mono HB2.out.size))) hs (HL2.out.still hb4)
        (fun k e => by
          have e2 : k = ws := e.elim id (fun e => by cases e)
          have := HWs.out
          have := HTl.out
          exact ⟨fun e3 => by have := HR.out.foot_lt9 e3; omega, by omega⟩) (by simp; omega) (by omega)
      rw [show (((0 : Nat)) : Int) = 0 from rfl] at hsc
      have HSc := Hd hsc
      have HB3 := Hd (HB2.out.trans (hb4.mono HB2.out.size))
      have HE3 := Hd (show w4.heap[ws + 1]? = some (.cells #[.int .i64 0] 29 (0, 0)) from (hb4.block _ (by omega)).trans HQ2.out)
      have HZ3 := Hd (show ws + 1 < w4.heap.size from Nat.lt_of_lt_of_le hz2 hb4.size)
      clear hsc hb4 hs
      go_wp2_with (fail)
      refine (HSc.out).mono ?_
      rintro e w4 ⟨rfl, v4, hst⟩
      obtain ⟨lx, hlx⟩ : ∃ lx, (pick from_ to_ limit [] kv).2 = lx := ⟨_, rfl⟩
      rw [hlx] at hst
      have HEq := Hd (show scanL from_ to_ limit kv = lx by unfold scanL; rw [if_pos hlim]; exact hlx)
      generalize (pick from_ to_ limit [] kv).1 = b at *
      clear hlx
      have HP4 := Hd hst.at_
      have HE4 := Hd (hst.keep.at HE3.out (fun e => e.elim (fun e => by omega) (fun e => by cases e)))
      have HB4 := Hd (HB3.out.trans (hst.keep.below HB3.out.size (fun k _ e => e.elim (fun e => by have := HWs.out; omega) (fun e => by cases e))))
      have HOwn := Hd (show ∀ k, v4.ownBlock = some k → w.heap.size ≤ k from fun k e => by
        rcases hst.own k (.inr e) with e2 | e2
        · have := HWs.out; rcases e2 with e2 | e2
          · omega
          · cases e2
        · have := HB3.out.size; omega)
      have HNe := Hd (show ∀ k, v4.ownBlock = some k → k ≠ ws + 1 from fun k e e9 => by
        rcases hst.own k (.inr e) with e2 | e2
        · rcases e2 with e2 | e2
          · omega
          · cases e2
        · have := HZ3.out; omega)
      clear hst
      have z8 : w4.cell? ⟨ws, 0, none⟩ = some v4 := Lib.cell_of_heap HP4.out.cells 0
      have y8 : w4.frozen? ⟨ws, 0, none⟩ = false := froz_of HP4.out.cells
      have z9 : w4.cell? ⟨ws + 1, 0, none⟩ = some (.int .i64 0) := Lib.cell_of_heap HE4.out 0
      have y9 : w4.frozen? ⟨ws + 1, 0, none⟩ = false := froz_of HE4.out
      obtain ⟨sa4, sc4, hv4⟩ := slice_formB HP4.out.row
      obtain ⟨n4, hn4⟩ : ∃ n4, lx.length = n4 := ⟨_, rfl⟩
      rw [hn4] at hv4
      subst hv4
      go_wp2_with (fail)
      have K4 : Keep (fun k => k = ws ∨ k = ws + 1) w4 ((w4.setCell ⟨ws, 0, none⟩ (.slice sa4 n4 sc4)).setCell ⟨ws + 1, 0, none⟩ (.int .i64 0)) := ((Keep.refl (fun k => k = ws ∨ k = ws + 1) w4).setCell (p := ⟨ws, 0, none⟩) (fun _ => .inl rfl) _).setCell (p := ⟨ws + 1, 0, none⟩) (fun _ => .inr rfl) _
      have e9 : ((w4.setCell ⟨ws, 0, none⟩ (.slice sa4 n4 sc4)).setCell ⟨ws + 1, 0, none⟩ (.int .i64 0)).cell? ⟨ws + 1, 0, none⟩ = some (.int .i64 0) := World.cell?_setCell_same _ _ _ (by rw [World.cell?_setCell_other _ _ _ _ (by simp)]; exact z9)
      have e8 : ((w4.setCell ⟨ws, 0, none⟩ (.slice sa4 n4 sc4)).setCell ⟨ws + 1, 0, none⟩ (.int .i64 0)).cell? ⟨ws, 0, none⟩ = some (.slice sa4 n4 sc4) := by rw [World.cell?_setCell_other _ _ _ _ (by simp)]; exact World.cell?_setCell_same _ _ _ z8
      obtain ⟨w5, hw5⟩ : ∃ w5, (w4.setCell ⟨ws, 0, none⟩ (.slice sa4 n4 sc4)).setCell ⟨ws + 1, 0, none⟩ (.int .i64 0) = w5 := ⟨_, rfl⟩
      rw [hw5] at K4 e8 e9
      rw [hw5]
      refine leaves_cons (f := 145) (args := #[.pointer (some ⟨ws + 1, 0, none⟩)]) (by simp) (by simp [go_sem]) ?_
      refine (guard_idle _ _).mono ?_
      rintro e u' w'' ⟨rfl, rfl, rfl⟩
      simp only [settle]
      refine leaves_cons (f := 176) (args := #[.pointer (some ⟨ws + 1, 0, none⟩), .pointer (some ⟨ws, 0, none⟩)]) (by simp) (by simp [go_sem]) ?_
      refine (scan1_idle _ _ _ e9 _).mono ?_
      rintro e u' w'' ⟨rfl, rfl, rfl⟩
      simp [Leaves, settle, results, Tryz.results109, go_sem, e9, e8]
      rw [HEq.out]
      refine ⟨_, rfl, ?_, fun k e => ?_, ?_⟩
      · rw [hn4]
        have hrw := HP4.out.row
        rw [hn4] at hrw
        exact K4.ownsRow hrw (fun k e e2 => e2.elim (fun e3 => HP4.out.ne (by rw [← e3]; exact e)) (fun e3 => HNe.out k e e3))
      · exact HOwn.out k e
      · exact HB4.out.trans (K4.below HB4.out.size (fun k _ e => by have := HWs.out; omega))
    · clear r0
      have HP4 := Hd (HL2.out.still hb4)
      have HE4 := Hd (show w4.heap[ws + 1]? = some (.cells #[.int .i64 0] 29 (0, 0)) from (hb4.block _ (by omega)).trans HQ2.out)
      have HB4 := Hd (HB2.out.trans (hb4.mono HB2.out.size))
      obtain ⟨lx, hlx⟩ : ∃ lx : KV, lx = [] := ⟨_, rfl⟩
      have HEq := Hd (show scanL from_ to_ limit kv = lx by rw [hlx]; unfold scanL; rw [if_neg hlim])
      obtain ⟨v4, hv40⟩ : ∃ v4, v4 = Value.slice none 0 0 := ⟨_, rfl⟩
      rw [← hlx, ← hv40] at HP4
      have HOwn := Hd (show ∀ k, v4.ownBlock = some k → w.heap.size ≤ k from fun k e => by rw [hv40] at e; cases e)
      have HNe := Hd (show ∀ k, v4.ownBlock = some k → k ≠ ws + 1 from fun k e => by rw [hv40] at e; cases e)
      clear hlx hv40 hb4
      have z8 : w4.cell? ⟨ws, 0, none⟩ = some v4 := Lib.cell_of_heap HP4.out.cells 0
      have y8 : w4.frozen? ⟨ws, 0, none⟩ = false := froz_of HP4.out.cells
      have z9 : w4.cell? ⟨ws + 1, 0, none⟩ = some (.int .i64 0) := Lib.cell_of_heap HE4.out 0
      have y9 : w4.frozen? ⟨ws + 1, 0, none⟩ = false := froz_of HE4.out
      obtain ⟨sa4, sc4, hv4⟩ := slice_formB HP4.out.row
      obtain ⟨n4, hn4⟩ : ∃ n4, lx.length = n4 := ⟨_, rfl⟩
      rw [hn4] at hv4
      subst hv4
      go_wp2_with (fail)
      have K4 : Keep (fun k => k = ws ∨ k = ws + 1) w4 ((w4.setCell ⟨ws, 0, none⟩ (.slice sa4 n4 sc4)).setCell ⟨ws + 1, 0, none⟩ (.int .i64 0)) := ((Keep.refl (fun k => k = ws ∨ k = ws + 1) w4).setCell (p := ⟨ws, 0, none⟩) (fun _ => .inl rfl) _).setCell (p := ⟨ws + 1, 0, none⟩) (fun _ => .inr rfl) _
      have e9 : ((w4.setCell ⟨ws, 0, none⟩ (.slice sa4 n4 sc4)).setCell ⟨ws + 1, 0, none⟩ (.int .i64 0)).cell? ⟨ws + 1, 0, none⟩ = some (.int .i64 0) := World.cell?_setCell_same _ _ _ (by rw [World.cell?_setCell_other _ _ _ _ (by simp)]; exact z9)
      have e8 : ((w4.setCell ⟨ws, 0, none⟩ (.slice sa4 n4 sc4)).setCell ⟨ws + 1, 0, none⟩ (.int .i64 0)).cell? ⟨ws, 0, none⟩ = some (.slice sa4 n4 sc4) := by rw [World.cell?_setCell_other _ _ _ _ (by simp)]; exact World.cell?_setCell_same _ _ _ z8
      obtain ⟨w5, hw5⟩ : ∃ w5, (w4.setCell ⟨ws, 0, none⟩ (.slice sa4 n4 sc4)).setCell ⟨ws + 1, 0, none⟩ (.int .i64 0) = w5 := ⟨_, rfl⟩
      rw [hw5] at K4 e8 e9
      rw [hw5]
      refine leaves_cons (f := 145) (args := #[.pointer (some ⟨ws + 1, 0, none⟩)]) (by simp) (by simp [go_sem]) ?_
      refine (guard_idle _ _).mono ?_
      rintro e u' w'' ⟨rfl, rfl, rfl⟩
      simp only [settle]
      refine leaves_cons (f := 176) (args := #[.pointer (some ⟨ws + 1, 0, none⟩), .pointer (some ⟨ws, 0, none⟩)]) (by simp) (by simp [go_sem]) ?_
      refine (scan1_idle _ _ _ e9 _).mono ?_
      rintro e u' w'' ⟨rfl, rfl, rfl⟩
      simp [Leaves, settle, results, Tryz.results109, go_sem, e9, e8]
      rw [HEq.out]
      refine ⟨_, rfl, ?_, fun k e => ?_, ?_⟩
      · rw [hn4]
        have hrw := HP4.out.row
        rw [hn4] at hrw
        exact K4.ownsRow hrw (fun k e e2 => e2.elim (fun e3 => HP4.out.ne (by rw [← e3]; exact e)) (fun e3 => HNe.out k e e3))
      · exact HOwn.out k e
      · exact HB4.out.trans (K4.below HB4.out.size (fun k _ e => by have := HWs.out; omega))
theorem tscan_any {w : World} {tb br pl : Nat} {R : RoomS} {kv : KV} {ps : List Nat} {from_ to_ : ByteArray} {limit : Int} (ht : TreeAt w tb br pl) (hr : RoomAt w br R) (h16 : R.pages ≤ 65536) (hpl : pl < 16) (hT : TreeIs R pl kv ps) (hn : kv.length ≤ 100000) :
    Calls Tryz.prog 109 #[.pointer (some ⟨tb, 0, none⟩), .string from_, .string to_, .int .i64 limit] w fun e w' => ScanOut w kv e w' :=
  (tscan_ex (from_ := from_) (to_ := to_) (limit := limit) ht hr h16 hpl hT hn).mono fun _ _ ⟨v', h1, h2, h3, h4⟩ => ⟨v', _, h1, h2, h3, (scanL_more _ _ _ _).1, (scanL_more _ _ _ _).2, h4⟩
end Go.Proofs.YtaokjeokpifjgaaGreatDoor

namespace Go.Proofs.YtaokjeokpifjgaaGreatDoor
open Go.RowKit Go.MapKept
attribute [local go_sem] gives givesH
set_option maxRecDepth 100000

theorem contains_row {w : World} {B n g c : Nat} {ps : List Nat} (h : w.ownsRow B 3 1 (.slice (some ⟨g, 0, none⟩) n c) n (numV ps)) (hl : ps.length = n) (hn : n ≤ 1000000) (x : Nat) :
    Calls Tryz.prog 181 #[.slice (some ⟨g, 0, none⟩) n c, .int .i64 x] w fun e w' => e = .returned (.bool (decide (x ∈ ps))) ∧ w = w' := by
  have hz : ∀ j, j < (ps.map (fun k : Nat => (k : Int))).length → w.cell? ⟨g, 0 + j, none⟩ = some (.int .i64 ((ps.map (fun k : Nat => (k : Int))).getD j 0)) := fun j hj => by
    rw [List.length_map] at hj
    rw [Nat.zero_add, row_cells h j _ (numV_at ps j hj), List.getD_eq_getElem?_getD, List.getD_eq_getElem?_getD, List.getElem?_map, List.getElem?_eq_getElem hj]
    rfl
  have := Tryz.slices_Contains_int g 0 n c (ps.map (fun k : Nat => (k : Int))) x w (by rw [List.length_map]; omega) (by omega) hz
  refine this.mono fun e w' ⟨he, hw⟩ => ⟨?_, hw.symm⟩
  rw [he, List.take_of_length_le (by rw [List.length_map]; omega)]
  congr 2
  rw [Bool.eq_iff_iff]
  simp
  exact ⟨fun ⟨a, h, e⟩ => (show a = x by omega) ▸ h, fun h => ⟨x, h, rfl⟩⟩
def lenV : Value → Nat
  | .slice _ k _ => k
  | _ => 0
def Walking (w : World) (s : ByteArray) (ps : List Nat) (v : Value) (k : Nat) (wr : World) : Prop :=
  Below w.heap.size w wr ∧ wr.ownsRow w.heap.size 3 1 v k (numV (ps.take k)) ∧ IsB w.heap.size w.heap.size (Lib.byteCells (s.data.toList.take (506 * k))) wr
set_option maxHeartbeats 4000000 in
theorem walk_ok {w : World} {br : Nat} {R : RoomS} (h : RoomAt w br R) {s : ByteArray} {ps : List Nat} (hb : BlobIn R s ps) (hs : s.size ≤ 131072) :
    Calls Tryz.prog 116 #[.pointer (some ⟨br, 0, none⟩), .int .i64 (ps.getD 0 0 : Nat)] w fun e w' => ∃ v, e = .returned (.tuple #[v, .string s, .int .i64 0]) ∧ w'.ownsRow w.heap.size 3 1 v ps.length (numV ps) ∧ Below w.heap.size w w' := by
  have hn := pagesB_le s.size hs
  have hn1 := pagesB_pos s.size
  obtain ⟨n, hnn⟩ : ∃ n, ps.length = n := ⟨_, rfl⟩
  have hnp : pagesB s.size = n := by rw [← hb.len]; exact hnn
  rw [hnp] at hn hn1
  have hcov := pagesB_covers s.size
  have hleast := pagesB_least s.size
  rw [hnp] at hcov hleast
  obtain ⟨i0, hi0, hz0, hz1, hz2⟩ := info_parts infoInt
  have HI := Hd hi0
  have Hz0 := Hd hz0
  have Hz1 := Hd hz1
  have Hz2 := Hd hz2
  have HR := Hd h
  have HBl := Hd hb
  have HNN := Hd hnn
  have HLeast := Hd hleast
  have hsm := h.tx.log.small
  have hfit := h.fit
  have hpg : R.pages ≤ 65536 := by omega
  obtain ⟨p0, hp0⟩ : ∃ p0, ps.getD 0 0 = p0 := ⟨_, rfl⟩
  rw [hp0]
  have HP0 := Hd hp0
  clear hp0
  have HF := Hd (Lib.fresh_isBuilder 123 5 w)
  clear h hb hnn hnp hleast hi0 hz0 hz1 hz2 hsm hfit
  go_enter Tryz.func116, Tryz.ntmps116
  go_wp2
  go_loopw [7, 9] (fun v at_ wr => ∃ k : Nat, k < n ∧ at_ = .int .i64 (ps.getD k 0 : Nat) ∧ Walking w s ps v k wr) (fun v _ _ => n - lenV v)
  case atStart => exact ⟨0, by omega, by rw [HP0.out], (Below.refl _ _).alloc (Nat.le_refl _) _, World.ownsRow_nil _ _ _ _, by simpa [Lib.byteCells] using HF.out⟩
  case round =>
    obtain ⟨k, hk, rfl, hbl, hrow, hib⟩ := hrel
    obtain ⟨a0, c0, rfl⟩ := slice_formB hrow
    have hkl : k < ps.length := by rw [HNN.out]; exact hk
    have hpk := HBl.out.pages _ (getD_memN hkl)
    have htx := HBl.out.text k hkl
    have hck := chunkB_size s k
    have hk6 : 506 * k ≤ s.size := by
      by_cases h0 : k = 0
      · omega
      · have := HLeast.out (k - 1) (by omega); omega
    have hcat := chunk_cat s k hk6
    obtain ⟨nx, hnx, hnx2⟩ : ∃ nx, nextOf ps k = nx ∧ ((k + 1 < n ∧ ∃ np, nx = np + 1 ∧ np ≤ 65536 ∧ np = ps.getD (k + 1) 0 ∧ np ∉ ps.take (k + 1)) ∨ (k + 1 = n ∧ nx = 0)) := by
      refine ⟨_, rfl, ?_⟩
      unfold nextOf
      rw [HNN.out]
      by_cases h1 : k + 1 < n
      · rw [if_pos h1]
        have h2 : k + 1 < ps.length := by rw [HNN.out]; exact h1
        have h3 := (HBl.out.pages _ (getD_memN h2)).1
        refine .inl ⟨h1, _, rfl, by omega, rfl, fun hm => ?_⟩
        obtain ⟨j, hj, hj2⟩ := List.getElem_of_mem hm
        have hj3 : j < k + 1 := by rw [List.length_take] at hj; omega
        have h4 : ps.getD j 0 = ps.getD (k + 1) 0 := by
          rw [← hj2, List.getElem_take, List.getD_eq_getElem?_getD, List.getElem?_eq_getElem (by omega)]; rfl
        have := getD_inj HBl.out.nodup (by omega) h2 h4
        omega
      · rw [if_neg h1]
        exact .inr ⟨by omega, rfl⟩
    rw [hnx] at htx
    have hnx3 : nx < 4294967296 := by
      rcases hnx2 with ⟨_, np, h1, h2, _⟩ | ⟨_, h1⟩ <;> omega
    have HRd := Hd (blobRead_ok (HR.out.still hbl) (ps.getD k 0) hpk.1 hpk.2 nx (chunkB s k) hnx3 (by omega) htx)
    have hbsl : (Lib.byteCells (s.data.toList.take (506 * k))).length = 506 * k := by simp [Lib.byteCells]; omega
    have hnum : numV (ps.take k) ++ [.int .i64 (ps.getD k 0 : Nat)] = numV (ps.take (k + 1)) := by
      unfold numV
      rw [List.take_succ_eq_append_getElem hkl, List.map_append, List.getD_eq_getElem?_getD, List.getElem?_eq_getElem hkl]
      rfl
    have hstr : Lib.byteCells (s.data.toList.take (506 * k)) ++ Lib.strCells (chunkB s k) = Lib.byteCells (s.data.toList.take (506 * (k + 1))) := by
      rw [strCells_eq, ← byteCells_append, hcat]
    have hcl : (Lib.byteCells (s.data.toList.take (506 * k))).length + (chunkB s k).size ≤ 140737488355328 := by omega
    have HBL := Hd hbl
    have HRow := Hd hrow
    have HIB := Hd hib
    have HNum := Hd hnum
    have HStr := Hd hstr
    have HCl := Hd hcl
    have HCk := Hd hck
    have HKl := Hd hkl
    have hk26 : k ≤ 260 := by omega
    generalize ps.getD k 0 = pk at *
    generalize chunkB s k = ck at *
    clear hbl hrow hib hpk htx hck hk6 hcat hnx hnx3 hbsl hnum hstr hcl hkl
    rcases hnx2 with ⟨hk1, np, rfl, hnp, hnpe, hnin⟩ | ⟨rfl, rfl⟩
    · have g1 : (((np + 1 : Nat) : Int) == 0) = false := by simp; omega
      have e1 : ((np + 1 : Nat) : Int) - 1 = (np : Int) := by omega
      have hl5 : (Lib.byteCells (s.data.toList.take (506 * (k + 1)))).length = 506 * (k + 1) := by
        have := HLeast.out k hk1
        simp [Lib.byteCells]; omega
      have hl6 : 506 * (k + 1) ≤ 131072 := by have := HLeast.out k hk1; omega
      have g2 : decide ((131072 : Int) < ((506 * (k + 1) : Nat) : Int)) = false := by simp; omega
      have htl : (ps.take (k + 1)).length = k + 1 := by rw [List.length_take]; have := HKl.out; omega
      have HL5 := Hd hl5
      have HTL := Hd htl
      have HNin := Hd hnin
      have HNpe := Hd hnpe
      have hnpi : (np : Int) ≤ 65536 := by omega
      clear hl5 htl hnin hnpe
      generalize hbs : Lib.byteCells (s.data.toList.take (506 * (k + 1))) = bs1 at *
      have HBS := Hd hbs
      clear hbs
      generalize hLe : 506 * (k + 1) = L at *
      have HLe := Hd hLe
      clear hLe
      go_wp2_with (first
        | (go_at_call 180; refine (HRd.out).mono ?_; rintro e w1 ⟨rfl, hb1⟩
           have HB1 := Hd (HBL.out.trans (hb1.mono HBL.out.size))
           have HRow1 := Hd ((Keep.ofBelow (S := fun _ => False) hb1).ownsRow HRow.out (fun _ _ e => e))
           have HIB1 := Hd (isB_still HIB.out hb1)
           clear hb1)
        | (at_builtin
           refine wpList_append_own_at _ (by rfl) _ _ 68 (by rfl) w.heap.size 3 i0 (.int .i64 0) 1 8 Tryz.underlying68 HI.out Hz0.out Hz1.out Hz2.out (by rfl) (by decide) (.slice a0 k c0) _ _ (by rfl) (HRow1.out.alloc _) ⟨w1.heap.size, 0, none⟩ 1 1 [.int .i64 (pk : Nat)] (by rfl) (by rfl) (cell_one_new _ _ _) (ints_oneCell .i64 [(pk : Int)]) (by unfold maxLen; omega) (by omega) ?_ ?_
           · have := HB1.out.size; simp; omega
           intro v' w3 hown3 hg3 hnil hloc
           rw [HNum.out] at hown3
           obtain ⟨gb, c3, rfl, hc31, hc32, hgB⟩ := row_posB hown3 (by omega)
           have hk3 : Keep (fun j => (Value.slice a0 k c0).ownBlock = some j) w1 w3 := ((Keep.refl _ w1).alloc _).grown hg3 (fun k _ e => e)
           have HB3 := Hd (HB1.out.trans (hk3.below HB1.out.size (fun i hi e => by have := (HRow1.out.lt i e).1; omega)))
           have HIB3 := Hd (isB_keep HIB1.out hk3 (fun j e => row_formE HRow1.out j e))
           have HO3 := Hd hown3
           clear hown3 hg3 hnil hloc hk3)
        | (go_at_call 56; refine (writeString_any HIB3.out HB3.out.size ck HCl.out).mono ?_; rintro e w4 ⟨rfl, hib4, hb4, ho4⟩
           rw [HStr.out] at hib4
           have HB4 := Hd (HB3.out.trans hb4)
           have HO4 := Hd (row_others HO3.out (isB_lt HIB3.out) ho4)
           have HIB4 := Hd hib4
           clear hib4 hb4 ho4)
        | (go_at_call 181; refine (contains_row HO4.out HTL.out (by omega) np).mono ?_; rintro e w5 ⟨rfl, rfl⟩
           rw [decide_eq_false HNin.out])
        | (go_at_call 182; refine (Tryz.Builder_Len _ _ _ _ HIB4.out).mono ?_; rintro e w6 ⟨rfl, hw6⟩
           subst hw6
           rw [HL5.out]))
      refine ⟨⟨k + 1, by omega, by rw [HNpe.out], HB4.out, HO4.out, by rw [HLe.out, HBS.out]; exact HIB4.out⟩, ?_⟩
      show n - (k + 1) < n - k
      omega
    · have g1 : (((0 : Nat) : Int) == 0) = true := rfl
      have hall : s.data.toList.take (506 * (k + 1)) = s.data.toList := List.take_of_length_le (by simp; omega)
      have htl : ps.take (k + 1) = ps := List.take_of_length_le (by rw [HNN.out]; exact Nat.le_refl _)
      rw [hall] at HStr
      have HTL := Hd htl
      clear hall htl
      go_wp2_with (first
        | (go_at_call 180; refine (HRd.out).mono ?_; rintro e w1 ⟨rfl, hb1⟩
           have HB1 := Hd (HBL.out.trans (hb1.mono HBL.out.size))
           have HRow1 := Hd ((Keep.ofBelow (S := fun _ => False) hb1).ownsRow HRow.out (fun _ _ e => e))
           have HIB1 := Hd (isB_still HIB.out hb1)
           clear hb1)
        | (at_builtin
           refine wpList_append_own_at _ (by rfl) _ _ 68 (by rfl) w.heap.size 3 i0 (.int .i64 0) 1 8 Tryz.underlying68 HI.out Hz0.out Hz1.out Hz2.out (by rfl) (by decide) (.slice a0 k c0) _ _ (by rfl) (HRow1.out.alloc _) ⟨w1.heap.size, 0, none⟩ 1 1 [.int .i64 (pk : Nat)] (by rfl) (by rfl) (cell_one_new _ _ _) (ints_oneCell .i64 [(pk : Int)]) (by unfold maxLen; omega) (by omega) ?_ ?_
           · have := HB1.out.size; simp; omega
           intro v' w3 hown3 hg3 hnil hloc
           rw [HNum.out] at hown3
           obtain ⟨gb, c3, rfl, hc31, hc32, hgB⟩ := row_posB hown3 (by omega)
           have hk3 : Keep (fun j => (Value.slice a0 k c0).ownBlock = some j) w1 w3 := ((Keep.refl _ w1).alloc _).grown hg3 (fun k _ e => e)
           have HB3 := Hd (HB1.out.trans (hk3.below HB1.out.size (fun i hi e => by have := (HRow1.out.lt i e).1; omega)))
           have HIB3 := Hd (isB_keep HIB1.out hk3 (fun j e => row_formE HRow1.out j e))
           have HO3 := Hd hown3
           clear hown3 hg3 hnil hloc hk3)
        | (go_at_call 56; refine (writeString_any HIB3.out HB3.out.size ck HCl.out).mono ?_; rintro e w4 ⟨rfl, hib4, hb4, ho4⟩
           rw [HStr.out] at hib4
           have HB4 := Hd (HB3.out.trans hb4)
           have HO4 := Hd (row_others HO3.out (isB_lt HIB3.out) ho4)
           have HIB4 := Hd hib4
           clear hib4 hb4 ho4)
        | (go_at_call 57; refine (Tryz.Builder_String_any_k _ _ _ _ (Lib.IsBuilderF.of HIB4.out) HB4.out.size).mono ?_; rintro e w5 ⟨rfl, _, hb5, ho5⟩
           have HB5 := Hd (HB4.out.trans hb5)
           have HO5 := Hd (row_others HO4.out (isB_lt HIB4.out) ho5)
           clear hb5 ho5))
      go_ret3
      refine ⟨_, rfl, ?_, HB5.out⟩
      have := HO5.out
      rw [HTL.out] at this
      rw [HNN.out]
      exact this
theorem get_ok {w : World} {br : Nat} {R : RoomS} (h : RoomAt w br R) {s : ByteArray} {ps : List Nat} (hb : BlobIn R s ps) (hs : s.size ≤ 131072) :
    Calls Tryz.prog 50 #[.pointer (some ⟨br, 0, none⟩), .int .i64 (ps.getD 0 0 : Nat)] w fun e w' => e = .returned (.tuple #[.string s, .int .i64 0]) ∧ Below w.heap.size w w' := by
  have H := Hd (walk_ok h hb hs)
  generalize ps.getD 0 0 = p0 at *
  go_enter Tryz.func50, Tryz.ntmps50
  go_wp2_with (go_at_call 116; refine (H.out).mono ?_; rintro e w1 ⟨v, rfl, ho, hb1⟩)
  go_ret2
  exact ⟨rfl, hb1⟩
end Go.Proofs.YtaokjeokpifjgaaGreatDoor

namespace Go.Proofs.YtaokjeokpifjgaaGreatDoor
open Go.RowKit Go.MapKept
attribute [local go_sem] gives givesH
set_option maxRecDepth 100000

theorem treeAt_any (br pl : Nat) (w : World) :
    Calls Tryz.prog 83 #[.pointer (some ⟨br, 0, none⟩), .int .i64 pl] w fun e w' => e = .returned (.pointer (some ⟨w.heap.size, 0, none⟩)) ∧ w' = w.alloc (.cells #[.pointer (some ⟨br, 0, none⟩), .int .i64 pl] 242) := by
  go_enter Tryz.func83, Tryz.ntmps83
  go_wp2
  go_ret
  exact ⟨rfl, rfl⟩
set_option maxHeartbeats 1000000 in
theorem tget_none {w : World} {tb br pl : Nat} {R : RoomS} {key : ByteArray} (ht : TreeAt w tb br pl) (hr : RoomAt w br R) (hpl : pl < 16) (hk : R.root pl = 0) :
    Calls Tryz.prog 87 #[.pointer (some ⟨tb, 0, none⟩), .string key] w fun e w' => e = .returned (.tuple #[.string ⟨#[]⟩, .bool false, .int .i64 0]) ∧ Below w.heap.size w w' := by
  have hb0 : Below w.heap.size w (w.alloc (.cells #[.int .i64 0] 29)) := (Below.refl _ _).alloc (Nat.le_refl _) _
  have HR := Hd (troot_any (w := w.alloc (.cells #[.int .i64 0] 29)) ⟨(hb0.block tb (Gl ht.cells)).trans ht.cells⟩ (hr.still hb0) hpl (by omega))
  rw [hk] at HR
  have he1 : (((0 : Nat) : Int) - 1) = -1 := by omega
  rw [he1] at HR
  have HB0 := Hd hb0
  have hz : (w.alloc (.cells #[.int .i64 0] 29)).heap.size = w.heap.size + 1 := by simp
  have q0 := heap_alloc_new w (.cells #[.int .i64 0] 29)
  have HQ0 := Hd q0
  clear ht hr hb0 he1 hk
  go_enter_defers Tryz.func87, Tryz.ntmps87
  go_wp2_with (fail)
  refine (HR.out).mono ?_
  rintro e w1 ⟨rfl, hb1⟩
  have HB1 := Hd (HB0.out.trans (hb1.mono HB0.out.size))
  have q1 : w1.heap[w.heap.size]? = some (.cells #[.int .i64 0] 29 (0, 0)) := (hb1.block _ (by rw [hz]; omega)).trans HQ0.out
  have hz1 : w.heap.size < w1.heap.size := by have := hb1.size; omega
  have HQ1 := Hd q1
  clear q0 q1 hb1
  obtain ⟨we, hwe⟩ : ∃ we, w.heap.size = we := ⟨_, rfl⟩
  rw [hwe] at HQ1 hz1
  have HWe := Hd hwe
  clear hz
  go_wp2_with (fail)
  have f3 : w1.frozen? ⟨we, 0, none⟩ = false := froz_of HQ1.out
  have c3 : w1.cell? ⟨we, 0, none⟩ = some (.int .i64 0) := Lib.cell_of_heap HQ1.out 0
  refine wp_loop_rounds 1 ?_
  rw [rounds_succ]
  go_wp2_with (fail)
  refine leaves_cons (f := 145) (args := #[.pointer (some ⟨we, 0, none⟩)]) (by simp) (by simp [go_sem]) ?_
  refine (guard_idle _ _).mono ?_
  rintro e u' w'' ⟨rfl, rfl, rfl⟩
  have e9 : (w1.setCell ⟨we, 0, none⟩ (.int .i64 0)).cell? ⟨we, 0, none⟩ = some (.int .i64 0) := World.cell?_setCell_same _ _ _ c3
  simp [Leaves, settle, results, Tryz.results87, go_sem, e9]
  exact HB1.out.setCell (by rw [HWe.out]; exact Nat.le_refl _) _
theorem pow_lt_of {h n : Nat} (h1 : 2 ^ h ≤ n) (h2 : n ≤ 2000) : h ≤ 10 := by
  rcases Nat.lt_or_ge h 11 with e | e
  · omega
  · have := Nat.pow_le_pow_right (n := 2) (by decide) e
    omega
theorem tget_is {w : World} {tb br pl : Nat} {R : RoomS} {kv : KV} {ps : List Nat} {key : ByteArray} (ht : TreeAt w tb br pl) (hr : RoomAt w br R) (hpl : pl < 16) (hT : TreeIs R pl kv ps) (h16 : R.pages ≤ 65536) (hkv : kv.length ≤ 2000) :
    Calls Tryz.prog 87 #[.pointer (some ⟨tb, 0, none⟩), .string key] w fun e w' => e = .returned (.tuple #[.string ((look kv key).getD ⟨#[]⟩), .bool (look kv key).isSome, .int .i64 0]) ∧ Below w.heap.size w w' := by
  rcases hT with ⟨h1, rfl, rfl⟩ | ⟨h, p, h1, h2⟩
  · exact tget_none ht hr hpl h1
  · exact get_any ht hr hpl h1 h16 h2 (by have := pow_lt_of h2.height hkv; omega)
theorem tput_is {w : World} {tb br pl : Nat} {R : RoomS} {kv : KV} {ps L : List Nat} {key val : ByteArray} (ht : TreeAt w tb br pl) (htb : ¬ R.foot br tb) (hr : RoomAt w br R) (hlen : R.T.puts.length + 2000 < 1000000000000) (h16 : R.pages ≤ 65536) (hpl : pl < 16) (hk : key.size ≤ 96) (hv : val.size ≤ 56)
    (hT : TreeIs R pl kv ps) (hnd : ps.Nodup) (hL : ∀ q, q < R.pages → R.has q = true → q ∈ L) (hkv : kv.length ≤ 2000) (hn : L.length + 12 ≤ R.pages) :
    Calls Tryz.prog 92 #[.pointer (some ⟨tb, 0, none⟩), .string key, .string val] w fun e w' => e = .returned (.int .i64 0) ∧ ∃ R' ps' new, RoomStep br w R w' R' ∧ TreeIs R' pl (ins kv key val) ps' ∧ ps'.Perm (ps ++ new) ∧ TurnR R R' pl ps new 200 := by
  rcases hT with ⟨h1, rfl, rfl⟩ | ⟨h, p, h1, h2⟩
  · exact (tput_none ht htb hr hlen h16 hpl hk hv h1 hL (by omega)).mono fun e w' ⟨e1, R', p, hst, hrt, hsub, htu⟩ => ⟨e1, R', [p], [p], hst, .inr ⟨0, p, hrt, hsub⟩, by simp, htu⟩
  · have h5 := pow_lt_of h2.height hkv
    exact (tput_some ht htb hr hlen h16 hpl hk hv h1 h2 (by omega) hnd hL (by omega)).mono fun e w' ⟨e1, R', h', p', ps', new, hst, hrt, hsub, hpm, _, htu⟩ => ⟨e1, R', ps', new, hst, .inr ⟨h', p', hrt, hsub⟩, hpm, htu⟩

structure Sto where
  br : Nat
  ib : Nat
  lb : Nat
  R : RoomS
  kvI : KV
  kvL : KV
  psI : List Nat
  psL : List Nat
  bp : List Nat
  X : Rest
def Sto.foot (s : Sto) (k : Nat) : Prop := s.R.foot s.br k
structure StAt (w : World) (sb : Nat) (s : Sto) (D : Dict) (nz : Nat) : Prop where
  cells : w.heap[sb]? = some (.cells #[.pointer (some ⟨s.br, 0, none⟩), .pointer (some ⟨s.ib, 0, none⟩), .pointer (some ⟨s.lb, 0, none⟩)] 173 (0, 0))
  ti : TreeAt w s.ib s.br 0
  tl : TreeAt w s.lb s.br 1
  room : RoomAt w s.br s.R
  nsb : ¬ s.foot sb
  nib : ¬ s.foot s.ib
  nlb : ¬ s.foot s.lb
  cont : Cont s.R D s.kvI s.kvL s.psI s.psL s.bp s.X
  sized : Sized s.R s.kvI s.kvL s.bp s.X nz
theorem StAt.keep {S : Nat → Prop} {w w' : World} {sb : Nat} {s : Sto} {D : Dict} {nz : Nat} (h : StAt w sb s D nz) (hk : Keep S w w') (h0 : ¬ S sb) (h1 : ¬ S s.ib) (h2 : ¬ S s.lb) (h3 : ∀ k, s.foot k → ¬ S k) : StAt w' sb s D nz :=
  ⟨hk.at h.cells h0, ⟨hk.at h.ti.cells h1⟩, ⟨hk.at h.tl.cells h2⟩, h.room.keep hk h3, h.nsb, h.nib, h.nlb, h.cont, h.sized⟩
theorem StAt.still {w u : World} {sb : Nat} {s : Sto} {D : Dict} {nz : Nat} (h : StAt w sb s D nz) (hb : Below w.heap.size w u) : StAt u sb s D nz := h.keep (Keep.still hb) (fun e => e) (fun e => e) (fun e => e) (fun _ _ e => e)
structure VStep (w : World) (s : Sto) (w' : World) (s' : Sto) : Prop where
  keep : Keep s.foot w w'
  foot : ∀ k, s'.foot k → s.foot k ∨ w.heap.size ≤ k
  ib : s'.ib = s.ib
  lb : s'.lb = s.lb
  br : s'.br = s.br
  pg : s'.R.pages = s.R.pages
theorem VStep.still {w u : World} {s : Sto} (hb : Below w.heap.size w u) : VStep w s u s := ⟨Keep.ofBelow hb, fun _ e => .inl e, rfl, rfl, rfl, rfl⟩
theorem VStep.trans {w w' w'' : World} {s s' s'' : Sto} (h : VStep w s w' s') (k : VStep w' s' w'' s'') : VStep w s w'' s'' :=
  ⟨h.keep.trans k.keep (fun i hi e => (h.foot i e).elim id (fun e2 => absurd hi (by omega))), fun i e => (k.foot i e).elim (h.foot i) (fun e2 => .inr (Nat.le_trans h.keep.size e2)), k.ib.trans h.ib, k.lb.trans h.lb, k.br.trans h.br, k.pg.trans h.pg⟩
structure StStep (w : World) (s : Sto) (w' : World) (s' : Sto) : Prop where
  keep : Keep s.foot w w'
  foot : ∀ k, s'.foot k → s.foot k ∨ w.heap.size ≤ k
  ib : s'.ib = s.ib
  lb : s'.lb = s.lb
  br : s'.br = s.br
  pg : s'.R.pages = s.R.pages
  X : s'.X = s.X
theorem StStep.v {w w' : World} {s s' : Sto} (h : StStep w s w' s') : VStep w s w' s' := ⟨h.keep, h.foot, h.ib, h.lb, h.br, h.pg⟩
theorem StStep.refl (w : World) (s : Sto) : StStep w s w s := ⟨Keep.refl _ _, fun _ e => .inl e, rfl, rfl, rfl, rfl, rfl⟩
theorem StStep.still {w u : World} {s : Sto} (hb : Below w.heap.size w u) : StStep w s u s := ⟨Keep.ofBelow hb, fun _ e => .inl e, rfl, rfl, rfl, rfl, rfl⟩
theorem StStep.trans {w w' w'' : World} {s s' s'' : Sto} (h : StStep w s w' s') (k : StStep w' s' w'' s'') : StStep w s w'' s'' :=
  ⟨h.keep.trans k.keep (fun i hi e => (h.foot i e).elim id (fun e2 => absurd hi (by omega))), fun i e => (k.foot i e).elim (h.foot i) (fun e2 => .inr (Nat.le_trans h.keep.size e2)), k.ib.trans h.ib, k.lb.trans h.lb, k.br.trans h.br, k.pg.trans h.pg, k.X.trans h.X⟩
theorem RoomStep.sto {w w' : World} {s : Sto} {R' : RoomS} (h : RoomStep s.br w s.R w' R') (kvI kvL : KV) (psI psL bp : List Nat) : StStep w s w' ⟨s.br, s.ib, s.lb, R', kvI, kvL, psI, psL, bp, s.X⟩ := ⟨h.keep9, fun _ e => h.foot9 e, rfl, rfl, rfl, h.pages, rfl⟩
theorem RoomStep.vsto {w w' : World} {s : Sto} {R' : RoomS} (h : RoomStep s.br w s.R w' R') (kvI kvL : KV) (psI psL bp : List Nat) (X : Rest) : VStep w s w' ⟨s.br, s.ib, s.lb, R', kvI, kvL, psI, psL, bp, X⟩ := ⟨h.keep9, fun _ e => h.foot9 e, rfl, rfl, rfl, h.pages⟩
theorem StAt.step {w w' : World} {sb : Nat} {s : Sto} {D D' : Dict} {nz nz' : Nat} {R' : RoomS} (h : StAt w sb s D nz) (hs : RoomStep s.br w s.R w' R') {kvI kvL : KV} {psI psL bp : List Nat} {X : Rest} (hc : Cont R' D' kvI kvL psI psL bp X) (hz : Sized R' kvI kvL bp X nz') :
    StAt w' sb ⟨s.br, s.ib, s.lb, R', kvI, kvL, psI, psL, bp, X⟩ D' nz' := by
  have hk := hs.keep9
  have hf : ∀ k, k < w.heap.size → ¬ s.foot k → ¬ R'.foot s.br k := fun k hk hn e => (hs.foot9 e).elim hn (fun e2 => by omega)
  have l0 := (Gl h.cells)
  have l1 := (Gl h.ti.cells)
  have l2 := (Gl h.tl.cells)
  exact ⟨hk.at h.cells h.nsb, ⟨hk.at h.ti.cells h.nib⟩, ⟨hk.at h.tl.cells h.nlb⟩, hs.at_, hf _ l0 h.nsb, hf _ l1 h.nib, hf _ l2 h.nlb, hc, hz⟩
end Go.Proofs.YtaokjeokpifjgaaGreatDoor

namespace Go.Proofs.YtaokjeokpifjgaaGreatDoor
open Go.RowKit Go.MapKept
attribute [local go_sem] gives givesH
set_option maxRecDepth 100000

theorem results_box3 {P : Program} {fn : Func} {p u v : Tmp} {ty : TypeId} (h : fn.results = #[.cell p ty, .tmp u, .tmp v]) (tmps : Array Value) (w : World) (g : Nat) (t : TypeId) (cs : Array Value) (fr : Nat × Nat) (d : TypeDesc)
    (hp : tmps.getD p undef = .pointer (some ⟨g, 0, none⟩)) (hg : w.heap[g]? = some (.cells cs t fr))
    (hu : P.underlying ty = some d) (hd : (match d with | .struct _ | .array _ _ => true | _ => false) = true) (hi : (P.info? ty).map (·.size) = some cs.size) :
    (results fn tmps).run P w = .ok (.tuple #[.agg cs, tmps.getD u undef, tmps.getD v undef]) w := by
  have hp' : tmps[p]?.getD undef = .pointer (some ⟨g, 0, none⟩) := by simpa using hp
  have e : (results fn tmps).run P w = ((asAddr (tmps.getD p undef)).run P w).andThen fun a w₁ => ((loadVar ty a).run P w₁).andThen fun x w₂ => .ok (.tuple #[x, tmps.getD u undef, tmps.getD v undef]) w₂ := by
    simp only [results, h]
    simp [Sem.run_bind, Result.andThen]
  rw [e]
  simp [hp', asAddr, run_loadVar_row w g t ty cs fr d hg hu hd hi, Result.andThen]
theorem undo_idle (sb : Nat) (mark : Int) (q : Addr) (w : World) (he : w.cell? q = some (.int .i64 0)) (u : FrameMode) :
    CallsD Tryz.prog 160 #[.pointer (some ⟨sb, 0, none⟩), .int .i64 mark, .pointer (some q)] u w fun e u' w' => u' = u ∧ (e = .returned (.tuple #[]) ∧ w' = w) := by
  go_enter_d Tryz.func160, Tryz.ntmps160
  go_wp2
  go_end0
  exact ⟨rfl, rfl⟩
section
variable {w : World} {sb : Nat} {s : Sto} {D : Dict} {nz : Nat}
theorem StAt.c0 (h : StAt w sb s D nz) : w.cell? ⟨sb, 0, none⟩ = some (.pointer (some ⟨s.br, 0, none⟩)) := Lib.cell_of_heap h.cells 0
theorem StAt.c1 (h : StAt w sb s D nz) : w.cell? ⟨sb, 1, none⟩ = some (.pointer (some ⟨s.ib, 0, none⟩)) := Lib.cell_of_heap h.cells 1
theorem StAt.c2 (h : StAt w sb s D nz) : w.cell? ⟨sb, 2, none⟩ = some (.pointer (some ⟨s.lb, 0, none⟩)) := Lib.cell_of_heap h.cells 2
theorem stMark_any (h : StAt w sb s D nz) :
    Calls Tryz.prog 36 #[.pointer (some ⟨sb, 0, none⟩)] w fun e w' => e = .returned (.int .i64 s.R.T.puts.length) ∧ w = w' := by
  have c0 := h.c0
  have H := Hd (rmark_any h.room)
  clear h
  go_enter Tryz.func36, Tryz.ntmps36
  go_wp2_with (go_at_call 40; refine (H.out).mono ?_; rintro e w1 ⟨rfl, rfl⟩)
  go_ret
  exact ⟨rfl, rfl⟩
def nameS (p : ByteArray) (k : Nat) : ByteArray := p ++ ⟨#[UInt8.ofNat k]⟩
theorem nameS_size (p : ByteArray) (k : Nat) : (nameS p k).size = p.size + 1 := by unfold nameS; rw [ByteArray.size_append]; rfl
theorem name_any (p : ByteArray) (hp : p.size ≤ 1000) (k : Nat) (hk : k < 256) (w : World) :
    Calls Tryz.prog 162 #[.string p, .int .i64 k] w fun e w' => e = .returned (.string (nameS p k)) ∧ Below w.heap.size w w' := by
  have hby : Lib.Bytes (w.alloc (.cells #[.int .u8 k] 5)) w.heap.size 0 ⟨#[UInt8.ofNat k]⟩ := by
    intro i hi
    have h1 : (⟨#[UInt8.ofNat k]⟩ : ByteArray).size = 1 := rfl
    obtain rfl : i = 0 := by omega
    rw [Lib.cell_of_heap (heap_alloc_new w _) (0 + 0)]
    show some (Value.int IntKind.u8 (k : Int)) = some (Value.int IntKind.u8 (((UInt8.ofNat k).toNat : Nat) : Int))
    simp
    omega
  have l1 : ∀ c, (convert 121 9 (.slice (some ⟨w.heap.size, 0, none⟩) 1 c)).run Tryz.prog (w.alloc (.cells #[.int .u8 k] 5)) = .ok (.string ⟨#[UInt8.ofNat k]⟩) (w.alloc (.cells #[.int .u8 k] 5)) := fun c =>
    Lib.run_convert_whole (P := Tryz.prog) _ 121 5 9 Tryz.underlying121 Tryz.underlying5 Tryz.underlying9 w.heap.size 0 ⟨#[UInt8.ofNat k]⟩ hby c
  have hcat := run_string_add_sum (P := Tryz.prog) (w.alloc (.cells #[.int .u8 k] 5)) p ⟨#[UInt8.ofNat k]⟩ (by show p.size + 1 ≤ _; omega)
  have hk1 : IntKind.u8.wrap (k : Int) = (k : Int) := by rw [IntKind.wrap_u8]; omega
  have hk2 : (k : Int) % 256 = (k : Int) := by omega
  have hk3 : (k : Int) < 256 := by omega
  unfold nameS
  clear hby
  generalize (⟨#[UInt8.ofNat k]⟩ : ByteArray) = kb at *
  go_enter Tryz.func162, Tryz.ntmps162
  go_wp2
  go_ret
  exact ⟨rfl, (Below.refl _ _).alloc (Nat.le_refl _) _⟩
theorem Sized.kv (h : Sized s.R s.kvI s.kvL s.bp s.X nz) (hn : nz ≤ 2000 ∧ 8 * nz + 200 ≤ s.R.pages) : s.kvI.length ≤ 2000 ∧ s.kvL.length ≤ 2000 ∧ s.R.pages ≤ 65536 := by
  have := h.i; have := h.l; have := h.pages; omega
set_option maxHeartbeats 1000000 in
theorem find_none (h : StAt w sb s D nz) (hn : nz ≤ 2000 ∧ 8 * nz + 200 ≤ s.R.pages) {id : ByteArray} (hid : id.size ≤ 96) (hD : D id = none) :
    Calls Tryz.prog 118 #[.pointer (some ⟨sb, 0, none⟩), .string id] w fun e w' => e = .returned (.tuple #[.agg #[.int .i64 0, .int .i64 0, .int .i64 0], .bool false, .int .i64 0]) ∧ Below w.heap.size w w' := by
  obtain ⟨k1, k2, k3⟩ := h.sized.kv hn
  have hlk := h.cont.gone id hD
  have hb0 : Below w.heap.size w (w.alloc (.cells #[.int .i64 0, .int .i64 0, .int .i64 0] 212)) := (Below.refl _ _).alloc (Nat.le_refl _) _
  have h0 := h.still hb0
  have HG := Hd (tget_is (key := id) h0.ti h0.room (by decide) h0.cont.ti k3 k1)
  rw [hlk] at HG
  have c1 := h0.c1
  have e1 : decide ((96 : Int) < (id.size : Int)) = false := by simp; omega
  have HB0 := Hd hb0
  clear h h0 hlk hb0
  go_enter Tryz.func118, Tryz.ntmps118
  go_wp2_with (go_at_call 87; refine (HG.out).mono ?_; rintro e w1 ⟨rfl, hb1⟩
               have hx : w1.heap[w.heap.size]? = some (.cells #[.int .i64 0, .int .i64 0, .int .i64 0] 212 (0, 0)) := (hb1.block _ (by simp)).trans (heap_alloc_new w _)
               have d0 : w1.cell? ⟨w.heap.size, 0, none⟩ = some (.int .i64 0) := Lib.cell_of_heap hx 0
               have d1 : w1.cell? ⟨w.heap.size, 1, none⟩ = some (.int .i64 0) := Lib.cell_of_heap hx 1
               have d2 : w1.cell? ⟨w.heap.size, 2, none⟩ = some (.int .i64 0) := Lib.cell_of_heap hx 2
               have y0 : w1.frozen? ⟨w.heap.size, 0, none⟩ = false := by simp [World.frozen?, hx]
               have y1 : w1.frozen? ⟨w.heap.size, 1, none⟩ = false := by simp [World.frozen?, hx]
               have y2 : w1.frozen? ⟨w.heap.size, 2, none⟩ = false := by simp [World.frozen?, hx]
               have HX := Hd hx
               have HB1 := Hd (HB0.out.trans (hb1.mono HB0.out.size))
               clear hb1 hx)
  have hx1 := heap_setCell_same w1 w.heap.size 0 _ _ (.int .i64 0) HX.out
  have hx2 := heap_setCell_same _ w.heap.size 1 _ _ (.int .i64 0) hx1
  have hx3 := heap_setCell_same _ w.heap.size 2 _ _ (.int .i64 0) hx2
  refine bodyPost_ret (results_box3 rfl _ _ w.heap.size _ _ _ _ rfl hx3 Tryz.underlying212 rfl (by kernel_rfl)) rfl ?_
  exact ⟨rfl, ((HB1.out.setCell (p := ⟨w.heap.size, 0, none⟩) (Nat.le_refl _) _).setCell (p := ⟨w.heap.size, 1, none⟩) (Nat.le_refl _) _).setCell (p := ⟨w.heap.size, 2, none⟩) (Nat.le_refl _) _⟩
set_option maxHeartbeats 1000000 in
theorem find_some (h : StAt w sb s D nz) (hn : nz ≤ 2000 ∧ 8 * nz + 200 ≤ s.R.pages) {id t : ByteArray} (hid : id.size ≤ 96) (hD : D id = some t) :
    ∃ p, p ∈ s.bp ∧ BlobIn s.R t [p] ∧ 1 ≤ t.size ∧ t.size ≤ 128 ∧ Calls Tryz.prog 118 #[.pointer (some ⟨sb, 0, none⟩), .string id] w fun e w' => e = .returned (.tuple #[.agg #[.int .i64 p, .int .i64 t.size, .int .i64 0], .bool true, .int .i64 0]) ∧ Below w.heap.size w w' := by
  obtain ⟨k1, k2, k3⟩ := h.sized.kv hn
  obtain ⟨p, hp, hlk, hbl, ht1, ht2, -⟩ := h.cont.here id t hD
  refine ⟨p, hp, hbl, ht1, ht2, ?_⟩
  have hp16 : p < 65536 := by have := (h.cont.bh p hp).1; omega
  have hb0 : Below w.heap.size w (w.alloc (.cells #[.int .i64 0, .int .i64 0, .int .i64 0] 212)) := (Below.refl _ _).alloc (Nat.le_refl _) _
  have h0 := h.still hb0
  have HG := Hd (tget_is (key := id) h0.ti h0.room (by decide) h0.cont.ti k3 k1)
  rw [hlk] at HG
  have c1 := h0.c1
  have e1 : decide ((96 : Int) < (id.size : Int)) = false := by simp; omega
  have HB0 := Hd hb0
  have HRd := Hd (fun u => pread_any (fields_hbn (p := p) (n := t.size) (c := 0) (by omega) (by omega) (by decide)) right_hbn u)
  have HV := Hd (show packed hbnK [(p, eS), (t.size, eS), (0, eS)] = chunkV p t.size 0 from rfl)
  rw [HV.out] at HRd
  clear h h0 hlk hb0 hbl hp
  obtain ⟨tz, htz⟩ : ∃ tz, t.size = tz := ⟨_, rfl⟩
  rw [htz] at HG HRd ht1 ht2 ⊢
  generalize chunkV p tz 0 = cv at *
  clear HV htz
  go_enter Tryz.func118, Tryz.ntmps118
  go_wp2_with (first
    | (go_at_call 87; refine (HG.out).mono ?_; rintro e w1 ⟨rfl, hb1⟩
       have hx : w1.heap[w.heap.size]? = some (.cells #[.int .i64 0, .int .i64 0, .int .i64 0] 212 (0, 0)) := (hb1.block _ (by simp)).trans (heap_alloc_new w _)
       have HX := Hd hx
       have HB1 := Hd (HB0.out.trans (hb1.mono HB0.out.size))
       have HZ1 := Hd (show w.heap.size < w1.heap.size from (Gl hx))
       clear hb1 hx)
    | (go_at_call 89; refine (HRd.out _).mono ?_; rintro e w2 ⟨v, rfl, hrow, hb2⟩
       obtain ⟨g, c, rfl, hc1, hc2, hgB⟩ := row_posB hrow (by show 0 < 3; decide)
       have HRow := Hd hrow
       have HB2 := Hd (HB1.out.trans (hb2.mono HB1.out.size))
       have HX2 := Hd ((hb2.block _ HZ1.out).trans HX.out)
       clear hrow hb2))
  have hr0 : w2.cell? ⟨g, 0, none⟩ = some (.int .u64 p) := row_cells HRow.out 0 _ rfl
  have hr1 : w2.cell? ⟨g, 2, none⟩ = some (.int .u64 tz) := row_cells HRow.out 2 _ rfl
  have hr2 : w2.cell? ⟨g, 4, none⟩ = some (.int .u64 0) := row_cells HRow.out 4 _ rfl
  have HGl := Hd (show g < w2.heap.size from (HRow.out.lt g rfl).2)
  have HR0 := Hd hr0
  have HR1 := Hd hr1
  have HR2 := Hd hr2
  have p1 : IntKind.i64.wrap (p : Int) = (p : Int) := wrapI (by omega) (by omega)
  have p2 : IntKind.i64.wrap (tz : Int) = (tz : Int) := wrapI (by omega) (by omega)
  clear hr0 hr1 hr2
  obtain ⟨wb, hwb⟩ : ∃ wb, w.heap.size = wb := ⟨_, rfl⟩
  rw [hwb] at HX2
  have HWb := Hd hwb
  obtain ⟨S, hS⟩ : ∃ S : World → Prop, ∀ u, S u ↔ Keep (fun _ => False) (w2) u := ⟨fun u => Keep (fun _ => False) (w2) u, fun _ => Iff.rfl⟩
  have HS := Hd hS
  clear hS
  refine wp_region_ord 16 [(0, true), (1, true), (2, true), (3, true), (4, true), (5, true), (6, true), (7, true), (8, true), (9, true), (10, true), (11, true), (12, true), (13, true), (14, true), (15, true)] S (by kernel_rfl) (by kernel_rfl) ((HS.out _).2 (Keep.refl _ _).drew) ?_
  iterate 16
    first
      | (refine wpH_passed rfl (by rfl) (fun K hK => ?_); go_simp; refine hK _ ?_; clear hK K)
      | (first
           | refine wpH_read rfl rfl (fun K hK => ?_)
           | refine wpH_readw rfl (by rfl) (fun K hK => ?_)
         apply Exists.intro
         refine ⟨fun u hu => ?_, ?_⟩
         · have hu := (HS.out u).1 hu
           have hr0 : u.cell? ⟨g, 0, none⟩ = some (.int .u64 p) := by rw [hu.cell (p := ⟨g, 0, none⟩) HGl.out (fun e => e)]; exact HR0.out
           have hr1 : u.cell? ⟨g, 2, none⟩ = some (.int .u64 tz) := by rw [hu.cell (p := ⟨g, 2, none⟩) HGl.out (fun e => e)]; exact HR1.out
           have hr2 : u.cell? ⟨g, 4, none⟩ = some (.int .u64 0) := by rw [hu.cell (p := ⟨g, 4, none⟩) HGl.out (fun e => e)]; exact HR2.out
           clear hu
           go_simp
           exact ⟨rfl, rfl⟩
         go_simp
         refine hK _ ?_
         clear hK K)
  refine wpH_nil ?_
  simp only [List.drop_succ_cons, List.drop_zero]
  clear S HS
  have hx2 : w2.drew.heap[wb]? = some (.cells #[.int .i64 0, .int .i64 0, .int .i64 0] 212 (0, 0)) := HX2.out
  generalize hw3 : w2.drew = w3 at *
  have HB3 := Hd (show Below w.heap.size w w3 by rw [← hw3]; exact HB2.out.trans ⟨rfl, rfl, rfl, Nat.le_refl _, fun _ _ => rfl⟩)
  clear hw3
  have d0 : w3.cell? ⟨wb, 0, none⟩ = some (.int .i64 0) := Lib.cell_of_heap hx2 0
  have d1 : w3.cell? ⟨wb, 1, none⟩ = some (.int .i64 0) := Lib.cell_of_heap hx2 1
  have d2 : w3.cell? ⟨wb, 2, none⟩ = some (.int .i64 0) := Lib.cell_of_heap hx2 2
  have y0 : w3.frozen? ⟨wb, 0, none⟩ = false := by simp [World.frozen?, hx2]
  have y1 : w3.frozen? ⟨wb, 1, none⟩ = false := by simp [World.frozen?, hx2]
  have y2 : w3.frozen? ⟨wb, 2, none⟩ = false := by simp [World.frozen?, hx2]
  have HX3 := Hd hx2
  clear hx2
  go_wp2
  have hx4 := heap_setCell_same w3 wb 0 _ _ (.int .i64 p) HX3.out
  have hx5 := heap_setCell_same _ wb 1 _ _ (.int .i64 tz) hx4
  have hx6 := heap_setCell_same _ wb 2 _ _ (.int .i64 0) hx5
  refine bodyPost_ret (results_box3 rfl _ _ wb _ _ _ _ rfl hx6 Tryz.underlying212 rfl (by kernel_rfl)) rfl ?_
  refine ⟨rfl, ?_⟩
  rw [← HWb.out]
  exact ((HB3.out.setCell (p := ⟨w.heap.size, 0, none⟩) (Nat.le_refl _) _).setCell (p := ⟨w.heap.size, 1, none⟩) (Nat.le_refl _) _).setCell (p := ⟨w.heap.size, 2, none⟩) (Nat.le_refl _) _
end
end Go.Proofs.YtaokjeokpifjgaaGreatDoor

namespace Go.Proofs.YtaokjeokpifjgaaGreatDoor
open Go.RowKit Go.MapKept
attribute [local go_sem] gives givesH
set_option maxRecDepth 100000

section
variable {w : World} {sb : Nat} {s : Sto} {D : Dict} {nz : Nat}
set_option maxHeartbeats 1000000 in
theorem sget_none (h : StAt w sb s D nz) (hn : nz ≤ 2000 ∧ 8 * nz + 200 ≤ s.R.pages) {id : ByteArray} (hid : id.size ≤ 96) (hD : D id = none) :
    Calls Tryz.prog 55 #[.pointer (some ⟨sb, 0, none⟩), .string id] w fun e w' => e = .returned (.tuple #[.string ⟨#[]⟩, .int .i64 6]) ∧ Below w.heap.size w w' := by
  have H := Hd (find_none h hn hid hD)
  clear h
  go_enter Tryz.func55, Tryz.ntmps55
  go_wp2_with (go_at_call 118; refine (H.out).mono ?_; rintro e w1 ⟨rfl, hb1⟩)
  go_ret2
  exact ⟨rfl, hb1.alloc hb1.size _⟩
set_option maxHeartbeats 1000000 in
theorem sget_some (h : StAt w sb s D nz) (hn : nz ≤ 2000 ∧ 8 * nz + 200 ≤ s.R.pages) {id t : ByteArray} (hid : id.size ≤ 96) (hD : D id = some t) :
    Calls Tryz.prog 55 #[.pointer (some ⟨sb, 0, none⟩), .string id] w fun e w' => e = .returned (.tuple #[.string t, .int .i64 0]) ∧ Below w.heap.size w w' := by
  obtain ⟨p, hp, hbl, ht1, ht2, hf⟩ := find_some h hn hid hD
  have H := Hd hf
  have HSt := Hd h
  have HG := Hd (fun u (hb : Below w.heap.size w u) => get_ok (h.still hb).room hbl (by omega))
  have e0 : ([p] : List Nat).getD 0 0 = p := rfl
  rw [e0] at HG
  clear h hf hbl hp e0
  go_enter Tryz.func55, Tryz.ntmps55
  go_wp2_with (go_at_call 118; refine (H.out).mono ?_; rintro e w1 ⟨rfl, hb1⟩
               have HB1 := Hd hb1
               clear hb1)
  have hba : Below w.heap.size w (w1.alloc (.cells #[.int .i64 p, .int .i64 t.size, .int .i64 0] 212)) := HB1.out.alloc HB1.out.size _
  have HX := Hd (heap_alloc_new w1 (.cells #[.int .i64 p, .int .i64 t.size, .int .i64 0] 212))
  obtain ⟨w2, hw2⟩ : ∃ w2, w1.alloc (.cells #[.int .i64 p, .int .i64 t.size, .int .i64 0] 212) = w2 := ⟨_, rfl⟩
  rw [hw2] at hba HX ⊢
  have HBa := Hd hba
  have HC0 := Hd ((HSt.out.still hba).c0)
  obtain ⟨xb, hxb⟩ : ∃ xb, w1.heap.size = xb := ⟨_, rfl⟩
  rw [hxb] at HX ⊢
  have HXl := Hd (show xb < w2.heap.size from (Gl HX.out))
  have HSl := Hd (show sb < w2.heap.size from (Array.getElem?_eq_some_iff.1 (HSt.out.still hba).cells).1)
  clear hw2 hba hxb
  obtain ⟨S, hS⟩ : ∃ S : World → Prop, ∀ u, S u ↔ Keep (fun _ => False) (w2) u := ⟨fun u => Keep (fun _ => False) (w2) u, fun _ => Iff.rfl⟩
  have HS := Hd hS
  clear hS
  refine wp_region_whole 11 [(0, true), (1, true), (2, true), (3, true), (4, true), (5, true), (6, false), (7, true), (8, true), (9, true), (10, true)] S (by kernel_rfl) (by kernel_rfl) ((HS.out _).2 (Keep.refl _ _).drew) ?_
  iterate 6
    first
      | (refine wpH_passed rfl (by rfl) (fun K hK => ?_); go_simp; refine hK _ ?_; clear hK K)
      | (first
           | refine wpH_read rfl rfl (fun K hK => ?_)
           | refine wpH_readw rfl (by rfl) (fun K hK => ?_)
         apply Exists.intro
         refine ⟨fun u hu => ?_, ?_⟩
         · have hu := (HS.out u).1 hu
           have c0 : u.cell? ⟨sb, 0, none⟩ = some (.pointer (some ⟨s.br, 0, none⟩)) := by rw [hu.cell (p := ⟨sb, 0, none⟩) HSl.out (fun e => e)]; exact HC0.out
           have d0 : u.cell? ⟨xb, 0, none⟩ = some (.int .i64 p) := by rw [hu.cell (p := ⟨xb, 0, none⟩) HXl.out (fun e => e)]; exact Lib.cell_of_heap HX.out 0
           clear hu
           go_simp
           exact ⟨rfl, rfl⟩
         go_simp
         refine hK _ ?_
         clear hK K)
  first | refine wpH_do rfl rfl (fun K hK => ?_) | refine wpH_dow rfl (by rfl) (fun K hK => ?_)
  go_simp
  go_at_call 50
  refine (HG.out w2.drew (HBa.out.trans ⟨rfl, rfl, rfl, Nat.le_refl _, fun _ _ => rfl⟩)).mono ?_
  rintro e w3 ⟨rfl, hb3⟩
  have hb3' : Below w2.heap.size w2 w3 := ⟨hb3.os, hb3.tape, hb3.output, hb3.size, hb3.block⟩
  have HB3 := Hd (HBa.out.trans (hb3'.mono HBa.out.size))
  refine hK _ _ ((HS.out _).2 (Keep.ofBelow hb3')) ?_
  clear hK K hb3 hb3'
  iterate 4
    first
      | (refine wpH_passed rfl (by rfl) (fun K hK => ?_); go_simp; refine hK _ ?_; clear hK K)
      | (first
           | refine wpH_read rfl rfl (fun K hK => ?_)
           | refine wpH_readw rfl (by rfl) (fun K hK => ?_)
         apply Exists.intro
         refine ⟨fun u hu => ?_, ?_⟩
         · have hu := (HS.out u).1 hu
           have c0 : u.cell? ⟨sb, 0, none⟩ = some (.pointer (some ⟨s.br, 0, none⟩)) := by rw [hu.cell (p := ⟨sb, 0, none⟩) HSl.out (fun e => e)]; exact HC0.out
           have d0 : u.cell? ⟨xb, 0, none⟩ = some (.int .i64 p) := by rw [hu.cell (p := ⟨xb, 0, none⟩) HXl.out (fun e => e)]; exact Lib.cell_of_heap HX.out 0
           clear hu
           go_simp
           exact ⟨rfl, rfl⟩
         go_simp
         refine hK _ ?_
         clear hK K)
  refine wpH_nil ?_
  simp only [List.drop_succ_cons, List.drop_zero]
  clear S HS
  go_wp2
  go_ret2
  exact ⟨rfl, HB3.out⟩
set_option maxHeartbeats 1000000 in
theorem last_any (h : StAt w sb s D nz) (hn : nz ≤ 2000 ∧ 8 * nz + 200 ≤ s.R.pages) (p : ByteArray) (hp : p.size ≤ 1000) (k : Nat) (hk : k < 256) :
    Calls Tryz.prog 163 #[.pointer (some ⟨sb, 0, none⟩), .string p, .int .i64 k] w fun e w' => (∃ b, e = .returned (.tuple #[.bool b, .int .i64 0])) ∧ Below w.heap.size w w' := by
  obtain ⟨k1, k2, k3⟩ := h.sized.kv hn
  have HN := Hd (fun u => name_any p hp k hk u)
  have HSt := Hd h
  have HSc := Hd (fun u (hb : Below w.heap.size w u) (f t : ByteArray) (l : Int) => tscan_any (from_ := f) (to_ := t) (limit := l) (h.still hb).ti (h.still hb).room k3 (by decide) (h.still hb).cont.ti (by omega))
  have hcat := fun u => run_string_add_sum (P := Tryz.prog) u p ⟨#[255, 255]⟩ (by show p.size + 2 ≤ _; omega)
  have HSl := Hd (show sb < w.heap.size from (Gl h.cells))
  clear h
  go_enter Tryz.func163, Tryz.ntmps163
  go_wp2
  obtain ⟨S, hS⟩ : ∃ S : World → Prop, ∀ u, S u ↔ Keep (fun _ => False) (w) u := ⟨fun u => Keep (fun _ => False) (w) u, fun _ => Iff.rfl⟩
  have HS := Hd hS
  clear hS
  refine wp_region_whole 15 [(0, true), (1, true), (2, true), (3, true), (4, true), (5, true), (7, true), (8, true), (6, false), (9, false), (10, true), (11, true), (12, true), (13, true), (14, true)] S (by kernel_rfl) (by kernel_rfl) ((HS.out _).2 (Keep.refl _ _).drew) ?_
  iterate 8
    first
      | (refine wpH_passed rfl (by rfl) (fun K hK => ?_); go_simp; refine hK _ ?_; clear hK K)
      | (first
           | refine wpH_read rfl rfl (fun K hK => ?_)
           | refine wpH_readw rfl (by rfl) (fun K hK => ?_)
         apply Exists.intro
         refine ⟨fun u hu => ?_, ?_⟩
         · have hu := (HS.out u).1 hu
           have c1 : u.cell? ⟨sb, 1, none⟩ = some (.pointer (some ⟨s.ib, 0, none⟩)) := by rw [hu.cell (p := ⟨sb, 1, none⟩) HSl.out (fun e => e)]; exact HSt.out.c1
           clear hu
           go_simp
           exact ⟨rfl, rfl⟩
         go_simp
         refine hK _ ?_
         clear hK K)
  first | refine wpH_do rfl rfl (fun K hK => ?_) | refine wpH_dow rfl (by rfl) (fun K hK => ?_)
  go_simp
  go_at_call 162
  refine (HN.out w.drew).mono ?_
  rintro e w1 ⟨rfl, hb1⟩
  have hb1' : Below w.heap.size w w1 := ⟨hb1.os, hb1.tape, hb1.output, hb1.size, hb1.block⟩
  have HB1 := Hd hb1'
  refine hK _ _ ((HS.out _).2 (Keep.ofBelow hb1')) ?_
  clear hK K hb1 hb1'
  first | refine wpH_do rfl rfl (fun K hK => ?_) | refine wpH_dow rfl (by rfl) (fun K hK => ?_)
  go_simp
  go_at_call 109
  refine (HSc.out w1 HB1.out _ _ _).mono ?_
  rintro e w2 ⟨v, l2, rfl, hrow, -, -, -, hb2⟩
  have hb2' : Below w.heap.size w w2 := HB1.out.trans (hb2.mono HB1.out.size)
  obtain ⟨sa, sc, rfl⟩ := slice_formB hrow
  have HB2 := Hd hb2'
  refine hK _ _ ((HS.out _).2 (Keep.ofBelow hb2')) ?_
  clear hK K hb2 hb2' hrow
  iterate 5
    first
      | (refine wpH_passed rfl (by rfl) (fun K hK => ?_); go_simp; refine hK _ ?_; clear hK K)
      | (first
           | refine wpH_read rfl rfl (fun K hK => ?_)
           | refine wpH_readw rfl (by rfl) (fun K hK => ?_)
         apply Exists.intro
         refine ⟨fun u hu => ?_, ?_⟩
         · have hu := (HS.out u).1 hu
           have c1 : u.cell? ⟨sb, 1, none⟩ = some (.pointer (some ⟨s.ib, 0, none⟩)) := by rw [hu.cell (p := ⟨sb, 1, none⟩) HSl.out (fun e => e)]; exact HSt.out.c1
           clear hu
           go_simp
           exact ⟨rfl, rfl⟩
         go_simp
         refine hK _ ?_
         clear hK K)
  refine wpH_nil ?_
  simp only [List.drop_succ_cons, List.drop_zero]
  clear S HS
  go_wp2
  go_ret2
  exact ⟨⟨_, rfl⟩, HB2.out⟩
end
end Go.Proofs.YtaokjeokpifjgaaGreatDoor

namespace Go.Proofs.YtaokjeokpifjgaaGreatDoor
open Go.RowKit Go.MapKept
attribute [local go_sem] gives givesH
set_option maxRecDepth 100000

theorem infoEnt : (Tryz.prog.info? 260).map (fun i => (i.zero, i.size, i.bytes)) = some (some (.agg #[.string ⟨#[]⟩, .string ⟨#[]⟩, .int .i64 0]), 3, 40) := by kernel_rfl
theorem prV_at {l : KV} {j : Nat} (hj : j < l.length) : (prV l)[j * 2]? = some (.string l[j].1) ∧ (prV l)[j * 2 + 1]? = some (.string l[j].2) := by
  induction l generalizing j with
  | nil => simp at hj
  | cons x t ih =>
    cases j with
    | zero => exact ⟨rfl, rfl⟩
    | succ j =>
      have := ih (j := j) (by simpa using hj)
      have e : prV (x :: t) = Value.string x.1 :: Value.string x.2 :: prV t := rfl
      rw [e, show (j + 1) * 2 = j * 2 + 2 by omega, show j * 2 + 2 + 1 = (j * 2 + 1) + 2 by omega]
      exact this
section
variable {w : World} {sb : Nat} {s : Sto} {D : Dict} {nz : Nat}
set_option maxHeartbeats 4000000 in
theorem first_any (h : StAt w sb s D nz) (hn : nz ≤ 2000 ∧ 8 * nz + 200 ≤ s.R.pages) (limit : Int) :
    Calls Tryz.prog 96 #[.pointer (some ⟨sb, 0, none⟩), .int .i64 limit] w fun e w' => (∃ a m c, m ≤ 2000 ∧ e = .returned (.tuple #[.slice a m c, .int .i64 0])) ∧ Below w.heap.size w w' := by
  obtain ⟨k1, k2, k3⟩ := h.sized.kv hn
  have HSc := Hd (tscan_any (from_ := ⟨#[]⟩) (to_ := ⟨#[]⟩) (limit := limit) h.tl h.room k3 (by decide) h.cont.tl (by omega))
  have HLog := Hd h.cont.log
  have c2 := h.c2
  have HRd := Hd (fun (q : Nat) (id : ByteArray) (hq : q < 2) (hi : id.size ≤ 60) u => pread_any (fields_br (s := q) (id := id) (by omega) (by omega)) right_br u)
  have HKV := Hd k2
  obtain ⟨i0, hi0, hz0, hz1, hz2⟩ := info_parts infoEnt
  have HI := Hd hi0
  have Hz0 := Hd hz0
  have Hz1 := Hd hz1
  have Hz2 := Hd hz2
  clear h k1 k2 k3 hi0 hz0 hz1 hz2
  go_enter Tryz.func96, Tryz.ntmps96
  go_wp2_with (go_at_call 109; refine (HSc.out).mono ?_; rintro e w1 ⟨v, l2, rfl, hrow, hown, hmem, hlen, hb1⟩
               obtain ⟨sa, sc, rfl⟩ := slice_formB hrow
               have HRow := Hd hrow
               have HB1 := Hd hb1
               have HMem := Hd hmem
               have HLen := Hd (show l2.length ≤ 2000 by have := HKV.out; omega)
               clear hrow hown hmem hlen hb1)
  obtain ⟨n, hnn⟩ : ∃ n, l2.length = n := ⟨_, rfl⟩
  rw [hnn] at HRow HLen ⊢
  have HN := Hd hnn
  have hn60 := HLen.out
  clear hnn
  go_loopw [8, 10, 11, 12, 29] (fun o _ _ _ i wr => ∃ k xs, k ≤ n ∧ i = .int .i64 k ∧ wr.ownsRow w1.heap.size 260 3 o k xs ∧ Below w1.heap.size w1 wr) (fun _ _ _ _ i _ => n - (intOf i).toNat)
  case atStart => exact ⟨0, [], by omega, rfl, World.ownsRow_nil _ _ _ _, Below.refl _ _⟩
  case round =>
    obtain ⟨k, xs, hk, rfl, hro, hbel⟩ := hrel
    have HRo := Hd hro
    have HB := Hd hbel
    obtain ⟨oa, oc, hov⟩ := slice_formB hro
    subst hov
    clear hro
    by_cases hlt : k < n
    · have g1 : decide ((k : Int) < (n : Int)) = true := by simp; omega
      have g1' : decide (k < n) = true := by simpa using hlt
      have hrw := HRow.out
      obtain ⟨gs, cs, hs, hc1, hc2, hgB⟩ := row_posB hrw (by omega)
      obtain ⟨e1, e2, e3⟩ := Value.slice.inj hs
      subst e1
      have hkl : k < l2.length := by rw [HN.out]; exact hlt
      obtain ⟨pa, pb⟩ := prV_at hkl
      have hcel : ∀ j u, (prV l2)[j]? = some u → w1.cell? ⟨gs, j, none⟩ = some u := fun j u hu => row_cells hrw j u hu
      have hgl := (hrw.lt gs rfl).2
      have q0 : wr.cell? ⟨gs, k * 2, none⟩ = some (.string l2[k].1) := (hbel.cell (p := ⟨gs, k * 2, none⟩) hgl).trans (hcel _ _ pa)
      have q1 : wr.cell? ⟨gs, k * 2 + 1, none⟩ = some (.string l2[k].2) := (hbel.cell (p := ⟨gs, k * 2 + 1, none⟩) hgl).trans (hcel _ _ pb)
      obtain ⟨q, id, hq, hid, hval⟩ := HLog.out _ (HMem.out _ (List.getElem_mem hkl))
      have hrd := HRd.out q id hq hid
      have hv2 : packed brK [(q, eS), (0, id)] = entryV q id := rfl
      rw [hv2, ← hval] at hrd
      obtain ⟨key, hkey⟩ : ∃ key, l2[k].1 = key := ⟨_, rfl⟩
      obtain ⟨val, hvl⟩ : ∃ val, l2[k].2 = val := ⟨_, rfl⟩
      rw [hkey] at q0
      rw [hvl] at q1 hrd
      have HR2 := Hd hrd
      have hk0 : (k : Int) < (n : Int) := by omega
      have hnl : (n : Int) ≤ 2000 := by omega
      have hq64 : IntKind.u64.wrap (2 * (q : Int)) = 2 * (q : Int) := by rw [IntKind.wrap_u64]; omega
      have hq65 : IntKind.i64.wrap (2 * (q : Int)) = 2 * (q : Int) := wrapI (by omega) (by omega)
      have hq66 : IntKind.i64.wrap (2 * (q : Int) - 1) = 2 * (q : Int) - 1 := wrapI (by omega) (by omega)
      have hq2 : (q : Int) < 2 := by omega
      clear hrd hv2 hval hkey hvl hbel hrw hcel pa pb hs e2 e3
      go_wp2_with (go_at_call 89; refine (HR2.out _).mono ?_; rintro e w2 ⟨v2, rfl, hrow2, hb2⟩
                   obtain ⟨g2, c2', rfl, _, _, hgB2⟩ := row_posB hrow2 (by show 0 < 2; decide)
                   have HRow2 := Hd hrow2
                   have HX2 := Hd ((hb2.block wr.heap.size (by simp)).trans (heap_alloc_new wr _))
                   have HB2 := Hd (show Below wr.heap.size wr w2 from ((Below.refl _ _).alloc (Nat.le_refl _) _).trans (hb2.mono (by simp)))
                   clear hrow2 hb2)
      have hr1 : w2.cell? ⟨g2, 3, none⟩ = some (.string id) := row_cells HRow2.out 3 _ rfl
      have hr0 : w2.cell? ⟨g2, 0, none⟩ = some (.int .u64 q) := row_cells HRow2.out 0 _ rfl
      have HR0 := Hd hr0
      have HR1 := Hd hr1
      have HGl := Hd (show g2 < w2.heap.size ∧ wr.heap.size ≤ g2 from ⟨(HRow2.out.lt g2 rfl).2, by have := (HRow2.out.lt g2 rfl).1; simp at this; omega⟩)
      obtain ⟨xb, hxb⟩ : ∃ xb, wr.heap.size = xb := ⟨_, rfl⟩
      rw [hxb] at HX2 HGl ⊢
      have HXb := Hd hxb
      have HXl := Hd (show xb < w2.heap.size from (Gl HX2.out))
      have HAp := Hd (show ∀ z, (Value.slice oa k oc).ownBlock = some z → z < xb from fun z e => by rw [← HXb.out]; exact (HRo.out.lt z e).2)
      have HRoB := Hd ((Keep.ofBelow (S := fun _ => False) HB2.out).ownsRow HRo.out (fun _ _ e => e))
      clear hr0 hr1 hxb
      obtain ⟨S, hS⟩ : ∃ S : World → Prop, ∀ u, S u ↔ Keep (fun z => (Value.slice oa k oc).ownBlock = some z) (w2) u := ⟨fun u => Keep (fun z => (Value.slice oa k oc).ownBlock = some z) (w2) u, fun _ => Iff.rfl⟩
      have HS := Hd hS
      clear hS
      refine wp_region_ord 17 [(0, true), (1, true), (2, true), (3, true), (4, true), (5, true), (6, true), (7, true), (8, true), (9, true), (10, true), (11, true), (12, true), (13, true), (14, true), (15, false), (16, false)] S (by kernel_rfl) (by kernel_rfl) ((HS.out _).2 (Keep.refl _ _).drew) ?_
      iterate 15
        first
          | (refine wpH_passed rfl (by rfl) (fun K hK => ?_); go_simp; refine hK _ ?_; clear hK K)
          | (first
               | refine wpH_read rfl rfl (fun K hK => ?_)
               | refine wpH_readw rfl (by rfl) (fun K hK => ?_)
             apply Exists.intro
             refine ⟨fun u hu => ?_, ?_⟩
             · have hu := (HS.out u).1 hu
               have hr0 : u.cell? ⟨g2, 0, none⟩ = some (.int .u64 q) := by rw [hu.cell (p := ⟨g2, 0, none⟩) HGl.out.1 (fun e => by have := HAp.out g2 e; have := HGl.out.2; omega)]; exact HR0.out
               have hr1 : u.cell? ⟨g2, 3, none⟩ = some (.string id) := by rw [hu.cell (p := ⟨g2, 3, none⟩) HGl.out.1 (fun e => by have := HAp.out g2 e; have := HGl.out.2; omega)]; exact HR1.out
               have d0 : u.cell? ⟨xb, 0, none⟩ = some (.string key) := by rw [hu.cell (p := ⟨xb, 0, none⟩) HXl.out (fun e => by have := HAp.out xb e; omega)]; exact Lib.cell_of_heap HX2.out 0
               clear hu
               go_simp
               exact ⟨rfl, rfl⟩
             go_simp
             refine hK _ ?_
             clear hK K)
      first | refine wpH_do rfl rfl (fun K hK => ?_) | refine wpH_dow rfl (by rfl) (fun K hK => ?_)
      go_simp
      have ka : Keep (fun z => (Value.slice oa k oc).ownBlock = some z) w2 (w2.alloc (.cells #[.string key, .string id, .int .i64 (2 * (q : Int) - 1)] 260)).drew := ((Keep.refl _ w2).alloc _).drew
      refine hK _ _ ((HS.out _).2 ka) ?_
      clear hK K
      have hrb : ((w2.alloc (.cells #[.string key, .string id, .int .i64 (2 * (q : Int) - 1)] 260)).drew).ownsRow w1.heap.size 260 3 (.slice oa k oc) k xs := (HRoB.out.alloc _).drew
      have HRb := Hd hrb
      have HKa := Hd ka
      clear hrb ka
      first | refine wpH_do rfl rfl (fun K hK => ?_) | refine wpH_dow rfl (by rfl) (fun K hK => ?_)
      refine wp_append_at _ _ 188 (by rfl) w1.heap.size 260 i0 _ 3 40 Tryz.underlying188 HI.out Hz0.out Hz1.out Hz2.out (by rfl) (by decide) _ _ _ (by rfl) HRb.out ⟨w2.heap.size, 0, none⟩ 1 1 [.string key, .string id, .int .i64 (2 * (q : Int) - 1)] (by rfl) (by rfl) (World.news_of_block (cs := #[.string key, .string id, .int .i64 (2 * (q : Int) - 1)]) (t := 260) (fr := (0, 0)) (heap_alloc_new w2 _)) (by simp [Value.oneCell']) (by unfold maxLen; omega) (by omega) (by have h1 := HB.out.size; have h2 := HB2.out.size; show w1.heap.size ≤ (w2.alloc _).heap.size; simp; omega) ?_
      intro v8 w8 hown8 hg8 hloc
      obtain ⟨p8, c8, hsl⟩ := slice_formB hown8
      subst hsl
      have kg := HKa.out.trans ((Keep.refl (fun z => (Value.slice oa k oc).ownBlock = some z) _).grown hg8 (fun z _ e => e)) (fun _ _ e => e)
      have HOw := Hd hown8
      have HB8 := Hd (HB.out.trans ((HB2.out.mono HB.out.size).trans (kg.below (Nat.le_trans HB.out.size HB2.out.size) (fun z hz e => by have := (HRo.out.lt z e).1; omega))))
      refine hK _ _ ((HS.out _).2 kg) ?_
      clear hK K hown8 hg8 hloc kg
      refine wpH_nil ?_
      simp only [List.drop_succ_cons, List.drop_zero]
      clear S HS
      go_wp2
      go_roundw
      case rel => exact ⟨k + 1, _, by omega, by go_num, HOw.out, HB8.out⟩
      case measure => simp [intOf]; omega
    · obtain rfl : k = n := by omega
      clear hbel
      go_wp2
      go_ret2
      exact ⟨⟨oa, k, oc, by omega, rfl⟩, HB1.out.trans (HB.out.mono HB1.out.size)⟩
theorem waits_any (h : StAt w sb s D nz) (hn : nz ≤ 2000 ∧ 8 * nz + 200 ≤ s.R.pages) :
    Calls Tryz.prog 35 #[.pointer (some ⟨sb, 0, none⟩)] w fun e w' => (∃ m : Nat, e = .returned (.tuple #[.int .i64 m, .int .i64 0])) ∧ Below w.heap.size w w' := by
  have H := Hd (first_any h hn 33554432)
  clear h
  go_enter Tryz.func35, Tryz.ntmps35
  go_wp2_with (go_at_call 96; refine (H.out).mono ?_; rintro e w1 ⟨⟨a, m, c, hm, rfl⟩, hb⟩)
  go_ret2
  exact ⟨⟨m, rfl⟩, hb⟩
end
end Go.Proofs.YtaokjeokpifjgaaGreatDoor

namespace Go.Proofs.YtaokjeokpifjgaaGreatDoor
open Go.RowKit Go.MapKept
attribute [local go_sem] gives givesH
set_option maxRecDepth 100000

theorem cnt_lt {f : Nat → Bool} {n q : Nat} (hq : q < n) (h0 : f q = false) : cnt f n < n := by
  induction n with
  | zero => omega
  | succ n ih =>
    rw [cnt_succ]
    have hle : cnt f n ≤ n := cnt_le f n
    by_cases e : q = n
    · subst e; rw [h0]; simp; omega
    · have := ih (by omega)
      have h2 : (f n).toNat ≤ 1 := by cases f n <;> decide
      split <;> omega
theorem blobPut_ok {w : World} {br : Nat} {R : RoomS} (h : RoomAt w br R) (hlen : R.T.puts.length < 100000000000) (s : ByteArray) (hs : s.size ≤ 506) {q : Nat} (hq : q < R.pages) (h0 : R.has q = false) :
    Calls Tryz.prog 45 #[.pointer (some ⟨br, 0, none⟩), .string s] w fun e w' => ∃ R' p, e = .returned (.tuple #[.int .i64 (p : Nat), .int .i64 0]) ∧ RoomStep br w R w' R' ∧ Took R R' [p] ∧ BlobIn R' s [p] ∧ ∃ a, R'.T.puts = R.T.puts ++ a ∧ a.length ≤ 3 := by
  have HM := Hd (rmark_any h)
  have HP := Hd (bput_any h hlen s (by omega))
  have hp1 : pagesB s.size = 1 := by unfold pagesB; rw [if_pos hs]
  have HC := Hd (cnt_lt hq h0)
  have HP1 := Hd hp1
  have e1 : decide ((131072 : Int) < (s.size : Int)) = false := by simp; omega
  clear h h0 hp1
  go_enter Tryz.func45, Tryz.ntmps45
  go_wp2_with (go_at_call 40; refine (HM.out).mono ?_; rintro e w1 ⟨rfl, rfl⟩)
  refine (HP.out).mono ?_
  rintro e w1 (⟨R1, ps, rfl, hst, htook, hb, a, ha, hal⟩ | ⟨R1, rfl, hst, hc, a, ha, hal⟩)
  · obtain ⟨p, rfl⟩ : ∃ p, ps = [p] := by
      have := hb.len
      rw [HP1.out] at this
      match ps, this with
      | [p], _ => exact ⟨p, rfl⟩
    have HST := Hd hst
    have HTo := Hd htook
    have HBl := Hd hb
    have HA := Hd ha
    rw [HP1.out] at hal
    have HAl := Hd hal
    have hpk : ([p] : List Nat).getD 0 0 = p := rfl
    rw [hpk]
    clear hst htook hb ha hal hpk
    go_wp2
    go_ret2
    exact ⟨R1, p, rfl, HST.out, HTo.out, HBl.out, a, HA.out, HAl.out⟩
  · exfalso
    rw [HP1.out] at hc
    have := HC.out
    omega
theorem but_one (a : ByteArray) (ks : List ByteArray) (h : ks.Nodup) : ks.length ≤ (ks.filter (fun k => decide (k ≠ a))).length + 1 := by
  induction ks with
  | nil => simp
  | cons x t ih =>
    obtain ⟨h1, h2⟩ := List.nodup_cons.1 h
    by_cases e : x = a
    · subst e
      have : t.filter (fun k => decide (k ≠ x)) = t := List.filter_eq_self.2 (fun k hk => decide_eq_true (fun e => h1 (e ▸ hk)))
      rw [List.filter_cons_of_neg (by simp), this, List.length_cons]
      omega
    · rw [List.filter_cons_of_pos (by simpa using e), List.length_cons, List.length_cons]
      have := ih h2
      omega
theorem look_many (l : KV) : ∀ (ks : List ByteArray), ks.Nodup → (∀ k ∈ ks, look l k ≠ none) → ks.length ≤ l.length := by
  induction l with
  | nil =>
    intro ks _ h
    cases ks with
    | nil => exact Nat.le_refl _
    | cons k t => exact absurd rfl (h k (by simp))
  | cons x t ih =>
    obtain ⟨a, b⟩ := x
    intro ks hnd h
    have h1 := ih (ks.filter (fun k => decide (k ≠ a))) (hnd.sublist List.filter_sublist) (fun k hk => by
      obtain ⟨hk1, hk2⟩ := List.mem_filter.1 hk
      have := h k hk1
      simp only [look] at this
      rwa [if_neg (fun e => (of_decide_eq_true hk2) e.symm)] at this)
    have h2 := but_one a ks hnd
    rw [List.length_cons]
    omega
theorem nameS_inj {p : ByteArray} {j k : Nat} (hj : j < 256) (hk : k < 256) (h : nameS p j = nameS p k) : j = k := by
  have h1 := congrArg (fun b : ByteArray => b.data.toList) h
  simp only [nameS, ByteArray.data_append, Array.toList_append] at h1
  have h2 := List.append_cancel_left h1
  have h3 : UInt8.ofNat j = UInt8.ofNat k := by simpa using h2
  have h4 := congrArg UInt8.toNat h3
  simp at h4
  omega
theorem names_free {R : RoomS} {D : Dict} {kvI kvL : KV} {psI psL bp : List Nat} {X : Rest} (h : Cont R D kvI kvL psI psL bp X) (hk : kvI.length < 256) (p : ByteArray) (hall : ∀ j, j < 256 → D (nameS p j) ≠ none) : False := by
  have h1 := look_many kvI ((List.range 256).map (nameS p)) (by
    unfold List.Nodup
    rw [List.pairwise_map]
    exact List.pairwise_lt_range.imp_of_mem (fun ha hb hlt e => by
      have := nameS_inj (List.mem_range.1 ha) (List.mem_range.1 hb) e
      omega)) (fun k hk => by
    obtain ⟨j, hj, rfl⟩ := List.mem_map.1 hk
    have hd := hall j (List.mem_range.1 hj)
    cases hc : D (nameS p j) with
    | none => exact absurd hc hd
    | some t =>
      obtain ⟨q, _, h2, _⟩ := h.here _ t hc
      rw [h2]
      exact fun e => by cases e)
  rw [List.length_map, List.length_range] at h1
  omega
section
variable {w : World} {sb : Nat} {s : Sto} {D : Dict} {nz : Nat}
set_option maxHeartbeats 1000000 in
theorem keep_any (h : StAt w sb s D nz) (hn : nz ≤ 2000 ∧ 8 * nz + 200 ≤ s.R.pages) (hki : s.kvI.length + 1 ≤ nz) (hpu : s.R.T.puts.length + 200 ≤ 1000 * nz) {id t : ByteArray} {p : Nat} (hid : id.size ≤ 96) (hp : p ∈ s.bp) (hb : BlobIn s.R t [p]) (h1 : 1 ≤ t.size) (h2 : t.size ≤ 128) (hpx : p ∉ s.X.pages) :
    Calls Tryz.prog 164 #[.pointer (some ⟨sb, 0, none⟩), .string id, .agg #[.int .i64 p, .int .i64 t.size, .int .i64 0]] w fun e w' => e = .returned (.int .i64 0) ∧ ∃ s', StAt w' sb s' (D.upd id t) nz ∧ StStep w s w' s' ∧ s'.kvI.length ≤ s.kvI.length + 1 := by
  have hp16 : p < 65536 := by have := (h.cont.bh p hp).1; have := h.sized.pages; omega
  obtain ⟨k1, k2, k3⟩ := h.sized.kv (by omega)
  have hlen := h.cont.len
  have hz := h.sized
  have HW := Hd (fun (u : World) fb c hfs => pwrite_any (fields_hbn (p := p) (n := t.size) (c := 0) (by omega) (by omega) (by decide)) right_hbn (w := u) (fb := fb) (c := c) hfs)
  have hcv : packed hbnK [(p, eS), (t.size, eS), (0, eS)] = chunkV p t.size 0 := rfl
  rw [hcv] at HW
  have HSt := Hd h
  have HPut := Hd (fun u (hb : Below w.heap.size w u) => tput_is (key := id) (val := chunkV p t.size 0) (h.still hb).ti (h.still hb).nib (h.still hb).room (by have := hz.puts; omega) k3 (by decide) hid (by rw [chunkV_size]; decide) (h.still hb).cont.ti (List.nodup_append.1 h.cont.nd).1 h.cont.all k1 (by have := hz.i; have := hz.l; have := hz.b; have := hz.pages; omega))
  have HX := Hd (fun (R' : RoomS) (ps' new : List Nat) (ht : TurnR s.R R' 0 s.psI new 200) (hT : TreeIs R' 0 (ins s.kvI id (chunkV p t.size 0)) ps') (hpm : ps'.Perm (s.psI ++ new)) => h.cont.index (m := 200) hp hb h1 h2 hpx ht hT hpm)
  have HKi := Hd hki
  have HPu := Hd hpu
  clear h hb hz hcv hlen hki hpu hp
  obtain ⟨tz, htz⟩ : ∃ tz, t.size = tz := ⟨_, rfl⟩
  rw [htz] at HW HPut HX h1 h2 ⊢
  obtain ⟨cv, hcv⟩ : ∃ cv, chunkV p tz 0 = cv := ⟨_, rfl⟩
  rw [hcv] at HW HPut HX
  have p1 : IntKind.u64.wrap (p : Int) = (p : Int) := by rw [IntKind.wrap_u64]; omega
  have p2 : IntKind.u64.wrap (tz : Int) = (tz : Int) := by rw [IntKind.wrap_u64]; omega
  clear hcv htz
  go_enter Tryz.func164, Tryz.ntmps164
  go_wp2_with (fail)
  have hw2 : Below w.heap.size w ((w.alloc (.cells #[.int .i64 p, .int .i64 tz, .int .i64 0] 212)).alloc (.cells #[.int .u64 p, .string ⟨#[]⟩, .int .u64 tz, .string ⟨#[]⟩, .int .u64 0, .string ⟨#[]⟩] 182)) := ((Below.refl _ _).alloc (Nat.le_refl _) _).alloc (by simp) _
  have hh := heap_alloc_new (w.alloc (.cells #[.int .i64 p, .int .i64 tz, .int .i64 0] 212)) (.cells #[.int .u64 p, .string ⟨#[]⟩, .int .u64 tz, .string ⟨#[]⟩, .int .u64 0, .string ⟨#[]⟩] 182)
  rw [World.size_alloc] at hh
  obtain ⟨w2, hw⟩ : ∃ w2, (w.alloc (.cells #[.int .i64 p, .int .i64 tz, .int .i64 0] 212)).alloc (.cells #[.int .u64 p, .string ⟨#[]⟩, .int .u64 tz, .string ⟨#[]⟩, .int .u64 0, .string ⟨#[]⟩] 182) = w2 := ⟨_, rfl⟩
  rw [hw] at hw2 hh ⊢
  have hfs : FldsAt w2 (w.heap.size + 1) [(p, eS), (tz, eS), (0, eS)] := by
    refine ⟨(Gl hh), fun j hj => ?_⟩
    match j, hj with
    | 0, _ => exact ⟨Lib.cell_of_heap hh 0, Lib.cell_of_heap hh 1⟩
    | 1, _ => exact ⟨Lib.cell_of_heap hh 2, Lib.cell_of_heap hh 3⟩
    | 2, _ => exact ⟨Lib.cell_of_heap hh 4, Lib.cell_of_heap hh 5⟩
  have HWr := Hd (HW.out w2 _ 3 hfs)
  have HB2 := Hd hw2
  clear hw hw2 hh hfs
  refine (HWr.out).mono ?_
  rintro e w3 ⟨rfl, hb3⟩
  have hb3' := HB2.out.trans (hb3.mono HB2.out.size)
  have HB3 := Hd hb3'
  have c1 := (HSt.out.still hb3').c1
  clear hb3 hb3'
  go_wp2_with (go_at_call 92; refine (HPut.out w3 HB3.out).mono ?_; rintro e w4 ⟨rfl, R', ps', new, hst, hT, hpm, htu⟩)
  have hc := HX.out R' ps' new htu hT hpm
  have hp9 := htu.pages
  have hrt := htu.root 2 (by decide)
  obtain ⟨a, a1, a2⟩ := htu.puts
  have hz := HSt.out.sized
  have hs3 := HSt.out.still HB3.out
  have hz' : Sized R' (ins s.kvI id cv) s.kvL s.bp s.X nz := ⟨by have := ins_length s.kvI id cv; have := HKi.out; omega, hz.l, hz.b, hz.m, by rw [hp9]; exact hz.pages, by rw [a1, List.length_append]; have := HPu.out; omega, by rw [hrt]; exact hz.root, hz.bx, hz.v⟩
  have hstep := hs3.step hst hc hz'
  have hss := (StStep.still (s := s) HB3.out).trans (hst.sto (ins s.kvI id cv) s.kvL ps' s.psL s.bp)
  go_ret
  exact ⟨rfl, _, hstep, hss, ins_length _ _ _⟩
end
end Go.Proofs.YtaokjeokpifjgaaGreatDoor

namespace Go.Proofs.YtaokjeokpifjgaaGreatDoor
open Go.RowKit Go.MapKept
attribute [local go_sem] gives givesH
set_option maxRecDepth 100000

def Turns (p : Int) : Prop := ∃ s : Nat, 0 < s ∧ s < 32 ∧ bits .and .u64 (IntKind.u64.wrap p) 31 = s
theorem rot32_any (x p : Int) (hp : Turns p) : ∃ y, ∀ w : World, Calls Tryz.prog 293 #[.int .u32 x, .int .i64 p] w fun e w' => e = .returned (.int .u32 y) ∧ w = w' := by
  obtain ⟨s, h0, h1, hs⟩ := hp
  have e1 : IntKind.u64.wrap (32 - (s : Int)) = ((32 - s : Nat) : Int) := by rw [IntKind.wrap_u64]; omega
  have e2 : (32 - (s : Int)) = ((32 - s : Nat) : Int) := by omega
  refine ⟨bits BinOp.or IntKind.u32 (x * 2 ^ s % 4294967296) (x / 2 ^ (32 - s)), fun w => ?_⟩
  go_enter Tryz.func293, Tryz.ntmps293
  go_wp2
  go_ret
  exact ⟨rfl, rfl⟩
theorem turned32_any (x p q r : Int) (hp : Turns (-p)) (hq : Turns (-q)) (hr : Turns (-r)) (w1 : IntKind.i64.wrap (-p) = -p) (w2 : IntKind.i64.wrap (-q) = -q) (w3 : IntKind.i64.wrap (-r) = -r) : ∃ y, ∀ w : World, Calls Tryz.prog 279 #[.int .u32 x, .int .i64 p, .int .i64 q, .int .i64 r] w fun e w' => e = .returned (.int .u32 y) ∧ w = w' := by
  obtain ⟨y1, h1⟩ := rot32_any x (-p) hp
  obtain ⟨y2, h2⟩ := rot32_any x (-q) hq
  obtain ⟨y3, h3⟩ := rot32_any x (-r) hr
  refine ⟨bits .xor .u32 (bits .xor .u32 y1 y2) y3, fun w => ?_⟩
  go_enter Tryz.func279, Tryz.ntmps279
  go_wp2_with (first
    | (go_at_call 293; with_reducible refine (h1 _).mono ?_; rintro e w1 ⟨rfl, rfl⟩)
    | (go_at_call 293; with_reducible refine (h2 _).mono ?_; rintro e w1 ⟨rfl, rfl⟩)
    | (go_at_call 293; with_reducible refine (h3 _).mono ?_; rintro e w1 ⟨rfl, rfl⟩))
  go_ret
  exact ⟨rfl, rfl⟩
theorem run_index_array {P : Program} (t e : TypeId) (n : Nat) (cs : Array Value) (k : IntKind) (i : Nat) (hi : i < n) (v : Value) (hv : cs[i]? = some v) (w : World) (h : P.underlying t = some (.array n e))
    (hz : (sizeOf e).run P w = .ok 1 w) (ha : (isAgg e).run P w = .ok false w) :
    (Instr.index t (.agg cs) (.int k i)).run P w = .ok v w := by
  have hn : (0 : Int) ≤ (i : Int) ∧ (i : Int) < (n : Int) := by omega
  simp [Instr.index, run_underlying h, asIntOf, hn, go_sem, hi, hz, ha, hv]
def cubeL : Array Value := #[.int .u64 4794697085070296209, .int .u64 13096744586791213989, .int .u64 4131703405765792241, .int .u64 10538285296827260629, .int .u64 15566598207151758081, .int .u64 2608012711741390275, .int .u64 8268148720858477054, .int .u64 11230858888332702068, .int .u64 16472876343709550470, .int .u64 1135362055407968716, .int .u64 3308224257782482090, .int .u64 6679025011744409818, .int .u64 10970295157772109421, .int .u64 12683024718762704839, .int .u64 14330467156182405447, .int .u64 489312709404862823, .int .u64 2861767655337697592, .int .u64 5560940570391088403, .int .u64 7280758554198936251, .int .u64 9350256978237205637, .int .u64 11727347735703742027, .int .u64 14000437183109681571, .int .u64 15101387698198873636, .int .u64 17586052440550711408, .int .u64 1847814047869135880, .int .u64 2830643534987574453, .int .u64 4115178123771292234, .int .u64 6601373596217405427, .int .u64 8399075790807196527, .int .u64 9568029438005150216, .int .u64 10430055239000288491, .int .u64 13761210420988836082]
theorem cube_get (i : Nat) (hi : i < 32) : ∃ y : Nat, cubeL[i]? = some (.int .u64 y) ∧ y < 18446744073709551616 := by
  have h : cubeL.toList.all (fun v => match v with | .int .u64 y => decide (0 ≤ y ∧ y < 18446744073709551616) | _ => false) = true := by decide +kernel
  have hz : cubeL.size = 32 := by decide +kernel
  have h1 := List.all_eq_true.1 h cubeL[i] (Array.mem_toList_iff.2 (Array.getElem_mem (by omega)))
  rw [Array.getElem?_eq_getElem (by omega)]
  revert h1
  generalize cubeL[i] = v
  intro h1
  split at h1
  · rename_i y
    have h2 := of_decide_eq_true h1
    exact ⟨y.toNat, by rw [Int.toNat_of_nonneg h2.1], by omega⟩
  · cases h1
theorem cubes_any (i : Nat) (hi : i < 32) : ∃ y : Nat, y < 18446744073709551616 ∧ ∀ w : World, Calls Tryz.prog 294 #[.int .i64 i] w fun e w' => e = .returned (.int .u64 y) ∧ w = w' := by
  obtain ⟨y, hy, hlt⟩ := cube_get i hi
  refine ⟨y, hlt, fun w => ?_⟩
  have l1 := run_index_array (P := Tryz.prog) 372 31 32 cubeL .i64 i hi _ hy w Tryz.underlying372 (by rfl) (by rfl)
  unfold cubeL at l1
  go_enter Tryz.func294, Tryz.ntmps294
  go_wp2
  go_ret
  exact ⟨rfl, rfl⟩
theorem k32_any (i : Nat) (hi : i < 64) : ∃ y, ∀ w : World, Calls Tryz.prog 280 #[.int .i64 i] w fun e w' => e = .returned (.int .u32 y) ∧ w = w' := by
  obtain ⟨c, hc0, hc⟩ := cubes_any (i / 2) (by omega)
  have h2 : ((i / 2 : Nat) : Int) = (i : Int) / 2 := by omega
  rw [h2] at hc
  rcases Nat.mod_two_eq_zero_or_one i with e | e
  · have e1 : (((i : Int) % 2) == 0) = true := by simp; omega
    have e2 : (i : Int) % 2 = 0 := by omega
    clear h2
    refine ⟨(c : Int) / 4294967296, fun w => ?_⟩
    go_enter Tryz.func280, Tryz.ntmps280
    go_wp2_with (go_at_call 294; refine (hc _).mono ?_; rintro e w1 ⟨rfl, rfl⟩)
    go_ret
    exact ⟨rfl, rfl⟩
  · have e1 : (((i : Int) % 2) == 0) = false := by simp; omega
    have e2 : (i : Int) % 2 = 1 := by omega
    clear h2
    refine ⟨(c : Int) % 4294967296, fun w => ?_⟩
    go_enter Tryz.func280, Tryz.ntmps280
    go_wp2_with (go_at_call 294; refine (hc _).mono ?_; rintro e w1 ⟨rfl, rfl⟩)
    go_ret
    exact ⟨rfl, rfl⟩
theorem spread32_any (x : Int) (p q rr : Int) (r : Nat) (hrr : rr = r) (hp : Turns (-p)) (hq : Turns (-q)) (hr : r < 32) (w1 : IntKind.i64.wrap (-p) = -p) (w2 : IntKind.i64.wrap (-q) = -q) : ∃ y, ∀ w : World, Calls Tryz.prog 292 #[.int .u32 x, .int .i64 p, .int .i64 q, .int .i64 rr] w fun e w' => e = .returned (.int .u32 y) ∧ Below w.heap.size w w' := by
  subst hrr
  obtain ⟨y1, h1⟩ := rot32_any x (-p) hp
  obtain ⟨y2, h2⟩ := rot32_any x (-q) hq
  refine ⟨bits .xor .u32 (bits .xor .u32 y1 y2) (x / 2 ^ r), fun w => ?_⟩
  go_enter Tryz.func292, Tryz.ntmps292
  go_wp2
  obtain ⟨C, hC⟩ : ∃ C : World → Prop, ∀ u, C u ↔ Below (w).heap.size (w) u := ⟨fun u => Below (w).heap.size (w) u, fun _ => Iff.rfl⟩
  have F : ∀ u, C u → True := fun u hu => by
    have hu := (hC u).1 hu
    exact trivial
  have step : ∀ u u', C u → Below u.heap.size u u' → C u' := fun u u' hu hb => (hC u').2 (((hC u).1 hu).trans (hb.mono ((hC u).1 hu).size))
  have HC := Hd hC
  have FF := Hd F
  clear hC F
  refine wp_region_inv 13 C (by kernel_rfl) (by kernel_rfl) ((HC.out _).2 (Below.refl _ _).drew) ?_
  simp only [List.take_succ_cons, List.take_zero, List.drop_succ_cons, List.drop_zero]
  repeat
    first
    | (refine wpInv_plain rfl (fun K hK => ?_)
       apply Exists.intro
       refine ⟨fun u hu => ?_, ?_⟩
       · have HU := Hd hu
         skip
         clear hu
         go_simp
         first
           | exact ⟨HU.out, rfl⟩
           | (go_at_call 293; with_reducible refine (h1 _).mono ?_; rintro e w' ⟨rfl, rfl⟩; exact ⟨rfl, HU.out⟩)
           | (go_at_call 293; with_reducible refine (h2 _).mono ?_; rintro e w' ⟨rfl, rfl⟩; exact ⟨rfl, HU.out⟩)
       go_simp
       refine hK _ ?_
       clear hK K)
    | (refine wpInv_passed (by rfl) (fun K hK => ?_); go_simp; refine hK _ ?_; clear hK K)
    | (refine wpInv_wanted (by rfl) (fun K hK => ?_)
       apply Exists.intro
       refine ⟨fun u hu => ?_, ?_⟩
       · have HU := Hd hu
         skip
         clear hu
         go_simp
         first
           | exact ⟨HU.out, rfl⟩
           | (go_at_call 293; with_reducible refine (h1 _).mono ?_; rintro e w' ⟨rfl, rfl⟩; exact ⟨rfl, HU.out⟩)
           | (go_at_call 293; with_reducible refine (h2 _).mono ?_; rintro e w' ⟨rfl, rfl⟩; exact ⟨rfl, HU.out⟩)
       go_simp
       refine hK _ ?_
       clear hK K)
  refine wpInv_nil ?_
  intro w3 hw3
  go_wp2
  go_ret
  exact ⟨rfl, (HC.out _).1 hw3⟩

structure PrAt (w : World) (pb n : Nat) : Prop where
  ex : ∃ cs : Array Value, w.heap[pb]? = some (.cells cs 311 (0, 0)) ∧ cs.size = 25 ∧ (∀ i, i < 24 → ∃ x : Int, cs[i]? = some (.int .u32 x)) ∧ cs[24]? = some (.int .i64 n)
theorem PrAt.cell {w : World} {pb n : Nat} (h : PrAt w pb n) (i : Nat) (hi : i < 24) : ∃ x : Int, w.cell? ⟨pb, i, none⟩ = some (.int .u32 x) := by
  obtain ⟨cs, h1, h2, h3, h4⟩ := h.ex
  obtain ⟨x, hx⟩ := h3 i hi
  exact ⟨x, (Lib.cell_of_heap h1 i).trans hx⟩
theorem PrAt.cellN {w : World} {pb n : Nat} (h : PrAt w pb n) : w.cell? ⟨pb, 24, none⟩ = some (.int .i64 n) := by
  obtain ⟨cs, h1, h2, h3, h4⟩ := h.ex
  exact (Lib.cell_of_heap h1 24).trans h4
theorem PrAt.froz {w : World} {pb n : Nat} (h : PrAt w pb n) (i : Nat) : w.frozen? ⟨pb, i, none⟩ = false := by
  obtain ⟨cs, h1, h2, h3, h4⟩ := h.ex
  simp [World.frozen?, h1]
theorem PrAt.lt {w : World} {pb n : Nat} (h : PrAt w pb n) : pb < w.heap.size := by
  obtain ⟨cs, h1, h2, h3, h4⟩ := h.ex
  exact (Gl h1)
theorem PrAt.set {w : World} {pb n : Nat} (h : PrAt w pb n) (i : Nat) (hi : i < 24) (x : Int) : PrAt (w.setCell ⟨pb, i, none⟩ (.int .u32 x)) pb n := by
  obtain ⟨cs, h1, h2, h3, h4⟩ := h.ex
  refine ⟨_, heap_setCell_same w pb i cs _ _ h1, by simpa using h2, fun j hj => ?_, ?_⟩
  · rw [Array.getElem?_setIfInBounds]
    split
    · rename_i e
      rw [if_pos (by omega)]
      exact ⟨x, rfl⟩
    · exact h3 j hj
  · rw [Array.getElem?_setIfInBounds, if_neg (by omega)]
    exact h4
theorem PrAt.setN {w : World} {pb n : Nat} (h : PrAt w pb n) (m : Nat) : PrAt (w.setCell ⟨pb, 24, none⟩ (.int .i64 m)) pb m := by
  obtain ⟨cs, h1, h2, h3, h4⟩ := h.ex
  refine ⟨_, heap_setCell_same w pb 24 cs _ _ h1, by simpa using h2, fun j hj => ?_, ?_⟩
  · rw [Array.getElem?_setIfInBounds, if_neg (by omega)]
    exact h3 j hj
  · rw [Array.getElem?_setIfInBounds, if_pos rfl, if_pos (by omega)]
theorem PrAt.keep {S : Nat → Prop} {w w' : World} {pb n : Nat} (h : PrAt w pb n) (hk : Keep S w w') (hn : ¬ S pb) : PrAt w' pb n := by
  obtain ⟨cs, h1, h2⟩ := h.ex
  exact ⟨cs, hk.at h1 hn, h2⟩

theorem PrAt.drewN {w : World} {pb n : Nat} (h : PrAt w pb n) (k : Nat) : PrAt (w.drewN k) pb n := ⟨h.ex⟩
set_option maxHeartbeats 1000000 in
theorem later_any {w : World} {pb n : Nat} (h : PrAt w pb n) (t : Nat) (ht : t < 64) :
    Calls Tryz.prog 278 #[.pointer (some ⟨pb, 0, none⟩), .int .i64 t] w fun e w' => (∃ y, e = .returned (.int .u32 y)) ∧ PrAt w' pb n ∧ Keep (fun k => k = pb) w w' := by
  obtain ⟨a, ha⟩ : ∃ a, t % 16 = a := ⟨_, rfl⟩
  obtain ⟨b, hb⟩ : ∃ b, (t + 1) % 16 = b := ⟨_, rfl⟩
  obtain ⟨c, hc⟩ : ∃ c, (t + 9) % 16 = c := ⟨_, rfl⟩
  obtain ⟨d, hd⟩ : ∃ d, (t + 14) % 16 = d := ⟨_, rfl⟩
  have a1 : (t : Int) % 16 = (a : Int) := by omega
  have b1 : ((t : Int) + 1) % 16 = (b : Int) := by omega
  have c1 : ((t : Int) + 9) % 16 = (c : Int) := by omega
  have d1 : ((t : Int) + 14) % 16 = (d : Int) := by omega
  obtain ⟨xa, qa⟩ := h.cell (8 + a) (by omega)
  obtain ⟨xb, qb⟩ := h.cell (8 + b) (by omega)
  obtain ⟨xc, qc⟩ := h.cell (8 + c) (by omega)
  obtain ⟨xd, qd⟩ := h.cell (8 + d) (by omega)
  have a2 : (a : Int) < 16 := by omega
  have b2 : (b : Int) < 16 := by omega
  have c2 : (c : Int) < 16 := by omega
  have d2 : (d : Int) < 16 := by omega
  have t2 : (t : Int) < 64 := by omega
  have f1 := h.froz (8 + a)
  obtain ⟨s1, h1⟩ := spread32_any xb 7 18 3 3 rfl ⟨25, by decide, by decide, by decide +kernel⟩ ⟨14, by decide, by decide, by decide +kernel⟩ (by decide) (by decide) (by decide)
  obtain ⟨s2, h2⟩ := spread32_any xd 17 19 10 10 rfl ⟨15, by decide, by decide, by decide +kernel⟩ ⟨13, by decide, by decide, by decide +kernel⟩ (by decide) (by decide) (by decide)
  have a3 : (t : Int).tmod 16 = (a : Int) := by rw [Int.tmod_eq_emod_of_nonneg (by omega)]; exact a1
  have b3 : ((t : Int) + 1).tmod 16 = (b : Int) := by rw [Int.tmod_eq_emod_of_nonneg (by omega)]; exact b1
  have c3 : ((t : Int) + 9).tmod 16 = (c : Int) := by rw [Int.tmod_eq_emod_of_nonneg (by omega)]; exact c1
  have d3 : ((t : Int) + 14).tmod 16 = (d : Int) := by rw [Int.tmod_eq_emod_of_nonneg (by omega)]; exact d1
  have m1 : IntKind.i64.wrap ((t : Int) + 1) = (t : Int) + 1 := wrapI (by omega) (by omega)
  have m9 : IntKind.i64.wrap ((t : Int) + 9) = (t : Int) + 9 := wrapI (by omega) (by omega)
  have m14 : IntKind.i64.wrap ((t : Int) + 14) = (t : Int) + 14 := wrapI (by omega) (by omega)
  have hlt := h.lt
  obtain ⟨C, hC⟩ : ∃ C : World → Prop, ∀ u, C u ↔ Below (w).heap.size (w) u := ⟨fun u => Below (w).heap.size (w) u, fun _ => Iff.rfl⟩
  have F : ∀ u, C u → u.cell? ⟨pb, 8 + a, none⟩ = some (.int .u32 xa) ∧ u.cell? ⟨pb, 8 + b, none⟩ = some (.int .u32 xb) ∧ u.cell? ⟨pb, 8 + c, none⟩ = some (.int .u32 xc) ∧ u.cell? ⟨pb, 8 + d, none⟩ = some (.int .u32 xd) := fun u hu => by
    have hu := (hC u).1 hu
    exact ⟨(hu.cell (p := ⟨pb, 8 + a, none⟩) hlt).trans qa, (hu.cell (p := ⟨pb, 8 + b, none⟩) hlt).trans qb, (hu.cell (p := ⟨pb, 8 + c, none⟩) hlt).trans qc, (hu.cell (p := ⟨pb, 8 + d, none⟩) hlt).trans qd⟩
  have step : ∀ u u', C u → Below u.heap.size u u' → C u' := fun u u' hu hb => (hC u').2 (((hC u).1 hu).trans (hb.mono ((hC u).1 hu).size))
  have HC := Hd hC
  have FF := Hd F
  clear hC F
  have HP := Hd h
  clear h ha hb hc hd
  go_enter Tryz.func278, Tryz.ntmps278
  go_wp2
  refine wp_region_inv 33 C (by kernel_rfl) (by kernel_rfl) ((HC.out _).2 (Below.refl _ _).drew) ?_
  simp only [List.take_succ_cons, List.take_zero, List.drop_succ_cons, List.drop_zero]
  repeat
    first
    | (refine wpInv_plain rfl (fun K hK => ?_)
       apply Exists.intro
       refine ⟨fun u hu => ?_, ?_⟩
       · have HU := Hd hu
         obtain ⟨ua, ub, uc, ud⟩ := FF.out u hu
         clear hu
         go_simp
         first
           | exact ⟨HU.out, rfl⟩
           | (go_at_call 292; with_reducible refine (h1 _).mono ?_; rintro e w' ⟨rfl, hb⟩; exact ⟨rfl, step _ _ HU.out hb⟩)
           | (go_at_call 292; with_reducible refine (h2 _).mono ?_; rintro e w' ⟨rfl, hb⟩; exact ⟨rfl, step _ _ HU.out hb⟩)
       go_simp
       refine hK _ ?_
       clear hK K)
    | (refine wpInv_passed (by rfl) (fun K hK => ?_); go_simp; refine hK _ ?_; clear hK K)
    | (refine wpInv_wanted (by rfl) (fun K hK => ?_)
       apply Exists.intro
       refine ⟨fun u hu => ?_, ?_⟩
       · have HU := Hd hu
         obtain ⟨ua, ub, uc, ud⟩ := FF.out u hu
         clear hu
         go_simp
         first
           | exact ⟨HU.out, rfl⟩
           | (go_at_call 292; with_reducible refine (h1 _).mono ?_; rintro e w' ⟨rfl, hb⟩; exact ⟨rfl, step _ _ HU.out hb⟩)
           | (go_at_call 292; with_reducible refine (h2 _).mono ?_; rintro e w' ⟨rfl, hb⟩; exact ⟨rfl, step _ _ HU.out hb⟩)
       go_simp
       refine hK _ ?_
       clear hK K)
  refine wpInv_nil ?_
  intro w3 hw3
  have hb3 := (HC.out _).1 hw3
  have hp3 := HP.out.keep (Keep.still hb3) (fun e => e)
  obtain ⟨ua, ub, uc, ud⟩ := FF.out w3 hw3
  have f1 := hp3.froz (8 + a)
  have HP3 := Hd hp3
  have HB3 := Hd hb3
  clear hp3 hb3
  go_wp2
  go_ret
  refine ⟨⟨_, rfl⟩, HP3.out.set _ (by omega) _, ?_⟩
  exact (Keep.ofBelow (S := fun k => k = pb) HB3.out).setCell (fun _ => rfl) _
end Go.Proofs.YtaokjeokpifjgaaGreatDoor

namespace Go.Proofs.YtaokjeokpifjgaaGreatDoor
open Go.RowKit Go.MapKept
attribute [local go_sem] gives givesH
set_option maxRecDepth 100000

theorem PrAt.cellK {w : World} {pb n : Nat} (h : PrAt w pb n) (i : Nat) (hi : i < 24) : ∃ x : Int, ∀ u, Keep (fun _ => False) w u → u.cell? ⟨pb, i, none⟩ = some (.int .u32 x) := by
  obtain ⟨cs, h1, h2, h3, h4⟩ := h.ex
  obtain ⟨x, hx⟩ := h3 i hi
  exact ⟨x, fun u hu => (Lib.cell_of_heap (hu.at h1 (fun e => e)) i).trans hx⟩
theorem turn6 (x : Int) : ∃ y, ∀ w : World, Calls Tryz.prog 279 #[.int .u32 x, .int .i64 6, .int .i64 11, .int .i64 25] w fun e w' => e = .returned (.int .u32 y) ∧ w = w' :=
  turned32_any x 6 11 25 ⟨26, by decide, by decide, by decide +kernel⟩ ⟨21, by decide, by decide, by decide +kernel⟩ ⟨7, by decide, by decide, by decide +kernel⟩ (by decide) (by decide) (by decide)
theorem turn2 (x : Int) : ∃ y, ∀ w : World, Calls Tryz.prog 279 #[.int .u32 x, .int .i64 2, .int .i64 13, .int .i64 22] w fun e w' => e = .returned (.int .u32 y) ∧ w = w' :=
  turned32_any x 2 13 22 ⟨30, by decide, by decide, by decide +kernel⟩ ⟨19, by decide, by decide, by decide +kernel⟩ ⟨10, by decide, by decide, by decide +kernel⟩ (by decide) (by decide) (by decide)
set_option maxHeartbeats 4000000 in
theorem stir_any {w : World} {pb n : Nat} (h : PrAt w pb n) :
    Calls Tryz.prog 256 #[.pointer (some ⟨pb, 0, none⟩)] w fun e w' => e = .returned (.tuple #[]) ∧ PrAt w' pb n ∧ Keep (fun k => k = pb) w w' := by
  obtain ⟨x0, q0⟩ := h.cell 0 (by decide)
  obtain ⟨x1, q1⟩ := h.cell 1 (by decide)
  obtain ⟨x2, q2⟩ := h.cell 2 (by decide)
  obtain ⟨x3, q3⟩ := h.cell 3 (by decide)
  obtain ⟨x4, q4⟩ := h.cell 4 (by decide)
  obtain ⟨x5, q5⟩ := h.cell 5 (by decide)
  obtain ⟨x6, q6⟩ := h.cell 6 (by decide)
  obtain ⟨x7, q7⟩ := h.cell 7 (by decide)
  have HP := Hd h
  clear h
  go_enter Tryz.func256, Tryz.ntmps256
  go_wp2
  go_quiet (fail)
  have HK0 := Hd (show ∃ nd, w.drewN nd = w.drewN nd from ⟨0, rfl⟩)
  clear q0 q1 q2 q3 q4 q5 q6 q7
  go_wp2
  go_loopw [2, 3, 4, 5, 6, 7, 8, 9, 10, 11, 12, 13, 56] (fun va vb vc vd ve vf vg vh _ _ _ _ i wr => (∃ a b c d e f g h : Int, va = .int .u32 a ∧ vb = .int .u32 b ∧ vc = .int .u32 c ∧ vd = .int .u32 d ∧ ve = .int .u32 e ∧ vf = .int .u32 f ∧ vg = .int .u32 g ∧ vh = .int .u32 h) ∧ (∃ k : Nat, k ≤ 64 ∧ i = .int .i64 k) ∧ PrAt wr pb n ∧ Keep (fun k => k = pb) w wr) (fun _ _ _ _ _ _ _ _ _ _ _ _ i _ => 64 - (intOf i).toNat)
  case atStart => exact ⟨⟨_, _, _, _, _, _, _, _, rfl, rfl, rfl, rfl, rfl, rfl, rfl, rfl⟩, ⟨0, by omega, rfl⟩, HP.out.drewN _, Keep.ofBelow ⟨rfl, rfl, rfl, Nat.le_refl _, fun _ _ => rfl⟩⟩
  case round =>
    obtain ⟨⟨a, b, c, d, e, f, g, h, rfl, rfl, rfl, rfl, rfl, rfl, rfl, rfl⟩, ⟨k, hk, rfl⟩, hp, hkp⟩ := hrel
    have HP1 := Hd hp
    have HK1 := Hd hkp
    by_cases hlt : k < 64
    · have g1 : decide ((k : Int) < 64) = true := by simp; omega
      obtain ⟨m, hm⟩ : ∃ m, k % 16 = m := ⟨_, rfl⟩
      have m1 : (k : Int).tmod 16 = (m : Int) := by rw [Int.tmod_eq_emod_of_nonneg (by omega)]; omega
      have m2 : (k : Int) % 16 = (m : Int) := by omega
      have m3 : (m : Int) < 16 := by omega
      obtain ⟨xm, qm⟩ := hp.cell (8 + m) (by omega)
      obtain ⟨y6, T6⟩ := turn6 e
      obtain ⟨y2, T2⟩ := turn2 a
      obtain ⟨yk, TK⟩ := k32_any k hlt
      have HL := Hd (fun u (hu : PrAt u pb n) => later_any hu k hlt)
      clear hm hp hkp
      have k64 : (k : Int) < 64 := by omega
      by_cases h15 : 15 < k
      · have g2 : decide ((15 : Int) < (k : Int)) = true := by simp; omega
        go_wp2_with (first
          | (go_at_call 278; refine (HL.out _ HP1.out).mono ?_; rintro e w3 ⟨⟨y, rfl⟩, hp3, hk3⟩
             have HP3 := Hd hp3
             have HK3 := Hd (HK1.out.trans hk3 (fun _ _ e => e))
             clear hp3 hk3)
          | (go_at_call 279; with_reducible refine (T6 _).mono ?_; rintro e w3 ⟨rfl, rfl⟩)
          | (go_at_call 279; with_reducible refine (T2 _).mono ?_; rintro e w3 ⟨rfl, rfl⟩)
          | (go_at_call 280; with_reducible refine (TK _).mono ?_; rintro e w3 ⟨rfl, rfl⟩))
        exact ⟨⟨⟨_, _, _, _, _, _, _, _, rfl, rfl, rfl, rfl, rfl, rfl, rfl, rfl⟩, ⟨k + 1, by omega, by go_num⟩, HP3.out, HK3.out⟩, by simp [intOf]; omega⟩
      · have g2 : decide ((15 : Int) < (k : Int)) = false := by simp; omega
        go_wp2_with (first
          | (go_at_call 279; with_reducible refine (T6 _).mono ?_; rintro e w3 ⟨rfl, rfl⟩)
          | (go_at_call 279; with_reducible refine (T2 _).mono ?_; rintro e w3 ⟨rfl, rfl⟩)
          | (go_at_call 280; with_reducible refine (TK _).mono ?_; rintro e w3 ⟨rfl, rfl⟩))
        exact ⟨⟨⟨_, _, _, _, _, _, _, _, rfl, rfl, rfl, rfl, rfl, rfl, rfl, rfl⟩, ⟨k + 1, by omega, by go_num⟩, HP1.out, HK1.out⟩, by simp [intOf]; omega⟩
    · obtain rfl : k = 64 := by omega
      clear hp hkp
      go_wp2
      go_loopw [14, 15, 122] (fun _ _ i wr => (∃ k : Nat, k ≤ 8 ∧ i = .int .i64 k) ∧ PrAt wr pb n ∧ Keep (fun k => k = pb) w wr) (fun _ _ i _ => 8 - (intOf i).toNat)
      case atStart => exact ⟨⟨0, by omega, rfl⟩, HP1.out, HK1.out⟩
      case round =>
        obtain ⟨⟨j, hj, rfl⟩, hp, hkp⟩ := hrel
        have HP2 := Hd hp
        have HK2 := Hd hkp
        by_cases hlt : j < 8
        · have g1 : decide ((j : Int) < 8) = true := by simp; omega
          have g1' : decide (j < 8) = true := by simpa using hlt
          obtain ⟨xj, qj⟩ := hp.cellK j (by omega)
          have QJ := Hd qj
          clear qj
          have j8 : (j : Int) < 8 := by omega
          obtain ⟨vj, hvj⟩ : ∃ x : Int, (#[Value.int .u32 a, .int .u32 b, .int .u32 c, .int .u32 d, .int .u32 e, .int .u32 f, .int .u32 g, .int .u32 h] : Array Value)[j]? = some (.int .u32 x) := by
            match j, hlt with
            | 0, _ => exact ⟨_, rfl⟩
            | 1, _ => exact ⟨_, rfl⟩
            | 2, _ => exact ⟨_, rfl⟩
            | 3, _ => exact ⟨_, rfl⟩
            | 4, _ => exact ⟨_, rfl⟩
            | 5, _ => exact ⟨_, rfl⟩
            | 6, _ => exact ⟨_, rfl⟩
            | 7, _ => exact ⟨_, rfl⟩
          have l1 := run_index_array (P := Tryz.prog) 308 224 8 _ .i64 j hlt _ hvj wr Tryz.underlying308 (by rfl) (by rfl)
          clear hp hkp hvj
          go_wp2
          obtain ⟨S, hS⟩ : ∃ S : World → Prop, ∀ u, S u ↔ Keep (fun _ => False) (wr) u := ⟨fun u => Keep (fun _ => False) (wr) u, fun _ => Iff.rfl⟩
          have HS := Hd hS
          clear hS
          refine wp_region_ord 10 [(0, true), (1, true), (2, true), (3, true), (4, true), (5, true), (6, true), (7, true), (8, true), (9, true)] S (by kernel_rfl) (by kernel_rfl) ((HS.out _).2 (Keep.refl _ _).drew) ?_
          iterate 10
            first
              | (refine wpH_passed rfl (by rfl) (fun K hK => ?_); go_simp; refine hK _ ?_; clear hK K)
              | (first
                   | refine wpH_read rfl rfl (fun K hK => ?_)
                   | refine wpH_readw rfl (by rfl) (fun K hK => ?_)
                 apply Exists.intro
                 refine ⟨fun u hu => ?_, ?_⟩
                 · have hu := (HS.out u).1 hu
                   have qj := QJ.out u hu
                   clear hu
                   go_simp
                   exact ⟨rfl, rfl⟩
                 go_simp
                 refine hK _ ?_
                 clear hK K)
          refine wpH_nil ?_
          simp only [List.drop_succ_cons, List.drop_zero]
          have hk4 : Keep (fun _ => False) wr wr.drew := (Keep.refl _ _).drew
          generalize wr.drew = w4 at *
          have hp4 := HP2.out.keep hk4 (fun e => e)
          have qj := QJ.out w4 hk4
          have fj := hp4.froz j
          have HP4 := Hd hp4
          have HK4 := Hd (HK2.out.trans hk4 (fun _ _ e => e.elim))
          clear hp4 hk4 HS S
          go_wp2
          go_roundw
          case rel => exact ⟨_, _, _, _, _, _, _, _, _, _, _, _, _, _, _, _, _, _, ⟨⟨j + 1, by omega, by go_num⟩, HP4.out.set j (by omega) _, HK4.out.setCell (p := ⟨pb, j, none⟩) (fun _ => rfl) _⟩, rfl⟩
          case measure => simp [intOf]; omega
        · obtain rfl : j = 8 := by omega
          go_wp2
          go_end0
          exact ⟨rfl, HP2.out, HK2.out⟩
set_option maxHeartbeats 1000000 in
theorem sput_any {w : World} {pb n : Nat} (h : PrAt w pb n) (hn : n < 64) (c : Int) :
    Calls Tryz.prog 216 #[.pointer (some ⟨pb, 0, none⟩), .int .u8 c] w fun e w' => e = .returned (.tuple #[]) ∧ PrAt w' pb ((n + 1) % 64) ∧ Keep (fun k => k = pb) w w' := by
  obtain ⟨q, hq⟩ : ∃ q, n / 4 = q := ⟨_, rfl⟩
  have q1 : (n : Int).tdiv 4 = (q : Int) := by rw [Int.tdiv_eq_ediv_of_nonneg (by omega)]; omega
  have q2 : (n : Int) / 4 = (q : Int) := by omega
  have q3 : (q : Int) < 16 := by omega
  have qw : IntKind.i64.wrap (q : Int) = (q : Int) := wrapI (by omega) (by omega)
  have n64 : (n : Int) < 64 := by omega
  have cn := h.cellN
  have HP := Hd h
  have HK := Hd (show Keep (fun k => k = pb) w w.drew from (Keep.refl _ _).drew)
  have HPd := Hd (show PrAt w.drew pb n from ⟨h.ex⟩)
  clear h hq
  go_enter Tryz.func216, Tryz.ntmps216
  go_wp2
  obtain ⟨S, hS⟩ : ∃ S : World → Prop, ∀ u, S u ↔ Keep (fun _ => False) (w) u := ⟨fun u => Keep (fun _ => False) (w) u, fun _ => Iff.rfl⟩
  have HS := Hd hS
  clear hS
  refine wp_region_whole 10 [(0, true), (1, true), (2, true), (3, true), (4, true), (5, true), (6, true), (7, true), (8, true), (9, true)] S (by kernel_rfl) (by kernel_rfl) ((HS.out _).2 (Keep.refl _ _).drew) ?_
  iterate 10
    first
      | (refine wpH_passed rfl (by rfl) (fun K hK => ?_); go_simp; refine hK _ ?_; clear hK K)
      | (first
           | refine wpH_read rfl rfl (fun K hK => ?_)
           | refine wpH_readw rfl (by rfl) (fun K hK => ?_)
         apply Exists.intro
         refine ⟨fun u hu => ?_, ?_⟩
         · have hu := (HS.out u).1 hu
           have cn := (HP.out.keep hu (fun e => e)).cellN
           clear hu
           go_simp
           exact ⟨rfl, rfl⟩
         go_simp
         refine hK _ ?_
         clear hK K)
  refine wpH_nil ?_
  simp only [List.drop_succ_cons, List.drop_zero]
  clear HS S
  generalize w.drew = w1 at *
  obtain ⟨xq, cq⟩ := HPd.out.cell (8 + q) (by omega)
  have fq := HPd.out.froz (8 + q)
  have cn1 := HPd.out.cellN
  have fn := HPd.out.froz 24
  by_cases h63 : n = 63
  · subst h63
    clear q1 q2
    go_wp2_with (fail)
    refine (stir_any (n := 64) ((HPd.out.set (8 + q) (by omega) _).setN 64)).mono ?_
    rintro e w3 ⟨rfl, hp3, hk3⟩
    have fn3 := hp3.froz 24
    have cn3 := hp3.cellN
    have HP3 := Hd hp3
    have HK3 := Hd (((HK.out.setCell (p := ⟨pb, 8 + q, none⟩) (fun _ => rfl) _).setCell (p := ⟨pb, 24, none⟩) (fun _ => rfl) _).trans hk3 (fun _ _ e => e))
    clear hp3 hk3
    go_wp2
    go_end0
    exact ⟨rfl, HP3.out.setN 0, HK3.out.setCell (p := ⟨pb, 24, none⟩) (fun _ => rfl) _⟩
  · have g1 : ((n : Int) + 1 == 64) = false := by simp; omega
    have e1 : ((n + 1) % 64 : Nat) = n + 1 := by omega
    have HE := Hd e1
    clear e1
    go_wp2_with (fail)
    go_end0
    refine ⟨rfl, ?_, (HK.out.setCell (p := ⟨pb, 8 + q, none⟩) (fun _ => rfl) _).setCell (p := ⟨pb, 24, none⟩) (fun _ => rfl) _⟩
    rw [HE.out]
    exact (HPd.out.set (8 + q) (by omega) _).setN (n + 1)
end Go.Proofs.YtaokjeokpifjgaaGreatDoor

namespace Go.Proofs.YtaokjeokpifjgaaGreatDoor
open Go.RowKit Go.MapKept
attribute [local go_sem] gives givesH
set_option maxRecDepth 100000

theorem PrAt.of {w : World} {pb n : Nat} {cs : Array Value} (h : w.heap[pb]? = some (.cells cs 311 (0, 0))) (hz : cs.size = 25) (ha : (cs.toList.take 24).all (fun v => match v with | .int .u32 _ => true | _ => false) = true) (hn : cs[24]? = some (.int .i64 n)) : PrAt w pb n := by
  refine ⟨cs, h, hz, fun i hi => ?_, hn⟩
  have hm : cs[i]'(by omega) ∈ cs.toList.take 24 := by
    rw [List.mem_take_iff_getElem]
    exact ⟨i, by simp [hz]; omega, by simp⟩
  have h1 := List.all_eq_true.1 ha _ hm
  rw [Array.getElem?_eq_getElem (by omega)]
  revert h1
  generalize cs[i]'(by omega) = v
  intro h1
  split at h1
  · exact ⟨_, rfl⟩
  · cases h1
structure OutAt (w : World) (ob : Nat) : Prop where
  ex : ∃ cs : Array Value, w.heap[ob]? = some (.cells cs 312 (0, 0)) ∧ cs.size = 32 ∧ ∀ i, i < 32 → ∃ c : Nat, c < 256 ∧ cs[i]? = some (.int .u8 c)
theorem OutAt.bytes {w : World} {ob : Nat} (h : OutAt w ob) : ∃ s : ByteArray, s.size = 32 ∧ Lib.Bytes w ob 0 s := by
  obtain ⟨cs, h1, h2, h3⟩ := h.ex
  have h4 : ∃ f : Nat → Nat, ∀ i, i < 32 → f i < 256 ∧ cs[i]? = some (.int .u8 (f i)) := by
    refine ⟨fun i => if h : i < 32 then (h3 i h).choose else 0, fun i hi => ?_⟩
    simp only [hi, dif_pos]
    exact (h3 i hi).choose_spec
  obtain ⟨f, hf⟩ := h4
  refine ⟨⟨((List.range 32).map (fun i => UInt8.ofNat (f i))).toArray⟩, by show (List.toArray _).size = 32; simp, fun i hi => ?_⟩
  have hi2 : i < 32 := by
    have : (⟨((List.range 32).map (fun i => UInt8.ofNat (f i))).toArray⟩ : ByteArray).size = 32 := by show (List.toArray _).size = 32; simp
    omega
  rw [Nat.zero_add, Lib.cell_of_heap h1 i, (hf i hi2).2]
  have := (hf i hi2).1
  show some (Value.int IntKind.u8 (f i)) = some (Value.int IntKind.u8 (((((List.range 32).map (fun i => UInt8.ofNat (f i))).toArray[i]'(by simp; omega)).toNat : Nat) : Int))
  simp
  omega
theorem OutAt.cell {w : World} {ob : Nat} (h : OutAt w ob) (i : Nat) (hi : i < 32) : ∃ c : Int, w.cell? ⟨ob, i, none⟩ = some (.int .u8 c) := by
  obtain ⟨cs, h1, h2, h3⟩ := h.ex
  obtain ⟨c, _, hc⟩ := h3 i hi
  exact ⟨c, (Lib.cell_of_heap h1 i).trans hc⟩
theorem OutAt.froz {w : World} {ob : Nat} (h : OutAt w ob) (i : Nat) : w.frozen? ⟨ob, i, none⟩ = false := by
  obtain ⟨cs, h1, h2⟩ := h.ex
  simp [World.frozen?, h1]
theorem OutAt.set {w : World} {ob : Nat} (h : OutAt w ob) (i : Nat) (hi : i < 32) (x : Int) (h0 : 0 ≤ x) (h1 : x < 256) : OutAt (w.setCell ⟨ob, i, none⟩ (.int .u8 x)) ob := by
  obtain ⟨cs, k1, k2, k3⟩ := h.ex
  refine ⟨_, heap_setCell_same w ob i cs _ _ k1, by simpa using k2, fun j hj => ?_⟩
  rw [Array.getElem?_setIfInBounds]
  split
  · rw [if_pos (by omega)]
    exact ⟨x.toNat, by omega, by rw [Int.toNat_of_nonneg h0]⟩
  · exact k3 j hj
def prLeft (pb : Nat) (w : World) : Nat := match w.cell? ⟨pb, 24, none⟩ with | some (.int _ n) => ((120 - n) % 64).toNat | _ => 0
set_option maxHeartbeats 4000000 in
theorem print_any (s : ByteArray) (hs : s.size ≤ 1000000) (w : World) :
    Calls Tryz.prog 161 #[.string s] w fun e w' => ∃ t : ByteArray, t.size = 32 ∧ e = .returned (.string t) ∧ Below w.heap.size w w' := by
  obtain ⟨pb, hpb⟩ : ∃ pb, w.heap.size = pb := ⟨_, rfl⟩
  have HPb := Hd hpb
  go_enter Tryz.func161, Tryz.ntmps161
  go_wp2_with (fail)
  go_loopw [4, 13] (fun _ i wr => (∃ k : Nat, k ≤ s.size ∧ i = .int .i64 k) ∧ (∃ n, n < 64 ∧ PrAt wr pb n) ∧ Below w.heap.size w wr) (fun _ i _ => s.size - (intOf i).toNat)
  case atStart => exact ⟨⟨0, by omega, rfl⟩, ⟨0, by omega, PrAt.of (by rw [← hpb]; exact heap_alloc_new w _) rfl rfl rfl⟩, (Below.refl _ _).alloc (Nat.le_refl _) _⟩
  case round =>
    obtain ⟨⟨k, hk, rfl⟩, ⟨n, hn, hp⟩, hb⟩ := hrel
    have HB := Hd hb
    have HPut := Hd (fun c => sput_any hp hn c)
    have HP := Hd hp
    clear hb hp
    have hss : s.size ≤ 9223372036854775807 := by omega
    by_cases hlt : k < s.size
    · have g1 : decide ((k : Int) < (s.size : Int)) = true := by simp; omega
      have hki : (k : Int) < (s.size : Int) := by omega
      go_wp2_with (go_at_call 216; refine (HPut.out _).mono ?_; rintro e w3 ⟨rfl, hp3, hk3⟩)
      have hb3 : Below w.heap.size w w3 := HB.out.trans (hk3.below HB.out.size (fun i hi e => by have := HPb.out; omega))
      exact ⟨⟨⟨k + 1, by omega, by go_num⟩, ⟨_, by omega, hp3⟩, hb3⟩, by simp [intOf]; omega⟩
    · obtain rfl : k = s.size := by omega
      have g1 : decide ((s.size : Int) < (s.size : Int)) = false := by simp
      go_wp2_with (go_at_call 216; refine (HPut.out _).mono ?_; rintro e w3 ⟨rfl, hp3, hk3⟩
                   have HP3 := Hd hp3
                   have HB3 := Hd (show Below w.heap.size w w3 from HB.out.trans (hk3.below HB.out.size (fun i hi e => by have := HPb.out; omega)))
                   clear hp3 hk3)
      clear g1 hk
      go_loopw [] (fun wr => (∃ n, n < 64 ∧ PrAt wr pb n) ∧ Below w.heap.size w wr) (fun wr => prLeft pb wr)
      case atStart => exact ⟨⟨_, by omega, HP3.out⟩, HB3.out⟩
      case round =>
        obtain ⟨⟨n, hn, hp⟩, hb⟩ := hrel
        have HB4 := Hd hb
        have HPut4 := Hd (fun c => sput_any hp hn c)
        have HP4 := Hd hp
        have cn := hp.cellN
        have hml : prLeft pb wr = (120 - n) % 64 := by
          unfold prLeft; rw [cn]; simp only []; omega
        rw [hml]
        have HML := Hd hml
        clear hp hb hml
        by_cases h56 : n = 56
        · subst h56
          go_wp2
          go_loopw [5] (fun i wr => (∃ j : Nat, j ≤ 8 ∧ i = .int .i64 (56 - 8 * (j : Int))) ∧ (∃ n, n < 64 ∧ PrAt wr pb n) ∧ Below w.heap.size w wr) (fun i _ => (intOf i + 16).toNat)
          case atStart => exact ⟨⟨0, by omega, rfl⟩, ⟨56, by omega, HP4.out⟩, HB4.out⟩
          case round =>
            obtain ⟨⟨j, hj, rfl⟩, ⟨n, hn2, hp⟩, hb⟩ := hrel
            have HB5 := Hd hb
            have HPut5 := Hd (fun c => sput_any hp hn2 c)
            have HP5 := Hd hp
            clear hp hb
            have hs8 : (s.size : Int) * 8 < 18446744073709551616 := by omega
            by_cases hlt : j < 8
            · obtain ⟨sh, hsh⟩ : ∃ sh : Nat, (56 : Int) - 8 * (j : Int) = (sh : Int) := ⟨56 - 8 * j, by omega⟩
              rw [hsh]
              have f1 : decide ((0 : Int) ≤ (sh : Int)) = true := by simp
              have hsh56 : (sh : Int) ≤ 56 := by omega
              have HSH := Hd hsh
              clear hsh
              go_wp2_with (go_at_call 216; refine (HPut5.out _).mono ?_; rintro e w3 ⟨rfl, hp3, hk3⟩)
              have hb3 : Below w.heap.size w w3 := HB5.out.trans (hk3.below HB5.out.size (fun i hi e => by have := HPb.out; omega))
              have hsh2 := HSH.out
              exact ⟨⟨⟨j + 1, by omega, by congr 1; omega⟩, ⟨_, by omega, hp3⟩, hb3⟩, by simp [intOf]; omega⟩
            · obtain rfl : j = 8 := by omega
              obtain ⟨ob, hob⟩ : ∃ ob, wr.heap.size = ob := ⟨_, rfl⟩
              have hpl := HP5.out.lt
              have hne : pb ≠ ob := by omega
              have HOb := Hd hob
              have hob2 := HB5.out.size
              have HOb2 := Hd (show w.heap.size ≤ ob by omega)
              clear hpl hob2
              go_wp2
              go_loopw [7, 44] (fun _ i wr => (∃ k : Nat, k ≤ 32 ∧ i = .int .i64 k) ∧ (∃ n, PrAt wr pb n) ∧ OutAt wr ob ∧ Below w.heap.size w wr) (fun _ i _ => 32 - (intOf i).toNat)
              case atStart =>
                refine ⟨⟨0, by omega, rfl⟩, ⟨_, HP5.out.keep (Keep.still ((Below.refl _ _).alloc (Nat.le_refl _) _)) (fun e => e)⟩, ⟨_, by rw [← HOb.out]; exact heap_alloc_new wr _, rfl, fun i hi => ⟨0, by omega, ?_⟩⟩, HB5.out.alloc HB5.out.size _⟩
                have hall : ∀ i, i < 32 → (Array.replicate 32 (Value.int IntKind.u8 0))[i]? = some (Value.int IntKind.u8 ((0 : Nat) : Int)) := fun i hi => by simp [hi]
                exact hall i hi
              case round =>
                obtain ⟨⟨k, hk, rfl⟩, ⟨n2, hp⟩, ho, hb⟩ := hrel
                have HB6 := Hd hb
                have HP6 := Hd hp
                have HO6 := Hd ho
                by_cases hlt : k < 32
                · have g1 : decide ((k : Int) < 32) = true := by simp; omega
                  have g1' : decide (k < 32) = true := by simpa using hlt
                  obtain ⟨q, hq⟩ : ∃ q, k / 4 = q := ⟨_, rfl⟩
                  have q1 : (k : Int).tdiv 4 = (q : Int) := by rw [Int.tdiv_eq_ediv_of_nonneg (by omega)]; omega
                  have q2 : (k : Int) / 4 = (q : Int) := by omega
                  have q3 : (q : Int) < 8 := by omega
                  have qw : IntKind.i64.wrap (q : Int) = (q : Int) := wrapI (by omega) (by omega)
                  obtain ⟨sh, hsh⟩ : ∃ sh : Nat, (24 : Int) - (k : Int) % 4 * 8 = (sh : Int) := ⟨24 - k % 4 * 8, by omega⟩
                  have k4 : (k : Int).tmod 4 = (k : Int) % 4 := by rw [Int.tmod_eq_emod_of_nonneg (by omega)]
                  obtain ⟨xq, cq⟩ := hp.cell q (by omega)
                  obtain ⟨xo, co⟩ := ho.cell k hlt
                  have fo := ho.froz k
                  have k32 : (k : Int) < 32 := by omega
                  clear hp hb ho hq
                  go_wp2
                  have hks : Keep (fun i => i = ob) wr (wr.setCell ⟨ob, k, none⟩ (.int .u8 (xq / 2 ^ sh % 256))) := (Keep.refl (fun i => i = ob) wr).setCell (p := ⟨ob, k, none⟩) (fun _ => rfl) _
                  exact ⟨⟨⟨k + 1, by omega, by go_num⟩, ⟨n2, HP6.out.keep hks hne⟩, HO6.out.set k hlt _ (by omega) (by omega), HB6.out.trans (hks.below HB6.out.size (fun i hi e => by have := HOb2.out; omega))⟩, by simp [intOf]; omega⟩
                · obtain rfl : k = 32 := by omega
                  obtain ⟨t, ht1, ht2⟩ := ho.bytes
                  have hcv : ∀ u, Lib.Bytes u ob 0 t → ∀ c, (convert 121 9 (.slice (some ⟨ob, 0, none⟩) 32 c)).run Tryz.prog u = .ok (.string t) u := fun u hu c => by
                    have := Lib.run_convert_whole (P := Tryz.prog) u 121 5 9 Tryz.underlying121 Tryz.underlying5 Tryz.underlying9 ob 0 t hu c
                    rwa [ht1] at this
                  have l1 := hcv wr ht2 32
                  have HT := Hd ht1
                  clear hp hb ho ht1 ht2 hcv
                  go_wp2
                  go_ret
                  exact ⟨t, HT.out, rfl, HB6.out⟩
        · have g1 : ((n : Int) != 56) = true := by simp; omega
          go_wp2_with (go_at_call 216; refine (HPut4.out _).mono ?_; rintro e w3 ⟨rfl, hp3, hk3⟩)
          have hb3 : Below w.heap.size w w3 := HB4.out.trans (hk3.below HB4.out.size (fun i hi e => by have := HPb.out; omega))
          refine ⟨⟨⟨_, by omega, hp3⟩, hb3⟩, ?_⟩
          have : prLeft pb w3 = (120 - (n + 1) % 64) % 64 := by
            unfold prLeft; rw [hp3.cellN]; simp only []; omega
          rw [this]
          omega
end Go.Proofs.YtaokjeokpifjgaaGreatDoor

namespace Go.Proofs.YtaokjeokpifjgaaGreatDoor
open Go.RowKit Go.MapKept
attribute [local go_sem] gives givesH
set_option maxRecDepth 100000

def Dict.le (D D' : Dict) : Prop := ∀ i u, D i = some u → D' i = some u
theorem Dict.le_refl (D : Dict) : D.le D := fun _ _ h => h
theorem Dict.le_trans {D D' D'' : Dict} (h : D.le D') (k : D'.le D'') : D.le D'' := fun i u e => k i u (h i u e)
theorem Dict.le_upd {D : Dict} {id t : ByteArray} (h : D id = none) : D.le (D.upd id t) := fun i u e => by
  unfold Dict.upd
  by_cases hi : i = id
  · rw [hi, h] at e; cases e
  · rw [if_neg hi]; exact e
def FreeOf (D : Dict) (p : ByteArray) (k : Nat) (f : Int) : Prop := (f = -1 ∧ ∀ j, j < k → D (nameS p j) ≠ none) ∨ ∃ j : Nat, j < 256 ∧ f = j ∧ D (nameS p j) = none
def PutOut (w : World) (sb : Nat) (s : Sto) (D : Dict) (nz : Nat) (t : ByteArray) (e : Ending) (w' : World) : Prop :=
  ∃ id fresh s' D', e = .returned (.tuple #[.string id, .bool fresh, .int .i64 0]) ∧ id.size = 33 ∧ StAt w' sb s' D' (nz + 1) ∧ StStep w s w' s' ∧ D' id = some t ∧ D.le D' ∧ s'.kvI.length ≤ s.kvI.length + 1
section
variable {w : World} {sb : Nat} {s : Sto} {D : Dict} {nz : Nat}
theorem Sized.more (h : Sized s.R s.kvI s.kvL s.bp s.X nz) : Sized s.R s.kvI s.kvL s.bp s.X (nz + 1) := ⟨by have := h.i; omega, by have := h.l; omega, by have := h.b; omega, by have := h.m; omega, h.pages, by have := h.puts; omega, by have := h.root; omega, by have := h.bx; omega, by have := h.v; omega⟩
theorem StAt.more (h : StAt w sb s D nz) : StAt w sb s D (nz + 1) := ⟨h.cells, h.ti, h.tl, h.room, h.nsb, h.nib, h.nlb, h.cont, h.sized.more⟩
theorem StAt.lt (h : StAt w sb s D nz) : sb < w.heap.size := (Gl h.cells)
theorem StAt.aside {eb : Nat} {w' : World} (h : StAt w sb s D nz) (hk : Keep (fun k => k = eb) w w') (h0 : sb ≠ eb) (h1 : s.ib ≠ eb) (h2 : s.lb ≠ eb) (h3 : ¬ s.foot eb) : StAt w' sb s D nz :=
  h.keep hk h0 h1 h2 (fun _ hf e => h3 (e ▸ hf))
theorem StAt.ahead (h : StAt w sb s D nz) : sb < w.heap.size ∧ s.ib < w.heap.size ∧ s.lb < w.heap.size ∧ ∀ k, s.foot k → k < w.heap.size :=
  ⟨h.lt, (Gl h.ti.cells), (Gl h.tl.cells), fun _ hf => h.room.foot_lt9 hf⟩
theorem free_page (h : StAt w sb s D nz) (hn : nz ≤ 2000 ∧ 8 * nz + 200 ≤ s.R.pages) : ∃ q, q < s.R.pages ∧ s.R.has q = false := by
  have h1 := h.cont.len
  have h2 := h.sized
  exact free_of h.cont.all (by have := h2.i; have := h2.l; have := h2.b; have := h2.pages; omega)
set_option maxHeartbeats 8000000 in
theorem sput_st (h : StAt w sb s D nz) (hn : nz ≤ 1950 ∧ 8 * nz + 250 ≤ s.R.pages) (hk8 : s.kvI.length < 256) {t : ByteArray} (h1 : 1 ≤ t.size) (h2 : t.size ≤ 128) :
    Calls Tryz.prog 97 #[.pointer (some ⟨sb, 0, none⟩), .string t] w (PutOut w sb s D nz t) := by
  have hb0 : Below w.heap.size w (w.alloc (.cells #[.int .i64 0] 29)) := (Below.refl _ _).alloc (Nat.le_refl _) _
  have HM := Hd (stMark_any (h.still hb0))
  obtain ⟨mk, hmk⟩ : ∃ mk, s.R.T.puts.length = mk := ⟨_, rfl⟩
  rw [hmk] at HM
  have HSt := Hd h
  have e1 : decide ((t.size : Int) < 1) = false := by simp; omega
  have e2 : decide ((128 : Int) < (t.size : Int)) = false := by simp; omega
  have HB0 := Hd hb0
  have HE0 := Hd (heap_alloc_new w (.cells #[.int .i64 0] 29))
  have HN2 := Hd (show nz ≤ 2000 ∧ 8 * nz + 200 ≤ s.R.pages by omega)
  have HFe := Hd (show ∀ u, Below w.heap.size w u → Calls Tryz.prog 118 #[.pointer (some ⟨sb, 0, none⟩), .string ⟨#[]⟩] u fun e w' => (∃ x b, e = .returned (.tuple #[.agg #[.int .i64 (x : Nat × Nat).1, .int .i64 x.2, .int .i64 0], .bool b, .int .i64 0])) ∧ Below u.heap.size u w' from fun u hu => by
    cases hc : D ⟨#[]⟩ with
    | none => exact (find_none (h.still hu) (by omega) (by decide) hc).mono fun e w' ⟨a, b⟩ => ⟨⟨(0, 0), _, a⟩, b⟩
    | some t' =>
      obtain ⟨p, _, _, _, _, hf⟩ := find_some (h.still hu) (by omega) (id := ⟨#[]⟩) (by decide) hc
      exact hf.mono fun e w' ⟨a, b⟩ => ⟨⟨(p, _), _, a⟩, b⟩)
  have HPr := Hd (fun u => print_any t (by omega) u)
  clear h hb0 hmk
  obtain ⟨eb, heb⟩ : ∃ eb, w.heap.size = eb := ⟨_, rfl⟩
  go_enter_defers Tryz.func97, Tryz.ntmps97
  go_wp2_with (fail)
  refine (HM.out).mono ?_
  rintro e _ ⟨rfl, rfl⟩
  go_wp2_with (fail)
  refine (HFe.out _ HB0.out).mono ?_
  rintro e w1 ⟨⟨x, b, rfl⟩, hb1⟩
  obtain ⟨x1, x2⟩ := x
  have HB1 := Hd (HB0.out.trans (hb1.mono HB0.out.size))
  have HE1 := Hd ((hb1.block w.heap.size (by simp)).trans HE0.out)
  clear hb1
  go_wp2_with (go_at_call 161; refine (HPr.out _).mono ?_; rintro e w2 ⟨p, hp, rfl, hb2⟩)
  have HB2 := Hd (show Below w.heap.size w w2 from (HB1.out.alloc HB1.out.size _).trans (hb2.mono (HB1.out.alloc HB1.out.size _).size))
  have HE2 := Hd ((hb2.block w.heap.size (by have := (Gl HE1.out); simp; omega)).trans ((((Below.refl _ _).alloc (Nat.le_refl _) _ : Below w1.heap.size w1 _).block w.heap.size (Gl HE1.out)).trans HE1.out))
  rw [heb] at HE2
  have HEb := Hd heb
  clear heb hb2
  go_loopw [11, 12, 13, 14, 15, 16, 17, 18, 43] (fun f _ _ _ _ _ _ _ i wr => ∃ (k : Nat) (fr : Int), k ≤ 256 ∧ i = .int .i64 k ∧ f = .int .i64 fr ∧ FreeOf D p k fr ∧ Below w2.heap.size w2 wr) (fun _ _ _ _ _ _ _ _ i _ => 256 - (intOf i).toNat)
  case atStart => exact ⟨0, -1, by omega, rfl, rfl, .inl ⟨rfl, fun j hj => by omega⟩, Below.refl _ _⟩
  case round =>
    obtain ⟨k, fr, hk, rfl, rfl, hfo, hbel⟩ := hrel
    have HBr := Hd (HB2.out.trans (hbel.mono HB2.out.size))
    have HBe := Hd hbel
    have HFo := Hd hfo
    clear hbel hfo
    by_cases hlt : k < 256
    · have g1 : decide ((k : Int) < 256) = true := by simp; omega
      have HNk := Hd (fun u => name_any p (by omega) k hlt u)
      have hns : (nameS p k).size ≤ 96 := by rw [nameS_size]; omega
      cases hc : D (nameS p k) with
      | none =>
        have HFi := Hd (fun u (hu : Below w.heap.size w u) => find_none (HSt.out.still hu) HN2.out hns hc)
        have HLa := Hd (fun u (hu : Below w.heap.size w u) => last_any (HSt.out.still hu) HN2.out p (by omega) k hlt)
        have HC := Hd hc
        clear hc hns
        rcases HFo.out with ⟨rfl, hall⟩ | ⟨j, hj, rfl, hjn⟩
        · clear hall
          go_wp2_with (first
            | (go_at_call 162; refine (HNk.out _).mono ?_; rintro e w3 ⟨rfl, hb3⟩
               have HB3 := Hd (HBr.out.trans (hb3.mono HBr.out.size))
               have HB3' := Hd (HBe.out.trans (hb3.mono HBe.out.size))
               clear hb3)
            | (go_at_call 118; refine (HFi.out _ HB3.out).mono ?_; rintro e w4 ⟨rfl, hb4⟩
               have HB4 := Hd ((HB3.out.trans (hb4.mono HB3.out.size)).alloc (HB3.out.trans (hb4.mono HB3.out.size)).size (.cells #[.int .i64 0, .int .i64 0, .int .i64 0] 212))
               have HB4' := Hd ((HB3'.out.trans (hb4.mono HB3'.out.size)).alloc (HB3'.out.trans (hb4.mono HB3'.out.size)).size (.cells #[.int .i64 0, .int .i64 0, .int .i64 0] 212))
               clear hb4)
            | (go_at_call 163; refine (HLa.out _ HB4.out).mono ?_; rintro e w5 ⟨⟨b5, rfl⟩, hb5⟩
               have HBz := Hd (HB4.out.trans (hb5.mono HB4.out.size))
               have HB5' := Hd (HB4'.out.trans (hb5.mono HB4'.out.size))
               have HEz := Hd ((HB5'.out.block eb (Gl HE2.out)).trans HE2.out)
               clear hb5
               obtain ⟨q0, hq0, hq1⟩ := free_page HSt.out (by omega)
               have HBP := Hd (blobPut_ok ((HSt.out.still HBz.out).room) (by have := HSt.out.sized.puts; omega) t (by omega) hq0 hq1)
               have cz0 := (HSt.out.still HBz.out).c0
               have ez0 : w5.cell? ⟨eb, 0, none⟩ = some (.int .i64 0) := Lib.cell_of_heap HEz.out 0
               have yz0 : w5.frozen? ⟨eb, 0, none⟩ = false := froz_of HEz.out
               have HZl := Hd (show eb < w5.heap.size from (Gl HEz.out))
               clear hq0 hq1
               cases b5))
          · exact ⟨⟨k + 1, k, by omega, by go_num, rfl, .inr ⟨k, hlt, rfl, HC.out⟩, HB5'.out⟩, by simp [intOf]; omega⟩
          · have HNm := Hd (fun u => name_any p (by omega) k (by omega) u)
            refine (HBP.out).mono ?_
            rintro e w4 ⟨R', pg, rfl, hst, htk, hbl, a, a1, a2⟩
            have hz := HSt.out.sized
            have hR9 := hst.pages
            have hcb := HSt.out.cont.blob htk ((HSt.out.room).pages_le) hR9
            have hs4 := (HSt.out.still HBz.out).step hst hcb (nz' := nz + 1) ⟨by have := hz.i; omega, by have := hz.l; omega, by rw [List.length_append]; have := hz.b; simp; omega, by have := hz.m; omega, by rw [hR9]; exact hz.pages, by rw [a1, List.length_append]; have := hz.puts; omega, by rw [zero_root htk.zero]; have := hz.root; omega, by rw [List.length_append]; have := hz.bx; simp; omega, by have := hz.v; omega⟩
            have hss4 := (StStep.still (s := s) HBz.out).trans (hst.sto s.kvI s.kvL s.psI s.psL (s.bp ++ [pg]))
            obtain ⟨ah1, ah2, ah3, ah4⟩ := HSt.out.ahead
            have hne : ¬ s.foot eb := fun e => by have := ah4 _ e; have := HEb.out; omega
            have hnf4 : ¬ R'.foot s.br eb := fun e => (hst.foot9 e).elim hne (fun e2 => by have := HZl.out; omega)
            have HE4 := Hd (hst.keep9.at HEz.out hne)
            have ez4 : w4.cell? ⟨eb, 0, none⟩ = some (.int .i64 0) := Lib.cell_of_heap HE4.out 0
            have yz4 : w4.frozen? ⟨eb, 0, none⟩ = false := froz_of HE4.out
            have HK5 := Hd (show Keep (fun k => k = eb) w4 (w4.setCell ⟨eb, 0, none⟩ (.int .i64 0)) from (Keep.refl (fun k => k = eb) w4).setCell (p := ⟨eb, 0, none⟩) (fun _ => rfl) _)
            have hs5 := hs4.aside HK5.out (by have := HEb.out; omega) (by show s.ib ≠ eb; have := HEb.out; omega) (by show s.lb ≠ eb; have := HEb.out; omega) hnf4
            have hss5 : StStep w s (w4.setCell ⟨eb, 0, none⟩ (.int .i64 0)) ⟨s.br, s.ib, s.lb, R', s.kvI, s.kvL, s.psI, s.psL, s.bp ++ [pg], s.X⟩ := ⟨hss4.keep.trans HK5.out (fun i hi e => by have := HEb.out; omega), hss4.foot, rfl, rfl, rfl, hR9, rfl⟩
            have ez5 : (w4.setCell ⟨eb, 0, none⟩ (.int .i64 0)).cell? ⟨eb, 0, none⟩ = some (.int .i64 0) := World.cell?_setCell_same _ _ _ ez4
            have HE5 := Hd (heap_setCell_same w4 eb 0 _ _ (.int .i64 0) HE4.out)
            have HS5 := Hd hs5
            have HSS5 := Hd hss5
            have HBl := Hd (show BlobIn R' t [pg] from hbl)
            have HPu5 := Hd (show R'.T.puts.length + 200 ≤ 1000 * (nz + 1) by rw [a1, List.length_append]; have := hz.puts; omega)
            have HR9 := Hd hR9
            have HPx := Hd (show pg ∉ s.X.pages from fun e => by have h5 := (HSt.out.cont.bh pg (HSt.out.cont.xin pg e)).2; rw [(htk.new pg (by simp)).2] at h5; cases h5)
            have HNf := Hd hnf4
            have HKi5 := Hd (show s.kvI.length + 1 ≤ nz + 1 by have := hz.i; omega)
            clear hst htk hbl a1 a2 hz hR9 hcb hs4 hss4 ah1 ah2 ah3 ah4 hne hnf4 hs5 hss5 cz0 ez0 yz0
            go_wp2_with (fail)
            refine (HNm.out _).mono ?_
            rintro e w6 ⟨rfl, hb6⟩
            have HKp := Hd (keep_any (HS5.out.still hb6) (by show nz + 1 ≤ 2000 ∧ 8 * (nz + 1) + 200 ≤ R'.pages; have := HR9.out; omega) HKi5.out HPu5.out (id := nameS p k) (t := t) (p := pg) (by rw [nameS_size]; omega) (by simp) HBl.out h1 h2 HPx.out)
            have HE6 := Hd ((hb6.block eb (by have := (Gl HE5.out); exact this)).trans HE5.out)
            have HSS6 := Hd (HSS5.out.trans (StStep.still hb6))
            have HZ6 := Hd (show eb < w6.heap.size from (Gl HE6.out))
            clear hb6 ez4 ez5 yz4
            go_wp2_with (fail)
            refine (HKp.out).mono ?_
            rintro e w7 ⟨rfl, s7, hst7, hss7, hkv7⟩
            have HE7 := Hd (hss7.keep.at HE6.out (fun e => HNf.out e))
            have HSS7 := Hd (HSS6.out.trans hss7)
            have HNf7 := Hd (show ¬ s7.foot eb from fun e => (hss7.foot eb e).elim HNf.out (fun e2 => by have := HZ6.out; omega))
            have HS7 := Hd hst7
            have HAh7 := Hd (show sb ≠ eb ∧ s7.ib ≠ eb ∧ s7.lb ≠ eb from by have h8 := HSS7.out.ib; have h9 := HSS7.out.lb; have := HSt.out.ahead; have := HEb.out; omega)
            clear hst7 hss7
            go_wp2_with (fail)
            refine (HNm.out _).mono ?_
            rintro e w8 ⟨rfl, hb8⟩
            have HE8 := Hd ((hb8.block eb (by have := (Gl HE7.out); exact this)).trans HE7.out)
            have ez8 : w8.cell? ⟨eb, 0, none⟩ = some (.int .i64 0) := Lib.cell_of_heap HE8.out 0
            have yz8 : w8.frozen? ⟨eb, 0, none⟩ = false := froz_of HE8.out
            have HS8 := Hd (HS7.out.still hb8)
            have HSS8 := Hd (HSS7.out.trans (StStep.still hb8))
            clear hb8
            go_wp2_with (fail)
            have e9 : (w8.setCell ⟨eb, 0, none⟩ (.int .i64 0)).cell? ⟨eb, 0, none⟩ = some (.int .i64 0) := World.cell?_setCell_same _ _ _ ez8
            have hk9 : Keep (fun k => k = eb) w8 (w8.setCell ⟨eb, 0, none⟩ (.int .i64 0)) := (Keep.refl (fun k => k = eb) w8).setCell (p := ⟨eb, 0, none⟩) (fun _ => rfl) _
            have HKeep9 := Hd hk9
            clear hk9
            refine leaves_cons (f := 160) (args := #[.pointer (some ⟨sb, 0, none⟩), .int .i64 mk, .pointer (some ⟨eb, 0, none⟩)]) (by simp) (by simp [go_sem]) ?_
            refine (undo_idle _ _ _ _ e9 _).mono ?_
            rintro e u' w'' ⟨rfl, rfl, rfl⟩
            have e99 := e9
            simp [Leaves, settle, results, Tryz.results97, go_sem, e99]
            exact ⟨nameS p k, true, s7, D.upd (nameS p k) t, rfl, by rw [nameS_size]; omega, HS8.out.aside HKeep9.out HAh7.out.1 HAh7.out.2.1 HAh7.out.2.2 HNf7.out, ⟨HSS8.out.keep.trans HKeep9.out (fun i hi e => by have := HEb.out; omega), HSS8.out.foot, HSS8.out.ib, HSS8.out.lb, HSS8.out.br, HSS8.out.pg, HSS8.out.X⟩, by unfold Dict.upd; rw [if_pos rfl], Dict.le_upd HC.out, hkv7⟩
        · have HJ := Hd hjn
          clear hjn
          have g2 : decide ((j : Int) < 0) = false := by simp
          go_wp2_with (first
            | (go_at_call 162; refine (HNk.out _).mono ?_; rintro e w3 ⟨rfl, hb3⟩
               have HB3 := Hd (HBr.out.trans (hb3.mono HBr.out.size))
               have HB3' := Hd (HBe.out.trans (hb3.mono HBe.out.size))
               clear hb3)
            | (go_at_call 118; refine (HFi.out _ HB3.out).mono ?_; rintro e w4 ⟨rfl, hb4⟩
               have HB4 := Hd ((HB3.out.trans (hb4.mono HB3.out.size)).alloc (HB3.out.trans (hb4.mono HB3.out.size)).size (.cells #[.int .i64 0, .int .i64 0, .int .i64 0] 212))
               have HB4' := Hd ((HB3'.out.trans (hb4.mono HB3'.out.size)).alloc (HB3'.out.trans (hb4.mono HB3'.out.size)).size (.cells #[.int .i64 0, .int .i64 0, .int .i64 0] 212))
               clear hb4)
            | (go_at_call 163; refine (HLa.out _ HB4.out).mono ?_; rintro e w5 ⟨⟨b5, rfl⟩, hb5⟩
               have HBz := Hd (HB4.out.trans (hb5.mono HB4.out.size))
               have HB5' := Hd (HB4'.out.trans (hb5.mono HB4'.out.size))
               have HEz := Hd ((HB5'.out.block eb (Gl HE2.out)).trans HE2.out)
               clear hb5
               obtain ⟨q0, hq0, hq1⟩ := free_page HSt.out (by omega)
               have HBP := Hd (blobPut_ok ((HSt.out.still HBz.out).room) (by have := HSt.out.sized.puts; omega) t (by omega) hq0 hq1)
               have cz0 := (HSt.out.still HBz.out).c0
               have ez0 : w5.cell? ⟨eb, 0, none⟩ = some (.int .i64 0) := Lib.cell_of_heap HEz.out 0
               have yz0 : w5.frozen? ⟨eb, 0, none⟩ = false := froz_of HEz.out
               have HZl := Hd (show eb < w5.heap.size from (Gl HEz.out))
               clear hq0 hq1
               cases b5))
          · exact ⟨⟨k + 1, j, by omega, by go_num, rfl, .inr ⟨j, hj, rfl, HJ.out⟩, HB5'.out⟩, by simp [intOf]; omega⟩
          · have HNm := Hd (fun u => name_any p (by omega) j (by omega) u)
            refine (HBP.out).mono ?_
            rintro e w4 ⟨R', pg, rfl, hst, htk, hbl, a, a1, a2⟩
            have hz := HSt.out.sized
            have hR9 := hst.pages
            have hcb := HSt.out.cont.blob htk ((HSt.out.room).pages_le) hR9
            have hs4 := (HSt.out.still HBz.out).step hst hcb (nz' := nz + 1) ⟨by have := hz.i; omega, by have := hz.l; omega, by rw [List.length_append]; have := hz.b; simp; omega, by have := hz.m; omega, by rw [hR9]; exact hz.pages, by rw [a1, List.length_append]; have := hz.puts; omega, by rw [zero_root htk.zero]; have := hz.root; omega, by rw [List.length_append]; have := hz.bx; simp; omega, by have := hz.v; omega⟩
            have hss4 := (StStep.still (s := s) HBz.out).trans (hst.sto s.kvI s.kvL s.psI s.psL (s.bp ++ [pg]))
            obtain ⟨ah1, ah2, ah3, ah4⟩ := HSt.out.ahead
            have hne : ¬ s.foot eb := fun e => by have := ah4 _ e; have := HEb.out; omega
            have hnf4 : ¬ R'.foot s.br eb := fun e => (hst.foot9 e).elim hne (fun e2 => by have := HZl.out; omega)
            have HE4 := Hd (hst.keep9.at HEz.out hne)
            have ez4 : w4.cell? ⟨eb, 0, none⟩ = some (.int .i64 0) := Lib.cell_of_heap HE4.out 0
            have yz4 : w4.frozen? ⟨eb, 0, none⟩ = false := froz_of HE4.out
            have HK5 := Hd (show Keep (fun k => k = eb) w4 (w4.setCell ⟨eb, 0, none⟩ (.int .i64 0)) from (Keep.refl (fun k => k = eb) w4).setCell (p := ⟨eb, 0, none⟩) (fun _ => rfl) _)
            have hs5 := hs4.aside HK5.out (by have := HEb.out; omega) (by show s.ib ≠ eb; have := HEb.out; omega) (by show s.lb ≠ eb; have := HEb.out; omega) hnf4
            have hss5 : StStep w s (w4.setCell ⟨eb, 0, none⟩ (.int .i64 0)) ⟨s.br, s.ib, s.lb, R', s.kvI, s.kvL, s.psI, s.psL, s.bp ++ [pg], s.X⟩ := ⟨hss4.keep.trans HK5.out (fun i hi e => by have := HEb.out; omega), hss4.foot, rfl, rfl, rfl, hR9, rfl⟩
            have ez5 : (w4.setCell ⟨eb, 0, none⟩ (.int .i64 0)).cell? ⟨eb, 0, none⟩ = some (.int .i64 0) := World.cell?_setCell_same _ _ _ ez4
            have HE5 := Hd (heap_setCell_same w4 eb 0 _ _ (.int .i64 0) HE4.out)
            have HS5 := Hd hs5
            have HSS5 := Hd hss5
            have HBl := Hd (show BlobIn R' t [pg] from hbl)
            have HPu5 := Hd (show R'.T.puts.length + 200 ≤ 1000 * (nz + 1) by rw [a1, List.length_append]; have := hz.puts; omega)
            have HR9 := Hd hR9
            have HPx := Hd (show pg ∉ s.X.pages from fun e => by have h5 := (HSt.out.cont.bh pg (HSt.out.cont.xin pg e)).2; rw [(htk.new pg (by simp)).2] at h5; cases h5)
            have HNf := Hd hnf4
            have HKi5 := Hd (show s.kvI.length + 1 ≤ nz + 1 by have := hz.i; omega)
            clear hst htk hbl a1 a2 hz hR9 hcb hs4 hss4 ah1 ah2 ah3 ah4 hne hnf4 hs5 hss5 cz0 ez0 yz0
            go_wp2_with (fail)
            refine (HNm.out _).mono ?_
            rintro e w6 ⟨rfl, hb6⟩
            have HKp := Hd (keep_any (HS5.out.still hb6) (by show nz + 1 ≤ 2000 ∧ 8 * (nz + 1) + 200 ≤ R'.pages; have := HR9.out; omega) HKi5.out HPu5.out (id := nameS p j) (t := t) (p := pg) (by rw [nameS_size]; omega) (by simp) HBl.out h1 h2 HPx.out)
            have HE6 := Hd ((hb6.block eb (by have := (Gl HE5.out); exact this)).trans HE5.out)
            have HSS6 := Hd (HSS5.out.trans (StStep.still hb6))
            have HZ6 := Hd (show eb < w6.heap.size from (Gl HE6.out))
            clear hb6 ez4 ez5 yz4
            go_wp2_with (fail)
            refine (HKp.out).mono ?_
            rintro e w7 ⟨rfl, s7, hst7, hss7, hkv7⟩
            have HE7 := Hd (hss7.keep.at HE6.out (fun e => HNf.out e))
            have HSS7 := Hd (HSS6.out.trans hss7)
            have HNf7 := Hd (show ¬ s7.foot eb from fun e => (hss7.foot eb e).elim HNf.out (fun e2 => by have := HZ6.out; omega))
            have HS7 := Hd hst7
            have HAh7 := Hd (show sb ≠ eb ∧ s7.ib ≠ eb ∧ s7.lb ≠ eb from by have h8 := HSS7.out.ib; have h9 := HSS7.out.lb; have := HSt.out.ahead; have := HEb.out; omega)
            clear hst7 hss7
            go_wp2_with (fail)
            refine (HNm.out _).mono ?_
            rintro e w8 ⟨rfl, hb8⟩
            have HE8 := Hd ((hb8.block eb (by have := (Gl HE7.out); exact this)).trans HE7.out)
            have ez8 : w8.cell? ⟨eb, 0, none⟩ = some (.int .i64 0) := Lib.cell_of_heap HE8.out 0
            have yz8 : w8.frozen? ⟨eb, 0, none⟩ = false := froz_of HE8.out
            have HS8 := Hd (HS7.out.still hb8)
            have HSS8 := Hd (HSS7.out.trans (StStep.still hb8))
            clear hb8
            go_wp2_with (fail)
            have e9 : (w8.setCell ⟨eb, 0, none⟩ (.int .i64 0)).cell? ⟨eb, 0, none⟩ = some (.int .i64 0) := World.cell?_setCell_same _ _ _ ez8
            have hk9 : Keep (fun k => k = eb) w8 (w8.setCell ⟨eb, 0, none⟩ (.int .i64 0)) := (Keep.refl (fun k => k = eb) w8).setCell (p := ⟨eb, 0, none⟩) (fun _ => rfl) _
            have HKeep9 := Hd hk9
            clear hk9
            refine leaves_cons (f := 160) (args := #[.pointer (some ⟨sb, 0, none⟩), .int .i64 mk, .pointer (some ⟨eb, 0, none⟩)]) (by simp) (by simp [go_sem]) ?_
            refine (undo_idle _ _ _ _ e9 _).mono ?_
            rintro e u' w'' ⟨rfl, rfl, rfl⟩
            have e99 := e9
            simp [Leaves, settle, results, Tryz.results97, go_sem, e99]
            exact ⟨nameS p j, true, s7, D.upd (nameS p j) t, rfl, by rw [nameS_size]; omega, HS8.out.aside HKeep9.out HAh7.out.1 HAh7.out.2.1 HAh7.out.2.2 HNf7.out, ⟨HSS8.out.keep.trans HKeep9.out (fun i hi e => by have := HEb.out; omega), HSS8.out.foot, HSS8.out.ib, HSS8.out.lb, HSS8.out.br, HSS8.out.pg, HSS8.out.X⟩, by unfold Dict.upd; rw [if_pos rfl], Dict.le_upd HJ.out, hkv7⟩
      | some t' =>
        have HFi := Hd (fun u (hu : Below w.heap.size w u) => find_some (HSt.out.still hu) HN2.out hns hc)
        have HC := Hd hc
        clear hc hns
        go_wp2_with (first
          | (go_at_call 162; refine (HNk.out _).mono ?_; rintro e w3 ⟨rfl, hb3⟩
             have HB3 := Hd (HBr.out.trans (hb3.mono HBr.out.size))
             have HB3' := Hd (HBe.out.trans (hb3.mono HBe.out.size))
             obtain ⟨p', hp', hbl', ht1', ht2', hf⟩ := HFi.out _ HB3.out
             have HBl' := Hd hbl'
             have HF' := Hd hf
             clear hb3 hbl' hf hp')
          | (go_at_call 118; refine (HF'.out).mono ?_; rintro e w4 ⟨rfl, hb4⟩
             have HB4 := Hd ((HB3.out.trans (hb4.mono HB3.out.size)).alloc (HB3.out.trans (hb4.mono HB3.out.size)).size (.cells #[.int .i64 p', .int .i64 t'.size, .int .i64 0] 212))
             have HB4' := Hd ((HB3'.out.trans (hb4.mono HB3'.out.size)).alloc (HB3'.out.trans (hb4.mono HB3'.out.size)).size (.cells #[.int .i64 p', .int .i64 t'.size, .int .i64 0] 212))
             clear hb4))
        have hx := heap_alloc_new w4 (.cells #[.int .i64 p', .int .i64 t'.size, .int .i64 0] 212)
        obtain ⟨w5, hw5⟩ : ∃ w5, w4.alloc (.cells #[.int .i64 p', .int .i64 t'.size, .int .i64 0] 212) = w5 := ⟨_, rfl⟩
        rw [hw5] at HB4 HB4' hx ⊢
        have HG := Hd (fun u (hb : Below w.heap.size w u) => get_ok (HSt.out.still hb).room HBl'.out (by omega))
        have e0 : ([p'] : List Nat).getD 0 0 = p' := rfl
        rw [e0] at HG
        obtain ⟨xb, hxb⟩ : ∃ xb, w4.heap.size = xb := ⟨_, rfl⟩
        rw [hxb] at hx ⊢
        have HX := Hd hx
        have HC0 := Hd ((HSt.out.still HB4.out).c0)
        have HXl := Hd (show xb < w5.heap.size from (Gl hx))
        have HSl := Hd ((HSt.out.still HB4.out).lt)
        clear hw5 hx hxb e0
        obtain ⟨S, hS⟩ : ∃ S : World → Prop, ∀ u, S u ↔ Keep (fun _ => False) (w5) u := ⟨fun u => Keep (fun _ => False) (w5) u, fun _ => Iff.rfl⟩
        have HS := Hd hS
        clear hS
        refine wp_region_whole 12 [(0, true), (1, true), (2, true), (3, true), (4, true), (5, true), (6, false), (7, true), (8, true), (9, true), (10, true), (11, true)] S (by kernel_rfl) (by kernel_rfl) ((HS.out _).2 (Keep.refl _ _).drew) ?_
        iterate 6
          first
            | (refine wpH_passed rfl (by rfl) (fun K hK => ?_); go_simp; refine hK _ ?_; clear hK K)
            | (first
                 | refine wpH_read rfl rfl (fun K hK => ?_)
                 | refine wpH_readw rfl (by rfl) (fun K hK => ?_)
               apply Exists.intro
               refine ⟨fun u hu => ?_, ?_⟩
               · have hu := (HS.out u).1 hu
                 have c0 : u.cell? ⟨sb, 0, none⟩ = some (.pointer (some ⟨s.br, 0, none⟩)) := by rw [hu.cell (p := ⟨sb, 0, none⟩) HSl.out (fun e => e)]; exact HC0.out
                 have d0 : u.cell? ⟨xb, 0, none⟩ = some (.int .i64 p') := by rw [hu.cell (p := ⟨xb, 0, none⟩) HXl.out (fun e => e)]; exact Lib.cell_of_heap HX.out 0
                 clear hu
                 go_simp
                 exact ⟨rfl, rfl⟩
               go_simp
               refine hK _ ?_
               clear hK K)
        first | refine wpH_do rfl rfl (fun K hK => ?_) | refine wpH_dow rfl (by rfl) (fun K hK => ?_)
        go_simp
        go_at_call 50
        refine (HG.out w5.drew (HB4.out.trans ⟨rfl, rfl, rfl, Nat.le_refl _, fun _ _ => rfl⟩)).mono ?_
        rintro e w6 ⟨rfl, hb6⟩
        have hb6' : Below w5.heap.size w5 w6 := ⟨hb6.os, hb6.tape, hb6.output, hb6.size, hb6.block⟩
        have HB6 := Hd (HB4.out.trans (hb6'.mono HB4.out.size))
        have HB6' := Hd (HB4'.out.trans (hb6'.mono HB4'.out.size))
        refine hK _ _ ((HS.out _).2 (Keep.ofBelow hb6')) ?_
        clear hK K hb6 hb6'
        iterate 5
          first
            | (refine wpH_passed rfl (by rfl) (fun K hK => ?_); go_simp; refine hK _ ?_; clear hK K)
            | (first
                 | refine wpH_read rfl rfl (fun K hK => ?_)
                 | refine wpH_readw rfl (by rfl) (fun K hK => ?_)
               apply Exists.intro
               refine ⟨fun u hu => ?_, ?_⟩
               · have hu := (HS.out u).1 hu
                 have c0 : u.cell? ⟨sb, 0, none⟩ = some (.pointer (some ⟨s.br, 0, none⟩)) := by rw [hu.cell (p := ⟨sb, 0, none⟩) HSl.out (fun e => e)]; exact HC0.out
                 have d0 : u.cell? ⟨xb, 0, none⟩ = some (.int .i64 p') := by rw [hu.cell (p := ⟨xb, 0, none⟩) HXl.out (fun e => e)]; exact Lib.cell_of_heap HX.out 0
                 clear hu
                 go_simp
                 exact ⟨rfl, rfl⟩
               go_simp
               refine hK _ ?_
               clear hK K)
        refine wpH_nil ?_
        simp only [List.drop_succ_cons, List.drop_zero]
        clear S HS
        by_cases heq : t' = t
        · subst heq
          go_wp2_with (go_at_call 162; refine (HNk.out _).mono ?_; rintro e w7 ⟨rfl, hb7⟩
                       have HB7 := Hd (HB6.out.trans (hb7.mono HB6.out.size))
                       have HE7 := Hd ((hb7.block eb (Nat.lt_of_lt_of_le (Gl HE2.out) HB6'.out.size)).trans ((HB6'.out.block eb (Gl HE2.out)).trans HE2.out))
                       have ez8 : w7.cell? ⟨eb, 0, none⟩ = some (.int .i64 0) := Lib.cell_of_heap HE7.out 0
                       have yz8 : w7.frozen? ⟨eb, 0, none⟩ = false := froz_of HE7.out
                       clear hb7)
          have e9 : (w7.setCell ⟨eb, 0, none⟩ (.int .i64 0)).cell? ⟨eb, 0, none⟩ = some (.int .i64 0) := World.cell?_setCell_same _ _ _ ez8
          have hk9 : Keep (fun k => k = eb) w7 (w7.setCell ⟨eb, 0, none⟩ (.int .i64 0)) := (Keep.refl (fun k => k = eb) w7).setCell (p := ⟨eb, 0, none⟩) (fun _ => rfl) _
          have HKeep9 := Hd hk9
          clear hk9
          refine leaves_cons (f := 160) (args := #[.pointer (some ⟨sb, 0, none⟩), .int .i64 mk, .pointer (some ⟨eb, 0, none⟩)]) (by simp) (by simp [go_sem]) ?_
          refine (undo_idle _ _ _ _ e9 _).mono ?_
          rintro e u' w'' ⟨rfl, rfl, rfl⟩
          have e99 := e9
          simp [Leaves, settle, results, Tryz.results97, go_sem, e99]
          obtain ⟨ah1, ah2, ah3, ah4⟩ := HSt.out.ahead
          have hne : ¬ s.foot eb := fun e => by have := ah4 _ e; have := HEb.out; omega
          exact ⟨nameS p k, false, s, D, rfl, by rw [nameS_size]; omega, (HSt.out.more.still HB7.out).aside HKeep9.out (by have := HEb.out; omega) (by have := HEb.out; omega) (by have := HEb.out; omega) hne, ⟨(Keep.ofBelow HB7.out).trans HKeep9.out (fun i hi e => by have := HEb.out; omega), fun _ e => .inl e, rfl, rfl, rfl, rfl, rfl⟩, HC.out, Dict.le_refl D, Nat.le_succ _⟩
        · have hq : (t'.toList == t.toList) = false := by
            rw [beq_eq_false_iff_ne]
            intro e
            rw [Lib.toList_data, Lib.toList_data] at e
            exact heq (ByteArray.ext (Array.toList_inj.1 e))
          go_wp2_with (fail)
          refine ⟨⟨k + 1, fr, by omega, by go_num, rfl, ?_, HB6'.out⟩, by simp [intOf]; omega⟩
          rcases HFo.out with ⟨rfl, hall⟩ | hjj
          · refine .inl ⟨rfl, fun j hj => ?_⟩
            by_cases hjk : j = k
            · rw [hjk, HC.out]; exact fun e => by cases e
            · exact hall j (by omega)
          · exact .inr hjj
    · obtain rfl : k = 256 := by omega
      rcases HFo.out with ⟨rfl, hall⟩ | ⟨j, hj, rfl, hjn⟩
      · exact absurd (names_free HSt.out.cont hk8 p hall) (fun e => e)
      · have HJ := Hd hjn
        have HBz := Hd HBr.out
        have HEz := Hd ((HBe.out.block eb (Gl HE2.out)).trans HE2.out)
        clear hjn
        obtain ⟨q0, hq0, hq1⟩ := free_page HSt.out (by omega)
        have HBP := Hd (blobPut_ok ((HSt.out.still HBz.out).room) (by have := HSt.out.sized.puts; omega) t (by omega) hq0 hq1)
        have cz0 := (HSt.out.still HBz.out).c0
        have ez0 : wr.cell? ⟨eb, 0, none⟩ = some (.int .i64 0) := Lib.cell_of_heap HEz.out 0
        have yz0 : wr.frozen? ⟨eb, 0, none⟩ = false := froz_of HEz.out
        have HZl := Hd (show eb < wr.heap.size from (Gl HEz.out))
        clear hq0 hq1
        go_wp2_with (fail)
        have HNm := Hd (fun u => name_any p (by omega) j (by omega) u)
        refine (HBP.out).mono ?_
        rintro e w4 ⟨R', pg, rfl, hst, htk, hbl, a, a1, a2⟩
        have hz := HSt.out.sized
        have hR9 := hst.pages
        have hcb := HSt.out.cont.blob htk ((HSt.out.room).pages_le) hR9
        have hs4 := (HSt.out.still HBz.out).step hst hcb (nz' := nz + 1) ⟨by have := hz.i; omega, by have := hz.l; omega, by rw [List.length_append]; have := hz.b; simp; omega, by have := hz.m; omega, by rw [hR9]; exact hz.pages, by rw [a1, List.length_append]; have := hz.puts; omega, by rw [zero_root htk.zero]; have := hz.root; omega, by rw [List.length_append]; have := hz.bx; simp; omega, by have := hz.v; omega⟩
        have hss4 := (StStep.still (s := s) HBz.out).trans (hst.sto s.kvI s.kvL s.psI s.psL (s.bp ++ [pg]))
        obtain ⟨ah1, ah2, ah3, ah4⟩ := HSt.out.ahead
        have hne : ¬ s.foot eb := fun e => by have := ah4 _ e; have := HEb.out; omega
        have hnf4 : ¬ R'.foot s.br eb := fun e => (hst.foot9 e).elim hne (fun e2 => by have := HZl.out; omega)
        have HE4 := Hd (hst.keep9.at HEz.out hne)
        have ez4 : w4.cell? ⟨eb, 0, none⟩ = some (.int .i64 0) := Lib.cell_of_heap HE4.out 0
        have yz4 : w4.frozen? ⟨eb, 0, none⟩ = false := froz_of HE4.out
        have HK5 := Hd (show Keep (fun k => k = eb) w4 (w4.setCell ⟨eb, 0, none⟩ (.int .i64 0)) from (Keep.refl (fun k => k = eb) w4).setCell (p := ⟨eb, 0, none⟩) (fun _ => rfl) _)
        have hs5 := hs4.aside HK5.out (by have := HEb.out; omega) (by show s.ib ≠ eb; have := HEb.out; omega) (by show s.lb ≠ eb; have := HEb.out; omega) hnf4
        have hss5 : StStep w s (w4.setCell ⟨eb, 0, none⟩ (.int .i64 0)) ⟨s.br, s.ib, s.lb, R', s.kvI, s.kvL, s.psI, s.psL, s.bp ++ [pg], s.X⟩ := ⟨hss4.keep.trans HK5.out (fun i hi e => by have := HEb.out; omega), hss4.foot, rfl, rfl, rfl, hR9, rfl⟩
        have ez5 : (w4.setCell ⟨eb, 0, none⟩ (.int .i64 0)).cell? ⟨eb, 0, none⟩ = some (.int .i64 0) := World.cell?_setCell_same _ _ _ ez4
        have HE5 := Hd (heap_setCell_same w4 eb 0 _ _ (.int .i64 0) HE4.out)
        have HS5 := Hd hs5
        have HSS5 := Hd hss5
        have HBl := Hd (show BlobIn R' t [pg] from hbl)
        have HPu5 := Hd (show R'.T.puts.length + 200 ≤ 1000 * (nz + 1) by rw [a1, List.length_append]; have := hz.puts; omega)
        have HR9 := Hd hR9
        have HPx := Hd (show pg ∉ s.X.pages from fun e => by have h5 := (HSt.out.cont.bh pg (HSt.out.cont.xin pg e)).2; rw [(htk.new pg (by simp)).2] at h5; cases h5)
        have HNf := Hd hnf4
        have HKi5 := Hd (show s.kvI.length + 1 ≤ nz + 1 by have := hz.i; omega)
        clear hst htk hbl a1 a2 hz hR9 hcb hs4 hss4 ah1 ah2 ah3 ah4 hne hnf4 hs5 hss5 cz0 ez0 yz0
        go_wp2_with (fail)
        refine (HNm.out _).mono ?_
        rintro e w6 ⟨rfl, hb6⟩
        have HKp := Hd (keep_any (HS5.out.still hb6) (by show nz + 1 ≤ 2000 ∧ 8 * (nz + 1) + 200 ≤ R'.pages; have := HR9.out; omega) HKi5.out HPu5.out (id := nameS p j) (t := t) (p := pg) (by rw [nameS_size]; omega) (by simp) HBl.out h1 h2 HPx.out)
        have HE6 := Hd ((hb6.block eb (by have := (Gl HE5.out); exact this)).trans HE5.out)
        have HSS6 := Hd (HSS5.out.trans (StStep.still hb6))
        have HZ6 := Hd (show eb < w6.heap.size from (Gl HE6.out))
        clear hb6 ez4 ez5 yz4
        go_wp2_with (fail)
        refine (HKp.out).mono ?_
        rintro e w7 ⟨rfl, s7, hst7, hss7, hkv7⟩
        have HE7 := Hd (hss7.keep.at HE6.out (fun e => HNf.out e))
        have HSS7 := Hd (HSS6.out.trans hss7)
        have HNf7 := Hd (show ¬ s7.foot eb from fun e => (hss7.foot eb e).elim HNf.out (fun e2 => by have := HZ6.out; omega))
        have HS7 := Hd hst7
        have HAh7 := Hd (show sb ≠ eb ∧ s7.ib ≠ eb ∧ s7.lb ≠ eb from by have h8 := HSS7.out.ib; have h9 := HSS7.out.lb; have := HSt.out.ahead; have := HEb.out; omega)
        clear hst7 hss7
        go_wp2_with (fail)
        refine (HNm.out _).mono ?_
        rintro e w8 ⟨rfl, hb8⟩
        have HE8 := Hd ((hb8.block eb (by have := (Gl HE7.out); exact this)).trans HE7.out)
        have ez8 : w8.cell? ⟨eb, 0, none⟩ = some (.int .i64 0) := Lib.cell_of_heap HE8.out 0
        have yz8 : w8.frozen? ⟨eb, 0, none⟩ = false := froz_of HE8.out
        have HS8 := Hd (HS7.out.still hb8)
        have HSS8 := Hd (HSS7.out.trans (StStep.still hb8))
        clear hb8
        go_wp2_with (fail)
        have e9 : (w8.setCell ⟨eb, 0, none⟩ (.int .i64 0)).cell? ⟨eb, 0, none⟩ = some (.int .i64 0) := World.cell?_setCell_same _ _ _ ez8
        have hk9 : Keep (fun k => k = eb) w8 (w8.setCell ⟨eb, 0, none⟩ (.int .i64 0)) := (Keep.refl (fun k => k = eb) w8).setCell (p := ⟨eb, 0, none⟩) (fun _ => rfl) _
        have HKeep9 := Hd hk9
        clear hk9
        refine leaves_cons (f := 160) (args := #[.pointer (some ⟨sb, 0, none⟩), .int .i64 mk, .pointer (some ⟨eb, 0, none⟩)]) (by simp) (by simp [go_sem]) ?_
        refine (undo_idle _ _ _ _ e9 _).mono ?_
        rintro e u' w'' ⟨rfl, rfl, rfl⟩
        have e99 := e9
        simp [Leaves, settle, results, Tryz.results97, go_sem, e99]
        exact ⟨nameS p j, true, s7, D.upd (nameS p j) t, rfl, by rw [nameS_size]; omega, HS8.out.aside HKeep9.out HAh7.out.1 HAh7.out.2.1 HAh7.out.2.2 HNf7.out, ⟨HSS8.out.keep.trans HKeep9.out (fun i hi e => by have := HEb.out; omega), HSS8.out.foot, HSS8.out.ib, HSS8.out.lb, HSS8.out.br, HSS8.out.pg, HSS8.out.X⟩, by unfold Dict.upd; rw [if_pos rfl], Dict.le_upd HJ.out, hkv7⟩
end
end Go.Proofs.YtaokjeokpifjgaaGreatDoor

namespace Go.Proofs.YtaokjeokpifjgaaGreatDoor
open Go.RowKit Go.MapKept
attribute [local go_sem] gives givesH
set_option maxRecDepth 100000

section
variable {w : World} {sb : Nat} {s : Sto} {D : Dict} {nz : Nat}
theorem StAt.say {eb : Nat} (h : StAt w sb s D nz) (h0 : sb ≠ eb) (h1 : s.ib ≠ eb) (h2 : s.lb ≠ eb) (h3 : ¬ s.foot eb) (v : Value) : StAt (w.setCell ⟨eb, 0, none⟩ v) sb s D nz :=
  h.aside ((Keep.refl (fun k => k = eb) w).setCell (p := ⟨eb, 0, none⟩) (fun _ => rfl) v) h0 h1 h2 h3
theorem StStep.say {w0 : World} {s0 : Sto} {eb : Nat} (h : StStep w0 s0 w s) (he : w0.heap.size ≤ eb) (v : Value) : StStep w0 s0 (w.setCell ⟨eb, 0, none⟩ v) s :=
  ⟨h.keep.trans ((Keep.refl (fun k => k = eb) w).setCell (p := ⟨eb, 0, none⟩) (fun _ => rfl) v) (fun i hi e => by omega), h.foot, h.ib, h.lb, h.br, h.pg, h.X⟩
set_option maxHeartbeats 8000000 in
theorem add_st (h : StAt w sb s D nz) (hn : nz ≤ 2000 ∧ 8 * nz + 200 ≤ s.R.pages) (hpu : s.R.T.puts.length + 300 ≤ 1000 * (nz + 1)) {id t : ByteArray} (hid : id.size ≤ 55) (hD : D id = some t) :
    Calls Tryz.prog 98 #[.pointer (some ⟨sb, 0, none⟩), .string id, .int .i64 1] w fun e w' => e = .returned (.int .i64 0) ∧ ∃ s', StAt w' sb s' D (nz + 1) ∧ StStep w s w' s' ∧ s'.kvI.length = s.kvI.length := by
  have hb0 : Below w.heap.size w (w.alloc (.cells #[.int .i64 0] 29)) := (Below.refl _ _).alloc (Nat.le_refl _) _
  have HM := Hd (stMark_any (h.still hb0))
  obtain ⟨mk, hmk⟩ : ∃ mk, s.R.T.puts.length = mk := ⟨_, rfl⟩
  rw [hmk] at HM
  have HSt := Hd h
  have HB0 := Hd hb0
  have HE0 := Hd (heap_alloc_new w (.cells #[.int .i64 0] 29))
  have HAh := Hd h.ahead
  have HPu := Hd hpu
  obtain ⟨pg, _, _, _, _, hf⟩ := find_some (h.still hb0) (by omega) (id := id) (by omega) hD
  have HF := Hd hf
  obtain ⟨x, hx⟩ : ∃ x, s.R.root 2 = x := ⟨_, rfl⟩
  have hx37 : x ≤ 2000 := by have := h.sized.root; omega
  have HRt := Hd (show ∀ u, RoomAt u s.br s.R → Calls Tryz.prog 165 #[.pointer (some ⟨s.br, 0, none⟩), .int .i64 2] u fun e w' => e = .returned (.tuple #[.int .u64 x, .int .i64 0]) ∧ Below u.heap.size u w' from fun u hu => by have := root_any hu 2 (by decide); rw [hx] at this; exact this)
  have HX := Hd hx
  clear h hb0 hf hpu hx
  obtain ⟨eb, heb⟩ : ∃ eb, w.heap.size = eb := ⟨_, rfl⟩
  go_enter_defers Tryz.func98, Tryz.ntmps98
  go_wp2_with (fail)
  refine (HM.out).mono ?_
  rintro e _ ⟨rfl, rfl⟩
  go_wp2_with (fail)
  refine (HF.out).mono ?_
  rintro e w1 ⟨rfl, hb1⟩
  have hb1' := HB0.out.trans (hb1.mono HB0.out.size)
  have HE1 := Hd ((hb1.block w.heap.size (by simp)).trans HE0.out)
  have hba := hb1'.alloc hb1'.size (.cells #[.int .i64 pg, .int .i64 t.size, .int .i64 0] 212)
  have hea : (w1.alloc (.cells #[.int .i64 pg, .int .i64 t.size, .int .i64 0] 212)).heap[w.heap.size]? = some (.cells #[.int .i64 0] 29 (0, 0)) := (((Below.refl _ _).alloc (Nat.le_refl _) _ : Below w1.heap.size w1 _).block w.heap.size (Gl HE1.out)).trans HE1.out
  rw [heb] at hea
  have ez0 : (w1.alloc (.cells #[.int .i64 pg, .int .i64 t.size, .int .i64 0] 212)).cell? ⟨eb, 0, none⟩ = some (.int .i64 0) := Lib.cell_of_heap hea 0
  have yz0 : (w1.alloc (.cells #[.int .i64 pg, .int .i64 t.size, .int .i64 0] 212)).frozen? ⟨eb, 0, none⟩ = false := froz_of hea
  have HEA := Hd hea
  have hq : sb ≠ eb ∧ s.ib ≠ eb ∧ s.lb ≠ eb ∧ ¬ s.foot eb := by
    obtain ⟨a1, a2, a3, a4⟩ := HAh.out
    exact ⟨by omega, by omega, by omega, fun e => by have := a4 _ e; omega⟩
  have HQ := Hd hq
  have HEb := Hd heb
  have HSB := Hd ((HSt.out.still hba).say hq.1 hq.2.1 hq.2.2.1 hq.2.2.2 (.int .i64 0))
  have HSSB := Hd ((StStep.still (s := s) hba).say (by omega) (eb := eb) (.int .i64 0))
  have HEB := Hd (heap_setCell_same (w1.alloc (.cells #[.int .i64 pg, .int .i64 t.size, .int .i64 0] 212)) eb 0 _ _ (.int .i64 0) hea)
  have ezB : ((w1.alloc (.cells #[.int .i64 pg, .int .i64 t.size, .int .i64 0] 212)).setCell ⟨eb, 0, none⟩ (.int .i64 0)).cell? ⟨eb, 0, none⟩ = some (.int .i64 0) := World.cell?_setCell_same _ _ _ ez0
  have cB0 := HSB.out.c0
  have HRB := Hd (HRt.out _ HSB.out.room)
  clear hb1 hb1' hba hea hq
  go_wp2_with (fail)
  refine (HRB.out).mono ?_
  rintro e w2 ⟨rfl, hb2⟩
  have HE2 := Hd ((hb2.block eb (Gl HEB.out)).trans HEB.out)
  have ez2 : w2.cell? ⟨eb, 0, none⟩ = some (.int .i64 0) := Lib.cell_of_heap HE2.out 0
  have yz2 : w2.frozen? ⟨eb, 0, none⟩ = false := froz_of HE2.out
  have HSC := Hd ((HSB.out.still hb2).say HQ.out.1 HQ.out.2.1 HQ.out.2.2.1 HQ.out.2.2.2 (.int .i64 0))
  have HSSC := Hd ((HSSB.out.trans (StStep.still hb2)).say (by have := HEb.out; omega) (eb := eb) (.int .i64 0))
  have HEC := Hd (heap_setCell_same w2 eb 0 _ _ (.int .i64 0) HE2.out)
  have ezC : (w2.setCell ⟨eb, 0, none⟩ (.int .i64 0)).cell? ⟨eb, 0, none⟩ = some (.int .i64 0) := World.cell?_setCell_same _ _ _ ez2
  clear hb2 cB0 ezB ez0 yz0
  have x64 : IntKind.u64.wrap (x : Int) = (x : Int) := by rw [IntKind.wrap_u64]; omega
  have x65 : IntKind.u64.wrap ((x : Int) + 1) = (x : Int) + 1 := by rw [IntKind.wrap_u64]; omega
  obtain ⟨wC, hwC⟩ : ∃ wC, w2.setCell ⟨eb, 0, none⟩ (.int .i64 0) = wC := ⟨_, rfl⟩
  rw [hwC] at HSC HSSC HEC ezC
  have HW1 := Hd (pwrite_any (fields_n (n := x) (by omega)) right_n (w := wC.alloc (.cells #[.int .u64 x, .string ⟨#[]⟩] 182)) (fb := wC.heap.size) (c := 1) ⟨by simp, fun j hj => by
    match j, hj with
    | 0, _ => exact ⟨Lib.cell_of_heap (heap_alloc_new wC _) 0, Lib.cell_of_heap (heap_alloc_new wC _) 1⟩⟩)
  have hkv : packed nK [(x, eS)] = keyV x := rfl
  rw [hkv] at HW1
  have HW2 := Hd (fun (u : World) => pwrite_any (fields_br (s := 1) (id := id) (by decide) (by omega)) right_br (w := u.alloc (.cells #[.int .u64 1, .string ⟨#[]⟩, .int .u64 0, .string id] 182)) (fb := u.heap.size) (c := 2) ⟨by simp, fun j hj => by
    match j, hj with
    | 0, _ => exact ⟨Lib.cell_of_heap (heap_alloc_new u _) 0, Lib.cell_of_heap (heap_alloc_new u _) 1⟩
    | 1, _ => exact ⟨Lib.cell_of_heap (heap_alloc_new u _) 2, Lib.cell_of_heap (heap_alloc_new u _) 3⟩⟩)
  have hev : packed brK [(1, eS), (0, id)] = entryV 1 id := rfl
  rw [hev] at HW2
  have HLp := Hd (fun u (hu : StAt u sb s D nz) => tput_is (key := keyV x) (val := entryV 1 id) hu.tl hu.nlb hu.room (by have := HPu.out; omega) (by have := hu.sized.pages; omega) (by decide) (by rw [keyV_size]; decide) (by rw [entryV_size]; omega) hu.cont.tl (List.nodup_append.1 (List.nodup_append.1 hu.cont.nd).2.1).1 hu.cont.all (by have := hu.sized.l; omega) (by have h1 := hu.cont.len; have := hu.sized.i; have := hu.sized.l; have := hu.sized.b; have := hu.sized.pages; omega))
  have HCe := Hd (fun u (hu : StAt u sb s D nz) (R' : RoomS) (ps' new : List Nat) (ht : TurnR s.R R' 1 s.psL new 200) (hT : TreeIs R' 1 (ins s.kvL (keyV x) (entryV 1 id)) ps') (hpm : ps'.Perm (s.psL ++ new)) => hu.cont.entry (m := 200) (s := 1) (by decide) (by omega) ht hT hpm)
  obtain ⟨kx, hkx⟩ : ∃ kx, keyV x = kx := ⟨_, rfl⟩
  obtain ⟨ex, hex⟩ : ∃ ex, entryV 1 id = ex := ⟨_, rfl⟩
  rw [hkx] at HW1 HLp HCe
  rw [hex] at HW2 HLp HCe
  clear hkx hex hkv hev
  have HV1 := Hd (show Calls Tryz.prog 90 #[.string ⟨#[110]⟩, .slice (some ⟨wC.heap.size, 0, none⟩) 1 1] (wC.alloc (.cells #[.int .u64 x, .string ⟨#[]⟩] 182)) fun e w' => e = .returned (.tuple #[.string kx, .bool true]) ∧ Below (wC.alloc (.cells #[.int .u64 x, .string ⟨#[]⟩] 182)).heap.size (wC.alloc (.cells #[.int .u64 x, .string ⟨#[]⟩] 182)) w' from HW1.out)
  have HV2 := Hd (show ∀ u : World, Calls Tryz.prog 90 #[.string ⟨#[98, 114]⟩, .slice (some ⟨u.heap.size, 0, none⟩) 2 2] (u.alloc (.cells #[.int .u64 1, .string ⟨#[]⟩, .int .u64 0, .string id] 182)) fun e w' => e = .returned (.tuple #[.string ex, .bool true]) ∧ Below (u.alloc (.cells #[.int .u64 1, .string ⟨#[]⟩, .int .u64 0, .string id] 182)).heap.size (u.alloc (.cells #[.int .u64 1, .string ⟨#[]⟩, .int .u64 0, .string id] 182)) w' from HW2.out)
  clear HW1 HW2
  have yzC : wC.frozen? ⟨eb, 0, none⟩ = false := froz_of HEC.out
  go_wp2_with (fail)
  clear hwC
  refine (HV1.out).mono ?_
  rintro e w3 ⟨rfl, hb3⟩
  have HB3 := Hd (show Below wC.heap.size wC w3 from ((Below.refl _ _).alloc (Nat.le_refl _) _).trans (hb3.mono (by simp)))
  clear hb3
  go_wp2_with (fail)
  refine (HV2.out w3).mono ?_
  rintro e w4 ⟨rfl, hb4⟩
  have hb4' : Below wC.heap.size wC w4 := (HB3.out.alloc HB3.out.size (.cells #[.int .u64 1, .string ⟨#[]⟩, .int .u64 0, .string id] 182)).trans (hb4.mono (HB3.out.alloc HB3.out.size _).size)
  have HS4 := Hd (HSC.out.still hb4')
  have HSS4 := Hd (HSSC.out.trans (StStep.still hb4'))
  have HE4 := Hd ((hb4'.block eb (Gl HEC.out)).trans HEC.out)
  have c2 := HS4.out.c2
  have HP4 := Hd (HLp.out _ HS4.out)
  clear hb4 hb4' ezC ez2 yz2 yzC
  go_wp2_with (fail)
  refine (HP4.out).mono ?_
  rintro e w5 ⟨rfl, R', ps', new, hst, hT, hpm, htu⟩
  have hc5 := HCe.out _ HS4.out R' ps' new htu hT hpm
  have hz := HS4.out.sized
  have hrt := htu.root 2 (by decide)
  obtain ⟨a, a1, a2⟩ := htu.puts
  have hz5 : Sized R' s.kvI (ins s.kvL kx ex) s.bp s.X (nz + 1) := ⟨by have := hz.i; omega, by have := ins_length s.kvL kx ex; have := hz.l; omega, by have := hz.b; omega, by have := hz.m; omega, by rw [htu.pages]; exact hz.pages, by rw [a1, List.length_append]; have := HPu.out; omega, by rw [hrt]; have := hz.root; omega, by have := hz.bx; omega, by have := hz.v; omega⟩
  have hs5 := HS4.out.step hst hc5 hz5
  have hss5 := HSS4.out.trans (hst.sto s.kvI (ins s.kvL kx ex) s.psI ps' s.bp)
  have HZ4 := Hd (show eb < w4.heap.size from (Gl HE4.out))
  have hnf5 : ¬ R'.foot s.br eb := fun e => (hst.foot9 e).elim HQ.out.2.2.2 (fun e2 => by have := HZ4.out; omega)
  have HE5 := Hd (hst.keep9.at HE4.out HQ.out.2.2.2)
  have HS5 := Hd hs5
  have HSS5 := Hd hss5
  have HNf5 := Hd hnf5
  have HPt5 := Hd (show R'.T.puts.length + 1 ≤ 1000 * (nz + 1) by rw [a1, List.length_append]; have := HPu.out; omega)
  have c5 := hs5.c0
  have HR5 := Hd (show Calls Tryz.prog 166 #[.pointer (some ⟨s.br, 0, none⟩), .int .i64 2, .int .u64 ((x : Int) + 1)] w5 fun e w' => e = .returned (.int .i64 0) ∧ ∃ R'', RoomStep s.br w5 R' w' R'' ∧ R''.T.puts = R'.T.puts ++ [(((0 : Nat) : Int), setRootS (R'.home 0) 2 (x + 1))] from setRoot_any hs5.room (by show R'.T.puts.length < _; have := HPt5.out; omega) 2 (by decide) (x + 1) (by omega))
  clear hst hT hpm htu hc5 hz hrt a1 a2 hz5 hs5 hss5 hnf5 c2
  go_wp2_with (fail)
  refine (HR5.out).mono ?_
  rintro e w6 ⟨rfl, R'', hst6, hpp⟩
  have hrd := rooted_of HS5.out.room (by decide) (by omega) hst6.tx.f hst6.maps hpp
  have hfit := HS5.out.room.pages_le
  have hc6 := HS5.out.cont.next hrd hfit hst6.pages
  have hz := HS5.out.sized
  have hz6 : Sized R'' s.kvI (ins s.kvL kx ex) s.bp s.X (nz + 1) := ⟨hz.i, hz.l, hz.b, hz.m, by rw [hst6.pages]; exact hz.pages, by rw [hpp, List.length_append]; have := HPt5.out; simp; omega, by rw [hrd.root, if_pos rfl]; have := HX.out; have := HSt.out.sized.root; omega, hz.bx, hz.v⟩
  have hs6 := HS5.out.step hst6 hc6 hz6
  have hss6 := HSS5.out.trans (hst6.sto s.kvI (ins s.kvL kx ex) s.psI ps' s.bp)
  have HZ5 := Hd (show eb < w5.heap.size from (Gl HE5.out))
  have HNf6 := Hd (show ¬ R''.foot s.br eb from fun e => (hst6.foot9 e).elim HNf5.out (fun e2 => by have := HZ5.out; omega))
  have HE6 := Hd (hst6.keep9.at HE5.out HNf5.out)
  have HS6 := Hd hs6
  have HSS6 := Hd hss6
  have ez6 : w6.cell? ⟨eb, 0, none⟩ = some (.int .i64 0) := Lib.cell_of_heap HE6.out 0
  have yz6 : w6.frozen? ⟨eb, 0, none⟩ = false := froz_of HE6.out
  clear hst6 hpp hrd hfit hc6 hz hz6 hs6 hss6 c5
  go_wp2_with (fail)
  have e9 : (w6.setCell ⟨eb, 0, none⟩ (.int .i64 0)).cell? ⟨eb, 0, none⟩ = some (.int .i64 0) := World.cell?_setCell_same _ _ _ ez6
  refine leaves_cons (f := 160) (args := #[.pointer (some ⟨sb, 0, none⟩), .int .i64 mk, .pointer (some ⟨eb, 0, none⟩)]) (by simp) (by simp [go_sem]) ?_
  refine (undo_idle _ _ _ _ e9 _).mono ?_
  rintro e u' w'' ⟨rfl, rfl, rfl⟩
  have e99 := e9
  simp [Leaves, settle, results, Tryz.results98, go_sem, e99]
  exact ⟨_, HS6.out.say HQ.out.1 HQ.out.2.1 HQ.out.2.2.1 HNf6.out _, HSS6.out.say (by have := HEb.out; omega) _, rfl⟩
end
end Go.Proofs.YtaokjeokpifjgaaGreatDoor
