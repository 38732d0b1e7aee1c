/-
  CHANGES (tx): Begin, Write.
-/
import Derived.Test.YtoajdccdhjlikaaDoorTxStep
import Derived.Test.YtoajdccdhjlikaaDoorHeld
namespace Go.Proofs.YtoajdccdhjlikaaDoor
open Go.RowKit Go.MapKept
attribute [local go_sem] gives givesH

def freshTx (bl n : Nat) (f : Int → ByteArray) (F : Nat → Prop) (bw : Nat) : TxS := { bl := bl, n := n, f := f, rowv := .slice none 0 0, puts := [], bw := bw, g := fun _ => none, ng := 0, Fl := F }
theorem begin_any {w : World} {bl n : Nat} {f : Int → ByteArray} {F : Nat → Prop} (h : LogView w bl n f F) :
    Calls Tryd.prog 15 #[.pointer (some ⟨bl, 0, none⟩)] w fun e w' => ∃ bt T, e = .returned (.pointer (some ⟨bt, 0, none⟩)) ∧ T = freshTx bl n f F w.heap.size ∧ TxAt w' bt T ∧ bt = w.heap.size + 1 ∧ Below w.heap.size w w' := by
  have hmm := @run_makeMap Tryd.prog
  have HN := Lib.hid (new2 w (Obj.map #[] 0) (Obj.cells #[.pointer (some ⟨bl, 0, none⟩), .slice none 0 0, .map (some w.heap.size)] 102))
  go_enter Tryd.func15, Tryd.ntmps15
  go_wp2
  go_ret
  obtain ⟨n1, n2, nb⟩ := HN.out
  refine ⟨w.heap.size + 1, _, rfl, rfl, ⟨n2, h.still nb, World.ownsRow_nil _ _ _ _, IMap_empty n1, fun _ _ => rfl, fun i hi => absurd rfl hi, ⟨?_, ?_, ?_, ?_⟩, ?_, ?_, ?_⟩, rfl, nb⟩
  · show w.heap.size + 1 ≠ w.heap.size; omega
  · intro hf; have := h.lt hf; omega
  · intro hf; have hlt : w.heap.size < w.heap.size := h.lt hf; omega
  · intro k hk; cases hk
  · intro i v k hv; cases hv
  · intro i j v v' k hv; cases hv
  · intro x hx; cases hx

def writeErr (n : Nat) (i : Int) (s : ByteArray) : Int := if 0 ≤ i ∧ i < n then (if 512 < s.size then 5 else 0) else 2

def padS (s : ByteArray) : ByteArray := ⟨(List.replicate (512 - s.size) (0 : UInt8)).toArray⟩
theorem repeat_zero (s : ByteArray) (hs : s.size ≤ 512) (w : World) : Calls Tryd.prog 85 #[.string ⟨#[0]⟩, .int .i64 ((512 : Int) - s.size)] w fun e w' => e = .returned (.string (padS s)) ∧ Below w.heap.size w w' := by
  have hx := Tryd.strings_Repeat ⟨#[0]⟩ (512 - s.size) w (by omega) (by have : (⟨#[0]⟩ : ByteArray).size = 1 := rfl; rw [this]; omega)
  rw [repeatL_zero] at hx
  have e1 : ((512 - s.size : Nat) : Int) = (512 : Int) - (s.size : Nat) := by omega
  rw [e1] at hx
  exact hx
theorem fullS_cat (s : ByteArray) (hs : s.size ≤ 512) (w : World) : (Op.stringOp .add s (padS s)).run Tryd.prog w = .ok (.string (fullS s)) w := by
  have := run_string_add_sum (P := Tryd.prog) w s (padS s) (by
    have : (padS s).size = 512 - s.size := by show (List.replicate _ _).toArray.size = _; simp
    omega)
  rw [this]
  have e : fullS s = s ++ padS s := by apply ByteArray.ext; simp [fullS, padS]
  rw [e]

set_option maxRecDepth 100000
set_option maxHeartbeats 1000000 in
theorem txWrite_ok {w : World} {bt : Nat} {T : TxS} (h : TxAt w bt T) (hlen : T.puts.length < 1000000000000) {i : Int} (hi : 0 ≤ i ∧ i < T.n) (s : ByteArray) (hs : s.size ≤ 512) :
    Calls Tryd.prog 54 #[.pointer (some ⟨bt, 0, none⟩), .int .i64 i, .string s] w fun e w' => e = .returned (.int .i64 0) ∧ ∃ T', TxStep bt w T w' T' ∧ T'.puts = T.puts ++ [(i, fullS s)] := by
  have hn := h.log.small
  have H1 := Lib.hid (fun u (hu : TxAt u bt T) => txDead_any hu)
  have H2 := Lib.hid (fun u (hu : TxAt u bt T) => txHomes_any hu)
  have H3 := Lib.hid (fun u => repeat_zero s hs u)
  have HCat := Lib.hid (fun u => fullS_cat s hs u)
  obtain ⟨ra, rc, hr, _⟩ := slice_form h.row
  have HR := Lib.hid hr
  clear hr
  have e1 : decide (i < 0) = false := by simp; omega
  have e2 : decide ((T.n : Int) ≤ i) = false := by simp; omega
  have e3 : decide ((512 : Int) < (s.size : Nat)) = false := by simp; omega
  have e4 : IntKind.i64.wrap ((512 : Int) - (s.size : Nat)) = (512 : Int) - (s.size : Nat) := wrapI (by omega) (by omega)
  have hwf : (Lit.int .i64 i).wf = true := keyOk (by omega) (by omega)
  obtain ⟨i0, hi0, hz0, hz1, hz2⟩ := info_parts infoInt
  obtain ⟨j0, hj0, hy0, hy1, hy2⟩ := info_parts infoPut
  have HI := Lib.hid hi0
  have HJ := Lib.hid hj0
  have Hz0 := Lib.hid hz0
  have Hz1 := Lib.hid hz1
  have Hz2 := Lib.hid hz2
  have Hy0 := Lib.hid hy0
  have Hy1 := Lib.hid hy1
  have Hy2 := Lib.hid hy2
  clear hi0 hj0 hz0 hz1 hz2 hy0 hy1 hy2
  have H := Lib.hid h
  have HIi := Lib.hid hi
  clear hi
  clear h
  go_enter Tryd.func54, Tryd.ntmps54
  go_wp2_with (first
    | (go_at_call 84; refine (H1.out _ H.out).mono ?_; rintro e w1 ⟨rfl, rfl⟩)
    | (go_at_call 49; refine (H2.out _ H.out).mono ?_; rintro e w1 ⟨rfl, hb1⟩))
  have HA1 := Lib.hid (H.out.still hb1)
  have HB1 := Lib.hid hb1
  clear hb1
  have HL := Lib.hid (posns_le T.puts i)
  have h63 : (posns T.puts i).length + 1 ≤ maxLen := by have := HL.out; unfold maxLen; omega
  obtain ⟨S, hS⟩ : ∃ S : World → Prop, ∀ u, S u ↔ Keep (fun k => (T.slot i).ownBlock = some k) (w1) u := ⟨fun u => Keep (fun k => (T.slot i).ownBlock = some k) (w1) u, fun _ => Iff.rfl⟩
  have HS := Lib.hid hS
  clear hS
  refine wp_region_ord 18 [(0, true), (1, true), (2, true), (3, true), (4, true), (5, true), (6, true), (7, true), (8, true), (9, true), (10, true), (11, true), (12, true), (13, true), (14, true), (15, true), (16, false), (17, false)] S (by kernel_rfl) (by kernel_rfl) ((HS.out _).2 (Keep.refl _ _).drew) ?_
  iterate 16
    first
      | (refine wpH_passed rfl (by rfl) (fun K hK => ?_); go_simp; refine hK _ ?_; clear hK K)
      | (first
           | refine wpH_read rfl rfl (fun K hK => ?_)
           | refine wpH_readw rfl (by rfl) (fun K hK => ?_)
         apply Exists.intro
         refine ⟨fun u hu => ?_, ?_⟩
         · have hu := (HS.out u).1 hu
           obtain ⟨⟨c0, c1, c2⟩, _⟩ := tCells (hu.at HA1.out.cells (fun e => (HA1.out.slot_ne e).1 rfl))
           have l1 := (HA1.out.where_.keep hu (fun e => (HA1.out.slot_ne e).2.1 rfl)).run_lookup Tryd.underlying3 Tryd.underlying100 (zeroInts u) hwf false
           simp only [Bool.false_eq_true, if_false] at l1
           rw [HR.out] at c1
           clear hu
           go_simp
           exact ⟨rfl, rfl⟩
         go_simp
         refine hK _ ?_
         clear hK K)
  refine wpH_do rfl rfl (fun K hK => ?_)
  go_simp
  have kA : Keep (fun k => (T.slot i).ownBlock = some k) w1 (w1.alloc (Obj.cells #[Value.int IntKind.i64 (T.puts.length : Nat)] 3)).drew := ((Keep.refl _ _).alloc _).drew
  refine hK _ _ ((HS.out _).2 kA) ?_
  clear hK K
  refine wpH_do rfl rfl (fun K hK => ?_)
  refine wp_append_lies _ _ _ 63 (by rfl) 0 3 i0 (.int .i64 0) 1 8 Tryd.underlying63 HI.out Hz0.out Hz1.out Hz2.out (by rfl) (by decide) (T.slot i) _ _ (by rfl) (((HA1.out.slot i).alloc _).drew) ⟨w1.heap.size, 0, none⟩ 1 1 [.int .i64 (T.puts.length : Nat)] (by rfl) (by rfl) (World.news_of_block (cs := #[.int .i64 (T.puts.length : Nat)]) (t := 3) (fr := (0, 0)) (heap_alloc_new w1 _)) (ints_oneCell .i64 [(T.puts.length : Nat)]) (by decide) h63 ?_ (Nat.zero_le _) _ rfl ?_
  · have := HL.out; omega
  intro g cap u3 hown3 hg3 hloc hglt
  have k3 := kA.grown hg3 (fun k _ e => e)
  refine hK _ _ ((HS.out _).2 k3) ?_
  clear hK K
  refine wpH_nil ?_
  simp only [List.drop_succ_cons, List.drop_zero]
  have hm3 := HA1.out.where_.keep k3 (fun e => (HA1.out.slot_ne e).2.1 rfl)
  obtain ⟨u4, hr4, hm4, hk4, hz4, hd4⟩ := hm3.run_update Tryd.underlying3 Tryd.underlying100 hwf (.slice (some ⟨g, 0, none⟩) ((posns T.puts i).length + 1) cap)
  have hloc3 : (Value.slice (some ⟨g, 0, none⟩) ((posns T.puts i).length + 1) cap).ownBlock = (T.slot i).ownBlock ∨ ∃ k, (Value.slice (some ⟨g, 0, none⟩) ((posns T.puts i).length + 1) cap).ownBlock = some k ∧ w1.heap.size ≤ k := by
    rcases hloc with e | e
    · exact .inl (e ▸ rfl)
    · exact .inr ⟨g, rfl, by rw [e]; simp⟩
  have c4 := hk4.at (k3.at HA1.out.cells (fun e => (HA1.out.slot_ne e).1 rfl)) HA1.out.apart.1
  have r4 := hk4.ownsRow (k3.ownsRow HA1.out.row (fun k hk e => (HA1.out.slot_ne e).2.2.2 hk)) (fun k hk e => (HA1.out.apart.2.2.2 k hk).2.1 e)
  have HK3 := Lib.hid k3
  have HK4 := Lib.hid hk4
  have HM4 := Lib.hid hm4
  have HO3 := Lib.hid hown3
  have HLoc := Lib.hid hloc3
  have HC4 := Lib.hid c4
  have HR4 := Lib.hid r4
  clear kA k3 hm3 hm4 hk4 hz4 hd4 hg3 hown3 hloc hloc3 hglt c4 r4 S HS
  go_wp2
  obtain ⟨S, hS⟩ : ∃ S : World → Prop, ∀ u, S u ↔ Keep (fun k => T.rowv.ownBlock = some k) (u4) u := ⟨fun u => Keep (fun k => T.rowv.ownBlock = some k) (u4) u, fun _ => Iff.rfl⟩
  have HS := Lib.hid hS
  clear hS
  refine wp_region_ord 15 [(0, true), (1, true), (2, true), (3, true), (4, true), (5, true), (6, true), (7, true), (8, true), (9, true), (10, false), (11, true), (12, true), (13, false), (14, false)] S (by kernel_rfl) (by kernel_rfl) ((HS.out _).2 (Keep.refl _ _).drew) ?_
  iterate 10
    first
      | (refine wpH_passed rfl (by rfl) (fun K hK => ?_); go_simp; refine hK _ ?_; clear hK K)
      | (first
           | refine wpH_read rfl rfl (fun K hK => ?_)
           | refine wpH_readw rfl (by rfl) (fun K hK => ?_)
         apply Exists.intro
         refine ⟨fun u hu => ?_, ?_⟩
         · have hu := (HS.out u).1 hu
           obtain ⟨⟨c0, c1, c2⟩, _⟩ := tCells (hu.at HC4.out (fun e => (HA1.out.apart.2.2.2 _ e).1 rfl))
           have l1 := HCat.out u
           rw [HR.out] at c1
           clear hu
           go_simp
           exact ⟨rfl, rfl⟩
         go_simp
         refine hK _ ?_
         clear hK K)
  refine wpH_do rfl rfl (fun K hK => ?_)
  go_simp
  go_at_call 85
  refine (H3.out _).mono ?_
  rintro e u5 ⟨rfl, hb5⟩
  have k5 : Keep (fun k => T.rowv.ownBlock = some k) u4 u5 := (Keep.refl _ _).drew.trans (Keep.ofBelow (S := fun k => T.rowv.ownBlock = some k) hb5) (fun _ _ h => h)
  refine hK _ _ ((HS.out _).2 k5) ?_
  clear hK K
  iterate 2
    first
      | (refine wpH_passed rfl (by rfl) (fun K hK => ?_); go_simp; refine hK _ ?_; clear hK K)
      | (first
           | refine wpH_read rfl rfl (fun K hK => ?_)
           | refine wpH_readw rfl (by rfl) (fun K hK => ?_)
         apply Exists.intro
         refine ⟨fun u hu => ?_, ?_⟩
         · have hu := (HS.out u).1 hu
           obtain ⟨⟨c0, c1, c2⟩, _⟩ := tCells (hu.at HC4.out (fun e => (HA1.out.apart.2.2.2 _ e).1 rfl))
           have l1 := HCat.out u
           rw [HR.out] at c1
           clear hu
           go_simp
           exact ⟨rfl, rfl⟩
         go_simp
         refine hK _ ?_
         clear hK K)
  refine wpH_do rfl rfl (fun K hK => ?_)
  go_simp
  have k6 := k5.alloc (Obj.cells #[Value.int IntKind.i64 i, Value.string (fullS s)] 88)
  refine hK _ _ ((HS.out _).2 k6) ?_
  clear hK K
  refine wpH_do rfl rfl (fun K hK => ?_)
  refine wp_append_lies _ _ _ 89 (by rfl) 0 88 j0 _ 2 24 Tryd.underlying89 HJ.out Hy0.out Hy1.out Hy2.out (by rfl) (by decide) T.rowv _ _ (by exact HR.out.symm) (((Keep.ofBelow (S := fun _ => False) hb5).ownsRow (HR4.out.drew) (fun _ _ h => h)).alloc _) ⟨u5.heap.size, 0, none⟩ 1 1 [.int .i64 i, .string (fullS s)] (by rfl) (by rfl) (World.news_of_block (cs := #[.int .i64 i, .string (fullS s)]) (t := 88) (fr := (0, 0)) (heap_alloc_new u5 _)) (by simp [Value.oneCell']) (by decide) (by unfold maxLen; omega) (by omega) (Nat.zero_le _) _ rfl ?_
  intro r2 cap2 u7 hown7 hg7 hloc7 hglt7
  have k7 := k6.grown hg7 (fun k _ e => e)
  refine hK _ _ ((HS.out _).2 k7) ?_
  clear hK K
  refine wpH_nil ?_
  simp only [List.drop_succ_cons, List.drop_zero]
  have hloc7' : (Value.slice (some ⟨r2, 0, none⟩) (T.puts.length + 1) cap2).ownBlock = T.rowv.ownBlock ∨ ∃ k, (Value.slice (some ⟨r2, 0, none⟩) (T.puts.length + 1) cap2).ownBlock = some k ∧ u3.heap.size ≤ k := by
    rcases hloc7 with e | e
    · exact .inl (e ▸ rfl)
    · have s5 := hb5.size
      have s4 := HK4.out.size
      have e2 : u4.drew.heap.size = u4.heap.size := rfl
      exact .inr ⟨r2, rfl, by rw [e, World.size_alloc]; omega⟩
  obtain ⟨⟨c0, c1, c2⟩, f0, f1, f2⟩ := tCells (k7.at HC4.out (fun e => (HA1.out.apart.2.2.2 _ e).1 rfl))
  have P := Lib.hid (put_step HA1.out HIi.out (fullS_size s hs) HK3.out HO3.out HLoc.out HM4.out HK4.out k7 hown7 hloc7')
  clear k5 k6 k7 hb5 hown7 hg7 hloc7 hglt7 hloc7' S HS
  go_wp2
  go_ret
  exact ⟨rfl, _, (TxStep.still H.out HB1.out).trans P.out, rfl⟩
end Go.Proofs.YtoajdccdhjlikaaDoor
