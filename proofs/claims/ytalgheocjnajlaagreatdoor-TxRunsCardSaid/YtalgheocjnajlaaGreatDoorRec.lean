/-
  THE LOG, walked: record.
-/
import Derived.Test.YtalgheocjnajlaaGreatDoorRecP
import Derived.Test.YtalgheocjnajlaaGreatDoorLg3
import Derived.Test.YtalgheocjnajlaaGreatDoorBuildR
namespace Go.Proofs.YtalgheocjnajlaaGreatDoor
open Go.RowKit Go.MapKept
attribute [local go_sem] gives givesH
set_option maxRecDepth 100000

def grpOf (g : Int → Option ByteArray) (ks : List Int) : Grp := ks.map (fun i => (i.toNat, (g i).getD ByteArray.empty))
theorem KeysOf.grp {g : Int → Option ByteArray} {ks : List Int} (h : KeysOf g ks) (h0 : ∀ i, g i ≠ none → 0 ≤ i) : GrpOf g (grpOf g ks) := by
  refine ⟨?_, fun i t => ?_, h0⟩
  · unfold grpOf
    rw [List.pairwise_map]
    refine h.sorted.imp_of_mem (fun {a b} ha hb hlt => ?_)
    have h1 := h0 a ((h.mem a).1 ha)
    have h2 := h0 b ((h.mem b).1 hb)
    show a.toNat < b.toNat
    omega
  · unfold grpOf
    rw [List.mem_map]
    constructor
    · rintro ⟨j, hj, he⟩
      have hg := (h.mem j).1 hj
      have hp := h0 j hg
      have h1 : j.toNat = i := congrArg Prod.fst he
      have h2 : (g j).getD ByteArray.empty = t := congrArg Prod.snd he
      have e : (i : Int) = j := by omega
      rw [e]
      cases hgj : g j with
      | none => exact absurd hgj hg
      | some s => rw [hgj] at h2; exact congrArg some h2
    · intro hg
      refine ⟨(i : Int), (h.mem _).2 (by rw [hg]; exact fun e => by cases e), ?_⟩
      rw [hg]
      rfl
/-- once it is down the rest does nothing -/
theorem Ran.rest {bl : Nat} {w w' : World} {L : LogS} {d : Dk} {ops all : List DOp} (h : Ran bl w L d ops w') (hd : (d.run ops).down = true) (ha : ∃ q, all = ops ++ q) : Ran bl w L d all w' ∧ (d.run all).down = true := by
  obtain ⟨q, rfl⟩ := ha
  have e : d.run (ops ++ q) = d.run ops := by rw [Dk.run_append, Dk.run_down _ _ hd]
  obtain ⟨D', h1, h2⟩ := h
  exact ⟨⟨D', h1, by rw [e]; exact h2⟩, by rw [e]; exact hd⟩
set_option maxHeartbeats 4000000 in
theorem record_any {w : World} {bl : Nat} {L : LogS} {d : Dk} (h : LogAt w bl L) (hd : DkOf L.D d) (hup : d.down = false) (hlen : d.writes.length ≤ 100000) {bm n : Nat} {g : Int → Option ByteArray} (hm : IMap w bm (strs g) n) (hbm : ¬ L.foot bl bm)
    (h0 : ∀ i, g i ≠ none → 0 ≤ i ∧ i < 65536) (hs : ∀ i t, g i = some t → t.size = 512) (h1 : 1 ≤ n) (hn : n ≤ 4096) (hfit : secs n + 1 ≤ L.ring) (hnx : L.next < L.ring) (hsq : L.seq + 1 < 18446744073709551616) :
    Calls Tryz.prog 94 #[.pointer (some ⟨bl, 0, none⟩), .map (some bm), .int .i64 (secs n : Nat)] w fun e w' => ∃ l, GrpOf g l ∧ l.length = n ∧
      e = .returned (.int .i64 (if (d.run (recOps L.ring L.next (L.seq + 1) l)).down then 3 else 0)) ∧ Ran bl w L d (recOps L.ring L.next (L.seq + 1) l) w' := by
  have hbw : (w.alloc (.cells #[.pointer none, .slice none 0 0] 122)).heap.size = w.heap.size + 1 := by simp
  have hB0 : IsB w.heap.size w.heap.size [] (w.alloc (.cells #[.pointer none, .slice none 0 0] 122)) := Lib.fresh_isBuilder _ _ w
  have hm1 := hm.keep ((Keep.refl (fun _ => False) w).alloc (.cells #[.pointer none, .slice none 0 0] 122)) (fun e => e)
  have HKy := Lib.hid (fun mb u => keys_any mb u)
  have HSo := sorted_any hm1 (by omega)
  have HB0 := Lib.hid hB0
  have HBw := Lib.hid hbw
  have HM := Lib.hid hm
  have HLg := Lib.hid h
  have HDk := Lib.hid hd
  have Hk0 := Lib.hid h0
  have Hs5 := Lib.hid hs
  have HBm := Lib.hid hbm
  have hbl : bl < w.heap.size := h.foot_lt (.inl rfl)
  rw [hbw] at HSo
  clear hbw hB0 hm1 hm h hd h0 hs hbm
  go_enter Tryz.func94, Tryz.ntmps94
  go_wp2_with (first
    | (go_at_call 110; refine (HKy.out _ _).mono ?_; rintro e w1 ⟨rfl, rfl⟩)
    | (go_at_call 109; refine (HSo).mono ?_; rintro e w2 ⟨v2, ks, rfl, hks, hkl, hrow, hb2⟩
       rw [← HBw.out] at hb2
       obtain ⟨a2, c2, rfl⟩ := slice_formB hrow
       have HB2 := Lib.hid (((Below.refl _ w).alloc (Nat.le_refl _) (.cells #[.pointer none, .slice none 0 0] 122)).trans (hb2.mono (by simp)))
       have HI2 := Lib.hid (isB_still HB0.out hb2)
       have HR2 := Lib.hid hrow
       have HKs := Lib.hid hks
       have HKl := Lib.hid hkl
       clear hrow hks hkl hb2))
  obtain ⟨l, hl⟩ : ∃ l, grpOf g ks = l := ⟨_, rfl⟩
  have hG : GrpOf g l := hl ▸ HKs.out.grp (fun i hi => (Hk0.out i hi).1)
  have hll : l.length = n := by rw [← hl]; unfold grpOf; rw [List.length_map]; exact HKl.out
  have hlk : ∀ k, k < n → ∃ (x : Nat) (t : ByteArray), l[k]? = some (x, t) ∧ ks[k]? = some (x : Int) ∧ g (x : Int) = some t ∧ t.size = 512 ∧ x < 65536 := fun k hk => by
    obtain ⟨i, hi⟩ : ∃ i, ks[k]? = some i := ⟨_, List.getElem?_eq_getElem (by rw [HKl.out]; exact hk)⟩
    have hg := (HKs.out.mem i).1 (List.mem_of_getElem? hi)
    obtain ⟨h1, h2⟩ := Hk0.out i hg
    have e : ((i.toNat : Nat) : Int) = i := Int.toNat_of_nonneg h1
    obtain ⟨t, ht⟩ := Option.ne_none_iff_exists'.1 hg
    refine ⟨i.toNat, t, ?_, by rw [e]; exact hi, by rw [e]; exact ht, Hs5.out i t ht, by omega⟩
    rw [← hl]
    unfold grpOf
    rw [List.getElem?_map, hi]
    simp [ht]
  have h512 : ∀ p ∈ l, p.2.size = 512 := fun p hp => by
    obtain ⟨k, hk⟩ := List.getElem?_of_mem hp
    have hkn : k < n := by rw [← hll]; exact (List.getElem?_eq_some_iff.1 hk).1
    obtain ⟨x, t, h1, _, _, h4, _⟩ := hlk k hkn
    rw [h1] at hk
    cases hk
    exact h4
  have HG := Lib.hid hG
  have HLL := Lib.hid hll
  have HLk := Lib.hid hlk
  have H512 := Lib.hid h512
  have hrl : ∀ k, k ≤ n → (recL (l.take k)).length = 516 * k := fun k hk => by
    rw [recL_length _ (fun p hp => h512 p (List.mem_of_mem_take hp)), List.length_take, hll, Nat.min_eq_left hk]
  have HRl := Lib.hid hrl
  clear hl hG hll hlk h512 hrl
  go_loopw [20] (fun i wr => ∃ k : Nat, k ≤ n ∧ i = .int .i64 k ∧ IsB w.heap.size w.heap.size (Lib.byteCells (recL (l.take k))) wr ∧ Below w.heap.size w wr ∧ wr.ownsRow (w.heap.size + 1) 3 1 (.slice a2 n c2) n (ks.map fun i => .int .i64 i)) (fun i _ => n - (intOf i).toNat)
  case atStart => exact ⟨0, by omega, rfl, by have := HI2.out; simpa [recL, Lib.byteCells] using this, HB2.out, HR2.out⟩
  case round =>
    obtain ⟨k, hk, rfl, hib, hbel, hrow⟩ := hrel
    have HIB := Lib.hid hib
    have HB := Lib.hid hbel
    have HR := Lib.hid hrow
    clear hib hbel hrow
    by_cases hlt : k < n
    · have g1 : decide ((k : Int) < (n : Int)) = true := by simp; omega
      have g1' : decide (k < n) = true := by simpa using hlt
      obtain ⟨x, t, hlx, hkx, hgx, ht5, hx6⟩ := HLk.out k hlt
      obtain ⟨ga, cb, hga, hcb, hcm, hgb⟩ := row_posB HR.out (by omega)
      obtain ⟨rfl, rfl⟩ : a2 = some ⟨ga, 0, none⟩ ∧ cb = c2 := by cases hga; exact ⟨rfl, rfl⟩
      clear hga
      have q0 := row_cells HR.out k _ (by rw [List.getElem?_map, hkx]; rfl)
      have HNum := Lib.hid (fun u => number_any x 4 (by omega) (by decide) (by decide) u)
      have hcl := HRl.out k hk
      have hsn : (⟨(numL x 4).toArray⟩ : ByteArray).size = 4 := by rw [size_of, numL_length]
      have hrec : recL (l.take (k + 1)) = recL (l.take k) ++ (numL x 4 ++ t.data.toList) := by
        rw [List.take_add_one, hlx]
        exact recL_snoc _ _
      have HRec := Lib.hid hrec
      have hwf : (Lit.int .i64 (x : Int)).wf = true := keyOk (by omega) (by omega)
      have ew : (x : Int) % 18446744073709551616 = (x : Int) := by omega
      have hx0 : (0 : Int) ≤ (x : Int) := by omega
      have hx1 : (x : Int) < 65536 := by omega
      have hk0 : (0 : Int) ≤ (k : Int) := by omega
      have hk1 : (k : Int) < (n : Int) := by omega
      have hgs : strs g (x : Int) = some (.string t) := by unfold strs; rw [hgx]; rfl
      have HGs := Lib.hid hgs
      have HSn := Lib.hid hsn
      have HNm : Hid ((⟨(numL x 4).toArray⟩ : ByteArray).data.toList = numL x 4) := Lib.hid (bytesOf _)
      generalize (⟨(numL x 4).toArray⟩ : ByteArray) = sn at *
      clear hlx hkx hgx hsn hrec hgs
      go_wp2_with (go_at_call 111; refine (HNum.out _).mono ?_; rintro e w3 ⟨rfl, hb3⟩
                   have HI3 := Lib.hid (isB_still HIB.out hb3)
                   have HB3 := Lib.hid (HB.out.trans (hb3.mono HB.out.size))
                   have HR3 := Lib.hid ((Keep.still hb3).ownsRow HR.out (fun _ _ e => e))
                   clear hb3)
      have A1 := Lib.hid (writeString_any HI3.out HB3.out.size sn (by rw [HSn.out, Lib.byteCells_length, hcl]; omega))
      refine (A1.out).mono ?_
      rintro e w4 ⟨rfl, hi4, hb4, ho4⟩
      have HI4 := Lib.hid hi4
      have HB4 := Lib.hid (HB3.out.trans hb4)
      have HR4 := Lib.hid (row_others HR3.out (isB_lt HI3.out) ho4)
      have l1 := (HM.out.keep (Keep.ofBelow (S := fun _ => False) HB4.out) (fun e => e)).run_lookup Tryz.underlying3 Tryz.underlying94 (zeroStr _) hwf false
      rw [HGs.out] at l1
      simp only [Bool.false_eq_true, if_false, Option.getD_some] at l1
      clear hi4 hb4 ho4
      go_wp2_with (fail)
      have A2 := Lib.hid (writeString_any HI4.out HB4.out.size t (by rw [List.length_append, Lib.byteCells_length, Lib.strCells_length, HSn.out, hcl]; omega))
      refine (A2.out).mono ?_
      rintro e w5 ⟨rfl, hi5, hb5, ho5⟩
      rw [strCells_eq, strCells_eq, HNm.out, List.append_assoc, ← byteCells_append, ← byteCells_append, ← HRec.out] at hi5
      have HI5 := Lib.hid hi5
      have HB5 := Lib.hid (HB4.out.trans hb5)
      have HR5 := Lib.hid (row_others HR4.out (isB_lt HI4.out) ho5)
      clear hi5 hb5 ho5
      go_wp2
      go_roundw
      case rel => exact ⟨k + 1, by omega, rfl, HI5.out, HB5.out, HR5.out⟩
      case measure => simp [intOf]; omega
    · have g1 : decide ((k : Int) < (n : Int)) = false := by simp; omega
      have g1' : decide (k < n) = false := by simpa using hlt
      obtain rfl : k = n := by omega
      have hib := HIB.out
      have htl : l.take k = l := List.take_of_length_le (by rw [HLL.out]; exact Nat.le_refl _)
      have hTl := HRl.out k (Nat.le_refl _)
      rw [htl] at hib hTl
      have HSt := Lib.hid (Tryz.Builder_String_any_k w.heap.size w.heap.size (recL l) wr (Lib.IsBuilderF.of hib) HB.out.size)
      clear hib htl
      go_wp2_with (go_at_call 74; refine (HSt.out).mono ?_; rintro e w5 ⟨rfl, hi5, hb5, ho5⟩
                   have HB5 := Lib.hid (HB.out.trans hb5)
                   have HRn := Lib.hid ((Ran.start HLg.out HDk.out).still HB5.out)
                   clear hi5 hb5 ho5)
      obtain ⟨S, hS⟩ : ∃ S, secs k = S := ⟨_, rfl⟩
      rw [hS] at hfit ⊢
      obtain ⟨T, hT⟩ : ∃ T, recL l = T := ⟨_, rfl⟩
      have hcov : T.length ≤ 511 * S := by rw [← hT, hTl, ← hS]; exact secs_covers k
      have hleast : 511 * (S - 1) < T.length := by
        rw [← hT, hTl, ← hS]
        unfold secs
        omega
      have HSs := Lib.hid hS
      have HT := Lib.hid hT
      rw [hT] at hTl ⊢
      have hr := HLg.out.ring
      clear hS hT
      go_loopw [10, 35] (fun ts i wr2 => ∃ j : Nat, j ≤ S ∧ i = .int .i64 j ∧ ts = .string ⟨(T.drop (511 * j)).toArray⟩ ∧ Ran bl w L d (wops (recP L.ring L.next l j)) wr2 ∧ (d.run (wops (recP L.ring L.next l j))).down = false) (fun _ i _ => S - (intOf i).toNat)
      case atStart => exact ⟨0, by omega, rfl, by simp, HRn.out, hup⟩
      case round =>
        obtain ⟨j, hj, rfl, rfl, hran, hdn⟩ := hrel
        have HRan := Lib.hid hran
        have HDn := Lib.hid hdn
        clear hran hdn
        by_cases hlt2 : j < S
        · have g2 : decide ((j : Int) < (S : Int)) = true := by simp; omega
          have g2' : decide (j < S) = true := by simpa using hlt2
          have hsj : (⟨(T.drop (511 * j)).toArray⟩ : ByteArray).size = T.length - 511 * j := by rw [size_of, List.length_drop]
          obtain ⟨sj, hsje⟩ : ∃ sj : ByteArray, ⟨(T.drop (511 * j)).toArray⟩ = sj := ⟨_, rfl⟩
          have HSj := Lib.hid hsje
          rw [hsje] at hsj ⊢
          have hj0 : (0 : Int) ≤ (j : Int) := by omega
          have hj1 : (j : Int) < (S : Int) := by omega
          obtain ⟨c, hc⟩ : ∃ c, min (516 * k - 511 * j) 511 = c := ⟨_, rfl⟩
          have hmin : min (((516 * k - 511 * j : Nat)) : Int) 511 = (c : Int) := by omega
          have hc0 : (0 : Int) ≤ (c : Int) := by omega
          have hc1 : (c : Int) ≤ ((516 * k - 511 * j : Nat) : Int) := by omega
          have hc511 : c ≤ 511 := by omega
          have hraw : (⟨#[80]⟩ : ByteArray) ++ sj.extract 0 c = ⟨(80 :: (T.drop (511 * j)).take 511).toArray⟩ := by
            rw [← HSj.out, ← hc, ← hTl]; exact piece_raw T j
          have hes : (sj.extract 0 c).size ≤ 511 := by rw [ByteArray.size_extract]; omega
          have hcat := fun u => run_string_add_sum (P := Tryz.prog) u ⟨#[80]⟩ (sj.extract 0 c) (by have : (⟨#[80]⟩ : ByteArray).size = 1 := rfl; omega)
          rw [hraw] at hcat
          have HCat := Lib.hid hcat
          obtain ⟨raw, hrw⟩ : ∃ raw : ByteArray, ⟨(80 :: (T.drop (511 * j)).take 511).toArray⟩ = raw := ⟨_, rfl⟩
          have hps : fullS raw = pieceS (recL l) j := by rw [← hrw, HT.out]; rfl
          have hrs : raw.size ≤ 512 := by rw [← hrw, size_of]; simp; omega
          rw [hrw] at HCat
          obtain ⟨m, hm⟩ : ∃ m, (L.next + 1 + j) % L.ring = m := ⟨_, rfl⟩
          have hmr : m < L.ring := by rw [← hm]; exact Nat.mod_lt _ (by omega)
          obtain ⟨N, hN⟩ : ∃ N, L.next + 1 + j = N := ⟨_, rfl⟩
          have e0 : IntKind.i64.wrap ((L.next : Int) + 1) = (L.next : Int) + 1 := wrapI (by omega) (by omega)
          have e1 : (L.next : Int) + 1 + (j : Int) = (N : Int) := by omega
          have w1 : IntKind.i64.wrap (N : Int) = (N : Int) := wrapI (by omega) (by omega)
          have e2 : (N : Int).tmod (L.ring : Int) = (m : Int) := by rw [Int.tmod_eq_emod_of_nonneg (by omega), ← hm, ← hN]; rfl
          have e3 : ¬ (L.ring : Int) = 0 := by omega
          have e3' : ¬ L.ring = 0 := by omega
          obtain ⟨pl, hpl⟩ : ∃ pl : Int, pl = ((1 + m : Nat) : Int) := ⟨_, rfl⟩
          have e4 : 1 + (m : Int) = pl := by omega
          have w2 : IntKind.i64.wrap pl = pl := wrapI (by omega) (by omega)
          have w3 : IntKind.i64.wrap (m : Int) = (m : Int) := wrapI (by omega) (by omega)
          have hll2 : (wops (recP L.ring L.next l j)).length = j := by simp [wops, recP]
          have HW := Lib.hid ((HRan.out.drew).write HDn.out (by rw [hll2]; omega) (i := pl) ⟨by omega, by omega⟩ raw hrs)
          have hop : wops (recP L.ring L.next l j) ++ [.write pl (fullS raw)] = wops (recP L.ring L.next l (j + 1)) := by
            rw [recP_succ, wops_snoc, hps, hpl, hm]
          rw [hop] at HW
          obtain ⟨D', hst, hdk⟩ := HRan.out
          have HCe := Lib.hid hst.at_.cells
          have hextr : sj.extract c (516 * k - 511 * j) = ⟨(T.drop (511 * (j + 1))).toArray⟩ := by
            rw [← HSj.out]
            apply ByteArray.ext
            apply Array.ext'
            rw [extract_list]
            simp only [List.drop_drop]
            have h2 : (T.drop (511 * j + c)).length = 516 * k - 511 * j - c := by rw [List.length_drop, hTl]; omega
            rw [← h2, List.take_length]
            by_cases hlast : 516 * k - 511 * j ≤ 511
            · rw [List.drop_eq_nil_of_le (by omega), List.drop_eq_nil_of_le (by omega)]
            · rw [show 511 * j + c = 511 * (j + 1) by omega]
          have HEx := Lib.hid hextr
          clear hsje hc hraw hcat hrw hps hm hN hpl hll2 hop hst hdk hextr
          cases hdd : (d.run (wops (recP L.ring L.next l (j + 1)))).down with
          | true =>
            rw [hdd] at HW
            simp only [if_true] at HW
            have HDd := Lib.hid hdd
            clear hdd
            go_wp2
            obtain ⟨S, hS⟩ : ∃ S : World → Prop, ∀ u, S u ↔ Keep (fun _ => False) (wr) u := ⟨fun u => Keep (fun _ => False) (wr) u, fun _ => Iff.rfl⟩
            have HS := Lib.hid hS
            clear hS
            refine wp_region_ord 21 [(0, true), (1, true), (2, true), (3, true), (4, true), (5, true), (6, true), (7, true), (8, true), (9, true), (10, true), (11, true), (12, true), (13, true), (14, true), (15, true), (16, true), (17, true), (18, true), (19, true), (20, true)] S (by kernel_rfl) (by kernel_rfl) ((HS.out _).2 (Keep.refl _ _).drew) ?_
            iterate 21
              first
                | (refine wpH_passed rfl (by rfl) (fun K hK => ?_); go_simp; refine hK _ ?_; clear hK K)
                | (first
                     | refine wpH_read rfl rfl (fun K hK => ?_)
                     | refine wpH_readw rfl (by rfl) (fun K hK => ?_)
                   apply Exists.intro
                   refine ⟨fun u hu => ?_, ?_⟩
                   · have hu := (HS.out u).1 hu
                     have c0 : u.cell? ⟨bl, 0, none⟩ = some (.pointer (some ⟨L.bd, 0, none⟩)) := (lCells (hu.at HCe.out (fun e => e))).1
                     have c1 : u.cell? ⟨bl, 1, none⟩ = some (.int .i64 L.ring) := (lCells (hu.at HCe.out (fun e => e))).2.1
                     have c3 : u.cell? ⟨bl, 3, none⟩ = some (.int .i64 L.next) := (lCells (hu.at HCe.out (fun e => e))).2.2.2.1
                     have l1 := HCat.out u
                     clear hu
                     go_simp
                     exact ⟨rfl, rfl⟩
                   go_simp
                   refine hK _ ?_
                   clear hK K)
            refine wpH_nil ?_
            simp only [List.drop_succ_cons, List.drop_zero]
            clear S HS
            go_wp2_with (go_at_call 112; refine (HW.out).mono ?_; rintro e w6 ⟨rfl, hr6⟩)
            go_ret
            have h6 := hr6.rest HDd.out (recOps_prefix L.ring L.next (L.seq + 1) l (j + 1) (by rw [HLL.out, HSs.out]; omega))
            exact ⟨l, HG.out, HLL.out, by rw [h6.2]; rfl, h6.1⟩
          | false =>
            rw [hdd] at HW
            simp only [Bool.false_eq_true, if_false] at HW
            have HDd := Lib.hid hdd
            clear hdd
            go_wp2
            obtain ⟨S, hS⟩ : ∃ S : World → Prop, ∀ u, S u ↔ Keep (fun _ => False) (wr) u := ⟨fun u => Keep (fun _ => False) (wr) u, fun _ => Iff.rfl⟩
            have HS := Lib.hid hS
            clear hS
            refine wp_region_ord 21 [(0, true), (1, true), (2, true), (3, true), (4, true), (5, true), (6, true), (7, true), (8, true), (9, true), (10, true), (11, true), (12, true), (13, true), (14, true), (15, true), (16, true), (17, true), (18, true), (19, true), (20, true)] S (by kernel_rfl) (by kernel_rfl) ((HS.out _).2 (Keep.refl _ _).drew) ?_
            iterate 21
              first
                | (refine wpH_passed rfl (by rfl) (fun K hK => ?_); go_simp; refine hK _ ?_; clear hK K)
                | (first
                     | refine wpH_read rfl rfl (fun K hK => ?_)
                     | refine wpH_readw rfl (by rfl) (fun K hK => ?_)
                   apply Exists.intro
                   refine ⟨fun u hu => ?_, ?_⟩
                   · have hu := (HS.out u).1 hu
                     have c0 : u.cell? ⟨bl, 0, none⟩ = some (.pointer (some ⟨L.bd, 0, none⟩)) := (lCells (hu.at HCe.out (fun e => e))).1
                     have c1 : u.cell? ⟨bl, 1, none⟩ = some (.int .i64 L.ring) := (lCells (hu.at HCe.out (fun e => e))).2.1
                     have c3 : u.cell? ⟨bl, 3, none⟩ = some (.int .i64 L.next) := (lCells (hu.at HCe.out (fun e => e))).2.2.2.1
                     have l1 := HCat.out u
                     clear hu
                     go_simp
                     exact ⟨rfl, rfl⟩
                   go_simp
                   refine hK _ ?_
                   clear hK K)
            refine wpH_nil ?_
            simp only [List.drop_succ_cons, List.drop_zero]
            clear S HS
            go_wp2_with (go_at_call 112; refine (HW.out).mono ?_; rintro e w6 ⟨rfl, hr6⟩
                         have HR6 := Lib.hid hr6
                         clear hr6)
            go_roundw
            case rel => exact ⟨j + 1, by omega, rfl, by rw [HEx.out], HR6.out, HDd.out⟩
            case measure => simp [intOf]; omega
        · have g2 : decide ((j : Int) < (S : Int)) = false := by simp; omega
          have g2' : decide (j < S) = false := by simpa using hlt2
          obtain rfl : j = S := by omega
          have HFl := Lib.hid (HRan.out.flush HDn.out)
          have hsl : secs l.length = j := by rw [HLL.out]; exact HSs.out
          have hrec : recOps L.ring L.next (L.seq + 1) l = wops (recP L.ring L.next l j) ++ [.flush, .write ((1 + L.next : Nat) : Int) (hdrS (L.seq + 1) k), .flush] := by
            unfold recOps; rw [hsl, HLL.out]
          have HRec := Lib.hid hrec
          have hll2 : (wops (recP L.ring L.next l j)).length = j := by simp [wops, recP]
          generalize wops (recP L.ring L.next l j) = A at *
          cases hdd : (d.run (A ++ [.flush])).down with
          | true =>
            rw [hdd] at HFl
            simp only [if_true] at HFl
            have HDd := Lib.hid hdd
            obtain ⟨D', hst, _⟩ := HRan.out
            obtain ⟨⟨c0, c1, c2, c3, c4, c5, c6, c7⟩⟩ : (_ ∧ _) := ⟨lCells hst.at_.cells, trivial⟩
            clear hdd hst
            go_wp2_with (go_at_call 113; refine (HFl.out).mono ?_; rintro e w6 ⟨rfl, hr6⟩)
            go_ret
            have h6 := hr6.rest (all := recOps L.ring L.next (L.seq + 1) l) HDd.out ⟨[.write ((1 + L.next : Nat) : Int) (hdrS (L.seq + 1) k), .flush], by rw [HRec.out]; simp⟩
            exact ⟨l, HG.out, HLL.out, by rw [h6.2]; rfl, h6.1⟩
          | false =>
            rw [hdd] at HFl
            simp only [Bool.false_eq_true, if_false] at HFl
            have HDd := Lib.hid hdd
            obtain ⟨D', hst, _⟩ := HRan.out
            obtain ⟨c0, c1, c2, c3, c4, c5, c6, c7⟩ := lCells hst.at_.cells
            clear hdd hst
            go_wp2_with (go_at_call 113; refine (HFl.out).mono ?_; rintro e w7 ⟨rfl, hr7⟩
                         have HR7 := Lib.hid hr7
                         clear hr7)
            obtain ⟨D7, hst7, _⟩ := HR7.out
            have HCe := Lib.hid hst7.at_.cells
            have HM7 := Lib.hid (HM.out.keep HR7.out.keep HBm.out)
            have HN1 := Lib.hid (fun u => number_any (L.seq + 1) 8 hsq (by decide) (by decide) u)
            have HN2 := Lib.hid (fun u => number_any k 4 (by omega) (by decide) (by decide) u)
            obtain ⟨s8, hs8⟩ : ∃ s8 : ByteArray, ⟨(numL (L.seq + 1) 8).toArray⟩ = s8 := ⟨_, rfl⟩
            obtain ⟨s4, hs4⟩ : ∃ s4 : ByteArray, ⟨(numL k 4).toArray⟩ = s4 := ⟨_, rfl⟩
            have hz8 : s8.size = 8 := by rw [← hs8, size_of, numL_length]
            have hz4 : s4.size = 4 := by rw [← hs4, size_of, numL_length]
            have hz1 : (⟨#[67]⟩ : ByteArray).size = 1 := rfl
            have hz9 : ((⟨#[67]⟩ : ByteArray) ++ s8).size = 9 := by rw [ByteArray.size_append, hz1, hz8]
            have hcat1 := fun u => run_string_add_sum (P := Tryz.prog) u ⟨#[67]⟩ s8 (by omega)
            have hcat2 := fun u => run_string_add_sum (P := Tryz.prog) u ((⟨#[67]⟩ : ByteArray) ++ s8) s4 (by omega)
            have hfs : fullS ((⟨#[67]⟩ : ByteArray) ++ s8 ++ s4) = hdrS (L.seq + 1) k := by
              rw [← hs8, ← hs4]
              unfold hdrS
              congr 1
            have hrs : ((⟨#[67]⟩ : ByteArray) ++ s8 ++ s4).size ≤ 512 := by rw [ByteArray.size_append, hz9, hz4]; decide
            rw [hs8] at HN1
            rw [hs4] at HN2
            have HCat1 := Lib.hid hcat1
            have HCat2 := Lib.hid hcat2
            have HFs := Lib.hid hfs
            clear hst7 hs8 hs4 hz8 hz4 hcat1 hcat2 hfs
            generalize hraw : (⟨#[67]⟩ : ByteArray) ++ s8 ++ s4 = raw at *
            generalize (⟨#[67]⟩ : ByteArray) ++ s8 = s9 at *
            have e1 : (1 : Int) + (L.next : Int) = ((1 + L.next : Nat) : Int) := by omega
            obtain ⟨pl, hpl⟩ : ∃ pl : Int, ((1 + L.next : Nat) : Int) = pl := ⟨_, rfl⟩
            rw [hpl] at e1 HRec
            have w1 : IntKind.i64.wrap pl = pl := wrapI (by omega) (by omega)
            obtain ⟨sq, hsqe⟩ : ∃ sq, L.seq + 1 = sq := ⟨_, rfl⟩
            rw [hsqe] at HN1
            have e2 : (L.seq : Int) + 1 = (sq : Int) := by omega
            have e3 : (sq : Int) % 18446744073709551616 = (sq : Int) := by omega
            have e3w : IntKind.u64.wrap (sq : Int) = (sq : Int) := by rw [IntKind.wrap_u64]; omega
            have e4w : IntKind.u64.wrap (k : Int) = (k : Int) := by rw [IntKind.wrap_u64]; omega
            have e4 : (k : Int) % 18446744073709551616 = (k : Int) := by omega
            have hdl : d.writes.length + (A ++ [DOp.flush]).length < 1000000000 := by rw [List.length_append, hll2]; simp; omega
            have hpr : 0 ≤ pl ∧ pl < (L.D.size : Nat) := ⟨by omega, by omega⟩
            have HPr := Lib.hid hpr
            have HDl := Lib.hid hdl
            have hk0 : (0 : Int) ≤ (k : Int) := by omega
            have hk1 : (k : Int) ≤ 4096 := by omega
            clear hraw hz1 hz9 hdl hpl hpr hsqe
            go_wp2
            obtain ⟨S, hS⟩ : ∃ S : World → Prop, ∀ u, S u ↔ Keep (fun _ => False) (w7) u := ⟨fun u => Keep (fun _ => False) (w7) u, fun _ => Iff.rfl⟩
            have HS := Lib.hid hS
            clear hS
            refine wp_region_ord 21 [(0, true), (1, true), (2, true), (3, true), (4, true), (5, true), (6, true), (7, true), (8, true), (9, true), (10, true), (11, true), (12, true), (13, true), (16, true), (14, false), (15, true), (17, true), (18, true), (19, false), (20, true)] S (by kernel_rfl) (by kernel_rfl) ((HS.out _).2 (Keep.refl _ _).drew) ?_
            iterate 15
              first
                | (refine wpH_passed rfl (by rfl) (fun K hK => ?_); go_simp; refine hK _ ?_; clear hK K)
                | (first
                     | refine wpH_read rfl rfl (fun K hK => ?_)
                     | refine wpH_readw rfl (by rfl) (fun K hK => ?_)
                   apply Exists.intro
                   refine ⟨fun u hu => ?_, ?_⟩
                   · have hu := (HS.out u).1 hu
                     have c0 : u.cell? ⟨bl, 0, none⟩ = some (.pointer (some ⟨L.bd, 0, none⟩)) := (lCells (hu.at HCe.out (fun e => e))).1
                     have c3 : u.cell? ⟨bl, 3, none⟩ = some (.int .i64 L.next) := (lCells (hu.at HCe.out (fun e => e))).2.2.2.1
                     have c5 : u.cell? ⟨bl, 5, none⟩ = some (.int .u64 L.seq) := (lCells (hu.at HCe.out (fun e => e))).2.2.2.2.2.1
                     have l1 := HCat1.out u
                     have l2 := HCat2.out u
                     have l3 := fun ty => (HM7.out.keep hu (fun e => e)).run_len (ty := ty) Tryz.underlying94
                     clear hu
                     go_simp
                     exact ⟨rfl, rfl⟩
                   go_simp
                   refine hK _ ?_
                   clear hK K)
            refine wpH_do rfl rfl (fun K hK => ?_)
            go_simp
            go_at_call 111
            refine (HN1.out _).mono ?_
            rintro e u5 ⟨rfl, hb5⟩
            have k5 : Keep (fun _ => False) w7 u5 := (Keep.refl _ _).drew.trans (Keep.ofBelow (S := fun _ => False) hb5) (fun _ _ h => h)
            refine hK _ _ ((HS.out _).2 k5) ?_
            clear hK K
            iterate 3
              first
                | (refine wpH_passed rfl (by rfl) (fun K hK => ?_); go_simp; refine hK _ ?_; clear hK K)
                | (first
                     | refine wpH_read rfl rfl (fun K hK => ?_)
                     | refine wpH_readw rfl (by rfl) (fun K hK => ?_)
                   apply Exists.intro
                   refine ⟨fun u hu => ?_, ?_⟩
                   · have hu := (HS.out u).1 hu
                     have c0 : u.cell? ⟨bl, 0, none⟩ = some (.pointer (some ⟨L.bd, 0, none⟩)) := (lCells (hu.at HCe.out (fun e => e))).1
                     have c3 : u.cell? ⟨bl, 3, none⟩ = some (.int .i64 L.next) := (lCells (hu.at HCe.out (fun e => e))).2.2.2.1
                     have c5 : u.cell? ⟨bl, 5, none⟩ = some (.int .u64 L.seq) := (lCells (hu.at HCe.out (fun e => e))).2.2.2.2.2.1
                     have l1 := HCat1.out u
                     have l2 := HCat2.out u
                     have l3 := fun ty => (HM7.out.keep hu (fun e => e)).run_len (ty := ty) Tryz.underlying94
                     clear hu
                     go_simp
                     exact ⟨rfl, rfl⟩
                   go_simp
                   refine hK _ ?_
                   clear hK K)
            refine wpH_do rfl rfl (fun K hK => ?_)
            go_simp
            go_at_call 111
            refine (HN2.out _).mono ?_
            rintro e u6 ⟨rfl, hb6⟩
            have k6 : Keep (fun _ => False) w7 u6 := k5.trans (Keep.ofBelow (S := fun _ => False) hb6) (fun _ _ h => h)
            refine hK _ _ ((HS.out _).2 k6) ?_
            clear hK K
            iterate 1
              first
                | (refine wpH_passed rfl (by rfl) (fun K hK => ?_); go_simp; refine hK _ ?_; clear hK K)
                | (first
                     | refine wpH_read rfl rfl (fun K hK => ?_)
                     | refine wpH_readw rfl (by rfl) (fun K hK => ?_)
                   apply Exists.intro
                   refine ⟨fun u hu => ?_, ?_⟩
                   · have hu := (HS.out u).1 hu
                     have c0 : u.cell? ⟨bl, 0, none⟩ = some (.pointer (some ⟨L.bd, 0, none⟩)) := (lCells (hu.at HCe.out (fun e => e))).1
                     have c3 : u.cell? ⟨bl, 3, none⟩ = some (.int .i64 L.next) := (lCells (hu.at HCe.out (fun e => e))).2.2.2.1
                     have c5 : u.cell? ⟨bl, 5, none⟩ = some (.int .u64 L.seq) := (lCells (hu.at HCe.out (fun e => e))).2.2.2.2.2.1
                     have l1 := HCat1.out u
                     have l2 := HCat2.out u
                     have l3 := fun ty => (HM7.out.keep hu (fun e => e)).run_len (ty := ty) Tryz.underlying94
                     clear hu
                     go_simp
                     exact ⟨rfl, rfl⟩
                   go_simp
                   refine hK _ ?_
                   clear hK K)
            refine wpH_nil ?_
            simp only [List.drop_succ_cons, List.drop_zero]
            have HR8 := Lib.hid (HR7.out.still (k6.below (Nat.le_refl _) (fun i hi e => e)))
            have HW := Lib.hid (HR8.out.write HDd.out HDl.out HPr.out raw hrs)
            rw [HFs.out] at HW
            clear k5 k6 hb5 hb6 S HS
            cases hdd : (d.run (A ++ [.flush] ++ [.write pl (hdrS (L.seq + 1) k)])).down with
            | true =>
              rw [hdd] at HW
              simp only [if_true] at HW
              have HDe := Lib.hid hdd
              clear hdd
              go_wp2_with (go_at_call 112; refine (HW.out).mono ?_; rintro e w9 ⟨rfl, hr9⟩)
              go_ret
              have h6 := hr9.rest (all := recOps L.ring L.next (L.seq + 1) l) HDe.out ⟨[.flush], by rw [HRec.out]; simp⟩
              exact ⟨l, HG.out, HLL.out, by rw [h6.2]; rfl, h6.1⟩
            | false =>
              rw [hdd] at HW
              simp only [Bool.false_eq_true, if_false] at HW
              have HDe := Lib.hid hdd
              clear hdd
              go_wp2_with (first
                | (go_at_call 112; refine (HW.out).mono ?_; rintro e w9 ⟨rfl, hr9⟩
                   obtain ⟨c, hcc⟩ : ∃ c : Int, (if (d.run (A ++ [.flush] ++ [.write pl (hdrS (L.seq + 1) k)] ++ [.flush])).down then (3 : Int) else 0) = c := ⟨_, rfl⟩
                   have hfl2 := hr9.flush HDe.out
                   rw [hcc] at hfl2
                   have HFl2 := Lib.hid hfl2
                   have HCc := Lib.hid hcc
                   clear hfl2 hcc
                   obtain ⟨D9, hst9, _⟩ := hr9
                   obtain ⟨c0, c1, c2, c3, c4, c5, c6, c7⟩ := lCells hst9.at_.cells
                   clear hst9)
                | (go_at_call 113; refine (HFl2.out).mono ?_; rintro e wA ⟨rfl, hrA⟩))
              go_ret
              have he : A ++ [.flush] ++ [.write pl (hdrS (L.seq + 1) k)] ++ [.flush] = recOps L.ring L.next (L.seq + 1) l := by rw [HRec.out]; simp
              have hcc := HCc.out
              rw [he] at hrA hcc
              exact ⟨l, HG.out, HLL.out, by rw [hcc]; rfl, hrA⟩
end Go.Proofs.YtalgheocjnajlaaGreatDoor

