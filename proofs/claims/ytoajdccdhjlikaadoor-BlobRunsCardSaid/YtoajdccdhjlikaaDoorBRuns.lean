/-
  BlobRuns, walked.
-/
import Derived.Test.YtoajdccdhjlikaaDoorRuns8
import Derived.Test.YtoajdccdhjlikaaDoorHeld2
import Derived.Deep.CutRange
import Derived.Deep.DeepCutAuto
import Derived.BigQuiet
import Derived.WalkSmall
namespace Go.Proofs.YtoajdccdhjlikaaDoor
open Go.RowKit Go.MapKept
attribute [local go_sem] gives givesH
set_option maxRecDepth 100000

theorem infoKept : (Tryd.prog.info? 59).map (fun i => (i.zero, i.size, i.bytes)) = some (some (.agg #[.int .i64 0, .string ⟨#[]⟩]), 2, 24) := by kernel_rfl
/-- the number of a blob -/
theorem pick_mod (z : Int) (n : Nat) (hn : 0 < n) : ∃ k : Nat, k < n ∧ (z.tmod (n : Int) + (n : Int)).tmod (n : Int) = (k : Int) ∧ -(n : Int) < z.tmod (n : Int) ∧ z.tmod (n : Int) < (n : Int) := by
  have h1 : -(n : Int) < z.tmod (n : Int) := by
    have h5 : (z.tmod (n : Int)).natAbs < n := by rw [Int.natAbs_tmod]; exact Nat.mod_lt _ (by simpa using hn)
    omega
  have h2 : z.tmod (n : Int) < (n : Int) := Int.tmod_lt_of_pos z (by omega)
  have h0 : 0 ≤ z.tmod (n : Int) + (n : Int) := by omega
  rw [Int.tmod_eq_emod_of_nonneg h0]
  have h3 := Int.emod_nonneg (z.tmod (n : Int) + (n : Int)) (b := (n : Int)) (by omega)
  have h4 := Int.emod_lt_of_pos (z.tmod (n : Int) + (n : Int)) (b := (n : Int)) (by omega)
  exact ⟨((z.tmod (n : Int) + (n : Int)) % (n : Int)).toNat, by omega, by omega, h1, h2⟩
theorem keptTake (L : Blobs) (j i : Nat) (u : Value) (h : (keptCells (L.take j))[i]? = some u) : (keptCells L)[i]? = some u := by
  have e : keptCells L = keptCells (L.take j) ++ keptCells (L.drop j) := by rw [← keptCells_append, List.take_append_drop]
  rw [e, List.getElem?_append_left (List.getElem?_eq_some_iff.1 h).1]
  exact h
theorem keptDrop (L : Blobs) (j i : Nat) (u : Value) (hj : j ≤ L.length) (h : (keptCells (L.drop j))[i]? = some u) : (keptCells L)[j * 2 + i]? = some u := by
  have e : keptCells L = keptCells (L.take j) ++ keptCells (L.drop j) := by rw [← keptCells_append, List.take_append_drop]
  have e2 : (keptCells (L.take j)).length = j * 2 := by rw [keptCells_length, List.length_take, Nat.min_eq_left hj]
  rw [e, List.getElem?_append_right (by omega), e2, Nat.add_sub_cancel_left]
  exact h
theorem add_at (g a i : Nat) : (⟨g, a, none⟩ : Addr).add i = ⟨g, a + i, none⟩ := by unfold Addr.add; split <;> simp_all
theorem kept_one (L : Blobs) : ∀ u ∈ keptCells L, u.oneCell' = true := fun u hu => by
  unfold keptCells at hu
  obtain ⟨x, _, hx⟩ := List.mem_flatMap.1 hu
  simp at hx
  rcases hx with rfl | rfl <;> rfl
/-- a row of nothing -/
theorem row_empty (w : World) (B : Nat) (e : TypeId) (size : Nat) (hB : B ≤ w.heap.size) : (w.alloc (Obj.cells #[] e)).ownsRow B e size (.slice (some ⟨w.heap.size, 0, none⟩) 0 0) 0 [] :=
  ⟨by simp, .inr ⟨w.heap.size, 0, #[], rfl, hB, heap_alloc_new w _, Nat.le_refl _, Nat.zero_le _, by simp, by simp⟩⟩
/-- the state of the law's loop -/
def BRel (w0 : World) (br P : Nat) (c : Nat) (v u : Value) (wr : World) : Prop :=
  ∃ R L, u = .int .i64 ((allP L).length : Nat) ∧ BSt w0 wr br P R L L v c ∧ L.length ≤ c
set_option maxHeartbeats 8000000 in
theorem bruns_walk (homes : Int) (a : Option Addr) (b off len cap : Nat) (wh nn sz cc : Nat → Int) (w : World) (hlen : len ≤ 9223372036854775807) (ha : 0 < len → a = some ⟨b, off, none⟩ ∧ b < w.heap.size)
    (hc : ∀ k, k < len → w.cell? ⟨b, off + k * 4, none⟩ = some (.int .i64 (wh k)) ∧ w.cell? ⟨b, off + k * 4 + 1, none⟩ = some (.int .i64 (nn k)) ∧ w.cell? ⟨b, off + k * 4 + 2, none⟩ = some (.int .i64 (sz k)) ∧ w.cell? ⟨b, off + k * 4 + 3, none⟩ = some (.int .u8 (cc k)))
    (hz : ∀ k, k < len → 0 ≤ cc k ∧ cc k < 256) :
    Calls Tryd.prog 6 #[.int .i64 homes, .slice a len cap] w fun e w' => e = .returned (.bool true) ∧ Below w.heap.size w w' := by
  have HA := Lib.hid (awake8_any w)
  by_cases h4 : homes < 4
  · as_aux_lemma =>
      have e1 : decide (homes < 4) = true := by simpa using h4
      clear hc ha hz
      go_enter Tryd.func6, Tryd.ntmps6
      go_wp2_with (go_at_call 22; refine (HA.out).mono ?_; rintro e w1 ⟨rfl, hb1⟩)
      go_ret
      exact ⟨rfl, hb1⟩
  have e1 : decide (homes < 4) = false := by simpa using h4
  by_cases h60 : 60 < homes
  · as_aux_lemma =>
      have e2 : decide (60 < homes) = true := by simpa using h60
      clear hc ha hz
      go_enter Tryd.func6, Tryd.ntmps6
      go_wp2_with (go_at_call 22; refine (HA.out).mono ?_; rintro e w1 ⟨rfl, hb1⟩)
      go_ret
      exact ⟨rfl, hb1⟩
  have e2 : decide (60 < homes) = false := by simpa using h60
  by_cases h100 : 40 < len
  · as_aux_lemma =>
      have e3 : decide ((40 : Int) < (len : Int)) = true := by simp; omega
      clear hc ha hz
      go_enter Tryd.func6, Tryd.ntmps6
      go_wp2_with (go_at_call 22; refine (HA.out).mono ?_; rintro e w1 ⟨rfl, hb1⟩)
      go_ret
      exact ⟨rfl, hb1⟩
  have e3 : decide ((40 : Int) < (len : Int)) = false := by simp; omega
  obtain ⟨hm, rfl⟩ : ∃ hm : Nat, homes = hm := ⟨homes.toNat, by omega⟩
  have HW := Lib.hid (fun u => wide_view hm (by omega) (by omega) u)
  have hpg : pagesOf hm = ((hm - 2 : Nat) : Int) := by unfold pagesOf; rw [if_neg (by omega)]; omega
  obtain ⟨P, hP⟩ : ∃ P, P = hm - 2 := ⟨_, rfl⟩
  rw [← hP] at hpg
  have hP60 : P ≤ 58 := by omega
  have HRp := Lib.hid (fun u => refPages_any hm u)
  rw [hpg] at HRp
  have HPG := Lib.hid hpg
  have HC := Lib.hid hc
  have HZ := Lib.hid hz
  have HAa := Lib.hid ha
  have hm1 : 1 ≤ hm := by omega
  have hl40 : len ≤ 40 := by omega
  obtain ⟨i0, hi0, hy0, hy1, hy2⟩ := info_parts infoKept
  have HI := Lib.hid hi0
  have Hy0 := Lib.hid hy0
  have Hy1 := Lib.hid hy1
  have Hy2 := Lib.hid hy2
  clear hc hz ha hpg hP h4 h60 h100 hi0 hy0 hy1 hy2
  go_enter Tryd.func6, Tryd.ntmps6
  go_wp2_with (first
    | (go_at_call 22; refine (HA.out).mono ?_; rintro e w1 ⟨rfl, hb1⟩
       have HB1 := Lib.hid hb1
       clear hb1)
    | (go_at_call 13; refine (HW.out _).mono ?_; rintro e w2 ⟨bd, bl, rfl, hv, hb2⟩
       have HV := Lib.hid (begin_fresh hv)
       have HB2 := Lib.hid (HB1.out.trans (hb2.mono HB1.out.size))
       clear hv hb2)
    | (go_at_call 15; refine (HV.out).mono ?_; rintro e w3 ⟨bt, T, rfl, hT, hA, ho, hb3⟩
       have HO := Lib.hid (of_fresh hA hm1 hT)
       have HB3 := Lib.hid (HB2.out.trans (hb3.mono HB2.out.size))
       have HOw := Lib.hid ho
       clear hT hA ho hb3)
    | (go_at_call 14; refine (HO.out).mono ?_; rintro e w4 ⟨br, R0, rfl, hA, hF, ho, hb4⟩
       have H0 : RoomOn w w4 br R0 := ⟨hA, HB3.out.trans (hb4.mono HB3.out.size), fun k hk => Nat.le_trans HB2.out.size (HOw.out k (ho k hk))⟩
       have hpg0 : R0.pages = P := by rw [hF.pages, HPG.out]; rfl
       have hS0 : BSt w w4 br P R0 [] [] (.slice none 0 0) 0 := ⟨H0, hpg0, fun x hx => (by cases hx), List.nodup_nil, fun q _ => by rw [hF.has]; rfl, World.ownsRow_nil _ _ _ _, fun g hg => (by cases hg), by rw [hF.puts]; exact Nat.le_refl _⟩
       have HS0 := Lib.hid hS0
       clear hA hF ho hb4 H0 hpg0 hS0)
    | (go_at_call 30; refine (HRp.out _).mono ?_; rintro e w5 ⟨rfl, rfl⟩))
  go_loopw [8, 9, 60] (fun v u i wr => ∃ k : Nat, k ≤ len ∧ i = .int .i64 k ∧ BRel w br P (20 * k) v u wr) (fun _ _ i _ => len - (intOf i).toNat)
  case atStart => exact ⟨0, by omega, rfl, R0, [], rfl, HS0.out, by simp⟩
  case round =>
    obtain ⟨k, hk, rfl, R, L, rfl, hst, hLl⟩ := hrel
    have HSt := Lib.hid hst
    clear hst
    by_cases hkl : k < len
    · have g1 : decide (k < len) = true := by simpa using hkl
      obtain ⟨rfl, hbw⟩ := HAa.out (by omega)
      obtain ⟨q0, q1, q2, q3⟩ := HC.out k hkl
      rw [← HSt.out.on.below.cell (p := ⟨b, off + k * 4, none⟩) hbw] at q0
      rw [← HSt.out.on.below.cell (p := ⟨b, off + k * 4 + 1, none⟩) hbw] at q1
      rw [← HSt.out.on.below.cell (p := ⟨b, off + k * 4 + 2, none⟩) hbw] at q2
      rw [← HSt.out.on.below.cell (p := ⟨b, off + k * 4 + 3, none⟩) hbw] at q3
      obtain ⟨hc0, hc1⟩ := HZ.out k hkl
      generalize wh k = wk at *
      generalize nn k = nk at *
      generalize sz k = sk at *
      generalize cc k = ck at *
      have hk0 : (0 : Int) ≤ (k : Int) := by omega
      have hk1 : (k : Int) < (len : Int) := by omega
      obtain ⟨a0, c0, rfl⟩ := slice_formB HSt.out.row
      have hU : (allP L).length ≤ 58 := by
        have h1 := HSt.out.used.2
        have h2 := cnt_le R.has R.pages
        have h3 := HSt.out.pages
        omega
      generalize hUU : (allP L).length = U at *
      have HUU := Lib.hid hUU
      clear hUU
      have HBx := Lib.hid (HSt.out.still ((Below.refl _ _).alloc (Nat.le_refl _) (Obj.cells #[Value.int IntKind.i64 wk, Value.int IntKind.i64 nk, Value.int IntKind.i64 sk, Value.int IntKind.u8 ck] 57)))
      go_upto_block 2 with (fail)
      go_cut [8, 9, 12, 13, 14, 15, 16, 17, 18, 19, 20, 21, 60] from 61 to 282 (fun v u _ _ _ _ _ _ _ _ _ _ i wx => i = .int .i64 k ∧ BRel w br P (20 * (k + 1)) v u wx)
      case first =>
        by_cases w0 : wk = 0
        · as_aux_lemma =>
            have t0 : (wk == 0) = true := by simpa using w0
            clear w0
            by_cases hs0 : sk < 0
            · have d1 : decide (sk < 0) = true := by simpa using hs0
              clear hs0
              go_wp2
              go_ret
              exact ⟨rfl, HBx.out.on.below⟩
            have d1 : decide (sk < 0) = false := by simpa using hs0
            by_cases hs3 : 3000 < sk
            · have d2 : decide (3000 < sk) = true := by simpa using hs3
              clear hs0 hs3
              go_wp2
              go_ret
              exact ⟨rfl, HBx.out.on.below⟩
            have d2 : decide (3000 < sk) = false := by simpa using hs3
            obtain ⟨n, rfl⟩ : ∃ n : Nat, sk = n := ⟨sk.toNat, by omega⟩
            have HT := Lib.hid (fun u => text_any n (by omega) ck hc0 hc1 u)
            have hn3 : n ≤ 3000 := by omega
            have hpb6 := pagesB_3000 hn3
            have HRf := Lib.hid (fun u => ref8Pages n (by omega) u)
            rw [pagesI_nat] at HRf
            obtain ⟨pb, hpb⟩ : ∃ pb, pagesB n = pb := ⟨_, rfl⟩
            rw [hpb] at HRf hpb6
            have HPB := Lib.hid hpb
            clear hs0 hs3 hpb
            go_wp2_with (first
              | (go_at_call 25; refine (HT.out _).mono ?_; rintro e w5 ⟨s, hs, rfl, hb5⟩
                 have HB5 := Lib.hid (HBx.out.still hb5)
                 have HS := Lib.hid hs
                 clear hb5)
              | (go_at_call 24; refine (HRf.out _).mono ?_; rintro e w6 ⟨rfl, rfl⟩))
            have hput := HB5.out.put (by omega) s (by rw [HS.out]; exact hn3)
            have HLen := Lib.hid hLl
            refine hput.mono ?_
            rintro e w7 (⟨hle, ps, R7, hpl, rfl, hb7⟩ | ⟨hlt, R7, rfl, hb7⟩)
            · rw [HS.out, HPB.out, HUU.out] at hle
              have d3 : decide (P < U + pb) = false := by simp; omega
              have d4 : decide ((P : Int) < (U : Int) + (pb : Int)) = false := by simp; omega
              have HB7 := Lib.hid hb7
              have HPL := Lib.hid hpl
              generalize hp0 : ps.getD 0 0 = p0 at *
              have HP0 := Lib.hid hp0
              have hui : (U : Int) ≤ 58 := by omega
              have hpi : (pb : Int) ≤ 6 := by omega
              clear hput hle hb7 hpl hp0
              go_wp2_with (first
                | (at_builtin
                   refine wpList_append_own_at _ (by rfl) _ _ 55 (by rfl) w.heap.size 59 i0 _ 2 24 Tryd.underlying55 HI.out Hy0.out Hy1.out Hy2.out (by rfl) (by decide) (.slice a0 L.length c0) _ _ (by rfl) (HB7.out.row.alloc _) ⟨w7.heap.size, 0, none⟩ 1 1 [.int .i64 (p0 : Nat), .string s] (by rfl) (by rfl) (World.news_of_block (cs := #[.int .i64 (p0 : Nat), .string s]) (t := 59) (fr := (0, 0)) (heap_alloc_new w7 _)) (by simp [Value.oneCell']) (by unfold maxLen; omega) (by omega) ?_ ?_
                   · have := HB7.out.on.below.size; simp; omega
                   intro v' w8 hown8 hg8 hnil hloc
                   have hk2 : keptCells L ++ [.int .i64 (p0 : Nat), .string s] = keptCells (L ++ [(ps, s)]) := by rw [keptCells_append, ← HP0.out]; rfl
                   have hl2 : L.length + 1 = (L ++ [(ps, s)]).length := by simp
                   rw [hk2, hl2] at hown8
                   have HB8 := Lib.hid (HB7.out.grow hg8 hloc hown8)
                   clear hown8 hg8 hnil hloc hk2 hl2))
              go_meet
              refine ⟨rfl, R7, L ++ [(ps, s)], ?_, HB8.out.mono (by omega), by rw [List.length_append]; have := HLen.out; simp; omega⟩
              rw [allP_append, allP_one, List.length_append, HUU.out, HPL.out, HS.out, HPB.out]
              rfl
            · rw [HS.out, HPB.out, HUU.out] at hlt
              have d3 : decide (P < U + pb) = true := by simpa using hlt
              have d4 : decide ((P : Int) < (U : Int) + (pb : Int)) = true := by simp; omega
              have HB7 := Lib.hid hb7
              have hui : (U : Int) ≤ 58 := by omega
              have hpi : (pb : Int) ≤ 6 := by omega
              clear hput hlt hb7
              go_wp2
              go_meet
              exact ⟨rfl, R7, L, by rw [HUU.out], HB7.out.mono (by omega), by have := HLen.out; omega⟩
        have t0 : (wk == 0) = false := by simpa using w0
        clear w0
        have hmeet : BRel w br P (20 * (k + 1)) (.slice a0 L.length c0) (.int .i64 (U : Nat)) (wr.alloc (Obj.cells #[Value.int IntKind.i64 wk, Value.int IntKind.i64 nk, Value.int IntKind.i64 sk, Value.int IntKind.u8 ck] 57)) :=
          ⟨R, L, by rw [HUU.out], HBx.out.mono (by omega), by omega⟩
        have HMeet := Lib.hid hmeet
        clear hmeet
        by_cases w1 : wk = 1
        · as_aux_lemma =>
            have t1 : (wk == 1) = true := by simpa using w1
            clear w1
            by_cases hl0 : L.length = 0
            · have d1 : ((L.length : Int) == 0) = true := by simp [hl0]
              have HL0 := Lib.hid hl0
              clear hl0
              go_wp2
              go_meet
              exact ⟨rfl, HMeet.out⟩
            have d1 : ((L.length : Int) == 0) = false := by simp; exact fun e => hl0 (by rw [e]; rfl)
            obtain ⟨j, hj, hjm, hj1, hj2⟩ := pick_mod nk L.length (by omega)
            obtain ⟨x, hx⟩ : ∃ x, L[j]? = some x := ⟨_, List.getElem?_eq_getElem hj⟩
            obtain ⟨ga, cb, hga, hcb, hcm, hgb⟩ := row_posB HBx.out.row (by omega)
            obtain ⟨rfl, rfl⟩ : a0 = some ⟨ga, 0, none⟩ ∧ cb = c0 := by cases hga; exact ⟨rfl, rfl⟩
            clear hga
            have hsplit : L = L.take j ++ x :: L.drop (j + 1) := by
              obtain ⟨hj', hxe⟩ := List.getElem?_eq_some_iff.1 hx
              rw [← hxe, List.getElem_cons_drop, List.take_append_drop]
            have hcells := keptCells_at L j x hx
            have HCl0 := Lib.hid hcells.1
            have HCl1 := Lib.hid hcells.2
            have hbd : BSt w (wr.alloc (Obj.cells #[Value.int IntKind.i64 wk, Value.int IntKind.i64 nk, Value.int IntKind.i64 sk, Value.int IntKind.u8 ck] 57)) br P R (L.take j ++ x :: L.drop (j + 1)) L (.slice (some ⟨ga, 0, none⟩) L.length cb) (20 * k) := by rw [← hsplit]; exact HBx.out
            have hxb := hbd.blobs x (by simp)
            have hxl : x.1.length = pagesB x.2.size := hxb.1.len
            have hx3 := hxb.2
            have hU2 : (allP (L.take j ++ L.drop (j + 1))).length + pagesB x.2.size = U := by
              have h1 := congrArg List.length (allP_split L j x hx).1
              simp only [List.length_append] at h1
              rw [allP_append, List.length_append, ← HUU.out, ← hxl]
              omega
            have HD := Lib.hid (hbd.drop (by omega))
            have HRf := Lib.hid (fun u => ref8Pages x.2.size (by omega) u)
            rw [pagesI_nat] at HRf
            have q6 := row_cells HBx.out.row (j * 2) _ HCl0.out
            obtain ⟨pb, hpb⟩ : ∃ pb, pagesB x.2.size = pb := ⟨_, rfl⟩
            rw [hpb] at HRf hU2
            obtain ⟨U2, hU2e⟩ : ∃ U2, (allP (L.take j ++ L.drop (j + 1))).length = U2 := ⟨_, rfl⟩
            rw [hU2e] at hU2
            have HU2e := Lib.hid hU2e
            have HPB := Lib.hid hpb
            have HX := Lib.hid hx
            have HLl := Lib.hid hLl
            generalize hp0 : x.1.getD 0 0 = p0 at *
            have HP0 := Lib.hid hp0
            have hln : L.length ≤ 58 * 100 := by omega
            generalize hLL : L.length = n at *
            have HLL := Lib.hid hLL
            have hjn : (j : Int) < (n : Int) := by omega
            have hj0 : (0 : Int) ≤ (j : Int) := by omega
            have hn0 : (n : Int) ≠ 0 := by omega
            clear hcells hbd hxb hxl hsplit hx hpb hp0 hLL hU2e hl0 hLl
            go_wp2_with (first
              | (go_at_call 29; refine (HD.out).mono ?_; rintro e w5 ⟨rfl, R5, hs5⟩
                 have HS5 := Lib.hid hs5
                 have q7 := row_cells (HLL.out ▸ hs5.row) (j * 2 + 1) _ HCl1.out
                 clear hs5)
              | (go_at_call 24; refine (HRf.out _).mono ?_; rintro e w6 ⟨rfl, rfl⟩))
            have hcb0 : ¬ cb = 0 := by omega
            have hjL : j ≤ L.length := by rw [HLL.out]; omega
            have HTl : Hid ((keptCells (L.take j)).length = j * 2) := by
              refine Lib.hid ?_
              rw [keptCells_length, List.length_take, Nat.min_eq_left hjL]
            have hbrow := HS5.out.row
            have hcell : ∀ u, Keep (fun k => w5.heap.size ≤ k) w5 u → ∀ (i : Nat) x, (keptCells L)[i]? = some x → u.cell? ⟨ga, i, none⟩ = some x := fun u hk i x hx => by
              have h1 := hk.ownsRow hbrow (fun g hg e => by have := (hbrow.lt g hg).2; omega)
              rw [HLL.out] at h1
              exact row_cells h1 i _ hx
            have HTc : Hid (∀ u, Keep (fun k => w5.heap.size ≤ k) w5 u → ∀ (i : Nat) x, (keptCells (L.take j))[i]? = some x → u.cell? ((⟨ga, 0, none⟩ : Addr).add i) = some x) := by
              refine Lib.hid (fun u hk i x hx => ?_)
              rw [add_at, Nat.zero_add]
              exact hcell u hk i x (keptTake L j i x hx)
            have hlow : (j : Int) + 1 ≤ (n : Int) := by omega
            have hlow0 : (0 : Int) ≤ (j : Int) + 1 := by omega
            have hjc : (j : Int) ≤ (cb : Int) := by omega
            have HFin : Hid ((Value.int IntKind.i64 ((U : Int) - (pb : Int))) = .int .i64 ((allP (L.take j ++ L.drop (j + 1))).length : Nat)) := by
              refine Lib.hid ?_
              rw [HU2e.out, ← hU2]
              congr 1
              omega
            have HCb := Lib.hid hcm
            clear hbrow HBx HMeet HD q6 q7 HX HP0 HCl0 HCl1 hjm hj1 hj2 hn0 d1
            have hwr : IntKind.i64.wrap ((j : Int) + 1) = (j : Int) + 1 := wrapI (by omega) (by omega)
            by_cases hcj : cb = j + 1
            · obtain rfl : cb = j + 1 := hcj
              obtain rfl : n = j + 1 := by omega
              have hjj : (j : Int) ≤ (j : Int) + 1 := by omega
              have hjr : (j : Int) + 1 ≤ (j : Int) + 1 := Int.le_refl _
              have hdn : L.drop (j + 1) = [] := List.drop_eq_nil_of_le (by rw [HLL.out]; exact Nat.le_refl _)
              have HRw : Hid (∀ (u : World) v, u.ownsRow w.heap.size 59 2 v (0 + j + 0) ([] ++ keptCells (L.take j) ++ []) → u.ownsRow w.heap.size 59 2 v (L.take j ++ L.drop (j + 1)).length (keptCells (L.take j ++ L.drop (j + 1)))) := by
                refine Lib.hid (fun u v h => ?_)
                rw [hdn, List.append_nil, List.length_take, Nat.min_eq_left hjL]
                simpa using h
              clear hcell hdn hcm hcb
              obtain ⟨S, hS⟩ : ∃ S : World → Prop, ∀ u, S u ↔ Keep (fun k => w5.heap.size ≤ k) (w5) u := ⟨fun u => Keep (fun k => w5.heap.size ≤ k) (w5) u, fun _ => Iff.rfl⟩
              have HS := Lib.hid hS
              clear hS
              refine wp_region_ord 9 [(1, true), (2, true), (3, true), (5, true), (6, true), (7, true), (8, true), (0, false), (4, false)] S (by kernel_rfl) (by kernel_rfl) ((HS.out _).2 (Keep.refl _ _).drew) ?_
              iterate 7
                first
                  | (refine wpH_passed rfl (by rfl) (fun K hK => ?_); go_simp; refine hK _ ?_; clear hK K)
                  | (first
                       | refine wpH_read rfl rfl (fun K hK => ?_)
                       | refine wpH_readw rfl (by rfl) (fun K hK => ?_)
                     apply Exists.intro
                     refine ⟨fun u hu => ?_, ?_⟩
                     · have hu := (HS.out u).1 hu
                       clear hu
                       go_simp
                       exact ⟨rfl, rfl⟩
                     go_simp
                     refine hK _ ?_
                     clear hK K)
              refine wpH_do rfl rfl (fun K hK => ?_)
              go_simp
              have kA : Keep (fun k => w5.heap.size ≤ k) w5 (w5.alloc (Obj.cells #[] 59)).drew := ((Keep.refl _ _).alloc _).drew
              refine hK _ _ ((HS.out _).2 kA) ?_
              clear hK K
              refine wpH_do rfl rfl (fun K hK => ?_)
              refine wp_append_at _ _ 55 (by rfl) w.heap.size 59 i0 _ 2 24 Tryd.underlying55 HI.out Hy0.out Hy1.out Hy2.out (by rfl) (by decide) (.slice (some ⟨w5.heap.size, 0, none⟩) 0 0) _ _ (by rfl) ((row_empty w5 w.heap.size _ 2 HS5.out.on.below.size).drew) ⟨ga, 0, none⟩ j (j + 1) (keptCells (L.take j)) (by rfl) (HTl.out) (fun i u hu => HTc.out _ kA i u hu) (kept_one _) (by unfold maxLen; omega) (by omega) ?_ ?_
              · have := HS5.out.on.below.size; simp [World.drew]; omega
              intro v6 w6 hown6 hg6 hloc6
              have k6 := kA.grown hg6 (fun k hk e => by cases e; exact Nat.le_refl _)
              have hv6 : ∃ g, v6.ownBlock = some g ∧ w5.heap.size ≤ g := by
                rcases hloc6 with e | e
                · exact ⟨_, e, Nat.le_refl _⟩
                · exact ⟨_, e, by simp⟩
              refine hK _ _ ((HS.out _).2 k6) ?_
              clear hK K kA
              refine wpH_nil ?_
              simp only [List.drop_succ_cons, List.drop_zero]
              have HK6 := Lib.hid k6
              have HOw6 := Lib.hid hown6
              clear k6 hown6 hg6 hloc6 S HS
              go_wp2_with (at_builtin
                           refine wpList_append_own_at _ (by rfl) _ _ 55 (by rfl) w.heap.size 59 i0 _ 2 24 Tryd.underlying55 HI.out Hy0.out Hy1.out Hy2.out (by rfl) (by decide) v6 _ _ (by rfl) HOw6.out ⟨ga, 0, none⟩ 0 0 [] (by rfl) (by rfl) (fun i u hu => by cases hu) (fun u hu => by cases hu) (by unfold maxLen; omega) (by omega) ?_ ?_
                           · have := HS5.out.on.below.size; have := HK6.out.size; omega
                           intro v' w8 hown8 hg8 hnil hloc
                           have HG8 := Lib.hid (HK6.out.grown hg8 (fun k hk e => by obtain ⟨g, h1, h2⟩ := hv6; rw [h1] at e; cases e; exact h2))
                           have HOw8 := Lib.hid hown8
                           have hv8 : ∀ g, v'.ownBlock = some g → w5.heap.size ≤ g := fun g hg => by
                             rcases hloc with e | e
                             · obtain ⟨g', h1, h2⟩ := hv6; rw [e, h1] at hg; cases hg; exact h2
                             · rw [e] at hg; cases hg; exact HK6.out.size
                           clear hown8 hg8 hnil hloc)
              go_meet
              have hb8 : Below w5.heap.size w5 w8 := HG8.out.below (Nat.le_refl _) (fun i hi e => by omega)
              have hrow8 := HOw8.out
              exact ⟨rfl, R5, L.take j ++ L.drop (j + 1), HFin.out, (HS5.out.fresh hb8 (HRw.out _ _ hrow8) hv8).mono (by omega), by have := HLl.out; rw [List.length_append, List.length_take, List.length_drop, HLL.out]; omega⟩
            · have hcj2 : ¬ j + 1 = cb := fun e => hcj e.symm
              have HDl : Hid ((keptCells (L.drop (j + 1))).length = (n - (j + 1)) * 2) := by
                refine Lib.hid ?_
                rw [keptCells_length, List.length_drop, HLL.out]
              have HDc : Hid (∀ u, Keep (fun k => w5.heap.size ≤ k) w5 u → ∀ (i : Nat) x, (keptCells (L.drop (j + 1)))[i]? = some x → u.cell? ((⟨ga, (j + 1) * 2, none⟩ : Addr).add i) = some x) := by
                refine Lib.hid (fun u hk i x hx => ?_)
                rw [add_at]
                exact hcell u hk _ x (keptDrop L (j + 1) i x (by rw [HLL.out]; omega) hx)
              have HRw : Hid (∀ (u : World) v, u.ownsRow w.heap.size 59 2 v (0 + j + (n - (j + 1))) ([] ++ keptCells (L.take j) ++ keptCells (L.drop (j + 1))) → u.ownsRow w.heap.size 59 2 v (L.take j ++ L.drop (j + 1)).length (keptCells (L.take j ++ L.drop (j + 1)))) := by
                refine Lib.hid (fun u v h => ?_)
                rw [List.length_append, List.length_take, Nat.min_eq_left hjL, List.length_drop, HLL.out, keptCells_append]
                simpa using h
              clear hcell hcm hcb
              obtain ⟨S, hS⟩ : ∃ S : World → Prop, ∀ u, S u ↔ Keep (fun k => w5.heap.size ≤ k) (w5) u := ⟨fun u => Keep (fun k => w5.heap.size ≤ k) (w5) u, fun _ => Iff.rfl⟩
              have HS := Lib.hid hS
              clear hS
              refine wp_region_ord 9 [(1, true), (2, true), (3, true), (5, true), (6, true), (7, true), (8, true), (0, false), (4, false)] S (by kernel_rfl) (by kernel_rfl) ((HS.out _).2 (Keep.refl _ _).drew) ?_
              iterate 7
                first
                  | (refine wpH_passed rfl (by rfl) (fun K hK => ?_); go_simp; refine hK _ ?_; clear hK K)
                  | (first
                       | refine wpH_read rfl rfl (fun K hK => ?_)
                       | refine wpH_readw rfl (by rfl) (fun K hK => ?_)
                     apply Exists.intro
                     refine ⟨fun u hu => ?_, ?_⟩
                     · have hu := (HS.out u).1 hu
                       clear hu
                       go_simp
                       exact ⟨rfl, rfl⟩
                     go_simp
                     refine hK _ ?_
                     clear hK K)
              refine wpH_do rfl rfl (fun K hK => ?_)
              go_simp
              have kA : Keep (fun k => w5.heap.size ≤ k) w5 (w5.alloc (Obj.cells #[] 59)).drew := ((Keep.refl _ _).alloc _).drew
              refine hK _ _ ((HS.out _).2 kA) ?_
              clear hK K
              refine wpH_do rfl rfl (fun K hK => ?_)
              refine wp_append_at _ _ 55 (by rfl) w.heap.size 59 i0 _ 2 24 Tryd.underlying55 HI.out Hy0.out Hy1.out Hy2.out (by rfl) (by decide) (.slice (some ⟨w5.heap.size, 0, none⟩) 0 0) _ _ (by rfl) ((row_empty w5 w.heap.size _ 2 HS5.out.on.below.size).drew) ⟨ga, 0, none⟩ j cb (keptCells (L.take j)) (by rfl) (HTl.out) (fun i u hu => HTc.out _ kA i u hu) (kept_one _) (by unfold maxLen; omega) (by omega) ?_ ?_
              · have := HS5.out.on.below.size; simp [World.drew]; omega
              intro v6 w6 hown6 hg6 hloc6
              have k6 := kA.grown hg6 (fun k hk e => by cases e; exact Nat.le_refl _)
              have hv6 : ∃ g, v6.ownBlock = some g ∧ w5.heap.size ≤ g := by
                rcases hloc6 with e | e
                · exact ⟨_, e, Nat.le_refl _⟩
                · exact ⟨_, e, by simp⟩
              refine hK _ _ ((HS.out _).2 k6) ?_
              clear hK K kA
              refine wpH_nil ?_
              simp only [List.drop_succ_cons, List.drop_zero]
              have HK6 := Lib.hid k6
              have HOw6 := Lib.hid hown6
              clear k6 hown6 hg6 hloc6 S HS
              go_wp2_with (at_builtin
                           refine wpList_append_own_at _ (by rfl) _ _ 55 (by rfl) w.heap.size 59 i0 _ 2 24 Tryd.underlying55 HI.out Hy0.out Hy1.out Hy2.out (by rfl) (by decide) v6 _ _ (by rfl) HOw6.out ⟨ga, (j + 1) * 2, none⟩ (n - (j + 1)) (cb - (j + 1)) (keptCells (L.drop (j + 1))) (by rfl) HDl.out (fun i u hu => HDc.out _ HK6.out i u hu) (kept_one _) (by unfold maxLen; omega) (by omega) ?_ ?_
                           · have := HS5.out.on.below.size; have := HK6.out.size; omega
                           intro v' w8 hown8 hg8 hnil hloc
                           have HG8 := Lib.hid (HK6.out.grown hg8 (fun k hk e => by obtain ⟨g, h1, h2⟩ := hv6; rw [h1] at e; cases e; exact h2))
                           have HOw8 := Lib.hid hown8
                           have hv8 : ∀ g, v'.ownBlock = some g → w5.heap.size ≤ g := fun g hg => by
                             rcases hloc with e | e
                             · obtain ⟨g', h1, h2⟩ := hv6; rw [e, h1] at hg; cases hg; exact h2
                             · rw [e] at hg; cases hg; exact HK6.out.size
                           clear hown8 hg8 hnil hloc)
              go_meet
              have hb8 : Below w5.heap.size w5 w8 := HG8.out.below (Nat.le_refl _) (fun i hi e => by omega)
              have hrow8 := HOw8.out
              exact ⟨rfl, R5, L.take j ++ L.drop (j + 1), HFin.out, (HS5.out.fresh hb8 (HRw.out _ _ hrow8) hv8).mono (by omega), by have := HLl.out; rw [List.length_append, List.length_take, List.length_drop, HLL.out]; omega⟩
        have t1 : (wk == 1) = false := by simpa using w1
        clear w1
        by_cases w2 : wk = 2
        · as_aux_lemma =>
            have t2 : (wk == 2) = true := by simpa using w2
            clear w2
            have HHas := Lib.hid (fun u (hu : RoomOn w u br R) => has_any hu.at_ nk)
            have herr := err_eq R nk
            have h2 : R.hasErr nk = 0 ∨ R.hasErr nk = 2 := by unfold RoomS.hasErr; split <;> simp
            have HGet := Lib.hid (fun u (hu : RoomOn w u br R) (he : R.err nk ≠ 0) => get_bad hu.at_ nk he)
            have HDrop := Lib.hid (fun u (hu : RoomOn w u br R) (he : R.err nk ≠ 0) => drop_bad hu.at_ nk he)
            generalize R.hasAt nk = hb at *
            generalize R.err nk = er at *
            generalize R.hasErr nk = he at *
            have hcase : (he = 0 ∧ hb = true) ∨ ((he = 2 ∨ hb = false) ∧ (he = 0 ∨ he = 2) ∧ (er = 2 ∨ er = 6)) := by
              rcases h2 with rfl | rfl
              · cases hb
                · exact .inr ⟨.inr rfl, .inl rfl, .inr (by simpa using herr)⟩
                · exact .inl ⟨rfl, rfl⟩
              · exact .inr ⟨.inl rfl, .inr rfl, .inl (by simpa using herr)⟩
            clear h2 herr
            rcases hcase with ⟨rfl, rfl⟩ | ⟨h1, h2, h3⟩
            · go_wp2_with (go_at_call 31; refine (HHas.out _ HBx.out.on).mono ?_; rintro e w5 ⟨rfl, hb5⟩)
              go_meet
              exact ⟨rfl, R, L, by rw [HUU.out], (HBx.out.still hb5).mono (by omega), by omega⟩
            · have her : er ≠ 0 := by omega
              have HEr := Lib.hid her
              have hpost : ∀ u, Below (wr.alloc (Obj.cells #[Value.int IntKind.i64 wk, Value.int IntKind.i64 nk, Value.int IntKind.i64 sk, Value.int IntKind.u8 ck] 57)).heap.size (wr.alloc (Obj.cells #[Value.int IntKind.i64 wk, Value.int IntKind.i64 nk, Value.int IntKind.i64 sk, Value.int IntKind.u8 ck] 57)) u →
                  BRel w br P (20 * (k + 1)) (.slice a0 L.length c0) (.int .i64 (U : Nat)) u := fun u hu => ⟨R, L, by rw [HUU.out], (HBx.out.still hu).mono (by omega), by omega⟩
              have HPost := Lib.hid hpost
              clear hpost her
              have hfin : (he = 2 ∧ hb = hb) ∨ (he = 0 ∧ hb = false) := by
                rcases h2 with h2 | h2
                · rcases h1 with h1 | h1
                  · omega
                  · exact .inr ⟨h2, h1⟩
                · exact .inl ⟨h2, rfl⟩
              clear h1 h2
              rcases hfin with ⟨rfl, _⟩ | ⟨rfl, rfl⟩
              all_goals
                rcases h3 with rfl | rfl
                all_goals
                  go_wp2_with (first
                    | (go_at_call 31; refine (HHas.out _ HBx.out.on).mono ?_; rintro e w5 ⟨rfl, hb5⟩
                       have HO5 := Lib.hid (HBx.out.on.still hb5)
                       have HB5 := Lib.hid hb5
                       have q5 : w5.cell? ⟨wr.heap.size, 1, none⟩ = some (.int .i64 nk) := by rw [hb5.cell (p := ⟨wr.heap.size, 1, none⟩) (by simp)]; exact Lib.cell_of_heap (heap_alloc_new wr _) 1
                       clear hb5)
                    | (go_at_call 28; refine (HGet.out _ HO5.out HEr.out).mono ?_; rintro e w6 ⟨rfl, hb6⟩
                       have HO6 := Lib.hid (HO5.out.still hb6)
                       have HB6 := Lib.hid (HB5.out.trans (hb6.mono HB5.out.size))
                       have q6 : w6.cell? ⟨wr.heap.size, 1, none⟩ = some (.int .i64 nk) := by rw [HB6.out.cell (p := ⟨wr.heap.size, 1, none⟩) (by simp)]; exact Lib.cell_of_heap (heap_alloc_new wr _) 1
                       clear hb6)
                    | (go_at_call 29; refine (HDrop.out _ HO6.out HEr.out).mono ?_; rintro e w7 ⟨rfl, hb7⟩
                       have HB7 := Lib.hid (HB6.out.trans (hb7.mono HB6.out.size))
                       clear hb7))
                  go_meet
                  exact ⟨rfl, HPost.out _ HB7.out⟩
        have t2 : (wk == 2) = false := by simpa using w2
        clear w2
        go_wp2
        go_meet
        exact ⟨rfl, HMeet.out⟩
      case rest =>
        as_aux_lemma =>
          obtain ⟨rfl, R1, L1, rfl, hst1, hLl1⟩ := hcut
          have hu1 := hst1.used
          have HUs := Lib.hid (used_any hst1.on.at_)
          rw [hu1.1] at HUs
          obtain ⟨a1, c1, rfl⟩ := slice_formB hst1.row
          have hU1 : (allP L1).length ≤ 58 := by
            have h2 := cnt_le R1.has R1.pages
            have h3 := hst1.pages
            omega
          generalize hUU1 : (allP L1).length = U1 at *
          have HUU1 := Lib.hid hUU1
          clear hUU1
          have HSt1 := Lib.hid hst1
          have hmm := @run_makeMap Tryd.prog
          clear hu1 hst1
          go_wp2_with (go_at_call 27; refine (HUs.out).mono ?_; rintro e w5 ⟨rfl, hb5⟩
                       have HS5 := Lib.hid (HSt1.out.still hb5)
                       have HV0 := Lib.hid (VRel.start (HSt1.out.still hb5))
                       clear hb5)
          go_loopw [209] (fun i wr2 => ∃ j : Nat, j ≤ L1.length ∧ i = .int .i64 j ∧ VRel w wr2 br P R1 L1 (.slice a1 L1.length c1) (20 * (k + 1)) w5.heap.size (allP (L1.take j))) (fun i _ => L1.length - (intOf i).toNat)
          case atStart => exact ⟨0, by omega, rfl, by rw [List.take_zero]; exact HV0.out⟩
          case round =>
            obtain ⟨j, hj, rfl, hv⟩ := hrel
            have HVj := Lib.hid hv
            clear hv
            by_cases hjl : j < L1.length
            · have g2 : decide ((j : Int) < (L1.length : Int)) = true := by simp; omega
              have g2' : decide (j < L1.length) = true := by simpa using hjl
              obtain ⟨x, hx⟩ : ∃ x, L1[j]? = some x := ⟨_, List.getElem?_eq_getElem hjl⟩
              obtain ⟨ga, cb, hga, hcb, hcm, hgb⟩ := row_posB HVj.out.st.row (by omega)
              obtain ⟨rfl, rfl⟩ : a1 = some ⟨ga, 0, none⟩ ∧ cb = c1 := by cases hga; exact ⟨rfl, rfl⟩
              clear hga
              have hcells := keptCells_at L1 j x hx
              have q0 := row_cells HVj.out.st.row (j * 2) _ hcells.1
              have q1 := row_cells HVj.out.st.row (j * 2 + 1) _ hcells.2
              have hxb := HVj.out.st.blobs x (List.mem_of_getElem? hx)
              have hx3 := hxb.2
              have HG := Lib.hid (fun u (hu : RoomOn w u br R1) => get_ok hu.at_ hxb.1 (by omega))
              have HLi := Lib.hid (fun u (hu : RoomOn w u br R1) => list_ok hu.at_ hxb.1 (by omega))
              have HRf := Lib.hid (fun u => ref8Pages x.2.size (by omega) u)
              rw [pagesI_nat] at HRf
              have hxl : x.1.length = pagesB x.2.size := hxb.1.len
              have hm1 : 0 < x.1.length := by rw [hxl]; exact pagesB_pos _
              have hm6 : x.1.length ≤ 6 := by rw [hxl]; exact pagesB_3000 hx3
              rw [← hxl] at HRf
              have HNm := Lib.hid (fun t (ht : t < x.1.length) => not_met HVj.out.st.nodup hx ht)
              have HTk : Hid (allP (L1.take (j + 1)) = allP (L1.take j) ++ x.1) := Lib.hid (allP_split L1 j x hx).2
              have HIn := Lib.hid (fun t (ht : t < x.1.length) => HVj.out.st.hasIn (not_met HVj.out.st.nodup hx ht).2)
              have HMb := Lib.hid (fun t (ht : t < x.1.length) => (HVj.out.st.member (not_met HVj.out.st.nodup hx ht).2).1)
              have HPg := Lib.hid (HVj.out.st.on.at_.pages_le)
              have HSz := Lib.hid HVj.out.st.pages
              have HX := Lib.hid hx
              generalize hp0 : x.1.getD 0 0 = p0 at *
              have HP0 := Lib.hid hp0
              have HVx := Lib.hid (HVj.out.still ((Below.refl _ _).alloc (Nat.le_refl _) (Obj.cells #[Value.int IntKind.i64 p0, Value.string x.2] 59)))
              have hj0 : (0 : Int) ≤ (j : Int) := by omega
              have hj1 : (j : Int) < (L1.length : Int) := by omega
              generalize hmm : x.1.length = m at *
              have HMM := Lib.hid hmm
              clear hcells hxb hxl hx hp0 hmm
              go_wp2_with (first
                | (go_at_call 28; refine (HG.out _ HVx.out.st.on).mono ?_; rintro e w6 ⟨rfl, hb6⟩
                   have HV6 := Lib.hid (HVx.out.still hb6)
                   have HB6 := Lib.hid hb6
                   have q6 : w6.cell? ⟨wr.heap.size, 0, none⟩ = some (.int .i64 (p0 : Nat)) := by rw [hb6.cell (p := ⟨wr.heap.size, 0, none⟩) (by simp)]; exact Lib.cell_of_heap (heap_alloc_new wr _) 0
                   clear hb6)
                | (go_at_call 32; refine (HLi.out _ HV6.out.st.on).mono ?_; rintro e w7 ⟨v7, rfl, ho7, hb7⟩
                   obtain ⟨gp, cp, rfl, hcp, hcpm, hgp⟩ := row_posB ho7 hm1
                   have HV7 := Lib.hid (HV6.out.still hb7)
                   have HB7 := Lib.hid (HB6.out.trans (hb7.mono HB6.out.size))
                   have HRow7 := Lib.hid ho7
                   have HGp := Lib.hid (ho7.lt gp rfl)
                   clear ho7 hb7 hgp))
              have hs67 : w.heap.size ≤ w6.heap.size := HV6.out.st.on.below.size
              have hs7 : wr.heap.size < w7.heap.size := by have := HB7.out.size; simp at this; omega
              have hcl7 : w7.cell? ⟨wr.heap.size, 0, none⟩ = some (.int .i64 (p0 : Nat)) ∧ w7.cell? ⟨wr.heap.size, 1, none⟩ = some (.string x.2) ∧ w7.cell? ⟨gp, 0, none⟩ = some (.int .i64 (p0 : Nat)) :=
                ⟨by rw [HB7.out.cell (p := ⟨wr.heap.size, 0, none⟩) (by simp)]; exact Lib.cell_of_heap (heap_alloc_new wr _) 0, by rw [HB7.out.cell (p := ⟨wr.heap.size, 1, none⟩) (by simp)]; exact Lib.cell_of_heap (heap_alloc_new wr _) 1, by
                  have h1 := row_cells HRow7.out 0 _ (numV_at x.1 0 (by rw [HMM.out]; exact hm1))
                  rw [HP0.out] at h1
                  exact h1⟩
              obtain ⟨f0, f1, f2⟩ := hcl7
              have hm10 : (0 : Int) < (m : Int) := by omega
              have HRs := Lib.hid (fun u => (HRf.out u).mono (fun e w' h => (⟨h.1, h.2.symm⟩ : e = .returned (.int .i64 (m : Nat)) ∧ w' = u)))
              go_big_quiet (first | (go_at_call 24; refine Calls.quiet_of_same (HRs.out _)))
              have hb8 : Below w7.heap.size w7 (w7.drewN nq) := below_drewN (Below.refl _ _) nq
              have HV8 := Lib.hid (HV7.out.still hb8)
              have HRow8 := Lib.hid (((Keep.still hb8).ownsRow HRow7.out (fun _ _ e => e)))
              generalize w7.drewN nq = w8 at *
              clear hb8 f0 f1 f2
              go_wp2
              go_loopw [257] (fun i wr3 => ∃ t : Nat, t ≤ m ∧ i = .int .i64 t ∧ VRel w wr3 br P R1 L1 (.slice (some ⟨ga, 0, none⟩) L1.length cb) (20 * (k + 1)) w5.heap.size (allP (L1.take j) ++ x.1.take t) ∧ wr3.ownsRow w6.heap.size 3 1 (.slice (some ⟨gp, 0, none⟩) m cp) m (numV x.1)) (fun i _ => m - (intOf i).toNat)
              case atStart => exact ⟨0, by omega, rfl, by rw [List.take_zero, List.append_nil]; exact HV8.out, HRow8.out⟩
              case round =>
                obtain ⟨t, ht, rfl, hv, hrow⟩ := hrel
                have HVt := Lib.hid hv
                have HRow := Lib.hid hrow
                clear hv hrow
                by_cases htl : t < m
                · have g3 : decide ((t : Int) < (m : Int)) = true := by simp; omega
                  have g3' : decide (t < m) = true := by simpa using htl
                  have htx : t < x.1.length := by rw [HMM.out]; exact htl
                  have qt := row_cells HRow.out t _ (numV_at x.1 t htx)
                  have hnm := (HNm.out t htl).1
                  have hin := HIn.out t htl
                  have hmb := HMb.out t htl
                  have HHas := Lib.hid (fun u (hu : RoomOn w u br R1) => has_any hu.at_ ((x.1.getD t 0 : Nat) : Int))
                  rw [hin.1, hin.2] at HHas
                  have htk := take_snocD x.1 t htx
                  have hwf : (Lit.int .i64 ((x.1.getD t 0 : Nat) : Int)).wf = true := keyOk (by omega) (by have := HSz.out; omega)
                  generalize x.1.getD t 0 = pt at *
                  have HNt := Lib.hid hnm
                  have HTt := Lib.hid htk
                  have HWf := Lib.hid hwf
                  have ht0 : (0 : Int) ≤ (t : Int) := by omega
                  have ht1 : (t : Int) < (m : Int) := by omega
                  clear hnm hin htk hwf htx hmb
                  go_wp2_with (go_at_call 31; refine (HHas.out _ HVt.out.st.on).mono ?_; rintro e w9 ⟨rfl, hb9⟩
                               have HV9 := Lib.hid (HVt.out.still hb9)
                               have HRow9 := Lib.hid (((Keep.still hb9).ownsRow HRow.out (fun _ _ e => e)))
                               have l9 := HV9.out.look pt HNt.out HWf.out
                               obtain ⟨w10, hr10, hv10, hk10⟩ := HV9.out.meet pt HWf.out
                               rw [List.append_assoc, HTt.out] at hv10
                               have HV10 := Lib.hid hv10
                               have HRow10 := Lib.hid (hk10.ownsRow HRow9.out (fun q hq e => by
                                 obtain ⟨n9, hm9⟩ := HV9.out.map
                                 exact row_ne_map HRow9.out hm9 (e ▸ hq)))
                               clear hb9 hv10 hk10)
                  go_roundw
                  case rel =>
                    first
                      | exact ⟨t + 1, by omega, rfl, HV10.out, HRow10.out⟩
                      | ((repeat apply Exists.intro); exact ⟨⟨t + 1, by omega, rfl, HV10.out, HRow10.out⟩, rfl⟩)
                  all_goals (simp [intOf]; omega)
                · have g3 : decide ((t : Int) < (m : Int)) = false := by simp; omega
                  have g3' : decide (t < m) = false := by simpa using htl
                  obtain rfl : t = m := by omega
                  have hend := HVt.out
                  have htk : x.1.take t = x.1 := List.take_of_length_le (by rw [HMM.out]; exact Nat.le_refl _)
                  rw [htk, ← HTk.out] at hend
                  have HEnd := Lib.hid hend
                  clear hend htk
                  go_wp2
                  go_roundw
                  case rel =>
                    first
                      | exact ⟨j + 1, by omega, rfl, HEnd.out⟩
                      | ((repeat apply Exists.intro); exact ⟨⟨j + 1, by omega, rfl, HEnd.out⟩, rfl⟩)
                  all_goals (simp [intOf]; omega)
            · have g2 : decide ((j : Int) < (L1.length : Int)) = false := by simp; omega
              have g2' : decide (j < L1.length) = false := by simpa using hjl
              have HE := Lib.hid HVj.out.st
              go_wp2
              go_roundw
              case rel =>
                first
                  | exact ⟨k + 1, by omega, rfl, R1, L1, by rw [HUU1.out], HE.out, by omega⟩
                  | ((repeat apply Exists.intro); exact ⟨⟨k + 1, by omega, rfl, R1, L1, by rw [HUU1.out], HE.out, by omega⟩, rfl⟩)
              all_goals (simp [intOf]; omega)
    · have g1 : decide (k < len) = false := by simpa using hkl
      have HB := Lib.hid HSt.out.on.below
      go_wp2
      go_ret
      exact ⟨rfl, HB.out⟩
end Go.Proofs.YtoajdccdhjlikaaDoor
