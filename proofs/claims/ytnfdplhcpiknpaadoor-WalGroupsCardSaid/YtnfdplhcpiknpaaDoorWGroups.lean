/-
  THE LAWS of layer 5: WalGroups walked.
-/
import Derived.Test.YtnfdplhcpiknpaaDoorByt5
import Derived.Test.YtnfdplhcpiknpaaDoorOne
import Derived.Test.YtnfdplhcpiknpaaDoorOpenK
namespace Go.Proofs.YtnfdplhcpiknpaaDoor
open Go.RowKit Go.MapKept
attribute [local go_sem] gives givesH
set_option maxRecDepth 100000

theorem nodup_len {α : Type} [DecidableEq α] : ∀ {l1 l2 : List α}, l1.Nodup → (∀ x ∈ l1, x ∈ l2) → l1.length ≤ l2.length
  | [], _, _, _ => Nat.zero_le _
  | x :: t, l2, hd, hs => by
    have hx := hs x (by simp)
    have hd2 := List.nodup_cons.1 hd
    have := nodup_len (l1 := t) (l2 := l2.erase x) hd2.2 (fun y hy => (List.mem_erase_of_ne (fun e => hd2.1 (by rw [← e]; exact hy))).2 (hs y (List.mem_cons_of_mem _ hy)))
    rw [List.length_erase_of_mem hx] at this
    have h1 : 0 < l2.length := List.length_pos_of_mem hx
    simp only [List.length_cons]
    omega
theorem metL_mono {p q : Puts} (h : ∀ x ∈ p, x ∈ q) : (metL p).length ≤ (metL q).length :=
  nodup_len (metL_nodup p) (fun i hi => by
    obtain ⟨x, hx, he⟩ := (metL_mem p i).1 hi
    exact (metL_mem q i).2 ⟨x, h x hx, he⟩)
theorem lastOf_append (q p : Puts) (i : Int) : lastOf (q ++ p) i = (lastOf p i).or (lastOf q i) := by
  refine snoc_ind (p := fun p => lastOf (q ++ p) i = (lastOf p i).or (lastOf q i)) p (by rw [List.append_nil]; rfl) (fun p x ih => ?_)
  rw [← List.append_assoc, lastOf_snoc, lastOf_snoc, ih]
  by_cases h : x.1 = i
  · rw [if_pos h, if_pos h]; rfl
  · rw [if_neg h, if_neg h]
theorem overG_append (q p : Puts) (W : Int → ByteArray) : overG (fullG p) (overG (fullG q) W) = overG (fullG (q ++ p)) W := by
  funext i
  unfold overG fullG
  rw [lastOf_append]
  cases lastOf p i <;> rfl
theorem group_err {ps : List Puts} (h : cErr 20 16 ps.flatten = 0) {p : Puts} (hp : p ∈ ps) : cErr 20 16 p = 0 := by
  have hg : gErr 20 ps.flatten = 0 := by
    unfold cErr at h
    by_cases h0 : gErr 20 ps.flatten = 0
    · exact h0
    · rw [if_pos h0] at h; exact h
  have hs : secs (metL ps.flatten).length + 1 ≤ 16 := by
    unfold cErr at h
    rw [if_neg (by rw [hg]; decide)] at h
    by_cases h1 : 16 < secs (metL ps.flatten).length + 1
    · rw [if_pos h1] at h; cases h
    · omega
  have hsub : ∀ x ∈ p, x ∈ ps.flatten := fun x hx => List.mem_flatten.2 ⟨p, hp, hx⟩
  have hm := metL_mono hsub
  refine cErr_zero (fun x hx => gErr_ok hg x (hsub x hx)) ?_
  unfold secs at *
  omega
theorem acts_one {w : World} {v : Value} {ps : List Puts} (h : ListsAt w w.heap.size v ps) (hs : SizesL ps) (w' : World) (hw : w.alloc (Obj.cells #[.int .i64 0, .int .i64 0, v, .slice none 0 0, .slice none 0 0] 40) = w') :
    ActsAt w' w'.heap.size (.slice (some ⟨w.heap.size, 0, none⟩) 1 1) [⟨0, 0, ps, [], []⟩] := by
  have hb : Below w.heap.size w w' := by rw [← hw]; exact (Below.refl _ _).alloc (Nat.le_refl _) _
  have hn : w'.heap[w.heap.size]? = some (Obj.cells #[.int .i64 0, .int .i64 0, v, .slice none 0 0, .slice none 0 0] 40) := by rw [← hw]; exact heap_alloc_new w _
  have hsz : w.heap.size < w'.heap.size := by rw [← hw]; simp
  refine ⟨some ⟨w.heap.size, 0, none⟩, w.heap.size, 0, 1, fun _ => v, fun _ => .slice none 0 0, fun _ => .slice none 0 0, rfl, by show (1 : Nat) ≤ maxLen; decide, fun _ => ⟨rfl, hsz⟩, fun k x hx => ?_⟩
  have hk : k = 0 := by have := (List.getElem?_eq_some_iff.1 hx).1; simp at this; omega
  subst hk
  have hx2 : x = ⟨0, 0, ps, [], []⟩ := by simpa using hx.symm
  subst hx2
  refine ⟨Lib.cell_of_heap hn 0, Lib.cell_of_heap hn 1, Lib.cell_of_heap hn 2, Lib.cell_of_heap hn 3, Lib.cell_of_heap hn 4, (h.still hb).mono hb.size, ⟨none, 0, 0, 0, rfl, fun h => absurd h (by simp), fun k hk => absurd hk (by simp)⟩, ⟨none, 0, 0, 0, rfl, fun h => absurd h (by simp), fun k hk => absurd hk (by simp)⟩, hs, keyOk (by show (_ : Int) ≤ 0; decide) (by show (0 : Int) ≤ _; decide), keyOk (by show (_ : Int) ≤ 0; decide) (by show (0 : Int) ≤ _; decide)⟩
set_option maxHeartbeats 4000000 in
theorem wgroups_walk {v : Value} {ps : List Puts} (w : World) (h : ListsAt w w.heap.size v ps) (hs : SizesL ps) :
    Calls Tryd.prog 5 #[v] w fun e w' => e = .returned (.bool true) ∧ Below w.heap.size w w' := by
  have H1 := Lib.hid (awake5_any w)
  obtain ⟨pa, pc, pb, po, vs, hv, hpp, hpc⟩ := h.form
  subst hv
  have HL := Lib.hid h
  have HSz := Lib.hid hs
  obtain ⟨pl, hpl⟩ : ∃ pl, ps.length = pl := ⟨_, rfl⟩
  rw [hpl] at hpp HL ⊢
  have HPp := Lib.hid hpp
  have HPc := Lib.hid hpc
  have HPl := Lib.hid hpl
  clear hpp hpc hpl h hs
  by_cases c1 : 10 < pl
  · have d1 : decide ((10 : Int) < (pl : Int)) = true := by simp; omega
    have d1' : decide (10 < pl) = true := by simpa using c1
    go_enter Tryd.func5, Tryd.ntmps5
    go_wp2_with (go_at_call 8; refine (H1.out).mono ?_; rintro e w1 ⟨rfl, hb1⟩)
    go_ret
    exact ⟨rfl, hb1⟩
  have d1 : decide ((10 : Int) < (pl : Int)) = false := by simp; omega
  have d1' : decide (10 < pl) = false := by simpa using c1
  go_enter Tryd.func5, Tryd.ntmps5
  go_wp2_with (go_at_call 8; refine (H1.out).mono ?_; rintro e w1 ⟨rfl, hb1⟩
               have HB1 := Lib.hid hb1
               have hl1 := ((HL.out.still hb1).mono hb1.size)
               have HL1 := Lib.hid hl1
               obtain ⟨w2, hw2⟩ : ∃ w2, w1.alloc (Obj.cells #[.int .i64 0, .int .i64 0, .slice pa pl pc, .slice none 0 0, .slice none 0 0] 40) = w2 := ⟨_, rfl⟩
               have hbw : Below w1.heap.size w1 w2 := by rw [← hw2]; exact (Below.refl _ _).alloc (Nat.le_refl _) _
               have HB2 := Lib.hid (HB1.out.trans (hbw.mono HB1.out.size))
               have HSm := Lib.hid (small_any (acts_one hl1 HSz.out w2 hw2))
               clear hb1 hl1 hbw)
  refine (HSm.out).mono ?_
  rintro e w3 ⟨bs, rfl, hsm, hb3⟩
  have HB3 := Lib.hid (HB2.out.trans (hb3.mono HB2.out.size))
  clear hb3 hw2
  cases bs with
  | false =>
    go_wp2
    go_ret
    exact ⟨rfl, HB3.out⟩
  | true =>
    have hsmA := hsm rfl
    have htot : ps.flatten.length ≤ 200 := by
      have h2 : (0 + ps.flatten.length : Nat) ≤ 200 ∨ True := .inr trivial
      have h1 : totalA [⟨0, 0, ps, [], []⟩] ≤ 200 := hsmA.2.2
      unfold totalA at h1
      simp at h1
      simpa using h1
    have HTot := Lib.hid htot
    have HN1 := Lib.hid (new5_any 37 (by decide) (by decide) w3)
    clear hsm hsmA htot
    go_wp2_with (fail)
    refine (HN1.out).mono ?_
    rintro e w4 ⟨ba, Da, rfl, hfa⟩
    have HFa := Lib.hid hfa
    have HB4 := Lib.hid (HB3.out.trans (hfa.below.mono HB3.out.size))
    have HN2 := Lib.hid (new5_any 37 (by decide) (by decide) w4)
    clear hfa
    go_wp2_with (fail)
    refine (HN2.out).mono ?_
    rintro e w5 ⟨bb, Db, rfl, hfb⟩
    have HFb := Lib.hid hfb
    have HB5 := Lib.hid (HB4.out.trans (hfb.below.mono HB4.out.size))
    have hDa5 : DiskAt w5 ba Da := HFa.out.at_.keep (Keep.still hfb.below) (fun _ _ h => h)
    have hAlt : ∀ k, Da.foot ba k → k < w4.heap.size := fun k hk => HFa.out.at_.foot_lt hk
    have HAlt := Lib.hid hAlt
    have HO1 := Lib.hid (open5_any hDa5 HFa.out.dk rfl rfl 16 (by decide) (by decide) (homes := 20) (by rw [HFa.out.size]) (by decide) (by decide) (dFresh_bears 37 16 20 (by decide)))
    clear hfb hDa5 hAlt
    go_wp2_with (fail)
    refine (HO1.out).mono ?_
    rintro e w6 ⟨la, La, rfl, hoa⟩
    have HOa := Lib.hid hoa
    have hna := hoa.newer (B := w.heap.size) (fun k hk => Nat.le_trans HB3.out.size (HFa.out.newer k hk)) HB5.out.size
    have HB6 := Lib.hid (HB5.out.trans hna.2)
    have HNa := Lib.hid hna.1
    have hDb6 : DiskAt w6 bb Db := HFb.out.at_.keep hoa.keep (fun k hk hf => by have h1 := HFb.out.newer k hk; have h2 := HAlt.out k hf; omega)
    have HO2 := Lib.hid (open5_any hDb6 HFb.out.dk rfl rfl 16 (by decide) (by decide) (homes := 20) (by rw [HFb.out.size]) (by decide) (by decide) (dFresh_bears 37 16 20 (by decide)))
    have hfoot : ∀ k, La.foot la k → k < w6.heap.size ∧ ¬ Db.foot bb k := fun k hk => ⟨hoa.up.at_.foot_lt hk, fun hf => by
      have h1 := HFb.out.newer k hf
      have h2 := HFb.out.at_.foot_lt hf
      rcases hoa.own k hk with e | e
      · have := HAlt.out k e; omega
      · omega⟩
    have HFoot := Lib.hid hfoot
    clear hoa hna hDb6 hfoot
    go_wp2_with (fail)
    refine (HO2.out).mono ?_
    rintro e w7 ⟨lb, Lb, rfl, hob⟩
    have hnb := hob.newer (B := w.heap.size) (fun k hk => Nat.le_trans HB4.out.size (HFb.out.newer k hk)) HB6.out.size
    have hlb : LogIn w.heap.size w7 lb Lb (dFresh 37) 0 20 16 (fun _ => zeros 512) := ⟨hob.up, by rw [hob.homes, HFb.out.size], hob.ringE, hnb.1, rfl⟩
    have hla6 : LogIn w.heap.size w6 la La (dFresh 37) 0 20 16 (fun _ => zeros 512) := ⟨HOa.out.up, by rw [HOa.out.homes, HFa.out.size], HOa.out.ringE, HNa.out, rfl⟩
    have hla : LogIn w.heap.size w7 la La (dFresh 37) 0 20 16 (fun _ => zeros 512) := hla6.keep hob.keep (fun k hk hf => (HFoot.out k hk).2 hf)
    have hap : ∀ k, La.foot la k → ¬ Lb.foot lb k := fun k hk hf => by
      rcases hob.own k hf with e | e
      · exact (HFoot.out k hk).2 e
      · have := (HFoot.out k hk).1; omega
    have HB7 := Lib.hid (HB6.out.trans hnb.2)
    have HLb := Lib.hid hlb
    have HLa := Lib.hid hla
    have HAp := Lib.hid hap
    have HPs7 := Lib.hid ((HL.out.still HB7.out).mono HB7.out.size)
    have HCo := Lib.hid (hla.commitW (by decide) HB7.out.size HPs7.out (by have := HTot.out; omega) (by have := HPl.out; omega) HSz.out.flat)
    obtain ⟨ce, hce⟩ : ∃ ce, cErr 20 16 ps.flatten = ce := ⟨_, rfl⟩
    unfold comW at HCo
    rw [hce] at HCo
    have HCe := Lib.hid hce
    clear hob hnb hlb hla6 hla hap hce
    go_wp2_with (fail)
    refine (HCo.out).mono ?_
    rintro e w8 ⟨rfl, L8, d8, hl8, hst8, hb8⟩
    have HB8 := Lib.hid (HB7.out.trans hb8)
    have HL8 := Lib.hid hl8
    have hfb8 : ∀ k, Lb.foot lb k → k < w7.heap.size := fun k hk => HLb.out.up.at_.foot_lt hk
    have HLb8 := Lib.hid (HLb.out.keep hst8.keep (fun k hk hf => HAp.out k hf hk))
    have HAp8 := Lib.hid (fun k (hk : L8.foot la k) (hf : Lb.foot lb k) => (hst8.own k hk).elim (fun e => HAp.out k e hf) (fun e => by have := hfb8 k hf; omega))
    clear hl8 hst8 hb8 hfb8
    by_cases c0 : ce = 0
    · subst c0
      have hl8 := HL8.out
      rw [if_pos rfl] at hl8
      have HL8 := Lib.hid hl8
      clear hl8
      go_wp2_with (fail)
      go_loopw [57] (fun i wr => ∃ k : Nat, k ≤ pl ∧ i = .int .i64 k ∧ (∃ L d, LogIn w.heap.size wr lb L d k 20 16 (overG (fullG (ps.take k).flatten) (fun _ => zeros 512)) ∧ (∀ q, L8.foot la q → ¬ L.foot lb q)) ∧ LogIn w.heap.size wr la L8 d8 (0 + 1) 20 16 (overG (fullG ps.flatten) (fun _ => zeros 512)) ∧ Below w.heap.size w wr) (fun i _ => pl - (intOf i).toNat)
      case atStart => exact ⟨0, by omega, rfl, ⟨Lb, _, HLb8.out, HAp8.out⟩, HL8.out, HB8.out⟩
      case round =>
        obtain ⟨k, hk, rfl, ⟨L9, d9, hb9, hap9⟩, ha9, hbel⟩ := hrel
        have HLb9 := Lib.hid hb9
        have HAp9 := Lib.hid hap9
        have HLa9 := Lib.hid ha9
        have HB9 := Lib.hid hbel
        clear hb9 hap9 ha9 hbel
        by_cases hlt : k < pl
        · have g1 : decide ((k : Int) < (pl : Int)) = true := by simp; omega
          have g1' : decide (k < pl) = true := by simpa using hlt
          obtain ⟨rfl, hb⟩ := HPp.out (by omega)
          obtain ⟨x, hx⟩ : ∃ x, ps[k]? = some x := ⟨_, List.getElem?_eq_getElem (by rw [HPl.out]; exact hlt)⟩
          obtain ⟨q0, hpx⟩ := HPc.out k x hx
          rw [← HB9.out.cell (p := ⟨pb, po + k, none⟩) hb] at q0
          have hpw := (hpx.still HB9.out).monoB HB9.out.size
          obtain ⟨xa, xc, _, _, hxv, _, _⟩ := hpx.form
          rw [hxv] at q0 hpw
          have hmem : x ∈ ps := List.mem_of_getElem? hx
          have hce := group_err HCe.out hmem
          have hxl : x.length ≤ 200 := by
            have h1 : x.length ≤ ps.flatten.length := (List.sublist_flatten_of_mem hmem).length_le
            have := HTot.out
            omega
          obtain ⟨hone, hb1⟩ := listsAt_one hpw
          have e1 : [x].flatten = x := by simp
          have hCo := (HLb9.out.still hb1).commitW (by omega) (Nat.le_trans HB9.out.size hb1.size) hone (by rw [e1]; omega) (by show (1 : Nat) ≤ _; decide) (fun y hy => by
            rw [e1] at hy
            exact (HSz.out.2 x hmem).2 y hy)
          unfold comW at hCo
          rw [e1, hce, if_pos rfl, overG_append] at hCo
          have htk : (ps.take k).flatten ++ x = (ps.take (k + 1)).flatten := by rw [List.take_add_one, hx]; simp
          rw [htk] at hCo
          have HCo := Lib.hid hCo
          have HLa1 := Lib.hid (HLa9.out.still hb1)
          have HB1' := Lib.hid (HB9.out.trans (hb1.mono HB9.out.size))
          have hk0 : (0 : Int) ≤ (k : Int) := by omega
          have hk1 : (k : Int) < (pl : Int) := by omega
          clear hx hpx hpw hxv hmem hce hone hb1 e1 hCo htk
          go_wp2_with (fail)
          refine (HCo.out).mono ?_
          rintro e wA ⟨rfl, LA, dA, hlA, hstA, hbA⟩
          have HLA := Lib.hid hlA
          have HBA := Lib.hid (HB1'.out.trans hbA)
          have HLaA := Lib.hid (HLa1.out.keep hstA.keep (fun q hq hf => HAp9.out q hq hf))
          have hfa : ∀ q, L8.foot la q → ¬ LA.foot lb q := fun q hq hf => (hstA.own q hf).elim (fun e => HAp9.out q hq e) (fun e => by have := HLa1.out.up.at_.foot_lt hq; omega)
          have HApA := Lib.hid hfa
          clear hlA hstA hbA hfa
          go_wp2
          go_roundw
          case rel => exact ⟨k + 1, by omega, rfl, ⟨LA, dA, HLA.out, HApA.out⟩, HLaA.out, HBA.out⟩
          case measure => simp [intOf]; omega
        · have g1 : decide ((k : Int) < (pl : Int)) = false := by simp; omega
          have g1' : decide (k < pl) = false := by simpa using hlt
          have hkp : ps.take k = ps := List.take_of_length_le (by rw [HPl.out]; omega)
          have hb9 := HLb9.out
          rw [hkp] at hb9
          have HLbz := Lib.hid hb9
          obtain ⟨W9, hW9⟩ : ∃ W9, overG (fullG ps.flatten) (fun _ => zeros 512) = W9 := ⟨_, rfl⟩
          rw [hW9] at HLbz HLa9
          clear hb9 hkp hW9
          go_wp2_with (fail)
          obtain ⟨wm, hwm⟩ : ∃ wm, wr = wm := ⟨_, rfl⟩
          rw [hwm] at HLbz HLa9 HB9 ⊢
          clear hwm
          go_loopw [67] (fun i wr => ∃ j : Nat, j ≤ 20 ∧ i = .int .i64 j ∧ Below wm.heap.size wm wr) (fun i _ => 20 - (intOf i).toNat)
          case atStart => exact ⟨0, by omega, rfl, Below.refl _ _⟩
          case round =>
            obtain ⟨j, hj, rfl, hbel⟩ := hrel
            have HBj := Lib.hid hbel
            have HRa := Lib.hid ((HLa9.out.still hbel).up.readAt (HLa9.out.homes))
            have HUb := Lib.hid (HLbz.out.still hbel)
            clear hbel
            by_cases hlt : j < 20
            · have g1 : decide ((j : Int) < 20) = true := by simp; omega
              have g1' : decide (j < 20) = true := by simpa using hlt
              have HRj := Lib.hid (HRa.out j hlt)
              obtain ⟨z, hz⟩ : ∃ z, W9 (j : Int) = z := ⟨_, rfl⟩
              rw [hz] at HRj
              have HZ := Lib.hid hz
              clear hz
              go_wp2_with (fail)
              refine (HRj.out).mono ?_
              rintro e wA ⟨rfl, hbA⟩
              have hRb := (HUb.out.still hbA).up.readAt HUb.out.homes j hlt
              rw [HZ.out] at hRb
              have HRb := Lib.hid hRb
              have HBA := Lib.hid (HBj.out.trans (hbA.mono HBj.out.size))
              clear hRb hbA
              go_wp2_with (fail)
              refine (HRb.out).mono ?_
              rintro e wB ⟨rfl, hbB⟩
              go_wp2
              go_roundw
              case rel => exact ⟨j + 1, by omega, rfl, HBA.out.trans (hbB.mono HBA.out.size)⟩
              case measure => simp [intOf]; omega
            · have g1 : decide ((j : Int) < 20) = false := by simp; omega
              have g1' : decide (j < 20) = false := by simpa using hlt
              go_wp2
              go_ret
              exact ⟨rfl, HB9.out.trans (HBj.out.mono HB9.out.size)⟩
    · have f0 : decide (ce = 0) = false := by simpa using c0
      have f0' : (ce == 0) = false := by simpa using c0
      have hl8 := HL8.out
      rw [if_neg c0] at hl8
      have HRn := Lib.hid (fun u => refNew_any 20 (by decide) u)
      have HL8 := Lib.hid hl8
      clear hl8
      go_wp2_with (first
        | (go_at_call 15; refine (HRn.out _).mono ?_; rintro e w9 ⟨wv, rfl, htx, hb9⟩
           have hl9 : LogIn w.heap.size w9 la L8 d8 (0 + 1) 20 16 (atL (List.replicate 20 (zeros 512))) := by
             have h9 := HL8.out.still hb9
             exact ⟨h9.up.congr (fun q hq => by
               rw [h9.homes] at hq
               unfold atL
               rw [Int.toNat_natCast, List.getD_eq_getElem?_getD, List.getElem?_replicate, if_pos hq]
               rfl), h9.homes, h9.ring, h9.newer, h9.free⟩
           have HHo := Lib.hid (hl9.holds List.length_replicate htx)
           have HB9 := Lib.hid (HB8.out.trans (hb9.mono HB8.out.size))
           clear hl9 htx hb9)
        | (go_at_call 16; refine (HHo.out).mono ?_; rintro e wA ⟨rfl, hbA⟩))
      go_ret
      exact ⟨rfl, HB9.out.trans (hbA.mono HB9.out.size)⟩
end Go.Proofs.YtnfdplhcpiknpaaDoor
