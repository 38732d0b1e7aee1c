/-
  THE LAWS of layer 5: the document's answer, walked: New, Commit, Size.
-/
import Derived.Test.YtalgheocjnajlaaGreatDoorFull
namespace Go.Proofs.YtalgheocjnajlaaGreatDoor
open Go.RowKit Go.MapKept
attribute [local go_sem] gives givesH
set_option maxRecDepth 100000

theorem infoStr : (Tryz.prog.info? 9).map (fun i => (i.zero, i.size, i.bytes)) = some (some (.string ⟨#[]⟩), 1, 16) := by kernel_rfl
theorem refSize_any (n : Nat) (hn : n ≤ 1000000) (w : World) : Calls Tryz.prog 91 #[.int .i64 n] w fun e w' => e = .returned (.int .i64 ((1 + secs n : Nat))) ∧ w = w' := by
  have e1 : IntKind.i64.wrap (516 * (n : Int)) = 516 * (n : Int) := wrapI (by omega) (by omega)
  have e1' : IntKind.i64.wrap ((n : Int) * 516) = (n : Int) * 516 := wrapI (by omega) (by omega)
  have e2 : IntKind.i64.wrap (516 * (n : Int) + 510) = 516 * (n : Int) + 510 := wrapI (by omega) (by omega)
  have e3 : (516 * (n : Int) + 510).tdiv 511 = ((secs n : Nat) : Int) := by
    rw [Int.tdiv_eq_ediv_of_nonneg (by omega)]
    unfold secs
    omega
  have e4 : IntKind.i64.wrap ((secs n : Nat) : Int) = ((secs n : Nat) : Int) := wrapI (by omega) (by unfold secs; omega)
  have e5 : (1 : Int) + ((secs n : Nat) : Int) = ((1 + secs n : Nat) : Int) := by omega
  have e6 : IntKind.i64.wrap ((1 + secs n : Nat) : Int) = ((1 + secs n : Nat) : Int) := wrapI (by omega) (by unfold secs; omega)
  generalize hs : (1 + secs n) = s1 at *
  generalize secs n = s at *
  go_enter Tryz.func91, Tryz.ntmps91
  go_wp2
  go_ret
  exact ⟨rfl, rfl⟩
theorem refNew_any (n : Nat) (hn : n ≤ 65536) (w : World) : Calls Tryz.prog 11 #[.int .i64 n] w fun e w' => ∃ v, e = .returned v ∧ TextsAt w' w.heap.size v (List.replicate n (zeros 512)) ∧ Below w.heap.size w w' := by
  have H1 := Lib.hid (ref4Full_any ByteArray.empty (by decide) w)
  rw [fullS_empty] at H1
  obtain ⟨i0, hi0, hz0, hz1, hz2⟩ := info_parts infoStr
  have HI := Lib.hid hi0
  have Hz0 := Lib.hid hz0
  have Hz1 := Lib.hid hz1
  have Hz2 := Lib.hid hz2
  obtain ⟨z, hzz⟩ : ∃ z, zeros 512 = z := ⟨_, rfl⟩
  rw [hzz] at H1 ⊢
  clear hi0 hz0 hz1 hz2 hzz
  go_enter Tryz.func11, Tryz.ntmps11
  go_wp2_with (go_at_call 26; refine (H1.out).mono ?_; rintro e w1 ⟨rfl, hb1⟩
               have HB1 := Lib.hid hb1
               clear hb1)
  go_loopw [3, 5] (fun v i wr => ∃ k : Nat, k ≤ n ∧ i = .int .i64 k ∧ wr.ownsRow w.heap.size 9 1 v k ((List.replicate k z).map .string) ∧ Below w.heap.size w wr) (fun _ i _ => n - (intOf i).toNat)
  case atStart => exact ⟨0, by omega, rfl, World.ownsRow_nil _ _ _ _, HB1.out⟩
  case round =>
    obtain ⟨k, hk, rfl, hrow, hb⟩ := hrel
    have HRow := Lib.hid hrow
    have HB := Lib.hid hb
    clear hrow hb
    by_cases hlt : k < n
    · have g1 : decide ((k : Int) < (n : Int)) = true := by simp; omega
      have g1' : decide (k < n) = true := by simpa using hlt
      have hk0 : (0 : Int) ≤ (k : Int) := by omega
      have hk1 : (k : Int) < (n : Int) := by omega
      go_wp2_with (at_builtin
                   refine wpList_append_own_at _ (by rfl) _ _ 34 (by rfl) w.heap.size 9 i0 _ 1 16 Tryz.underlying34 HI.out Hz0.out Hz1.out Hz2.out (by rfl) (by decide) _ _ _ (by rfl) (HRow.out.alloc _) ⟨wr.heap.size, 0, none⟩ 1 1 [.string z] (by rfl) (by rfl) (World.news_of_block (cs := #[.string z]) (t := 9) (fr := (0, 0)) (heap_alloc_new wr _)) (by simp [Value.oneCell']) (by unfold maxLen; omega) (by omega) ?_ ?_
                   · have := HB.out.size; simp; omega
                   intro v' w8 hown8 hg8 hnil hloc
                   have HOw := Lib.hid hown8
                   have HB8 := Lib.hid (((Keep.ofBelow (S := fun k => w.heap.size ≤ k) HB.out).alloc _).grown hg8 (fun j hj e => (HRow.out.lt j e).1) |>.below (Nat.le_refl _) (fun i hi e => by omega))
                   clear hown8 hg8 hnil hloc)
      go_roundw
      case rel => exact ⟨k + 1, by omega, rfl, by rw [List.replicate_succ', List.map_append]; exact HOw.out, HB8.out⟩
      case measure => simp [intOf]; omega
    · have g1 : decide ((k : Int) < (n : Int)) = false := by simp; omega
      have g1' : decide (k < n) = false := by simpa using hlt
      obtain rfl : k = n := by omega
      go_wp2
      go_ret
      refine ⟨_, rfl, ?_, HB.out⟩
      show World.ownsRow _ _ _ _ _ _ _
      rw [List.length_replicate]
      exact HRow.out
theorem gErr_append (homes : Nat) (p q : Puts) : gErr homes (p ++ q) = if gErr homes p ≠ 0 then gErr homes p else gErr homes q := by
  refine snoc_ind (p := fun q => gErr homes (p ++ q) = if gErr homes p ≠ 0 then gErr homes p else gErr homes q) q ?_ (fun q x ih => ?_)
  · rw [List.append_nil]
    by_cases h : gErr homes p = 0
    · rw [if_neg (fun e => e h), h]; rfl
    · rw [if_pos h]
  · rw [← List.append_assoc, gErr_snoc, ih, gErr_snoc homes q x]
    by_cases h : gErr homes p = 0
    · simp only [h, ne_eq, not_true_eq_false, if_false]
    · simp only [h, ne_eq, not_false_eq_true, if_true]
/-- what is known behind the puts q -/
structure RefAt (w wr : World) (ws : List ByteArray) (g cap : Nat) (mv : Value) (q : Puts) : Prop where
  err : gErr ws.length q = 0
  out : wr.ownsRow w.heap.size 9 1 (.slice (some ⟨g, 0, none⟩) ws.length cap) ws.length ((setL ws q).map .string)
  met : wr.ownsRow w.heap.size 3 1 mv (metL q).length ((metL q).map fun i => .int .i64 i)
  apart : mv.ownBlock ≠ some g
  below : Below w.heap.size w wr
set_option maxHeartbeats 4000000 in
theorem refCommit_any {w : World} {bh : Nat} {vh : Value} {ws : List ByteArray} (hh : TextsAt w bh vh ws) (h1 : 1 ≤ ws.length) (h6 : ws.length ≤ 65536) {v : Value} {ps : List Puts} (hv : ListsAt w w.heap.size v ps) (hn : ps.flatten.length ≤ 1000000) (hl : ps.length ≤ 1000000)
    (hsz : ∀ x ∈ ps.flatten, x.2.size ≤ 9223372036854775807) (ring : Nat) :
    Calls Tryz.prog 54 #[vh, .int .i64 ring, v] w fun e w' => ∃ v', e = .returned (.tuple #[v', .int .i64 (cErr ws.length ring ps.flatten)]) ∧ ((v' = vh ∧ refL ws ring ps.flatten = ws) ∨ TextsAt w' w.heap.size v' (refL ws ring ps.flatten)) ∧ Below w.heap.size w w' := by
  obtain ⟨i0, hi0, hz0, hz1, hz2⟩ := info_parts infoStr
  have HI := Lib.hid hi0
  have Hz0 := Lib.hid hz0
  have Hz1 := Lib.hid hz1
  have Hz2 := Lib.hid hz2
  obtain ⟨j0, hj0, hy0, hy1, hy2⟩ := info_parts infoInt
  have HJ := Lib.hid hj0
  have Hy0 := Lib.hid hy0
  have Hy1 := Lib.hid hy1
  have Hy2 := Lib.hid hy2
  obtain ⟨gh, ch, hgh, hch, hcm, hgb⟩ := row_posB hh (by omega)
  subst hgh
  have hhc : ∀ j u, (ws.map Value.string)[j]? = some u → w.cell? ⟨gh, j, none⟩ = some u := fun j u hu => row_cells hh j u hu
  have hghl : gh < w.heap.size := (World.ownsRow.lt hh gh rfl).2
  obtain ⟨n, hnn⟩ : ∃ n, ws.length = n := ⟨_, rfl⟩
  have HHh := Lib.hid hh
  have HN := Lib.hid hnn
  have HHc := Lib.hid hhc
  rw [hnn] at h1 h6 hch ⊢
  clear hi0 hz0 hz1 hz2 hj0 hy0 hy1 hy2 hh hhc hnn
  have ho0 : (w.alloc (.cells #[] 9)).ownsRow w.heap.size 9 1 (.slice (some ⟨w.heap.size, 0, none⟩) 0 0) 0 [] := ⟨rfl, .inr ⟨w.heap.size, 0, _, rfl, Nat.le_refl _, heap_alloc_new w _, Nat.le_refl _, Nat.zero_le _, rfl, rfl⟩⟩
  have HO0 := Lib.hid ho0
  clear ho0
  go_enter Tryz.func54, Tryz.ntmps54
  go_wp2_with (at_builtin
               refine wpList_append_own_at _ (by rfl) _ _ 34 (by rfl) w.heap.size 9 i0 _ 1 16 Tryz.underlying34 HI.out Hz0.out Hz1.out Hz2.out (by rfl) (by decide) _ _ _ (by rfl) HO0.out ⟨gh, 0, none⟩ n ch (ws.map .string) (by rfl) (by rw [List.length_map, HN.out, Nat.mul_one]) (fun j u hu => by
                 rw [addr_none, Nat.zero_add]
                 have hlt : gh < w.heap.size := hghl
                 rw [((Below.refl w.heap.size w).alloc (Nat.le_refl _) (.cells #[] 9)).cell (p := ⟨gh, j, none⟩) hlt]
                 exact HHc.out j u hu) (fun u hu => by
                 obtain ⟨x, _, rfl⟩ := List.mem_map.1 hu
                 rfl) (by unfold maxLen; omega) (by omega) ?_ ?_
               · simp
               intro v' w8 hown8 hg8 hnil hloc
               rw [Nat.zero_add, List.nil_append] at hown8
               have HOw := Lib.hid hown8
               have HB8 := Lib.hid (((Keep.refl (fun k => w.heap.size ≤ k) w).alloc (.cells #[] 9)).grown hg8 (fun j hj e => (HO0.out.lt j e).1) |>.below (Nat.le_refl _) (fun i hi e => by omega))
               clear hown8 hg8 hnil hloc)
  obtain ⟨g, cap, hg, hcap, hcm2, hgB⟩ := row_posB HOw.out h1
  subst hg
  obtain ⟨m, hm⟩ : ∃ m, ps.length = m := ⟨_, rfl⟩
  obtain ⟨la, lcap, lb, loff, vs, hvf, hla, hlc⟩ : ∃ la lcap lb loff, ∃ vs : Nat → Value, v = .slice la m lcap ∧ (0 < m → la = some ⟨lb, loff, none⟩ ∧ lb < w.heap.size) ∧ ∀ (k : Nat) p, ps[k]? = some p → w.cell? ⟨lb, loff + k, none⟩ = some (vs k) ∧ PutsAt w w.heap.size (vs k) p := by
    rcases hv with ⟨h1, h2⟩ | ⟨ad, b, off, cap, vs, h1, hb, hc⟩
    · subst h2
      exact ⟨none, 0, 0, 0, fun _ => undef, by rw [h1, ← hm]; rfl, fun h0 => by rw [← hm] at h0; exact absurd h0 (by simp), fun k p hp => by simp at hp⟩
    · exact ⟨some ad, cap, b, off, vs, by rw [h1, hm], fun h0 => ⟨by rw [(hb (hm ▸ h0)).1], (hb (hm ▸ h0)).2⟩, hc⟩
  subst hvf
  have HM := Lib.hid hm
  have HLa := Lib.hid hla
  have HLc := Lib.hid hlc
  have HSz := Lib.hid hsz
  have hm6 : m ≤ 1000000 := by omega
  have HFle := Lib.hid (fun k => Nat.le_trans (flat_take_le ps k) hn)
  have hR0 : RefAt w w8 ws g cap (.slice none 0 0) [] := ⟨rfl, by rw [HN.out]; exact HOw.out, World.ownsRow_nil _ _ _ _, fun e => (by cases e), HB8.out⟩
  have HR0 := Lib.hid hR0
  clear hv hm hla hlc hsz hl hR0
  go_loopw [9, 10] (fun mv i wr => ∃ a : Nat, a ≤ m ∧ i = .int .i64 a ∧ RefAt w wr ws g cap mv (ps.take a).flatten) (fun _ i _ => m - (intOf i).toNat)
  case atStart => exact ⟨0, by omega, rfl, HR0.out⟩
  case round =>
    obtain ⟨a, ha, rfl, hra⟩ := hrel
    have HRa := Lib.hid hra
    obtain ⟨ma, mc, hmv⟩ := slice_formB hra.met
    subst hmv
    clear hra
    by_cases hlt : a < m
    · have g1 : decide ((a : Int) < (m : Int)) = true := by simp; omega
      have g1' : decide (a < m) = true := by simpa using hlt
      obtain ⟨rfl, hlb⟩ := HLa.out (by omega)
      obtain ⟨p, hp⟩ : ∃ p, ps[a]? = some p := ⟨_, List.getElem?_eq_getElem (by rw [HM.out]; exact hlt)⟩
      obtain ⟨hca, hpa⟩ := HLc.out a p hp
      have HCa := Lib.hid hca
      obtain ⟨pl, hpl⟩ : ∃ pl, p.length = pl := ⟨_, rfl⟩
      obtain ⟨pa, pcap, pb, poff, hpf, hpp, hpc⟩ : ∃ pa pcap pb poff, vs a = .slice pa pl pcap ∧ (0 < pl → pa = some ⟨pb, poff, none⟩ ∧ pb < w.heap.size) ∧ ∀ (k : Nat) x, p[k]? = some x → w.cell? ⟨pb, poff + k * 2, none⟩ = some (.int .i64 x.1) ∧ w.cell? ⟨pb, poff + k * 2 + 1, none⟩ = some (.string x.2) := by
        rcases hpa with ⟨h1, h2⟩ | ⟨ad, b, off, cap, h1, hb, hc⟩
        · subst h2
          exact ⟨none, 0, 0, 0, by rw [h1, ← hpl]; rfl, fun h0 => by rw [← hpl] at h0; exact absurd h0 (by simp), fun k x hx => by simp at hx⟩
        · exact ⟨some ad, cap, b, off, by rw [h1, hpl], fun h0 => ⟨by rw [(hb (hpl ▸ h0)).1], (hb (hpl ▸ h0)).2⟩, hc⟩
      have hflat : (ps.take (a + 1)).flatten = (ps.take a).flatten ++ p := take_flat ps a p hp
      have hsub : ∀ x ∈ p, x ∈ ps.flatten := fun x hx => List.mem_flatten.2 ⟨p, List.mem_of_getElem? hp, hx⟩
      have hsplit : ps.flatten = (ps.take a).flatten ++ p ++ (ps.drop (a + 1)).flatten := by
        rw [← hflat, ← List.flatten_append, List.take_append_drop]
      rw [hpf] at HCa
      have HPl := Lib.hid hpl
      have HPp := Lib.hid hpp
      have HPc := Lib.hid hpc
      have HFlat := Lib.hid hflat
      have HSub := Lib.hid hsub
      have HSplit := Lib.hid hsplit
      have hpl6 : pl ≤ 1000000 := by
        have h2 := HFle.out (a + 1)
        rw [hflat, List.length_append, hpl] at h2
        omega
      have hR1 : RefAt w wr ws g cap (.slice ma (metL (ps.take a).flatten).length mc) ((ps.take a).flatten ++ p.take 0) := by rw [List.take_zero, List.append_nil]; exact HRa.out
      have HR1 := Lib.hid hR1
      obtain ⟨q, hq⟩ : ∃ q, (ps.take a).flatten = q := ⟨_, rfl⟩
      rw [hq] at HFlat HSplit HR1 HRa
      have hql : q.length + pl ≤ 1000000 := by
        have h2 := HFle.out (a + 1)
        rw [hflat, List.length_append, hpl, hq] at h2
        exact h2
      have ha0 : (0 : Int) ≤ (a : Int) := by omega
      have ha1 : (a : Int) < (m : Int) := by omega
      clear hp hca hpa hpl hpf hpp hpc hflat hsub hsplit hR1
      rw [hq]
      go_wp2
      go_loopw [9, 11] (fun mv k wr2 => ∃ c : Nat, c ≤ pl ∧ k = .int .i64 c ∧ RefAt w wr2 ws g cap mv (q ++ p.take c)) (fun _ k _ => pl - (intOf k).toNat)
      case atStart => exact ⟨0, by omega, rfl, HR1.out⟩
      case round =>
        obtain ⟨c, hc, rfl, hrc⟩ := hrel
        have HRc := Lib.hid hrc
        obtain ⟨mb, md, hmv2⟩ := slice_formB hrc.met
        subst hmv2
        have hca2 := hrc.below.cell (p := ⟨lb, loff + a, none⟩) hlb
        rw [HCa.out] at hca2
        clear hrc
        by_cases hlt2 : c < pl
        · have g2 : decide ((c : Int) < (pl : Int)) = true := by simp; omega
          have g2' : decide (c < pl) = true := by simpa using hlt2
          obtain ⟨rfl, hpb⟩ := HPp.out (by omega)
          obtain ⟨x, hx⟩ : ∃ x, p[c]? = some x := ⟨_, List.getElem?_eq_getElem (by rw [HPl.out]; exact hlt2)⟩
          obtain ⟨q0, q1⟩ := HPc.out c x hx
          rw [← HRc.out.below.cell (p := ⟨pb, poff + c * 2, none⟩) hpb] at q0
          rw [← HRc.out.below.cell (p := ⟨pb, poff + c * 2 + 1, none⟩) hpb] at q1
          have htk : p.take (c + 1) = p.take c ++ [x] := by rw [List.take_add_one, hx]; rfl
          have hxs := HSz.out x (HSub.out x (List.mem_of_getElem? hx))
          have hrest : gErr n ps.flatten = if gErr n [x] ≠ 0 then gErr n [x] else gErr n (p.drop (c + 1) ++ (ps.drop (a + 1)).flatten) := by
            have e : ps.flatten = (q ++ p.take c) ++ ([x] ++ (p.drop (c + 1) ++ (ps.drop (a + 1)).flatten)) := by
              rw [HSplit.out]
              have h2 : p = p.take c ++ ([x] ++ p.drop (c + 1)) := by
                rw [← List.append_assoc, ← htk, List.take_append_drop]
              conv => lhs; rw [h2]
              simp only [List.append_assoc]
            have h3 := HRc.out.err
            rw [HN.out] at h3
            rw [e, gErr_append, h3, gErr_append]
            rfl
          have HTk := Lib.hid htk
          have HRest := Lib.hid hrest
          have hc0 : (0 : Int) ≤ (c : Int) := by omega
          have hc1 : (c : Int) < (pl : Int) := by omega
          obtain ⟨xi, xs⟩ := x
          simp only at *
          have hne0 : n ≠ 0 := by omega
          have hrl : refL ws ring ps.flatten = ws ∨ gErr n ps.flatten = 0 := by
            by_cases hz : gErr n ps.flatten = 0
            · exact .inr hz
            · left
              unfold refL
              rw [if_neg]
              unfold cErr
              rw [HN.out, if_pos hz]
              exact hz
          have HRl := Lib.hid hrl
          have hbx : Below w.heap.size w (wr.alloc (.cells #[.int .i64 xi, .string xs] 60)) := HRc.out.below.alloc HRc.out.below.size _
          have HBx := Lib.hid hbx
          have bx0 : (wr.alloc (.cells #[.int .i64 xi, .string xs] 60)).cell? ⟨wr.heap.size, 0, none⟩ = some (.int .i64 xi) := Lib.cell_of_heap (heap_alloc_new wr _) 0
          have bx1 : (wr.alloc (.cells #[.int .i64 xi, .string xs] 60)).cell? ⟨wr.heap.size, 1, none⟩ = some (.string xs) := Lib.cell_of_heap (heap_alloc_new wr _) 1
          clear hx htk hrest hrl hbx
          by_cases c1 : xi < 0
          · have d1 : decide (xi < 0) = true := by simpa using c1
            have hg2 : gErr n ps.flatten = 2 := by
              rw [HRest.out, if_pos] <;> simp [gErr, c1]
            have hce : cErr n ring ps.flatten = 2 := by unfold cErr; rw [hg2]; rfl
            have HCe := Lib.hid hce
            have HG2 := Lib.hid hg2
            clear hg2 hce c1
            go_wp2
            go_ret2
            exact ⟨_, by rw [HCe.out]; rfl, .inl ⟨rfl, HRl.out.resolve_right (by rw [HG2.out]; decide)⟩, HBx.out⟩
          have d1 : decide (xi < 0) = false := by simpa using c1
          by_cases c2 : (n : Int) ≤ xi
          · have d2 : decide ((n : Int) ≤ xi) = true := by simpa using c2
            have hg2 : gErr n ps.flatten = 2 := by
              rw [HRest.out, if_pos] <;> simp [gErr, c2]
            have hce : cErr n ring ps.flatten = 2 := by unfold cErr; rw [hg2]; rfl
            have HCe := Lib.hid hce
            have HG2 := Lib.hid hg2
            clear hg2 hce c1 c2
            go_wp2
            go_ret2
            exact ⟨_, by rw [HCe.out]; rfl, .inl ⟨rfl, HRl.out.resolve_right (by rw [HG2.out]; decide)⟩, HBx.out⟩
          have d2 : decide ((n : Int) ≤ xi) = false := by simpa using c2
          by_cases c3 : 512 < xs.size
          · have d3 : decide ((512 : Int) < (xs.size : Int)) = true := by simp; omega
            have hg2 : gErr n ps.flatten = 5 := by
              have e : gErr n [(xi, xs)] = 5 := by
                show (if xi < 0 ∨ (n : Int) ≤ xi then (2 : Int) else if 512 < xs.size then 5 else 0) = 5
                rw [if_neg (by omega), if_pos c3]
              rw [HRest.out, e, if_pos (by decide)]
            have hce : cErr n ring ps.flatten = 5 := by unfold cErr; rw [hg2]; rfl
            have HCe := Lib.hid hce
            have HG2 := Lib.hid hg2
            clear hg2 hce c1 c2 c3
            go_wp2
            go_ret2
            exact ⟨_, by rw [HCe.out]; rfl, .inl ⟨rfl, HRl.out.resolve_right (by rw [HG2.out]; decide)⟩, HBx.out⟩
          have d3 : decide ((512 : Int) < (xs.size : Int)) = false := by simp; omega
          obtain ⟨xn, hxn⟩ : ∃ xn : Nat, xi = (xn : Int) := ⟨xi.toNat, by omega⟩
          subst hxn
          have hxn2 : xn < n := by omega
          have hgx : gErr n (q ++ p.take (c + 1)) = 0 := by
            have h3 := HRc.out.err
            rw [HN.out] at h3
            rw [HTk.out, ← List.append_assoc, gErr_append, h3]
            show (if (xn : Int) < 0 ∨ (n : Int) ≤ (xn : Int) then (2 : Int) else if 512 < xs.size then 5 else 0) = 0
            rw [if_neg (by omega), if_neg c3]
          have hset : setL ws (q ++ p.take (c + 1)) = (setL ws (q ++ p.take c)).set xn (fullS xs) := by
            rw [HTk.out, ← List.append_assoc, setL_snoc, Int.toNat_natCast]
          have hmet : metL (q ++ p.take (c + 1)) = if (xn : Int) ∈ metL (q ++ p.take c) then metL (q ++ p.take c) else metL (q ++ p.take c) ++ [(xn : Int)] := by
            rw [HTk.out, ← List.append_assoc, metL_snoc]
          have hqc := metL_le (q ++ p.take c)
          rw [List.length_append] at hqc
          have hqc2 : (p.take c).length ≤ c := List.length_take_le _ _
          have HGx := Lib.hid hgx
          have HSet := Lib.hid hset
          have HMet := Lib.hid hmet
          have HX0 := Lib.hid bx0
          have HX1 := Lib.hid bx1
          have HFu := Lib.hid (fun u => ref4Full_any xs (by omega) u)
          have hM6 : (metL (q ++ p.take c)).length ≤ 1000000 := by omega
          obtain ⟨Mt, hMt⟩ : ∃ Mt, metL (q ++ p.take c) = Mt := ⟨_, rfl⟩
          have hmrow := HRc.out.met
          rw [hMt] at hmrow hM6 HMet
          have HMr := Lib.hid hmrow
          obtain ⟨mn, hmn⟩ : ∃ mn, Mt.length = mn := ⟨_, rfl⟩
          rw [hMt, hmn]
          rw [hmn] at hM6
          have HMn := Lib.hid hmn
          clear hgx hset hmet c1 c2 c3 hqc hqc2 hMt hmrow hmn
          have hwbs : wr.heap.size < (wr.alloc (.cells #[.int .i64 (xn : Int), .string xs] 60)).heap.size := by simp
          go_wp2_with (fail)
          obtain ⟨S, hS⟩ : ∃ S : World → Prop, ∀ u, S u ↔ Keep (fun _ => False) ((wr.alloc (.cells #[.int .i64 (xn : Int), .string xs] 60))) u := ⟨fun u => Keep (fun _ => False) ((wr.alloc (.cells #[.int .i64 (xn : Int), .string xs] 60))) u, fun _ => Iff.rfl⟩
          have HS := Lib.hid hS
          clear hS
          refine wp_region_ord 7 [(0, true), (1, true), (2, true), (3, true), (4, true), (5, false), (6, true)] S (by kernel_rfl) (by kernel_rfl) ((HS.out _).2 (Keep.refl _ _).drew) ?_
          iterate 5
            first
              | (refine wpH_passed rfl (by rfl) (fun K hK => ?_); go_simp; refine hK _ ?_; clear hK K)
              | (first
                   | refine wpH_read rfl rfl (fun K hK => ?_)
                   | refine wpH_readw rfl (by rfl) (fun K hK => ?_)
                 apply Exists.intro
                 refine ⟨fun u hu => ?_, ?_⟩
                 · have hu := (HS.out u).1 hu
                   have b0 : u.cell? ⟨wr.heap.size, 0, none⟩ = some (.int .i64 (xn : Int)) := by rw [hu.cell (p := ⟨wr.heap.size, 0, none⟩) hwbs (fun e => e)]; exact HX0.out
                   have b1 : u.cell? ⟨wr.heap.size, 1, none⟩ = some (.string xs) := by rw [hu.cell (p := ⟨wr.heap.size, 1, none⟩) hwbs (fun e => e)]; exact HX1.out
                   clear hu
                   go_simp
                   exact ⟨rfl, rfl⟩
                 go_simp
                 refine hK _ ?_
                 clear hK K)
          refine wpH_do rfl rfl (fun K hK => ?_)
          go_simp
          go_at_call 26
          refine (HFu.out _).mono ?_
          rintro e u5 ⟨rfl, hb5⟩
          have k5 : Keep (fun _ => False) (wr.alloc (.cells #[.int .i64 (xn : Int), .string xs] 60)) u5 := (Keep.refl _ _).drew.trans (Keep.ofBelow (S := fun _ => False) hb5) (fun _ _ h => h)
          refine hK _ _ ((HS.out _).2 k5) ?_
          clear hK K
          iterate 1
            first
              | (refine wpH_passed rfl (by rfl) (fun K hK => ?_); go_simp; refine hK _ ?_; clear hK K)
              | (first
                   | refine wpH_read rfl rfl (fun K hK => ?_)
                   | refine wpH_readw rfl (by rfl) (fun K hK => ?_)
                 apply Exists.intro
                 refine ⟨fun u hu => ?_, ?_⟩
                 · have hu := (HS.out u).1 hu
                   have b0 : u.cell? ⟨wr.heap.size, 0, none⟩ = some (.int .i64 (xn : Int)) := by rw [hu.cell (p := ⟨wr.heap.size, 0, none⟩) hwbs (fun e => e)]; exact HX0.out
                   have b1 : u.cell? ⟨wr.heap.size, 1, none⟩ = some (.string xs) := by rw [hu.cell (p := ⟨wr.heap.size, 1, none⟩) hwbs (fun e => e)]; exact HX1.out
                   clear hu
                   go_simp
                   exact ⟨rfl, rfl⟩
                 go_simp
                 refine hK _ ?_
                 clear hK K)
          refine wpH_nil ?_
          simp only [List.drop_succ_cons, List.drop_zero]
          have ko5 : Keep (fun _ => False) wr u5 := ((Keep.refl (fun _ => False) wr).alloc _).trans k5 (fun _ _ h => h)
          have ho5 := ko5.ownsRow HRc.out.out (fun _ _ e => e)
          have hm5 := ko5.ownsRow HMr.out (fun _ _ e => e)
          have b05 : u5.cell? ⟨wr.heap.size, 0, none⟩ = some (.int .i64 (xn : Int)) := by rw [k5.cell (p := ⟨wr.heap.size, 0, none⟩) hwbs (fun e => e)]; exact HX0.out
          have hws5 : wr.heap.size < u5.heap.size := Nat.lt_of_lt_of_le hwbs k5.size
          obtain ⟨old, hold⟩ : ∃ old, (setL ws (q ++ p.take c))[xn]? = some old := ⟨_, List.getElem?_eq_getElem (by rw [setL_length, HN.out]; exact hxn2)⟩
          rw [HN.out] at ho5
          have co := row_cells ho5 xn (.string old) (by rw [List.getElem?_map, hold]; rfl)
          have fo := ho5.frozenAt xn
          obtain ⟨hos, hgs⟩ := ho5.stored xn (.string (fullS xs))
          rw [← List.map_set] at hos
          have HB5 := Lib.hid (HRc.out.below.trans (ko5.below HRc.out.below.size (fun i hi e => e)))
          have hge : w.heap.size ≤ g := hgB
          have hgne : wr.heap.size ≠ g := fun e => by
            have := (World.ownsRow.lt HRc.out.out g rfl).2
            omega
          have hb7 : (u5.setCell ⟨g, xn, none⟩ (.string (fullS xs))).cell? ⟨wr.heap.size, 0, none⟩ = some (.int .i64 (xn : Int)) := by
            have e : (u5.setCell ⟨g, xn, none⟩ (.string (fullS xs))).cell? ⟨wr.heap.size, 0, none⟩ = u5.cell? ⟨wr.heap.size, 0, none⟩ := by
              unfold World.cell?
              rw [Below.heap_setCell _ _ _ _ hgne]
            rw [e]; exact b05
          have hm7 : (u5.setCell ⟨g, xn, none⟩ (.string (fullS xs))).ownsRow w.heap.size 3 1 (.slice mb mn md) mn (Mt.map fun i => .int .i64 i) := by
            have k7 : Keep (· = g) u5 (u5.setCell ⟨g, xn, none⟩ (.string (fullS xs))) := (Keep.refl (· = g) u5).setCell (p := ⟨g, xn, none⟩) (fun _ => rfl) _
            rw [← HMn.out]
            refine k7.ownsRow hm5 (fun k hk e => ?_)
            have h9 := HRc.out.apart
            apply h9
            rw [← e]
            cases mb with
            | none => cases hk
            | some am => exact hk
          have HM7 := Lib.hid hm7
          have HO7 := Lib.hid hos
          have HB7 := Lib.hid hb7
          have HBl7 := Lib.hid (HB5.out.setCell (p := ⟨g, xn, none⟩) hge (.string (fullS xs)))
          have hsz7 : (u5.setCell ⟨g, xn, none⟩ (.string (fullS xs))).heap.size = u5.heap.size := by simp [World.setCell]
          have HSz7 := Lib.hid hsz7
          have HApart : Hid ((Value.slice mb mn md).ownBlock ≠ some g) := Lib.hid (fun e => HRc.out.apart (by cases mb with | none => cases e | some am => exact e))
          clear ho5 hm5 b05 hold hos hgs hb7 hm7 hsz7 k5 ko5 hb5 S HS
          go_wp2_with (fail)
          obtain ⟨w7, hw7⟩ : ∃ w7, u5.setCell ⟨g, xn, none⟩ (.string (fullS xs)) = w7 := ⟨_, rfl⟩
          rw [hw7] at HM7 HO7 HB7 HBl7 HSz7 ⊢
          have hlt7 : wr.heap.size < w7.heap.size := by rw [HSz7.out]; exact hws5
          obtain ⟨bx, hbxe⟩ : ∃ bx, wr.heap.size = bx := ⟨_, rfl⟩
          rw [hbxe] at HB7 hlt7 ⊢
          clear hw7 hbxe
          go_loopw [13, 14] (fun th j wr3 => ∃ t : Nat, t ≤ mn ∧ j = .int .i64 t ∧ th = .bool (decide ((xn : Int) ∈ Mt.take t)) ∧ Keep (fun _ => False) w7 wr3) (fun _ j _ => mn - (intOf j).toNat)
          case atStart => exact ⟨0, by omega, rfl, by simp, Keep.refl _ _⟩
          case round =>
            obtain ⟨t, ht, rfl, rfl, hk7⟩ := hrel
            have HK7 := Lib.hid hk7
            clear hk7
            by_cases hlt3 : t < mn
            · have g3 : decide ((t : Int) < (mn : Int)) = true := by simp; omega
              have g3' : decide (t < mn) = true := by simpa using hlt3
              obtain ⟨y, hy⟩ : ∃ y, Mt[t]? = some y := ⟨_, List.getElem?_eq_getElem (by rw [HMn.out]; exact hlt3)⟩
              obtain ⟨gm, cm, hgm, _, _, _⟩ := row_posB HM7.out (by omega)
              obtain ⟨rfl, rfl⟩ : mb = some ⟨gm, 0, none⟩ ∧ cm = md := by cases hgm; exact ⟨rfl, rfl⟩
              clear hgm
              have htk3 : Mt.take (t + 1) = Mt.take t ++ [y] := by rw [List.take_add_one, hy]; rfl
              have HTk3 := Lib.hid htk3
              have HY : Hid ((Mt.map fun i => Value.int .i64 i)[t]? = some (.int .i64 y)) := Lib.hid (by rw [List.getElem?_map, hy]; rfl)
              have ht0 : (0 : Int) ≤ (t : Int) := by omega
              have ht1 : (t : Int) < (mn : Int) := by omega
              clear hy htk3
              by_cases hin : (xn : Int) ∈ Mt.take t
              · have hd : decide ((xn : Int) ∈ Mt.take t) = true := decide_eq_true hin
                have hd2 : decide ((xn : Int) ∈ Mt.take (t + 1)) = true := decide_eq_true (by rw [HTk3.out]; exact List.mem_append_left _ hin)
                rw [hd]
                have HD2 := Lib.hid hd2
                clear hin hd hd2
                go_wp2_with (fail)
                obtain ⟨S, hS⟩ : ∃ S : World → Prop, ∀ u, S u ↔ Keep (fun _ => False) (wr) u := ⟨fun u => Keep (fun _ => False) (wr) u, fun _ => Iff.rfl⟩
                have HS := Lib.hid hS
                clear hS
                refine wp_region_ord 10 [(0, true), (1, true), (2, true), (3, true), (4, true), (5, true), (6, true), (7, true), (8, true), (9, true)] S (by kernel_rfl) (by kernel_rfl) ((HS.out _).2 (Keep.refl _ _).drew) ?_
                iterate 10
                  first
                    | (refine wpH_passed rfl (by rfl) (fun K hK => ?_); go_simp; refine hK _ ?_; clear hK K)
                    | (first
                         | refine wpH_read rfl rfl (fun K hK => ?_)
                         | refine wpH_readw rfl (by rfl) (fun K hK => ?_)
                       apply Exists.intro
                       refine ⟨fun u hu => ?_, ?_⟩
                       · have hu := (HS.out u).1 hu
                         clear hu
                         go_simp
                         exact ⟨rfl, rfl⟩
                       go_simp
                       refine hK _ ?_
                       clear hK K)
                refine wpH_nil ?_
                simp only [List.drop_succ_cons, List.drop_zero]
                have hkw := (HS.out _).1 ((HS.out _).2 ((Keep.refl (fun _ => False) wr).drew))
                clear S HS
                go_wp2
                go_roundw
                case rel => exact ⟨t + 1, by omega, rfl, by rw [HD2.out], HK7.out.trans hkw (fun _ _ e => e)⟩
                case measure => simp [intOf]; omega
              · have hd : decide ((xn : Int) ∈ Mt.take t) = false := decide_eq_false hin
                have hd2 : (y == (xn : Int)) = decide ((xn : Int) ∈ Mt.take (t + 1)) := by
                  rw [HTk3.out]
                  by_cases hyx : y = (xn : Int)
                  · subst hyx; simp
                  · have h1 : (y == (xn : Int)) = false := by simpa using hyx
                    rw [h1]
                    symm
                    apply decide_eq_false
                    intro h2
                    rcases List.mem_append.1 h2 with h2 | h2
                    · exact hin h2
                    · exact hyx (by simpa using h2 : (xn : Int) = y).symm
                rw [hd]
                have HD2 := Lib.hid hd2
                clear hin hd hd2
                go_wp2_with (fail)
                obtain ⟨S, hS⟩ : ∃ S : World → Prop, ∀ u, S u ↔ Keep (fun _ => False) (wr) u := ⟨fun u => Keep (fun _ => False) (wr) u, fun _ => Iff.rfl⟩
                have HS := Lib.hid hS
                clear hS
                refine wp_region_ord 10 [(0, true), (1, true), (2, true), (3, true), (4, true), (5, true), (6, true), (7, true), (8, true), (9, true)] S (by kernel_rfl) (by kernel_rfl) ((HS.out _).2 (Keep.refl _ _).drew) ?_
                iterate 10
                  first
                    | (refine wpH_passed rfl (by rfl) (fun K hK => ?_); go_simp; refine hK _ ?_; clear hK K)
                    | (first
                         | refine wpH_read rfl rfl (fun K hK => ?_)
                         | refine wpH_readw rfl (by rfl) (fun K hK => ?_)
                       apply Exists.intro
                       refine ⟨fun u hu => ?_, ?_⟩
                       · have hu := (HS.out u).1 hu
                         have q3 := row_cells ((HK7.out.trans hu (fun _ _ e => e)).ownsRow HM7.out (fun _ _ e => e)) t _ HY.out
                         have b0 : u.cell? ⟨bx, 0, none⟩ = some (.int .i64 (xn : Int)) := by rw [(HK7.out.trans hu (fun _ _ e => e)).cell (p := ⟨_, 0, none⟩) hlt7 (fun e => e)]; exact HB7.out
                         clear hu
                         go_simp
                         exact ⟨rfl, rfl⟩
                       go_simp
                       refine hK _ ?_
                       clear hK K)
                refine wpH_nil ?_
                simp only [List.drop_succ_cons, List.drop_zero]
                have hkw := (HS.out _).1 ((HS.out _).2 ((Keep.refl (fun _ => False) wr).drew))
                clear S HS
                go_wp2
                go_roundw
                case rel => exact ⟨t + 1, by omega, rfl, by rw [HD2.out], HK7.out.trans hkw (fun _ _ e => e)⟩
                case measure => simp [intOf]; omega
            · have g3 : decide ((t : Int) < (mn : Int)) = false := by simp; omega
              have g3' : decide (t < mn) = false := by simpa using hlt3
              obtain rfl : t = mn := by omega
              have hrow9 := HK7.out.ownsRow HM7.out (fun _ _ e => e)
              have hout9 := HK7.out.ownsRow HO7.out (fun _ _ e => e)
              have hbel9 := HBl7.out.trans (HK7.out.below HBl7.out.size (fun i hi e => e))
              have hb9 : wr.cell? ⟨bx, 0, none⟩ = some (.int .i64 (xn : Int)) := by rw [HK7.out.cell (p := ⟨bx, 0, none⟩) hlt7 (fun e => e)]; exact HB7.out
              rw [List.take_of_length_le (by rw [HMn.out]; exact Nat.le_refl _)]
              have HRow9 := Lib.hid hrow9
              have HOut9 := Lib.hid hout9
              have HBel9 := Lib.hid hbel9
              clear hrow9 hout9 hbel9
              by_cases hin : (xn : Int) ∈ Mt
              · have hd : decide ((xn : Int) ∈ Mt) = true := decide_eq_true hin
                rw [hd]
                have hfin : RefAt w wr ws g cap (.slice mb t md) (q ++ p.take (c + 1)) := by
                  refine ⟨by rw [HN.out]; exact HGx.out, ?_, ?_, HApart.out, HBel9.out⟩
                  · rw [HN.out, HSet.out]; exact HOut9.out
                  · rw [HMet.out, if_pos hin, HMn.out]; exact HRow9.out
                have HFin := Lib.hid hfin
                clear hin hd hfin
                go_wp2
                go_roundw
                case rel => exact ⟨c + 1, by omega, rfl, HFin.out⟩
                case measure => simp [intOf]; omega
              · have hd : decide ((xn : Int) ∈ Mt) = false := decide_eq_false hin
                rw [hd]
                have HIn := Lib.hid hin
                clear hin hd
                go_wp2_with (at_builtin
                             refine wpList_append_own_at _ (by rfl) _ _ 40 (by rfl) w.heap.size 3 j0 _ 1 8 Tryz.underlying40 HJ.out Hy0.out Hy1.out Hy2.out (by rfl) (by decide) _ _ _ (by rfl) (HRow9.out.alloc _) ⟨wr.heap.size, 0, none⟩ 1 1 [.int .i64 (xn : Int)] (by rfl) (by rfl) (World.news_of_block (cs := #[.int .i64 (xn : Int)]) (t := 3) (fr := (0, 0)) (heap_alloc_new wr _)) (by simp [Value.oneCell']) (by unfold maxLen; omega) (by omega) ?_ ?_
                             · have := HBel9.out.size; simp; omega
                             intro v' w8 hown8 hg8 hnil hloc
                             have HOw8 := Lib.hid hown8
                             have HG8 := Lib.hid hg8
                             have HLoc := Lib.hid hloc
                             clear hown8 hg8 hnil hloc)
                have k8 : Keep (fun k => (Value.slice mb t md).ownBlock = some k) wr w8 := ((Keep.refl (fun k => (Value.slice mb t md).ownBlock = some k) wr).alloc _).grown HG8.out (fun k _ e => e)
                have hgl : g < wr.heap.size := (World.ownsRow.lt HOut9.out g rfl).2
                have hfin : RefAt w w8 ws g cap v' (q ++ p.take (c + 1)) := by
                  refine ⟨by rw [HN.out]; exact HGx.out, ?_, ?_, ?_, HBel9.out.trans (k8.below HBel9.out.size (fun i hi e => by have := (HRow9.out.lt i e).1; omega))⟩
                  · rw [HN.out, HSet.out]
                    exact k8.ownsRow HOut9.out (fun k hk e => by cases hk; exact HApart.out e)
                  · rw [HMet.out, if_neg HIn.out, List.length_append, HMn.out, List.map_append]
                    exact HOw8.out
                  · intro e
                    rcases HLoc.out with h8 | h8
                    · exact HApart.out (h8.symm.trans e)
                    · rw [e] at h8
                      have h9 : g = wr.heap.size + 1 := by simpa using h8
                      omega
                have HFin := Lib.hid hfin
                clear k8 hfin
                go_wp2
                go_roundw
                case rel => exact ⟨c + 1, by omega, rfl, HFin.out⟩
                case measure => simp [intOf]; omega
        · have g2 : decide ((c : Int) < (pl : Int)) = false := by simp; omega
          have g2' : decide (c < pl) = false := by simpa using hlt2
          have hre : q ++ p.take c = (ps.take (a + 1)).flatten := by
            rw [HFlat.out, List.take_of_length_le (by rw [HPl.out]; omega)]
          have HRc2 : Hid (RefAt w wr ws g cap (.slice mb (metL (q ++ p.take c)).length md) (ps.take (a + 1)).flatten) := by rw [← hre]; exact HRc
          clear hre
          go_wp2
          go_roundw
          case rel => exact ⟨a + 1, by omega, rfl, HRc2.out⟩
          case measure => simp [intOf]; omega
    · have g1 : decide ((a : Int) < (m : Int)) = false := by simp; omega
      have g1' : decide (a < m) = false := by simpa using hlt
      obtain rfl : a = m := by omega
      have hfull : (ps.take a).flatten = ps.flatten := by rw [List.take_of_length_le (by rw [HM.out]; exact Nat.le_refl _)]
      have hra2 := HRa.out
      rw [hfull] at hra2 ⊢
      have hqc := metL_le ps.flatten
      have hsz2 := Lib.hid (refSize_any (metL ps.flatten).length (by omega) wr)
      have hge0 : gErr n ps.flatten = 0 := by rw [← HN.out]; exact hra2.err
      have HGe0 := Lib.hid hge0
      have HRa2 := Lib.hid hra2
      have hst : refL ws ring ps.flatten = if cErr n ring ps.flatten = 0 then setL ws ps.flatten else ws := by unfold refL; rw [HN.out]
      have HSt := Lib.hid hst
      have hce : cErr n ring ps.flatten = if ring < secs (metL ps.flatten).length + 1 then 5 else 0 := by unfold cErr; rw [if_neg (by rw [hge0]; decide)]
      have HCe := Lib.hid hce
      obtain ⟨mm, hmm⟩ : ∃ mm, (metL ps.flatten).length = mm := ⟨_, rfl⟩
      have hmm6 : mm ≤ 1000000 := by omega
      rw [hmm] at hsz2 HCe ⊢
      have HMm := Lib.hid hmm
      obtain ⟨sm, hsm⟩ : ∃ sm, secs mm = sm := ⟨_, rfl⟩
      rw [hsm] at hsz2 HCe
      obtain ⟨s1, hs1⟩ : ∃ s1, 1 + sm = s1 := ⟨_, rfl⟩
      rw [hs1] at hsz2
      clear hra2 hqc hge0 hst hce hmm hsm hfull
      by_cases hrg : ring < sm + 1
      · have d1 : decide ((ring : Int) < (s1 : Int)) = true := by simp; omega
        have d1n : decide (ring < s1) = true := by simp; omega
        have hce2 := HCe.out
        rw [if_pos hrg] at hce2
        have HCe2 := Lib.hid hce2
        clear hce2 hrg
        go_wp2_with (go_at_call 91; refine (hsz2.out).mono ?_; rintro e w9 ⟨rfl, rfl⟩)
        go_ret2
        exact ⟨_, by rw [HCe2.out]; rfl, .inl ⟨rfl, by rw [HSt.out, HCe2.out, if_neg (by decide)]⟩, HRa2.out.below⟩
      · have d1 : decide ((ring : Int) < (s1 : Int)) = false := by simp; omega
        have d1n : decide (ring < s1) = false := by simp; omega
        have hce2 := HCe.out
        rw [if_neg hrg] at hce2
        have HCe2 := Lib.hid hce2
        clear hce2 hrg
        go_wp2_with (go_at_call 91; refine (hsz2.out).mono ?_; rintro e w9 ⟨rfl, rfl⟩)
        go_ret2
        refine ⟨_, by rw [HCe2.out]; rfl, .inr ?_, HRa2.out.below⟩
        show World.ownsRow _ _ _ _ _ _ _
        rw [HSt.out, HCe2.out, if_pos rfl, setL_length, HN.out]
        have := HRa2.out.out
        rw [HN.out] at this
        exact this
end Go.Proofs.YtalgheocjnajlaaGreatDoor
