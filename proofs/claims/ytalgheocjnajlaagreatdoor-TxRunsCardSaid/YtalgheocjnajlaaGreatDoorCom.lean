/-
  THE LOG, walked: Commit.
-/
import Derived.Test.YtalgheocjnajlaaGreatDoorUp
import Derived.Test.YtalgheocjnajlaaGreatDoorRefP
namespace Go.Proofs.YtalgheocjnajlaaGreatDoor
open Go.RowKit Go.MapKept
attribute [local go_sem] gives givesH
set_option maxRecDepth 100000

theorem fullG_good {homes : Nat} {p : Puts} (hg : gErr homes p = 0) {l : Grp} (hl : GrpOf (fullG p) l) (h1 : 1 ≤ l.length) : GoodGrp homes l := by
  refine ⟨h1, fun x hx => ?_⟩
  have h := (hl.mem x.1 x.2).1 hx
  unfold fullG at h
  cases hlo : lastOf p (x.1 : Int) with
  | none => rw [hlo] at h; cases h
  | some t =>
    rw [hlo] at h
    have ht : fullS t = x.2 := Option.some.inj h
    have := gErr_ok hg _ (lastOf_mem hlo)
    refine ⟨by have := this.2.1; simp only at this; omega, ?_⟩
    rw [← ht]
    exact fullS_size _ this.2.2
/-- what a record comes to, of a log that is up -/
theorem LogUp.record {w : World} {bl : Nat} {L : LogS} {d : Dk} {N : Nat} {W : Int → ByteArray} (h : LogUp w bl L d N W) (hN : N < 4611686018427387904) {p : Puts} (hg : gErr L.homes p = 0) {l : Grp} (hl : GrpOf (fullG p) l) (h1 : 1 ≤ l.length)
    (hu : L.used + secs l.length + 1 ≤ L.ring) :
    ((d.run (recOps L.ring L.next (L.seq + 1) l)).down = false ∧ ∀ w' L', LogAt w' bl L' → DkOf L'.D (d.run (recOps L.ring L.next (L.seq + 1) l)) → L'.ring = L.ring → L'.homes = L.homes → L'.tail = L.tail → L'.down = false → L'.used = L.used + (secs l.length + 1) →
      L'.next = (L.next + (secs l.length + 1)) % L.ring → L'.seq = L.seq + 1 → L'.over = (fun i => (fullG p i).or (L.over i)) → LogUp w' bl L' (d.run (recOps L.ring L.next (L.seq + 1) l)) (N + 1) (overG (fullG p) W)) ∨
    ((d.run (recOps L.ring L.next (L.seq + 1) l)).down = true ∧ d.bound = true ∧ FallsTo (d.run (recOps L.ring L.next (L.seq + 1) l)) L.ring L.homes (N + 1) (fun V => V = W ∨ V = overG (fullG p) W)) := by
  obtain ⟨s, r, k1, k2, k3, k4, k5, k6⟩ := h.dur
  have hsq := h.seq
  have hgood := fullG_good hg hl h1
  rcases record_law h.up h.clean k1 hl hgood (by omega) (by omega) (next := L.next) (seq := L.seq + 1) k3 (by omega) _ rfl with ⟨q1, q2, q3, q4⟩ | ⟨q1, q2⟩
  · refine .inl ⟨q1, fun w' L' a1 a2 a3 a4 a5 a6 a7 a8 a9 a10 => ⟨a1, a2, a6, q1, q2, ⟨s, r ++ [l], ?_, ?_, ?_, ?_, ?_, fun k hk => ?_⟩, by omega⟩⟩
    · rw [a3, a4, a5]; exact q3
    · rw [a7, usedOf_snoc, k2]
    · rw [a8, a3, a5, usedOf_snoc, k3, Nat.mod_add_mod, Nat.add_assoc]
    · rw [a9, List.length_append, List.length_singleton]; omega
    · rw [a10, overAll_snoc, k5]
      funext i
      rw [hl.last]
    · rw [a3, q4 k]
      unfold overG
      rw [k6 k (by rw [← a4]; exact hk)]
  · have hb : d.bound = true := by
      cases hb : d.bound with
      | true => rfl
      | false => rw [(Dk.run_free d _ hb h.up).1] at q1; cases q1
    refine .inr ⟨q1, hb, fun keep => ?_⟩
    rcases q2 keep with ⟨u1, u2⟩ | ⟨u1, u2⟩
    · exact ⟨W, .inl rfl, _, _, _, u1, by omega, fun k hk => (u2 k).trans (k6 k hk)⟩
    · refine ⟨_, .inr rfl, _, _, _, u1, by rw [List.length_append, List.length_singleton]; omega, fun k hk => (u2 k).trans ?_⟩
      unfold overG
      rw [k6 k hk]
/-- what a commit comes to -/
def Comm (w : World) (bl : Nat) (L : LogS) (d : Dk) (N : Nat) (W : Int → ByteArray) (p : Puts) (e : Ending) (w' : World) : Prop :=
  ∃ L' d', LogStep bl w L w' L' ∧ d'.bound = d.bound ∧
    ((cErr L.homes L.ring p ≠ 0 ∧ e = .returned (.int .i64 (cErr L.homes L.ring p)) ∧ LogUp w' bl L' d' (N + 1) W) ∨
     (cErr L.homes L.ring p = 0 ∧ e = .returned (.int .i64 0) ∧ LogUp w' bl L' d' (N + 1) (overG (fullG p) W)) ∨
     (cErr L.homes L.ring p = 0 ∧ e = .returned (.int .i64 3) ∧ d.bound = true ∧ LogDn w' bl L' d' (N + 1) (fun V => V = W ∨ V = overG (fullG p) W)))
/-- a log that is down -/
theorem commit_down {w : World} {bl : Nat} {L : LogS} (h : LogAt w bl L) (hd : L.down = true) (v : Value) :
    Calls Tryz.prog 55 #[.pointer (some ⟨bl, 0, none⟩), v] w fun e w' => e = .returned (.int .i64 3) ∧ w = w' := by
  have H1 := Lib.hid (logDown_any h.cells)
  rw [hd] at H1
  go_enter Tryz.func55, Tryz.ntmps55
  go_wp2_with (first
      | (go_at_call 57; refine (H1.out).mono ?_; rintro e w1 ⟨rfl, rfl⟩))
  go_ret
  exact ⟨rfl, rfl⟩
theorem checkpoint_down {w : World} {bl : Nat} {L : LogS} (h : LogAt w bl L) (hd : L.down = true) :
    Calls Tryz.prog 93 #[.pointer (some ⟨bl, 0, none⟩)] w fun e w' => e = .returned (.int .i64 3) ∧ w = w' := by
  have H1 := Lib.hid (logDown_any h.cells)
  rw [hd] at H1
  go_enter Tryz.func93, Tryz.ntmps93
  go_wp2_with (first
      | (go_at_call 57; refine (H1.out).mono ?_; rintro e w1 ⟨rfl, rfl⟩))
  go_ret
  exact ⟨rfl, rfl⟩
set_option maxHeartbeats 4000000 in
theorem commit_any {w : World} {bl : Nat} {L : LogS} {d : Dk} {N : Nat} {W : Int → ByteArray} (h : LogUp w bl L d N W) (hN : N < 4611686018427387904) {v : Value} {ps : List Puts} (hv : ListsAt w w.heap.size v ps) (hn : ps.flatten.length ≤ 1000000) (hl : ps.length ≤ 1000000)
    (hsz : ∀ x ∈ ps.flatten, x.2.size ≤ 9223372036854775807) :
    Calls Tryz.prog 55 #[.pointer (some ⟨bl, 0, none⟩), v] w (Comm w bl L d N W ps.flatten) := by
  have H1 := Lib.hid (logDown_any h.at_.cells)
  rw [h.lup] at H1
  have HGa := Lib.hid (gather_any h.at_ hv hn hl hsz)
  obtain ⟨p, hp⟩ : ∃ p, ps.flatten = p := ⟨_, rfl⟩
  rw [hp] at HGa ⊢
  have HU := Lib.hid h
  have hring := h.at_.ring
  have hdsz := h.at_.disk.size
  have hhom : L.homes ≤ 65536 := by unfold LogS.homes; omega
  have hfl : ∀ k, L.foot bl k → k < w.heap.size := fun k hk => h.at_.foot_lt hk
  have HFl := Lib.hid hfl
  clear h hv hsz hp hfl
  by_cases hge : gErr L.homes p = 0
  · have HGe := Lib.hid hge
    obtain ⟨n, hnn⟩ : ∃ n, (metL p).length = n := ⟨_, rfl⟩
    have HNn := Lib.hid hnn
    have hnle : n ≤ 65536 := by
      have h1 : (metL p).Nodup := metL_nodup p
      have h2 := cnt_mem ((metL p).map Int.toNat) (fun _ => false) 65536 (by
        rw [List.Nodup, List.pairwise_map]
        refine h1.imp_of_mem (fun {a b} ha hb hne e => ?_)
        obtain ⟨x, hx, rfl⟩ := (metL_mem p a).1 ha
        obtain ⟨y, hy, rfl⟩ := (metL_mem p b).1 hb
        have h3 := gErr_ok hge x hx
        have h4 := gErr_ok hge y hy
        exact hne (by omega)) (fun q hq => by
        obtain ⟨a, ha, rfl⟩ := List.mem_map.1 hq
        obtain ⟨x, hx, rfl⟩ := (metL_mem p a).1 ha
        have h3 := gErr_ok hge x hx
        omega) (fun _ _ => rfl)
      have h3 := cnt_le (fun q => decide (q ∈ (metL p).map Int.toNat) || false) 65536
      rw [cnt_none, Nat.zero_add, List.length_map] at h2
      omega
    have HSe := Lib.hid (fun u => sectors_any n hnle u)
    obtain ⟨k, hk⟩ : ∃ k, secs n = k := ⟨_, rfl⟩
    rw [hk] at HSe
    have HK := Lib.hid hk
    have hk2 : k ≤ 70000 := by rw [← hk]; unfold secs; omega
    clear hge hnn hk
    have e1 : IntKind.i64.wrap ((k : Int) + 1) = (k : Int) + 1 := wrapI (by omega) (by omega)
    obtain ⟨c0, c1, c2, c3, c4, c5, c6, c7⟩ := lCells HU.out.at_.cells
    have hga : Calls Tryz.prog 92 #[.pointer (some ⟨bl, 0, none⟩), v] w (fun e w' => ∃ bm, Below w.heap.size w w' ∧ e = .returned (.tuple #[.map (some bm), .int .i64 0]) ∧ IMap w' bm (strs (fullG p)) n ∧ w.heap.size ≤ bm) := (HGa.out).mono (fun e w' h => by
      obtain ⟨hb, ⟨_, bm, n2, he, hm, hbm⟩ | ⟨h0, _⟩⟩ := h
      · obtain rfl : n2 = n := (fullG_count hm).trans HNn.out
        exact ⟨bm, hb, he, hm, hbm⟩
      · exact absurd HGe.out h0)
    have HGb := Lib.hid hga
    clear hga
    have hbl : bl < w.heap.size := HFl.out _ (.inl rfl)
    by_cases cA : L.ring < k + 1
    · have dA : decide ((L.ring : Int) < (k : Int) + 1) = true := by simp; omega
      have hce : cErr L.homes L.ring p = 5 := by
        unfold cErr
        rw [if_neg (by rw [HGe.out]; decide), HNn.out, HK.out, if_pos cA]
      have HCe := Lib.hid hce
      clear hce
      go_enter Tryz.func55, Tryz.ntmps55
      go_wp2_with (first
            | (go_at_call 57; refine (H1.out).mono ?_; rintro e w1 ⟨rfl, rfl⟩)
            | (go_at_call 92; refine (HGb.out).mono ?_; rintro e w2 ⟨bm, hb, rfl, hm, hbm⟩
               have HM := Lib.hid hm
               have HB := Lib.hid hb
               have HUp := Lib.hid (HU.out.still hb)
               obtain ⟨c0, c1, c2, c3, c4, c5, c6, c7⟩ := lCells HUp.out.at_.cells
               have l3 := fun ty => hm.run_len (ty := ty) Tryz.underlying94
               clear hm hb)
            | (go_at_call 85; refine (HSe.out _).mono ?_; rintro e w3 ⟨rfl, rfl⟩))
      go_ret
      exact ⟨L, d, LogStep.still HU.out.at_ HB.out, rfl, .inl ⟨by rw [HCe.out]; decide, by rw [HCe.out]; rfl, HUp.out.mono (by omega)⟩⟩
    have dA : decide ((L.ring : Int) < (k : Int) + 1) = false := by simp; omega
    by_cases cB : n = 0
    · have dB : decide (n = 0) = true := by simpa using cB
      have dB' : ((n : Int) == 0) = true := by simp; omega
      have dB2 : (n == 0) = true := by simp; omega
      have hce : cErr L.homes L.ring p = 0 := by
        unfold cErr
        rw [if_neg (by rw [HGe.out]; decide), HNn.out, HK.out, if_neg cA]
      have HCe := Lib.hid hce
      have hpn : p = [] := by
        have h1 := HNn.out
        rw [cB] at h1
        have h2 := List.length_eq_zero_iff.1 h1
        cases p with
        | nil => rfl
        | cons x q =>
          have h3 := (metL_mem (x :: q) x.1).2 ⟨x, by simp, rfl⟩
          rw [h2] at h3
          cases h3
      have HPn := Lib.hid hpn
      clear hce hpn cB
      go_enter Tryz.func55, Tryz.ntmps55
      go_wp2_with (first
            | (go_at_call 57; refine (H1.out).mono ?_; rintro e w1 ⟨rfl, rfl⟩)
            | (go_at_call 92; refine (HGb.out).mono ?_; rintro e w2 ⟨bm, hb, rfl, hm, hbm⟩
               have HM := Lib.hid hm
               have HB := Lib.hid hb
               have HUp := Lib.hid (HU.out.still hb)
               obtain ⟨c0, c1, c2, c3, c4, c5, c6, c7⟩ := lCells HUp.out.at_.cells
               have l3 := fun ty => hm.run_len (ty := ty) Tryz.underlying94
               clear hm hb)
            | (go_at_call 85; refine (HSe.out _).mono ?_; rintro e w3 ⟨rfl, rfl⟩))
      go_ret
      exact ⟨L, d, LogStep.still HU.out.at_ HB.out, rfl, .inr (.inl ⟨HCe.out, rfl, by
        have e : overG (fullG p) W = W := by rw [HPn.out]; rfl
        rw [e]; exact HUp.out.mono (by omega)⟩)⟩
    have dB : decide (n = 0) = false := by simpa using cB
    have dB' : ((n : Int) == 0) = false := by simp; omega
    have dB2 : (n == 0) = false := by simp; omega
    have hu6 : L.used ≤ L.ring := by
      obtain ⟨s, r, k1, k2, _⟩ := HU.out.dur
      rw [k2]; exact k1.used
    have e2 : IntKind.i64.wrap ((L.used : Int) + (k : Int)) = (L.used : Int) + (k : Int) := wrapI (by omega) (by omega)
    have e3 : IntKind.i64.wrap ((L.used : Int) + (k : Int) + 1) = (L.used : Int) + (k : Int) + 1 := wrapI (by omega) (by omega)
    by_cases cC : L.ring < L.used + k + 1
    · have dC : decide ((L.ring : Int) < (L.used : Int) + (k : Int) + 1) = true := by simp; omega
      go_enter Tryz.func55, Tryz.ntmps55
      go_wp2_with (first
            | (go_at_call 57; refine (H1.out).mono ?_; rintro e w1 ⟨rfl, rfl⟩)
            | (go_at_call 92; refine (HGb.out).mono ?_; rintro e w2 ⟨bm, hb, rfl, hm, hbm⟩
               have HM := Lib.hid hm
               have HB := Lib.hid hb
               have HUp := Lib.hid (HU.out.still hb)
               obtain ⟨c0, c1, c2, c3, c4, c5, c6, c7⟩ := lCells HUp.out.at_.cells
               have l3 := fun ty => hm.run_len (ty := ty) Tryz.underlying94
               clear hm hb)
            | (go_at_call 85; refine (HSe.out _).mono ?_; rintro e w3 ⟨rfl, rfl⟩))
      obtain ⟨S, hS⟩ : ∃ S : World → Prop, ∀ u, S u ↔ Keep (fun _ => False) (w2) u := ⟨fun u => Keep (fun _ => False) (w2) u, fun _ => Iff.rfl⟩
      have HS := Lib.hid hS
      clear hS
      refine wp_region_ord 12 [(0, true), (1, true), (2, true), (3, true), (4, true), (5, true), (6, true), (7, true), (8, true), (9, true), (10, true), (11, true)] S (by kernel_rfl) (by kernel_rfl) ((HS.out _).2 (Keep.refl _ _).drew) ?_
      iterate 12
        first
          | (refine wpH_passed rfl (by rfl) (fun K hK => ?_); go_simp; refine hK _ ?_; clear hK K)
          | (first
               | refine wpH_read rfl rfl (fun K hK => ?_)
               | refine wpH_readw rfl (by rfl) (fun K hK => ?_)
             apply Exists.intro
             refine ⟨fun u hu => ?_, ?_⟩
             · have hu := (HS.out u).1 hu
               have c1 : u.cell? ⟨bl, 1, none⟩ = some (.int .i64 L.ring) := (lCells (hu.at HUp.out.at_.cells (fun e => e))).2.1
               have c4 : u.cell? ⟨bl, 4, none⟩ = some (.int .i64 L.used) := (lCells (hu.at HUp.out.at_.cells (fun e => e))).2.2.2.2.1
               clear hu
               go_simp
               exact ⟨rfl, rfl⟩
             go_simp
             refine hK _ ?_
             clear hK K)
      refine wpH_nil ?_
      simp only [List.drop_succ_cons, List.drop_zero]
      clear S HS
      have hdr : Below w2.heap.size w2 w2.drew := ⟨rfl, rfl, rfl, Nat.le_refl _, fun _ _ => rfl⟩
      have HUp2 := Lib.hid (HUp.out.still hdr)
      have HM2 := Lib.hid (HM.out.keep (Keep.ofBelow (S := fun _ => False) hdr) (fun e => e))
      have HB2 := Lib.hid (HB.out.trans (hdr.mono HB.out.size))
      clear hdr
      go_wp2_with (fail)
      have HCk := Lib.hid (checkpoint_any HUp2.out hN)
      refine (HCk.out).mono ?_
      rintro e w4 ⟨LT, dT, hstp, hbd0, ⟨rfl, hupT, hu0⟩ | ⟨rfl, hbn, hdnT⟩⟩
      · have HT := Lib.hid hupT
        have HUs := Lib.hid (show LT.used + k + 1 ≤ LT.ring by rw [hu0, hstp.ring]; omega)
        have HRg := Lib.hid (show LT.ring ≤ 4096 ∧ k + 1 ≤ LT.ring by rw [hstp.ring]; omega)
        have HBd := Lib.hid hbd0
        have hap : ¬ LT.foot bl bm := fun hf => by
          rcases hstp.own bm hf with e | e
          · have := HFl.out _ e; omega
          · have := HM2.out.lt; omega
        have HAp := Lib.hid hap
        have HMt := Lib.hid (HM2.out.keep hstp.keep (fun hf => by have := HFl.out _ hf; omega))
        have HStp := Lib.hid ((LogStep.still HU.out.at_ HB2.out).trans hstp)
        clear hupT hu0 hbd0 hap hstp
        have hkr := HK.out
        have hnx := HT.out.next_lt
        have HRc := Lib.hid (record_any HT.out.at_ HT.out.dk HT.out.up (by rw [HT.out.clean]; simp) HMt.out HAp.out (g := fullG p) (n := n) (fun i hi => by
          unfold fullG at hi
          cases hlo : lastOf p i with
          | none => rw [hlo] at hi; exact absurd rfl hi
          | some t =>
            have := gErr_ok HGe.out _ (lastOf_mem hlo)
            simp only at this
            omega) (fun i t ht => by
          unfold fullG at ht
          cases hlo : lastOf p i with
          | none => rw [hlo] at ht; cases ht
          | some u =>
            rw [hlo] at ht
            have := gErr_ok HGe.out _ (lastOf_mem hlo)
            rw [← Option.some.inj ht]
            exact fullS_size _ this.2.2) (by omega) (by unfold secs at hkr; omega) (by rw [hkr]; have := HRg.out; omega) hnx (by have := HT.out.seq; omega))
        rw [hkr] at HRc
        clear hnx
        obtain ⟨t0, t1, t2, t3, t4, t5, t6, t7⟩ := lCells HT.out.at_.cells
        go_wp2_with (fail)
        refine (HRc.out).mono ?_
        rintro e w5 ⟨l, hgl, hll, rfl, hran⟩
        have hlaw := HT.out.record hN (by rw [HStp.out.homes]; exact HGe.out) hgl (by omega) (by rw [hll, hkr]; have := HRg.out; have := HUs.out; omega)
        have hbd := Dk.run_bound dT (recOps LT.ring LT.next (LT.seq + 1) l)
        obtain ⟨dN, hdN⟩ : ∃ dN, dT.run (recOps LT.ring LT.next (LT.seq + 1) l) = dN := ⟨_, rfl⟩
        obtain ⟨D5, hst5, hdk5⟩ := hran
        rw [hdN] at hlaw hdk5 hbd ⊢
        rw [hll, hkr] at hlaw
        have HSt5 := Lib.hid hst5
        have HDk5 := Lib.hid hdk5
        have hbd2 := hbd.trans HBd.out
        rcases hlaw with ⟨hup, hnew⟩ | ⟨hdn, hbn, hfall⟩
        · have HNew := Lib.hid hnew
          have HSy := Lib.hid (fun u => logSay_any bl 0 (by decide) u)
          have hm5 := HMt.out.keep hst5.keep HAp.out
          have hne : LT.bo ≠ bm := fun e => HAp.out (.inr (.inl e.symm))
          have HCp := Lib.hid (copy_any hst5.at_.over hm5 hne (by unfold maxLen; omega))
          have hce : cErr L.homes L.ring p = 0 := by
            unfold cErr
            rw [if_neg (by rw [HGe.out]; decide), HNn.out, hkr, if_neg (by omega)]
          have HCe := Lib.hid hce
          obtain ⟨c0, c1, c2, c3, c4, c5, c6, c7⟩ := lCells hst5.at_.cells
          have hs5 : ∀ i s, (fun i => (fullG p i).or (LT.over i)) i = some s → s.size = 512 := fun i t ht => by
            simp only at ht
            unfold fullG at ht
            cases hlo : lastOf p i with
            | none => rw [hlo] at ht; exact HT.out.at_.s512 i t ht
            | some u =>
              rw [hlo] at ht
              have := gErr_ok HGe.out _ (lastOf_mem hlo)
              have e2 : fullS u = t := Option.some.inj ht
              rw [← e2]
              exact fullS_size _ this.2.2
          have HS5 := Lib.hid hs5
          have e7 : (if dN.down then (3 : Int) else 0) = 0 := by rw [hup]; rfl
          rw [e7]
          clear hup hnew hm5 hne hst5 hdk5 hs5 e7 hgl hbd hdN hce
          go_wp2_with (first
            | (go_at_call 58; refine (HSy.out _).mono ?_; rintro e w6 ⟨rfl, rfl⟩)
            | (go_at_call 95; refine (HCp.out).mono ?_; rintro e w7 ⟨rfl, no7, hm7, hk7⟩
               have hst7 := HSt5.out.trans (HSt5.out.at_.turn_over hm7 hk7 HS5.out)
               have HSt7 := Lib.hid hst7
               have HGo := Lib.hid (goOn_any hst7.at_ (k + 1) (by omega) HT.out.next_lt (by have := HUs.out; have := HRg.out; show LT.used ≤ 65536; omega) (by have := HT.out.seq; show LT.seq + 1 < 18446744073709551616; omega))
               clear hm7 hk7 hst7)
            | (go_at_call 86; refine (HGo.out).mono ?_; rintro e w8 ⟨rfl, hst8⟩
               have HSt8 := Lib.hid hst8
               clear hst8))
          go_ret
          have hst := HSt7.out.trans HSt8.out
          exact ⟨_, _, HStp.out.trans hst, hbd2, .inr (.inl ⟨HCe.out, rfl, HNew.out _ _ hst.at_ HDk5.out rfl hst.homes rfl HT.out.lup rfl rfl rfl rfl⟩)⟩
        · have HSy := Lib.hid (logSay_fell hst5.at_)
          have hce : cErr L.homes L.ring p = 0 := by
            unfold cErr
            rw [if_neg (by rw [HGe.out]; decide), HNn.out, hkr, if_neg (by omega)]
          have HCe := Lib.hid hce
          have HFa := Lib.hid hfall
          have HDn := Lib.hid hdn
          have e7 : (if dN.down then (3 : Int) else 0) = 3 := by rw [hdn]; rfl
          rw [e7]
          clear hfall hst5 hdk5 e7 hgl hbd hdN hdn hce
          go_wp2_with (first
            | (go_at_call 58; refine (HSy.out).mono ?_; rintro e w6 ⟨rfl, hst6⟩))
          go_ret
          have hst := HSt5.out.trans hst6
          exact ⟨_, _, HStp.out.trans hst, hbd2, .inr (.inr ⟨HCe.out, rfl, HBd.out ▸ hbn, ⟨hst6.at_, HDk5.out, rfl, HDn.out, by
            show FallsTo dN LT.ring _ (N + 1) _
            rw [hst.homes]; exact HFa.out⟩⟩)⟩
      · have hce : cErr L.homes L.ring p = 0 := by
          unfold cErr
          rw [if_neg (by rw [HGe.out]; decide), HNn.out, HK.out, if_neg cA]
        have HCe := Lib.hid hce
        have HDnT := Lib.hid hdnT
        have HStp := Lib.hid hstp
        clear hce hdnT hstp
        go_wp2
        go_ret
        exact ⟨LT, dT, (LogStep.still HU.out.at_ HB2.out).trans HStp.out, hbd0, .inr (.inr ⟨HCe.out, rfl, hbn, ⟨HDnT.out.at_, HDnT.out.dk, HDnT.out.ldn, HDnT.out.dn, HDnT.out.falls.mono (by omega) (fun V hV => .inl hV)⟩⟩)⟩
    have dC : decide ((L.ring : Int) < (L.used : Int) + (k : Int) + 1) = false := by simp; omega
    go_enter Tryz.func55, Tryz.ntmps55
    go_wp2_with (first
          | (go_at_call 57; refine (H1.out).mono ?_; rintro e w1 ⟨rfl, rfl⟩)
          | (go_at_call 92; refine (HGb.out).mono ?_; rintro e w2 ⟨bm, hb, rfl, hm, hbm⟩
             have HM := Lib.hid hm
             have HB := Lib.hid hb
             have HUp := Lib.hid (HU.out.still hb)
             obtain ⟨c0, c1, c2, c3, c4, c5, c6, c7⟩ := lCells HUp.out.at_.cells
             have l3 := fun ty => hm.run_len (ty := ty) Tryz.underlying94
             clear hm hb)
          | (go_at_call 85; refine (HSe.out _).mono ?_; rintro e w3 ⟨rfl, rfl⟩))
    obtain ⟨S, hS⟩ : ∃ S : World → Prop, ∀ u, S u ↔ Keep (fun _ => False) (w2) u := ⟨fun u => Keep (fun _ => False) (w2) u, fun _ => Iff.rfl⟩
    have HS := Lib.hid hS
    clear hS
    refine wp_region_ord 12 [(0, true), (1, true), (2, true), (3, true), (4, true), (5, true), (6, true), (7, true), (8, true), (9, true), (10, true), (11, true)] S (by kernel_rfl) (by kernel_rfl) ((HS.out _).2 (Keep.refl _ _).drew) ?_
    iterate 12
      first
        | (refine wpH_passed rfl (by rfl) (fun K hK => ?_); go_simp; refine hK _ ?_; clear hK K)
        | (first
             | refine wpH_read rfl rfl (fun K hK => ?_)
             | refine wpH_readw rfl (by rfl) (fun K hK => ?_)
           apply Exists.intro
           refine ⟨fun u hu => ?_, ?_⟩
           · have hu := (HS.out u).1 hu
             have c1 : u.cell? ⟨bl, 1, none⟩ = some (.int .i64 L.ring) := (lCells (hu.at HUp.out.at_.cells (fun e => e))).2.1
             have c4 : u.cell? ⟨bl, 4, none⟩ = some (.int .i64 L.used) := (lCells (hu.at HUp.out.at_.cells (fun e => e))).2.2.2.2.1
             clear hu
             go_simp
             exact ⟨rfl, rfl⟩
           go_simp
           refine hK _ ?_
           clear hK K)
    refine wpH_nil ?_
    simp only [List.drop_succ_cons, List.drop_zero]
    clear S HS
    have hdr : Below w2.heap.size w2 w2.drew := ⟨rfl, rfl, rfl, Nat.le_refl _, fun _ _ => rfl⟩
    have HUp2 := Lib.hid (HUp.out.still hdr)
    have HM2 := Lib.hid (HM.out.keep (Keep.ofBelow (S := fun _ => False) hdr) (fun e => e))
    have HB2 := Lib.hid (HB.out.trans (hdr.mono HB.out.size))
    clear hdr
    go_wp2_with (fail)
    obtain ⟨LT, hLT⟩ : ∃ LT, L = LT := ⟨_, rfl⟩
    obtain ⟨dT, hdT⟩ : ∃ dT, d = dT := ⟨_, rfl⟩
    have HT : Hid (LogUp w2.drew bl LT dT N W) := by rw [← hLT, ← hdT]; exact HUp2
    have HUs := Lib.hid (show LT.used + k + 1 ≤ LT.ring by rw [← hLT]; omega)
    have HRg := Lib.hid (show LT.ring ≤ 4096 ∧ k + 1 ≤ LT.ring by rw [← hLT]; omega)
    have HBd := Lib.hid (show dT.bound = d.bound by rw [hdT])
    have HAp := Lib.hid (show ¬ LT.foot bl bm from fun hf => by rw [← hLT] at hf; have := HFl.out _ hf; omega)
    have HMt := HM2
    have HStp : Hid (LogStep bl w L w2.drew LT) := by rw [← hLT]; exact Lib.hid (LogStep.still HU.out.at_ HB2.out)
    have hkr := HK.out
    have hnx := HT.out.next_lt
    have HRc := Lib.hid (record_any HT.out.at_ HT.out.dk HT.out.up (by rw [HT.out.clean]; simp) HMt.out HAp.out (g := fullG p) (n := n) (fun i hi => by
      unfold fullG at hi
      cases hlo : lastOf p i with
      | none => rw [hlo] at hi; exact absurd rfl hi
      | some t =>
        have := gErr_ok HGe.out _ (lastOf_mem hlo)
        simp only at this
        omega) (fun i t ht => by
      unfold fullG at ht
      cases hlo : lastOf p i with
      | none => rw [hlo] at ht; cases ht
      | some u =>
        rw [hlo] at ht
        have := gErr_ok HGe.out _ (lastOf_mem hlo)
        rw [← Option.some.inj ht]
        exact fullS_size _ this.2.2) (by omega) (by unfold secs at hkr; omega) (by rw [hkr]; have := HRg.out; omega) hnx (by have := HT.out.seq; omega))
    rw [hkr] at HRc
    clear hnx
    obtain ⟨t0, t1, t2, t3, t4, t5, t6, t7⟩ := lCells HT.out.at_.cells
    go_wp2_with (fail)
    refine (HRc.out).mono ?_
    rintro e w5 ⟨l, hgl, hll, rfl, hran⟩
    have hlaw := HT.out.record hN (by rw [HStp.out.homes]; exact HGe.out) hgl (by omega) (by rw [hll, hkr]; have := HRg.out; have := HUs.out; omega)
    have hbd := Dk.run_bound dT (recOps LT.ring LT.next (LT.seq + 1) l)
    obtain ⟨dN, hdN⟩ : ∃ dN, dT.run (recOps LT.ring LT.next (LT.seq + 1) l) = dN := ⟨_, rfl⟩
    obtain ⟨D5, hst5, hdk5⟩ := hran
    rw [hdN] at hlaw hdk5 hbd ⊢
    rw [hll, hkr] at hlaw
    have HSt5 := Lib.hid hst5
    have HDk5 := Lib.hid hdk5
    have hbd2 := hbd.trans HBd.out
    rcases hlaw with ⟨hup, hnew⟩ | ⟨hdn, hbn, hfall⟩
    · have HNew := Lib.hid hnew
      have HSy := Lib.hid (fun u => logSay_any bl 0 (by decide) u)
      have hm5 := HMt.out.keep hst5.keep HAp.out
      have hne : LT.bo ≠ bm := fun e => HAp.out (.inr (.inl e.symm))
      have HCp := Lib.hid (copy_any hst5.at_.over hm5 hne (by unfold maxLen; omega))
      have hce : cErr L.homes L.ring p = 0 := by
        unfold cErr
        rw [if_neg (by rw [HGe.out]; decide), HNn.out, hkr, if_neg (by omega)]
      have HCe := Lib.hid hce
      obtain ⟨c0, c1, c2, c3, c4, c5, c6, c7⟩ := lCells hst5.at_.cells
      have hs5 : ∀ i s, (fun i => (fullG p i).or (LT.over i)) i = some s → s.size = 512 := fun i t ht => by
        simp only at ht
        unfold fullG at ht
        cases hlo : lastOf p i with
        | none => rw [hlo] at ht; exact HT.out.at_.s512 i t ht
        | some u =>
          rw [hlo] at ht
          have := gErr_ok HGe.out _ (lastOf_mem hlo)
          have e2 : fullS u = t := Option.some.inj ht
          rw [← e2]
          exact fullS_size _ this.2.2
      have HS5 := Lib.hid hs5
      have e7 : (if dN.down then (3 : Int) else 0) = 0 := by rw [hup]; rfl
      rw [e7]
      clear hup hnew hm5 hne hst5 hdk5 hs5 e7 hgl hbd hdN hce
      go_wp2_with (first
        | (go_at_call 58; refine (HSy.out _).mono ?_; rintro e w6 ⟨rfl, rfl⟩)
        | (go_at_call 95; refine (HCp.out).mono ?_; rintro e w7 ⟨rfl, no7, hm7, hk7⟩
           have hst7 := HSt5.out.trans (HSt5.out.at_.turn_over hm7 hk7 HS5.out)
           have HSt7 := Lib.hid hst7
           have HGo := Lib.hid (goOn_any hst7.at_ (k + 1) (by omega) HT.out.next_lt (by have := HUs.out; have := HRg.out; show LT.used ≤ 65536; omega) (by have := HT.out.seq; show LT.seq + 1 < 18446744073709551616; omega))
           clear hm7 hk7 hst7)
        | (go_at_call 86; refine (HGo.out).mono ?_; rintro e w8 ⟨rfl, hst8⟩
           have HSt8 := Lib.hid hst8
           clear hst8))
      go_ret
      have hst := HSt7.out.trans HSt8.out
      exact ⟨_, _, HStp.out.trans hst, hbd2, .inr (.inl ⟨HCe.out, rfl, HNew.out _ _ hst.at_ HDk5.out rfl hst.homes rfl HT.out.lup rfl rfl rfl rfl⟩)⟩
    · have HSy := Lib.hid (logSay_fell hst5.at_)
      have hce : cErr L.homes L.ring p = 0 := by
        unfold cErr
        rw [if_neg (by rw [HGe.out]; decide), HNn.out, hkr, if_neg (by omega)]
      have HCe := Lib.hid hce
      have HFa := Lib.hid hfall
      have HDn := Lib.hid hdn
      have e7 : (if dN.down then (3 : Int) else 0) = 3 := by rw [hdn]; rfl
      rw [e7]
      clear hfall hst5 hdk5 e7 hgl hbd hdN hdn hce
      go_wp2_with (first
        | (go_at_call 58; refine (HSy.out).mono ?_; rintro e w6 ⟨rfl, hst6⟩))
      go_ret
      have hst := HSt5.out.trans hst6
      exact ⟨_, _, HStp.out.trans hst, hbd2, .inr (.inr ⟨HCe.out, rfl, HBd.out ▸ hbn, ⟨hst6.at_, HDk5.out, rfl, HDn.out, by
        show FallsTo dN LT.ring _ (N + 1) _
        rw [hst.homes]; exact HFa.out⟩⟩)⟩
  · have hce : cErr L.homes L.ring p = gErr L.homes p := by unfold cErr; rw [if_pos hge]
    have d0 : decide (gErr L.homes p = 0) = false := by simpa using hge
    have HGe := Lib.hid hge
    have HCe := Lib.hid hce
    have hga : Calls Tryz.prog 92 #[.pointer (some ⟨bl, 0, none⟩), v] w (fun e w' => Below w.heap.size w w' ∧ e = .returned (.tuple #[.map none, .int .i64 (gErr L.homes p)])) := (HGa.out).mono (fun e w' h => by
      obtain ⟨hb, ⟨h0, _⟩ | ⟨_, h1⟩⟩ := h
      · exact absurd h0 HGe.out
      · exact ⟨hb, h1⟩)
    have d1 : (gErr L.homes p != 0) = true := by simpa using hge
    have HGb := Lib.hid hga
    clear hge hce hga
    go_enter Tryz.func55, Tryz.ntmps55
    go_wp2_with (first
      | (go_at_call 57; refine (H1.out).mono ?_; rintro e w1 ⟨rfl, rfl⟩)
      | (go_at_call 92; refine (HGb.out).mono ?_; rintro e w2 ⟨hb, rfl⟩))
    go_ret
    exact ⟨L, d, LogStep.still HU.out.at_ hb, rfl, .inl ⟨by rw [HCe.out]; exact HGe.out, by rw [HCe.out]; rfl, (HU.out.still hb).mono (by omega)⟩⟩
end Go.Proofs.YtalgheocjnajlaaGreatDoor
