/-
  A LOG between calls: up, or down; Checkpoint.
-/
import Derived.Test.YtalgheocjnajlaaGreatDoorSet
namespace Go.Proofs.YtalgheocjnajlaaGreatDoor
open Go.RowKit Go.MapKept
attribute [local go_sem] gives givesH
set_option maxRecDepth 100000

theorem Dk.op_bound (d : Dk) (o : DOp) : (d.op o).bound = d.bound := by
  have := d.step_same
  cases o with
  | write i s =>
    rw [Dk.op_w]
    split
    · rfl
    · split <;> exact this.2.2.2
  | flush =>
    rw [Dk.op_f]
    split
    · rfl
    · split <;> exact this.2.2.2
theorem Dk.run_bound (d : Dk) (l : List DOp) : (d.run l).bound = d.bound := by
  unfold Dk.run
  induction l generalizing d with
  | nil => rfl
  | cons o l ih => rw [List.foldl_cons, ih, Dk.op_bound]
theorem lastO_cases (o : Int → Option ByteArray) (l : Grp) (i : Int) (t : ByteArray) (h : lastO o l i = some t) : o i = some t ∨ ∃ p ∈ l, (p.1 : Int) = i ∧ p.2 = t := by
  induction l generalizing o with
  | nil => exact .inl h
  | cons p l ih =>
    rcases ih (putO o p.1 p.2) h with h1 | ⟨q, hq, h1⟩
    · unfold putO at h1
      by_cases hi : i = (p.1 : Int)
      · rw [if_pos hi] at h1
        exact .inr ⟨p, by simp, hi.symm, Option.some.inj h1⟩
      · rw [if_neg hi] at h1
        exact .inl h1
    · exact .inr ⟨q, List.mem_cons_of_mem _ hq, h1⟩
theorem overAll_dom {homes : Nat} {recs : List Grp} (h : ∀ l ∈ recs, GoodGrp homes l) (i : Int) (t : ByteArray) (ht : overAll recs i = some t) : (0 ≤ i ∧ i < homes) ∧ t.size = 512 := by
  revert h ht
  refine snoc_ind (p := fun recs => (∀ l ∈ recs, GoodGrp homes l) → overAll recs i = some t → (0 ≤ i ∧ i < homes) ∧ t.size = 512) recs (fun _ ht => by cases ht) (fun recs l ih h ht => ?_)
  rw [overAll_snoc] at ht
  rcases lastO_cases _ _ _ _ ht with h1 | ⟨p, hp, h1, h2⟩
  · exact ih (fun x hx => h x (List.mem_append_left _ hx)) h1
  · have := (h l (by simp)).ats p hp
    rw [← h1, ← h2]
    exact ⟨⟨by omega, by omega⟩, this.2⟩

structure LogUp (w : World) (bl : Nat) (L : LogS) (d : Dk) (N : Nat) (W : Int → ByteArray) : Prop where
  at_ : LogAt w bl L
  dk : DkOf L.D d
  lup : L.down = false
  up : d.down = false
  clean : d.writes = []
  dur : ∃ seq0 recs, Dur d.firm L.ring L.homes L.tail seq0 recs ∧ L.used = usedOf recs ∧ L.next = (L.tail + usedOf recs) % L.ring ∧ L.seq = seq0 + recs.length ∧ L.over = overAll recs ∧ ∀ k : Nat, k < L.homes → homesOf d.firm L.ring recs k = W k
  seq : L.seq ≤ N
structure LogDn (w : World) (bl : Nat) (L : LogS) (d : Dk) (N : Nat) (P : (Int → ByteArray) → Prop) : Prop where
  at_ : LogAt w bl L
  dk : DkOf L.D d
  ldn : L.down = true
  dn : d.down = true
  falls : FallsTo d L.ring L.homes N P
section
variable {w w' : World} {bl : Nat} {L : LogS} {d : Dk} {N : Nat} {W : Int → ByteArray} {P : (Int → ByteArray) → Prop}
theorem LogUp.still (h : LogUp w bl L d N W) (hb : Below w.heap.size w w') : LogUp w' bl L d N W := ⟨h.at_.still hb, h.dk, h.lup, h.up, h.clean, h.dur, h.seq⟩
theorem LogDn.still (h : LogDn w bl L d N P) (hb : Below w.heap.size w w') : LogDn w' bl L d N P := ⟨h.at_.still hb, h.dk, h.ldn, h.dn, h.falls⟩
theorem LogUp.mono {N' : Nat} (h : LogUp w bl L d N W) (hN : N ≤ N') : LogUp w bl L d N' W := ⟨h.at_, h.dk, h.lup, h.up, h.clean, h.dur, Nat.le_trans h.seq hN⟩
theorem LogUp.congr {W' : Int → ByteArray} (h : LogUp w bl L d N W) (hW : ∀ k : Nat, k < L.homes → W k = W' k) : LogUp w bl L d N W' := by
  obtain ⟨s, r, h1, h2, h3, h4, h5, h6⟩ := h.dur
  exact ⟨h.at_, h.dk, h.lup, h.up, h.clean, ⟨s, r, h1, h2, h3, h4, h5, fun k hk => (h6 k hk).trans (hW k hk)⟩, h.seq⟩
theorem LogUp.bears (h : LogUp w bl L d N W) : Bears d.firm L.ring L.homes N W := by
  obtain ⟨s, r, h1, h2, h3, h4, h5, h6⟩ := h.dur
  exact ⟨_, s, r, h1, by have := h.seq; omega, h6⟩
theorem LogUp.read (h : LogUp w bl L d N W) (k : Nat) (hk : k < L.homes) : L.read k = W k := by
  obtain ⟨s, r, h1, h2, h3, h4, h5, h6⟩ := h.dur
  rw [← h6 k hk]
  unfold LogS.read homesOf
  rw [h5, h.dk.read]
  unfold Dk.read
  rw [h.clean, seen_nil]
theorem LogUp.next_lt (h : LogUp w bl L d N W) : L.next < L.ring := by
  obtain ⟨s, r, h1, h2, h3, h4, h5, h6⟩ := h.dur
  rw [h3]
  exact Nat.mod_lt _ (by have := h.at_.ring; omega)
theorem LogUp.dom (h : LogUp w bl L d N W) (i : Int) (hi : L.over i ≠ none) : 0 ≤ i ∧ i < L.homes := by
  obtain ⟨s, r, h1, h2, h3, h4, h5, h6⟩ := h.dur
  obtain ⟨t, ht⟩ := Option.ne_none_iff_exists'.1 hi
  rw [h5] at ht
  exact (overAll_dom h1.good i t ht).1
theorem LogUp.dup (h : LogUp w bl L d N W) : L.D.down = false := h.dk.down.trans h.up
end
/-- what a checkpoint comes to -/
def Ckpt (w : World) (bl : Nat) (L : LogS) (d : Dk) (N : Nat) (W : Int → ByteArray) (e : Ending) (w' : World) : Prop :=
  ∃ L' d', LogStep bl w L w' L' ∧ d'.bound = d.bound ∧ ((e = .returned (.int .i64 0) ∧ LogUp w' bl L' d' N W ∧ L'.used = 0) ∨ (e = .returned (.int .i64 3) ∧ d.bound = true ∧ LogDn w' bl L' d' N (· = W)))
theorem LogStep.homes {bl : Nat} {w w' : World} {L L' : LogS} (h : LogStep bl w L w' L') : L'.homes = L.homes := by unfold LogS.homes; rw [h.size, h.ring]
set_option maxHeartbeats 1000000 in
theorem checkpoint_any {w : World} {bl : Nat} {L : LogS} {d : Dk} {N : Nat} {W : Int → ByteArray} (h : LogUp w bl L d N W) (hN : N < 4611686018427387904) :
    Calls Tryz.prog 93 #[.pointer (some ⟨bl, 0, none⟩)] w (Ckpt w bl L d N W) := by
  have hsq := h.seq
  have H1 := Lib.hid (logDown_any h.at_.cells)
  rw [h.lup] at H1
  have H2 := Lib.hid (settle_any h.at_ h.dk h.up (by rw [h.clean]; simp) h.dom h.next_lt (by omega))
  have H3 := Lib.hid (fun u => logSay_any bl 0 (by decide) u)
  obtain ⟨c0, c1, c2, c3, c4, c5, c6, c7⟩ := lCells h.at_.cells
  have HU := Lib.hid h
  by_cases hu : L.used = 0
  · have d0 : decide (L.used = 0) = true := by simpa using hu
    have d0' : decide ((L.used : Int) = 0) = true := by simp; omega
    have HUs := Lib.hid hu
    clear h
    go_enter Tryz.func93, Tryz.ntmps93
    go_wp2_with (first
      | (go_at_call 57; refine (H1.out).mono ?_; rintro e w1 ⟨rfl, rfl⟩))
    go_ret
    exact ⟨L, d, LogStep.refl HU.out.at_, rfl, .inl ⟨rfl, HU.out, HUs.out⟩⟩
  · have d0 : decide (L.used = 0) = false := by simpa using hu
    have d0' : decide ((L.used : Int) = 0) = false := by simp; omega
    clear h
    go_enter Tryz.func93, Tryz.ntmps93
    go_wp2_with (first
      | (go_at_call 57; refine (H1.out).mono ?_; rintro e w1 ⟨rfl, rfl⟩))
    refine (H2.out).mono ?_
    rintro e w2 ⟨l, hg, hc⟩
    obtain ⟨s, r, h1, h2, h3, h4, h5, h6⟩ := HU.out.dur
    have hset := settle_law HU.out.up HU.out.clean h1 (l := l) (h5 ▸ hg) (fun i t ht => (overAll_dom h1.good i t ht).2) (next := L.next) (seq := L.seq) h3 h4 _ rfl
    have hbnd := Dk.run_bound d (setOps L.ring L.next L.seq l)
    rcases hc with ⟨hdn, rfl, D', hst, hdk⟩ | ⟨hup, rfl, D', hst, hdk⟩
    · have hb : d.bound = true := by
        cases hb : d.bound with
        | true => rfl
        | false => rw [(Dk.run_free d (setOps L.ring L.next L.seq l) hb HU.out.up).1] at hdn; cases hdn
      have HSt := Lib.hid hst
      have HSy := Lib.hid (logSay_fell hst.at_)
      have hfall : FallsTo (d.run (setOps L.ring L.next L.seq l)) L.ring L.homes N (· = W) := by
        rcases hset with ⟨k1, _⟩ | ⟨_, k2⟩
        · rw [k1] at hdn; cases hdn
        · intro keep
          refine ⟨W, rfl, ?_⟩
          rcases k2 keep with ⟨q1, q2⟩ | ⟨q1, q2⟩
          · exact ⟨_, _, _, q1, by have := HU.out.seq; omega, fun k hk => (q2 k).trans (h6 k hk)⟩
          · exact ⟨_, _, _, q1, by have := HU.out.seq; simp only [List.length_nil]; omega, fun k hk => (q2 k).trans (h6 k hk)⟩
      have HF := Lib.hid hfall
      have HD := Lib.hid hdk
      have HDn := Lib.hid hdn
      clear hset hst hdk hdn hfall
      go_wp2_with (go_at_call 58; refine (HSy.out).mono ?_; rintro e w3 ⟨rfl, hs3⟩)
      go_ret
      exact ⟨_, _, HSt.out.trans hs3, hbnd, .inr ⟨rfl, hb, ⟨hs3.at_, HD.out, rfl, HDn.out, by rw [(HSt.out.trans hs3).homes]; exact HF.out⟩⟩⟩
    · have HSt := Lib.hid hst
      have hnew : LogUp w2 bl { L with D := D', over := fun _ => none, no := 0, tail := L.next, used := 0 } (d.run (setOps L.ring L.next L.seq l)) N W := by
        rcases hset with ⟨k1, k2, k3, k4⟩ | ⟨k1, _⟩
        · refine ⟨hst.at_, hdk, HU.out.lup, k1, k2, ⟨L.seq, [], ?_, rfl, ?_, rfl, rfl, fun k hk => ?_⟩, HU.out.seq⟩
          · have e := hst.homes
            show Dur _ L.ring ({ L with D := D', over := fun _ => none, no := 0, tail := L.next, used := 0 } : LogS).homes L.next L.seq []
            rw [e]; exact k3
          · show L.next = (L.next + 0) % L.ring
            rw [Nat.add_zero, Nat.mod_eq_of_lt HU.out.next_lt]
          · have e := hst.homes
            exact (k4 k).trans (h6 k (by rw [← e]; exact hk))
        · rw [k1] at hup; cases hup
      have HNw := Lib.hid hnew
      clear hset hst hdk hup hnew
      go_wp2_with (go_at_call 58; refine (H3.out _).mono ?_; rintro e w3 ⟨rfl, rfl⟩)
      go_ret
      exact ⟨_, _, HSt.out, hbnd, .inl ⟨rfl, HNw.out, rfl⟩⟩
end Go.Proofs.YtalgheocjnajlaaGreatDoor
