/-
  THE LOG, plain: what a record and a settling come to on a disk that may fall; a commit; what an opening finds.
-/
import Derived.Test.YtalgheocjnajlaaGreatDoorRecP
namespace Go.Proofs.YtalgheocjnajlaaGreatDoor

/-- these sectors bear a log whose homes hold W -/
def Bears (S : Int → ByteArray) (ring homes N : Nat) (W : Int → ByteArray) : Prop :=
  ∃ tail seq0 recs, Dur S ring homes tail seq0 recs ∧ seq0 + recs.length ≤ N ∧ ∀ k : Nat, k < homes → homesOf S ring recs k = W k
/-- whatever of the loose writes is kept -/
def FallsTo (d : Dk) (ring homes N : Nat) (P : (Int → ByteArray) → Prop) : Prop := ∀ keep, ∃ W, P W ∧ Bears (seen (kept d.writes keep) d.firm) ring homes N W
theorem FallsTo.mono {d : Dk} {ring homes N N' : Nat} {P P' : (Int → ByteArray) → Prop} (h : FallsTo d ring homes N P) (hN : N ≤ N') (hp : ∀ W, P W → P' W) : FallsTo d ring homes N' P' := fun keep => by
  obtain ⟨W, h1, t, s, r, h2, h3, h4⟩ := h keep
  exact ⟨W, hp W h1, t, s, r, h2, by omega, h4⟩
theorem kept_nil (keep : List Bool) : kept [] keep = [] := by simp [kept]
theorem FallsTo.of_clean {d : Dk} {ring homes N : Nat} {W : Int → ByteArray} (hw : d.writes = []) (h : Bears d.firm ring homes N W) : FallsTo d ring homes N (· = W) := fun keep => by
  refine ⟨W, rfl, ?_⟩
  rw [hw, kept_nil, seen_nil]
  exact h

theorem GrpOf.last {g : Int → Option ByteArray} {l : Grp} (h : GrpOf g l) (o : Int → Option ByteArray) (i : Int) : lastO o l i = (g i).or (o i) := by
  have gen : ∀ (l : Grp) (o : Int → Option ByteArray), (l.map (·.1)).Nodup → ∀ i : Int, lastO o l i = match l.find? (fun p => decide ((p.1 : Int) = i)) with | some p => some p.2 | none => o i := by
    intro l
    induction l with
    | nil => intro o _ i; rfl
    | cons p l ih =>
      intro o hn i
      have e : lastO o (p :: l) = lastO (putO o p.1 p.2) l := rfl
      rw [List.map_cons, List.nodup_cons] at hn
      rw [e, ih _ hn.2]
      by_cases hp : (p.1 : Int) = i
      · have hf : l.find? (fun q => decide ((q.1 : Int) = i)) = none := by
          rw [List.find?_eq_none]
          intro q hq hqi
          have hq1 : (q.1 : Int) = i := by simpa using hqi
          exact hn.1 (List.mem_map.2 ⟨q, hq, by omega⟩)
        rw [hf, List.find?_cons_of_pos (by simpa using hp)]
        show putO o p.1 p.2 i = some p.2
        unfold putO
        rw [if_pos hp.symm]
      · rw [List.find?_cons_of_neg (by simpa using hp)]
        cases l.find? (fun q => decide ((q.1 : Int) = i)) with
        | some q => rfl
        | none =>
          show putO o p.1 p.2 i = o i
          unfold putO
          rw [if_neg (fun e => hp e.symm)]
  have hnd : (l.map (·.1)).Nodup := by
    rw [List.Nodup, List.pairwise_map]
    exact h.sorted.imp (fun hab e => by omega)
  rw [gen l o hnd i]
  cases hf : l.find? (fun p => decide ((p.1 : Int) = i)) with
  | some p =>
    have h1 := List.mem_of_find?_eq_some hf
    have h2 : (p.1 : Int) = i := by simpa using List.find?_some hf
    have h3 := (h.mem p.1 p.2).1 h1
    rw [h2] at h3
    rw [h3]
    rfl
  | none =>
    have h1 := List.find?_eq_none.1 hf
    cases hg : g i with
    | none => rfl
    | some t =>
      exfalso
      have h0 := h.pos i (by rw [hg]; exact fun e => by cases e)
      have e : ((i.toNat : Nat) : Int) = i := Int.toNat_of_nonneg h0
      have h2 := (h.mem i.toNat t).2 (by rw [e]; exact hg)
      exact h1 _ h2 (decide_eq_true (p := ((i.toNat : Nat) : Int) = i) e)
/-- homes behind a group -/
def overG (g : Int → Option ByteArray) (W : Int → ByteArray) : Int → ByteArray := fun i => (g i).getD (W i)
theorem homesOf_group {S S' : Int → ByteArray} {ring : Nat} {recs : List Grp} {g : Int → Option ByteArray} {l : Grp} (h : GrpOf g l) {i : Int} (hs : S' (1 + (ring : Int) + i) = S (1 + (ring : Int) + i)) :
    homesOf S' ring (recs ++ [l]) i = overG g (homesOf S ring recs) i := by
  unfold homesOf overG
  rw [overAll_snoc, h.last, hs]
  cases g i <;> rfl
theorem recOps_eq (ring next seq : Nat) (l : Grp) : recOps ring next seq l = (wops (recP ring next l (secs l.length)) ++ [.flush]) ++ (wops [(((1 + next : Nat) : Int), hdrS seq l.length)] ++ [.flush]) := by
  unfold recOps wops; simp
theorem recP_mem {ring next : Nat} {l : Grp} {j : Nat} {x : Int × ByteArray} (h : x ∈ recP ring next l j) : ∃ i, i < j ∧ x = (((1 + (next + 1 + i) % ring : Nat) : Int), pieceS (recL l) i) := by
  unfold recP at h
  obtain ⟨i, hi, rfl⟩ := List.mem_map.1 h
  exact ⟨i, by simpa using hi, rfl⟩
theorem mod_shift (tail used r j : Nat) : ((tail + used) % r + j) % r = (tail + used + j) % r := by rw [Nat.mod_add_mod]
theorem take_one_cases {α : Type} (x : α) (j : Nat) : [x].take j = [] ∨ [x].take j = [x] := by
  cases j with
  | zero => exact .inl rfl
  | succ j => exact .inr (by simp)
theorem kept_one (x : Int × ByteArray) (keep : List Bool) : kept [x] keep = [] ∨ kept [x] keep = [x] := by
  cases keep with
  | nil => exact .inl (by simp [kept])
  | cons b l => cases b <;> simp [kept]
theorem seen_single (x : Int × ByteArray) (f : Int → ByteArray) (i : Int) : seen [x] f i = if x.1 = i then x.2 else f i := by
  have := seen_snoc [] f x i
  rwa [List.nil_append, seen_nil] at this
/-- what a record comes to -/
theorem record_law {d : Dk} {ring homes tail seq0 : Nat} {recs : List Grp} (hup : d.down = false) (hcl : d.writes = []) (h : Dur d.firm ring homes tail seq0 recs) {g : Int → Option ByteArray} {l : Grp} (hg : GrpOf g l) (hl : GoodGrp homes l)
    (hu : usedOf recs + secs l.length + 1 ≤ ring) (hq : seq0 + recs.length + 1 < 18446744073709551616) {next seq : Nat} (hn : next = (tail + usedOf recs) % ring) (hs : seq = seq0 + recs.length + 1) (d' : Dk) (hd' : d' = d.run (recOps ring next seq l)) :
    (d'.down = false ∧ d'.writes = [] ∧ Dur d'.firm ring homes tail seq0 (recs ++ [l]) ∧ ∀ i : Nat, homesOf d'.firm ring (recs ++ [l]) i = overG g (homesOf d.firm ring recs) i) ∨
    (d'.down = true ∧ ∀ keep, (Dur (seen (kept d'.writes keep) d'.firm) ring homes tail seq0 recs ∧ ∀ i : Nat, homesOf (seen (kept d'.writes keep) d'.firm) ring recs i = homesOf d.firm ring recs i) ∨
      (Dur (seen (kept d'.writes keep) d'.firm) ring homes tail seq0 (recs ++ [l]) ∧ ∀ i : Nat, homesOf (seen (kept d'.writes keep) d'.firm) ring (recs ++ [l]) i = overG g (homesOf d.firm ring recs) i)) := by
  subst hd' hn hs
  have hring : 0 < ring := by have := h.tail_; omega
  obtain ⟨ps, hps⟩ : ∃ ps, recP ring ((tail + usedOf recs) % ring) l (secs l.length) = ps := ⟨_, rfl⟩
  have hpm : ∀ x ∈ ps, ∃ i, i < secs l.length ∧ x = (((1 + (tail + (usedOf recs + (1 + i))) % ring : Nat) : Int), pieceS (recL l) i) := fun x hx => by
    obtain ⟨i, hi, rfl⟩ := recP_mem (hps ▸ hx)
    refine ⟨i, hi, ?_⟩
    rw [show (tail + usedOf recs) % ring + 1 + i = (tail + usedOf recs) % ring + (1 + i) by omega, mod_shift, Nat.add_assoc]
  have hfull : ∀ x ∈ ps, fullS x.2 = x.2 := fun x hx => by
    obtain ⟨i, _, rfl⟩ := hpm x hx
    exact fullS_same _ (pieceS_size _ _)
  -- the parts' sectors, whatever is kept
  have hparts : ∀ q : Puts, (∀ x ∈ q, x ∈ ps) → Dur (seen q d.firm) ring homes tail seq0 recs ∧ ∀ i : Nat, seen q d.firm (1 + (ring : Int) + i) = d.firm (1 + (ring : Int) + i) := fun q hq => by
    constructor
    · refine h.parts (fun i => ?_)
      rcases seen_cases q d.firm i with e | e
      · exact .inl e
      · obtain ⟨j, hj, he⟩ := hpm _ (hq _ e)
        have h1 : i = ((1 + (tail + (usedOf recs + (1 + j))) % ring : Nat) : Int) := congrArg Prod.fst he
        have h2 : seen q d.firm i = pieceS (recL l) j := congrArg Prod.snd he
        exact .inr ⟨1 + j, by omega, h1, by rw [h2]; exact piece_0 _ _⟩
    · intro i
      refine seen_out _ _ _ (fun x hx e => ?_)
      obtain ⟨j, hj, rfl⟩ := hpm _ (hq _ hx)
      have h3 : ((1 + (tail + (usedOf recs + (1 + j))) % ring : Nat) : Int) = 1 + (ring : Int) + (i : Int) := e
      have h4 := Nat.mod_lt (tail + (usedOf recs + (1 + j))) hring
      omega
  have hsub : ∀ x ∈ ps, x ∈ ps := fun _ h => h
  obtain ⟨hpd, hph⟩ := hparts ps hsub
  -- all parts are there
  have hall : ∀ i, i < secs l.length → seen ps d.firm ((1 + (tail + usedOf recs + 1 + i) % ring : Nat) : Int) = pieceS (recL l) i := fun i hi => by
    refine seen_one ps _ _ _ (fun x hx e => ?_) ⟨(((1 + (tail + usedOf recs + 1 + i) % ring : Nat) : Int), pieceS (recL l) i), ?_, rfl⟩
    · obtain ⟨j, hj, rfl⟩ := hpm x hx
      have h3 : ((1 + (tail + (usedOf recs + (1 + j))) % ring : Nat) : Int) = ((1 + (tail + usedOf recs + 1 + i) % ring : Nat) : Int) := e
      rw [show tail + usedOf recs + 1 + i = tail + (usedOf recs + (1 + i)) by omega] at h3
      by_cases hij : i = j
      · subst hij; rfl
      · exfalso
        rcases Nat.lt_or_gt_of_ne hij with hlt | hlt
        · exact mod_ne (r := ring) (t := tail) (a := usedOf recs + (1 + i)) (b := usedOf recs + (1 + j)) (by omega) (by omega) (by omega)
        · exact mod_ne (r := ring) (t := tail) (a := usedOf recs + (1 + j)) (b := usedOf recs + (1 + i)) (by omega) (by omega) (by omega)
    · rw [← hps]
      unfold recP
      refine List.mem_map.2 ⟨i, by simpa using hi, ?_⟩
      rw [show (tail + usedOf recs) % ring + 1 + i = (tail + usedOf recs) % ring + (1 + i) by omega, mod_shift, show tail + usedOf recs + (1 + i) = tail + usedOf recs + 1 + i by omega]
  obtain ⟨hd, hhd⟩ : ∃ hd : Int × ByteArray, (((1 + (tail + usedOf recs) % ring : Nat) : Int), hdrS (seq0 + recs.length + 1) l.length) = hd := ⟨_, rfl⟩
  have hmore : Dur (seen [hd] (seen ps d.firm)) ring homes tail seq0 (recs ++ [l]) ∧ ∀ i : Nat, homesOf (seen [hd] (seen ps d.firm)) ring (recs ++ [l]) i = overG g (homesOf d.firm ring recs) i := by
    constructor
    · refine hpd.more hl hu hq hall ?_ (fun i hi => ?_)
      · rw [seen_single, ← hhd, if_pos rfl]
      · rw [seen_single, ← hhd, if_neg (fun e => hi e.symm)]
    · intro i
      have e1 : seen [hd] (seen ps d.firm) (1 + (ring : Int) + i) = d.firm (1 + (ring : Int) + i) := by
        rw [seen_single, ← hhd, if_neg (fun e => by have h4 := Nat.mod_lt (tail + usedOf recs) hring; have e2 : ((1 + (tail + usedOf recs) % ring : Nat) : Int) = 1 + (ring : Int) + (i : Int) := e; omega)]
        exact hph i
      exact homesOf_group hg e1
  rw [recOps_eq, hps, hhd, Dk.run_append]
  rcases wflush_run d ps hfull hup hcl with ⟨h1, h2, h3⟩ | ⟨h1, h2, j, h3⟩
  · rcases wflush_run (d.run (wops ps ++ [.flush])) [hd] (fun x hx => by obtain rfl : x = hd := (by simpa using hx); rw [← hhd]; exact fullS_same _ (hdrS_size _ _)) h1 h3 with ⟨k1, k2, k3⟩ | ⟨k1, k2, j, k3⟩
    · refine .inl ⟨k1, k3, ?_⟩
      rw [k2, h2]
      exact hmore
    · refine .inr ⟨k1, fun keep => ?_⟩
      rw [k2, k3, h2]
      have hk : kept ([hd].take j) keep = [] ∨ kept ([hd].take j) keep = [hd] := by
        rcases take_one_cases hd j with e | e <;> rw [e]
        · exact .inl (kept_nil _)
        · exact kept_one _ _
      rcases hk with e | e <;> rw [e]
      · left
        rw [seen_nil]
        exact ⟨hpd, fun i => homesOf_parts (hph i)⟩
      · right
        exact hmore
  · rw [Dk.run_down _ _ h1]
    refine .inr ⟨h1, fun keep => .inl ?_⟩
    rw [h2, h3]
    obtain ⟨q1, q2⟩ := hparts (kept (ps.take j) keep) (fun x hx => List.mem_of_mem_take (kept_sub _ _ x hx))
    exact ⟨q1, fun i => homesOf_parts (q2 i)⟩

/-- the homes' writes -/
def homeP (ring : Nat) (l : Grp) : Puts := l.map (fun p => (1 + (ring : Int) + (p.1 : Int), p.2))
def setOps (ring next seq : Nat) (l : Grp) : List DOp := wops (homeP ring l) ++ [.flush, .write 0 (headS next seq), .flush]
theorem setOps_eq (ring next seq : Nat) (l : Grp) : setOps ring next seq l = (wops (homeP ring l) ++ [.flush]) ++ (wops [((0 : Int), headS next seq)] ++ [.flush]) := by
  unfold setOps wops; simp
/-- what a settling comes to -/
theorem settle_law {d : Dk} {ring homes tail seq0 : Nat} {recs : List Grp} (hup : d.down = false) (hcl : d.writes = []) (h : Dur d.firm ring homes tail seq0 recs) {l : Grp} (hg : GrpOf (overAll recs) l) (h5 : ∀ i s, overAll recs i = some s → s.size = 512)
    {next seq : Nat} (hn : next = (tail + usedOf recs) % ring) (hs : seq = seq0 + recs.length) (d' : Dk) (hd' : d' = d.run (setOps ring next seq l)) :
    (d'.down = false ∧ d'.writes = [] ∧ Dur d'.firm ring homes next seq [] ∧ ∀ i : Nat, homesOf d'.firm ring [] i = homesOf d.firm ring recs i) ∨
    (d'.down = true ∧ ∀ keep, (Dur (seen (kept d'.writes keep) d'.firm) ring homes tail seq0 recs ∧ ∀ i : Nat, homesOf (seen (kept d'.writes keep) d'.firm) ring recs i = homesOf d.firm ring recs i) ∨
      (Dur (seen (kept d'.writes keep) d'.firm) ring homes next seq [] ∧ ∀ i : Nat, homesOf (seen (kept d'.writes keep) d'.firm) ring [] i = homesOf d.firm ring recs i)) := by
  subst hd' hn hs
  obtain ⟨ps, hps⟩ : ∃ ps, homeP ring l = ps := ⟨_, rfl⟩
  have hpm : ∀ x ∈ ps, ∃ k : Nat, x.1 = 1 + (ring : Int) + k ∧ overAll recs k = some x.2 := fun x hx => by
    rw [← hps] at hx
    obtain ⟨p, hp, rfl⟩ := List.mem_map.1 hx
    exact ⟨p.1, rfl, (hg.mem p.1 p.2).1 hp⟩
  have hfull : ∀ x ∈ ps, fullS x.2 = x.2 := fun x hx => by
    obtain ⟨k, _, h2⟩ := hpm x hx
    exact fullS_same _ (h5 _ _ h2)
  have hsome : ∀ q : Puts, (∀ x ∈ q, x ∈ ps) → Dur (seen q d.firm) ring homes tail seq0 recs ∧ ∀ k : Nat, homesOf (seen q d.firm) ring recs k = homesOf d.firm ring recs k := fun q hq => by
    refine h.settling (fun i => ?_)
    rcases seen_cases q d.firm i with e | e
    · exact .inl e
    · obtain ⟨k, h1, h2⟩ := hpm _ (hq _ e)
      exact .inr ⟨k, h1, h2⟩
  obtain ⟨hpd, hph⟩ := hsome ps (fun _ h => h)
  have hall : ∀ (k : Nat) t, overAll recs k = some t → seen ps d.firm (1 + (ring : Int) + k) = t := fun k t ht => by
    refine seen_one ps _ _ _ (fun x hx e => ?_) ⟨(1 + (ring : Int) + k, t), ?_, rfl⟩
    · obtain ⟨k', h1, h2⟩ := hpm x hx
      have e2 : k' = k := by omega
      rw [e2, ht] at h2
      exact (Option.some.inj h2).symm
    · rw [← hps]
      exact List.mem_map.2 ⟨(k, t), (hg.mem k t).2 ht, rfl⟩
  obtain ⟨hd, hhd⟩ : ∃ hd : Int × ByteArray, ((0 : Int), headS ((tail + usedOf recs) % ring) (seq0 + recs.length)) = hd := ⟨_, rfl⟩
  have hdone : Dur (seen [hd] (seen ps d.firm)) ring homes ((tail + usedOf recs) % ring) (seq0 + recs.length) [] ∧ ∀ i : Nat, homesOf (seen [hd] (seen ps d.firm)) ring [] i = homesOf d.firm ring recs i := by
    obtain ⟨q1, q2⟩ := hpd.settled (S' := seen [hd] (seen ps d.firm)) hall (by rw [seen_single, ← hhd, if_pos rfl]) (fun i hi => by rw [seen_single, ← hhd, if_neg (fun e => hi e.symm)])
    exact ⟨q1, fun i => (q2 i).trans (hph i)⟩
  rw [setOps_eq, hps, hhd, Dk.run_append]
  rcases wflush_run d ps hfull hup hcl with ⟨h1, h2, h3⟩ | ⟨h1, h2, j, h3⟩
  · rcases wflush_run (d.run (wops ps ++ [.flush])) [hd] (fun x hx => by obtain rfl : x = hd := (by simpa using hx); rw [← hhd]; exact fullS_same _ (headS_size _ _)) h1 h3 with ⟨k1, k2, k3⟩ | ⟨k1, k2, j, k3⟩
    · refine .inl ⟨k1, k3, ?_⟩
      rw [k2, h2]
      exact hdone
    · refine .inr ⟨k1, fun keep => ?_⟩
      rw [k2, k3, h2]
      have hk : kept ([hd].take j) keep = [] ∨ kept ([hd].take j) keep = [hd] := by
        rcases take_one_cases hd j with e | e <;> rw [e]
        · exact .inl (kept_nil _)
        · exact kept_one _ _
      rcases hk with e | e <;> rw [e]
      · left
        rw [seen_nil]
        exact ⟨hpd, hph⟩
      · right
        exact hdone
  · rw [Dk.run_down _ _ h1]
    refine .inr ⟨h1, fun keep => .inl ?_⟩
    rw [h2, h3]
    exact hsome (kept (ps.take j) keep) (fun x hx => List.mem_of_mem_take (kept_sub _ _ x hx))
end Go.Proofs.YtalgheocjnajlaaGreatDoor
