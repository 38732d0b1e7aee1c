/-
  BlobRuns: blobs that are kept, in the room and in a list of the law's own.
-/
import Derived.Test.YtoajdccdhjlikaaDoorBig
import Derived.Test.YtoajdccdhjlikaaDoorApart
namespace Go.Proofs.YtoajdccdhjlikaaDoor
open Go.RowKit Go.MapKept
set_option maxRecDepth 100000

abbrev Blobs := List (List Nat × ByteArray)
def allP (L : Blobs) : List Nat := L.flatMap (·.1)
def keptCells (L : Blobs) : List Value := L.flatMap fun x => [.int .i64 (x.1.getD 0 0 : Nat), .string x.2]
theorem allP_append (L M : Blobs) : allP (L ++ M) = allP L ++ allP M := List.flatMap_append
theorem allP_one (x : List Nat × ByteArray) : allP [x] = x.1 := by simp [allP]
theorem allP_cons (x : List Nat × ByteArray) (L : Blobs) : allP (x :: L) = x.1 ++ allP L := rfl
theorem keptCells_append (L M : Blobs) : keptCells (L ++ M) = keptCells L ++ keptCells M := List.flatMap_append
theorem keptCells_length (L : Blobs) : (keptCells L).length = L.length * 2 := by
  induction L with
  | nil => rfl
  | cons x L ih =>
    have e : keptCells (x :: L) = .int .i64 (x.1.getD 0 0 : Nat) :: .string x.2 :: keptCells L := rfl
    rw [e]; simp [ih]; omega
theorem keptCells_at (L : Blobs) (k : Nat) (x : List Nat × ByteArray) (h : L[k]? = some x) : (keptCells L)[k * 2]? = some (.int .i64 (x.1.getD 0 0 : Nat)) ∧ (keptCells L)[k * 2 + 1]? = some (.string x.2) := by
  induction L generalizing k with
  | nil => simp at h
  | cons y L ih =>
    have e : keptCells (y :: L) = .int .i64 (y.1.getD 0 0 : Nat) :: .string y.2 :: keptCells L := rfl
    rw [e]
    cases k with
    | zero =>
      simp at h
      subst h
      exact ⟨rfl, rfl⟩
    | succ k =>
      have := ih k (by simpa using h)
      rw [show (k + 1) * 2 = k * 2 + 1 + 1 by omega]
      simpa using this

/-- the room holds the blobs L and nothing else; the row v holds M -/
structure BSt (w0 w : World) (br P : Nat) (R : RoomS) (L M : Blobs) (v : Value) (c : Nat) : Prop where
  on : RoomOn w0 w br R
  pages : R.pages = P
  blobs : ∀ x ∈ L, BlobIn R x.2 x.1 ∧ x.2.size ≤ 3000
  nodup : (allP L).Nodup
  has : ∀ q, q < R.maps * 4096 → R.has q = decide (q ∈ allP L)
  row : w.ownsRow w0.heap.size 59 2 v M.length (keptCells M)
  apart : ∀ g, v.ownBlock = some g → ¬ R.foot br g
  puts : R.T.puts.length ≤ c
section
variable {w0 w : World} {br P : Nat} {R : RoomS} {L M : Blobs} {v : Value} {c : Nat}
theorem BSt.keep {w' : World} (h : BSt w0 w br P R L M v c) {S : Nat → Prop} (hk : Keep S w w') (hS : ∀ k, S k → w0.heap.size ≤ k ∧ ¬ R.foot br k ∧ v.ownBlock ≠ some k) : BSt w0 w' br P R L M v c :=
  ⟨⟨h.on.at_.keep hk (fun k hf hs => (hS k hs).2.1 hf), h.on.below.trans (hk.below h.on.below.size (fun i hi e => by have := (hS i e).1; omega)), h.on.own⟩, h.pages, h.blobs, h.nodup, h.has,
   hk.ownsRow h.row (fun k hkv hs => (hS k hs).2.2 hkv), h.apart, h.puts⟩
theorem BSt.still {u : World} (h : BSt w0 w br P R L M v c) (hb : Below w.heap.size w u) : BSt w0 u br P R L M v c := h.keep (Keep.still hb) (fun _ e => e.elim)
theorem BSt.mono (h : BSt w0 w br P R L M v c) {c' : Nat} (hc : c ≤ c') : BSt w0 w br P R L M v c' := ⟨h.on, h.pages, h.blobs, h.nodup, h.has, h.row, h.apart, Nat.le_trans h.puts hc⟩
theorem BSt.member (h : BSt w0 w br P R L M v c) {p : Nat} (hp : p ∈ allP L) : p < R.pages ∧ R.has p = true := by
  obtain ⟨x, hx, hpx⟩ := List.mem_flatMap.1 hp
  exact (h.blobs x hx).1.pages p hpx
theorem BSt.used (h : BSt w0 w br P R L M v c) : R.used = (allP L).length ∧ cnt R.has R.pages = (allP L).length := by
  have hle := h.on.at_.pages_le
  have e : ∀ n, R.pages ≤ n → n ≤ R.maps * 4096 → cnt R.has n = (allP L).length := fun n h1 h2 => by
    have := cnt_mem (allP L) (fun _ => false) n h.nodup (fun p hp => by have := (h.member hp).1; omega) (fun p _ => rfl)
    rw [cnt_none, Nat.zero_add] at this
    rw [← this]
    exact cnt_congr (fun q hq => by rw [h.has q (by omega)]; simp)
  exact ⟨e _ hle (Nat.le_refl _), e _ (Nat.le_refl _) hle⟩
/-- what a room turned keeps of the row -/
theorem BSt.turned {w' : World} {R' : RoomS} (h : BSt w0 w br P R L M v c) (hs : RoomStep br w R w' R') : RoomOn w0 w' br R' ∧ w'.ownsRow w0.heap.size 59 2 v M.length (keptCells M) ∧ (∀ g, v.ownBlock = some g → ¬ R'.foot br g) :=
  ⟨h.on.step2 hs, hs.keep.ownsRow h.row (fun k hk => h.apart k hk), fun g hg => hs.apart_ (h.row.lt g hg).2 (h.apart g hg)⟩
theorem pagesB_3000 {n : Nat} (h : n ≤ 3000) : pagesB n ≤ 6 := by unfold pagesB; split <;> omega

def PutB (w0 : World) (br P : Nat) (L M : Blobs) (v : Value) (c : Nat) (s : ByteArray) (e : Ending) (w' : World) : Prop :=
  ((allP L).length + pagesB s.size ≤ P ∧ ∃ ps R', ps.length = pagesB s.size ∧ e = .returned (.tuple #[.int .i64 (ps.getD 0 0 : Nat), .int .i64 0]) ∧ BSt w0 w' br P R' (L ++ [(ps, s)]) M v (c + 20)) ∨
  (P < (allP L).length + pagesB s.size ∧ ∃ R', e = .returned (.tuple #[.int .i64 0, .int .i64 4]) ∧ BSt w0 w' br P R' L M v (c + 20))
theorem BSt.put (h : BSt w0 w br P R L M v c) (hc : c < 1000000) (s : ByteArray) (hs : s.size ≤ 3000) :
    Calls Tryd.prog 26 #[.pointer (some ⟨br, 0, none⟩), .string s] w (PutB w0 br P L M v c s) := by
  have hpt := h.puts
  have hu := h.used
  have hp6 := pagesB_3000 hs
  refine (putP_any h.on.at_ (by omega) s (by omega)).mono fun e w' he => ?_
  have hle := h.on.at_.pages_le
  rcases he with ⟨R', ps, he, hst, htook, hb, a, ha, hal⟩ | ⟨R', he, hst, hc2, hpp⟩
  · obtain ⟨t1, t2, t3⟩ := h.turned hst
    have hpl : ps.length = pagesB s.size := hb.len
    have hcount := htook.count hle
    have hle2 := cnt_le R'.has R.pages
    have hnew : ∀ p ∈ ps, p ∉ allP L := fun p hp hm => by
      have h1 := (htook.new p hp).2
      rw [(h.member hm).2] at h1
      cases h1
    refine .inl ⟨by rw [hu.2, hpl] at hcount; have := h.pages; omega, ps, R', hpl, he, t1, hst.pages.trans h.pages, fun x hx => ?_, ?_, fun q hq => ?_, t2, t3, by rw [ha, List.length_append]; omega⟩
    · rcases List.mem_append.1 hx with hx | hx
      · have hbx := (h.blobs x hx).1
        have hpx : ∀ p ∈ x.1, p ∈ allP L := fun p hp => List.mem_flatMap.2 ⟨x, hx, hp⟩
        refine ⟨hbx.congr hst.pages (fun p hp => ?_) (fun p hp => ?_), (h.blobs x hx).2⟩
        · rw [htook.has p (by have := (hbx.pages p hp).1; omega), (hbx.pages p hp).2, Bool.or_true]
        · exact htook.text p (hbx.pages p hp).1 (fun hm => hnew p hm (hpx p hp))
      · obtain rfl : x = (ps, s) := by simpa using hx
        exact ⟨hb, hs⟩
    · rw [allP_append, allP_one]
      exact List.nodup_append.2 ⟨h.nodup, htook.nodup, fun a ha b hb e => hnew b hb (e ▸ ha)⟩
    · have hm : R'.maps = R.maps := hst.maps
      rw [hm] at hq
      rw [htook.has q hq, h.has q hq, allP_append, allP_one]
      by_cases h1 : q ∈ ps <;> by_cases h2 : q ∈ allP L <;> simp [h1, h2]
  · obtain ⟨t1, t2, t3⟩ := h.turned hst
    have hl : Like R R' := (h.on.step hst).2
    obtain ⟨v1, v2, v3⟩ := same_views hl hpp
    refine .inr ⟨by rw [hu.2] at hc2; have := h.pages; omega, R', he, t1, hst.pages.trans h.pages, fun x hx => ⟨(h.blobs x hx).1.congr hst.pages (fun p _ => v1 p) (fun p _ => v2 p), (h.blobs x hx).2⟩, h.nodup, fun q hq => ?_, t2, t3, by rw [hpp]; omega⟩
    have hm : R'.maps = R.maps := hst.maps
    rw [hm] at hq
    rw [v1, h.has q hq]
theorem BSt.drop {L1 L2 : Blobs} {x : List Nat × ByteArray} (h : BSt w0 w br P R (L1 ++ x :: L2) M v c) (hc : c < 1000000) :
    Calls Tryd.prog 29 #[.pointer (some ⟨br, 0, none⟩), .int .i64 (x.1.getD 0 0 : Nat)] w fun e w' => e = .returned (.int .i64 0) ∧ ∃ R', BSt w0 w' br P R' (L1 ++ L2) M v (c + 20) := by
  have hpt := h.puts
  have hx := h.blobs x (by simp)
  have hp6 := pagesB_3000 hx.2
  refine (drop_ok h.on.at_ (by omega) hx.1 (by omega)).mono fun e w' ⟨he, R', hst, hg, a, ha, hal⟩ => ⟨he, R', ?_⟩
  obtain ⟨t1, t2, t3⟩ := h.turned hst
  have hle := h.on.at_.pages_le
  have hnd := h.nodup
  have eA : allP (L1 ++ x :: L2) = allP L1 ++ (x.1 ++ allP L2) := by rw [allP_append, allP_cons]
  have eB : allP (L1 ++ L2) = allP L1 ++ allP L2 := allP_append _ _
  rw [eA] at hnd
  obtain ⟨n1, n23, n1x⟩ := List.nodup_append.1 hnd
  obtain ⟨n2, n3, n2x⟩ := List.nodup_append.1 n23
  have hnot : ∀ p ∈ allP L1 ++ allP L2, p ∉ x.1 := fun p hp hm => by
    rcases List.mem_append.1 hp with hp | hp
    · exact n1x p hp p (List.mem_append_left _ hm) rfl
    · exact n2x p hm p hp rfl
  refine ⟨t1, hst.pages.trans h.pages, fun y hy => ?_, ?_, fun q hq => ?_, t2, t3, by rw [ha, List.length_append]; omega⟩
  · have hy2 : y ∈ L1 ++ x :: L2 := by
      rcases List.mem_append.1 hy with hy | hy
      · exact List.mem_append_left _ hy
      · exact List.mem_append_right _ (List.mem_cons_of_mem _ hy)
    have hby := (h.blobs y hy2).1
    have hpy : ∀ p ∈ y.1, p ∈ allP L1 ++ allP L2 := fun p hp => by rw [← eB]; exact List.mem_flatMap.2 ⟨y, hy, hp⟩
    refine ⟨hby.congr hst.pages (fun p hp => ?_) (fun p hp => hg.text p (hby.pages p hp).1), (h.blobs y hy2).2⟩
    rw [hg.has p (by have := (hby.pages p hp).1; omega), decide_eq_false (hnot p (hpy p hp))]
    rfl
  · rw [eB]
    exact List.nodup_append.2 ⟨n1, n3, fun a ha b hb => n1x a ha b (List.mem_append_right _ hb)⟩
  · have hm : R'.maps = R.maps := hst.maps
    rw [hm] at hq
    rw [hg.has q hq, h.has q hq, eA, eB]
    by_cases h1 : q ∈ x.1
    · have h2 : q ∉ allP L1 ++ allP L2 := fun hq2 => hnot q hq2 h1
      simp [h1] at h2 ⊢
      exact h2
    · simp [h1]
/-- a blob more in the row -/
theorem BSt.grow {w3 : World} {v' : Value} {M' : Blobs} {o : Obj} (h : BSt w0 w br P R L M v c) (hg : (w.alloc o).grownBy w3 v.ownBlock) (hloc : v'.ownBlock = v.ownBlock ∨ v'.ownBlock = some (w.alloc o).heap.size)
    (hrow : w3.ownsRow w0.heap.size 59 2 v' M'.length (keptCells M')) : BSt w0 w3 br P R L M' v' c := by
  have hk : Keep (fun k => v.ownBlock = some k) w w3 := ((Keep.refl _ w).alloc o).grown hg (fun _ _ e => e)
  refine ⟨⟨h.on.at_.keep hk (fun k hf hs => h.apart k hs hf), h.on.below.trans (hk.below h.on.below.size (fun i hi e => by have := (h.row.lt i e).1; omega)), h.on.own⟩, h.pages, h.blobs, h.nodup, h.has, hrow, fun g hgv => ?_, h.puts⟩
  rcases hloc with e | e
  · exact h.apart g (e ▸ hgv)
  · rw [e] at hgv
    have hgg : (w.alloc o).heap.size = g := Option.some.inj hgv
    intro hf
    have := room_foot_lt h.on.at_ hf
    rw [World.size_alloc] at hgg
    omega
/-- another row -/
theorem BSt.fresh {w3 : World} {v' : Value} {M' : Blobs} (h : BSt w0 w br P R L M v c) (hb : Below w.heap.size w w3) (hrow : w3.ownsRow w0.heap.size 59 2 v' M'.length (keptCells M')) (hn : ∀ g, v'.ownBlock = some g → w.heap.size ≤ g) : BSt w0 w3 br P R L M' v' c := by
  have h2 := h.still hb
  refine ⟨h2.on, h2.pages, h2.blobs, h2.nodup, h2.has, hrow, fun g hg hf => ?_, h2.puts⟩
  have := room_foot_lt h.on.at_ hf
  have := hn g hg
  omega

/-! ## pages that were met -/
def metG (Q : List Nat) : Int → Option Value := fun i => if 0 ≤ i ∧ i.toNat ∈ Q then some (.bool true) else none
structure VRel (w0 w : World) (br P : Nat) (R : RoomS) (L : Blobs) (v : Value) (c bm : Nat) (Q : List Nat) : Prop where
  st : BSt w0 w br P R L L v c
  map : ∃ n, IMap w bm (metG Q) n
  foot : ¬ R.foot br bm
  apart : v.ownBlock ≠ some bm
  above : w0.heap.size ≤ bm
variable {bm : Nat} {Q : List Nat}
theorem VRel.still {u : World} (h : VRel w0 w br P R L v c bm Q) (hb : Below w.heap.size w u) : VRel w0 u br P R L v c bm Q := by
  obtain ⟨n, hm⟩ := h.map
  exact ⟨h.st.still hb, ⟨n, hm.keep (Keep.still hb) (fun e => e)⟩, h.foot, h.apart, h.above⟩
theorem VRel.start (h : BSt w0 w br P R L L v c) : VRel w0 (w.alloc (.map #[] 0)) br P R L v c w.heap.size [] := by
  refine ⟨h.still ((Below.refl _ _).alloc (Nat.le_refl _) _), ⟨0, ?_⟩, fun hf => ?_, fun e => ?_, h.on.below.size⟩
  · have e : metG [] = fun _ => none := by funext i; simp [metG]
    rw [e]
    exact IMap_made w
  · have := room_foot_lt h.on.at_ hf; omega
  · have := (h.row.lt _ e).2; omega
theorem VRel.look (h : VRel w0 w br P R L v c bm Q) (p : Nat) (hp : p ∉ Q) (hw : (Lit.int .i64 (p : Int)).wf = true) :
    (Instr.lookup 62 (.map (some bm)) (.int .i64 p) false).run Tryd.prog w = .ok (.bool false) w := by
  obtain ⟨n, hm⟩ := h.map
  rw [hm.run_lookup Tryd.underlying3 Tryd.underlying62 (by kernel_rfl : (zeroValue 4).run Tryd.prog w = .ok (.bool false) w) hw false]
  have e : metG Q p = none := by unfold metG; rw [if_neg (by simp [hp])]
  rw [e]
  rfl
theorem VRel.meet (h : VRel w0 w br P R L v c bm Q) (p : Nat) (hw : (Lit.int .i64 (p : Int)).wf = true) :
    ∃ w', (Instr.mapUpdate 62 (.map (some bm)) (.int .i64 p) (.bool true)).run Tryd.prog w = .ok () w' ∧ VRel w0 w' br P R L v c bm (Q ++ [p]) ∧ Keep (· = bm) w w' := by
  obtain ⟨n, hm⟩ := h.map
  obtain ⟨w', hr, hm2, hk, _, _⟩ := hm.run_update Tryd.underlying3 Tryd.underlying62 hw (.bool true)
  have e : putAt (metG Q) p (.bool true) = metG (Q ++ [p]) := by
    funext i
    unfold putAt metG
    by_cases hi : i = p
    · subst hi; simp
    · rw [if_neg hi]
      by_cases h0 : 0 ≤ i
      · have : ¬ i.toNat = p := by omega
        simp [h0, this]
      · rw [if_neg (fun e => h0 e.1), if_neg (fun e => h0 e.1)]
  rw [e] at hm2
  exact ⟨w', hr, ⟨h.st.keep hk (fun k e => by subst e; exact ⟨h.above, h.foot, h.apart⟩), ⟨_, hm2⟩, h.foot, h.apart, h.above⟩, hk⟩
theorem row_ne_map {B : Nat} {e : TypeId} {size n k : Nat} {u : Value} {xs : List Value} {g : Int → Option Value} (h : w.ownsRow B e size u n xs) (hm : IMap w bm g k) : u.ownBlock ≠ some bm := by
  intro hb
  rcases h.2 with ⟨rfl, _⟩ | ⟨g', cap, cur, rfl, _, hg, _⟩
  · cases hb
  · cases hb
    obtain ⟨es, ck, hm2, _⟩ := hm
    rw [hg] at hm2
    cases hm2
/-- of a page of a blob -/
theorem BSt.hasIn (h : BSt w0 w br P R L M v c) {p : Nat} (hp : p ∈ allP L) : R.hasAt p = true ∧ R.hasErr p = 0 := by
  obtain ⟨h1, h2⟩ := h.member hp
  refine ⟨by rw [hasAt_in h1]; exact h2, ?_⟩
  unfold RoomS.hasErr
  rw [if_pos (by omega)]
theorem allP_split (L : Blobs) (j : Nat) (x : List Nat × ByteArray) (hx : L[j]? = some x) : allP L = allP (L.take j) ++ (x.1 ++ allP (L.drop (j + 1))) ∧ allP (L.take (j + 1)) = allP (L.take j) ++ x.1 := by
  obtain ⟨hj, hxe⟩ := List.getElem?_eq_some_iff.1 hx
  constructor
  · have e : L = L.take j ++ x :: L.drop (j + 1) := by
      rw [← hxe, List.getElem_cons_drop, List.take_append_drop]
    conv => lhs; rw [e]
    rw [allP_append, allP_cons]
  · rw [List.take_succ_eq_append_getElem hj, allP_append, hxe, allP_one]
theorem not_met {L : Blobs} (hn : (allP L).Nodup) {j t : Nat} {x : List Nat × ByteArray} (hx : L[j]? = some x) (ht : t < x.1.length) : x.1.getD t 0 ∉ allP (L.take j) ++ x.1.take t ∧ x.1.getD t 0 ∈ allP L := by
  rw [(allP_split L j x hx).1] at hn ⊢
  obtain ⟨n1, n23, n1x⟩ := List.nodup_append.1 hn
  obtain ⟨n2, n3, n2x⟩ := List.nodup_append.1 n23
  have hm := getD_mem ht
  refine ⟨fun h => ?_, List.mem_append_right _ (List.mem_append_left _ hm)⟩
  rcases List.mem_append.1 h with h | h
  · exact n1x _ h _ (List.mem_append_left _ hm) rfl
  · obtain ⟨i, hi, hi2⟩ := List.getElem_of_mem h
    have hi3 : i < t := by rw [List.length_take] at hi; omega
    have h4 : x.1.getD i 0 = x.1.getD t 0 := by
      rw [← hi2, List.getElem_take, List.getD_eq_getElem?_getD, List.getElem?_eq_getElem (by omega)]; rfl
    have := getD_inj n2 (by omega) ht h4
    omega
theorem take_snocD (ps : List Nat) (t : Nat) (ht : t < ps.length) : ps.take t ++ [ps.getD t 0] = ps.take (t + 1) := by
  rw [List.take_succ_eq_append_getElem ht, List.getD_eq_getElem?_getD, List.getElem?_eq_getElem ht]; rfl
end
end Go.Proofs.YtoajdccdhjlikaaDoor
