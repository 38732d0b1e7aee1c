/-
  RoomRuns: the document's room, what holds ahead of each act, each act, same, the acts that came in.
-/
import Derived.Test.YtalgheocjnajlaaGreatDoorRooms7
import Derived.Test.YtalgheocjnajlaaGreatDoorFull
import Derived.Test.YtalgheocjnajlaaGreatDoorHeld
import Derived.Deep.AppendLies
import Derived.Laws.OwnMore
import Derived.Test.YtalgheocjnajlaaGreatDoorOpenK

namespace Go.Proofs.YtalgheocjnajlaaGreatDoor
open Go.RowKit Go.MapKept

/-- a page of the document's; its room -/
structure Pg where
  taken : Bool
  text : ByteArray
structure Doc where
  all : List Pg
  roots : List Nat
def Doc.err (D : Doc) (i : Int) : Int := if 0 ≤ i ∧ i < D.all.length then (if (D.all.getD i.toNat ⟨false, ⟨#[]⟩⟩).taken then 0 else 6) else 2
def Doc.used (D : Doc) (n : Nat) : Nat := cnt (fun q => (D.all.getD q ⟨false, ⟨#[]⟩⟩).taken) n

structure Says (R : RoomS) (D : Doc) : Prop where
  len : D.all.length = R.pages
  has : ∀ q x, D.all[q]? = some x → R.has q = x.taken
  text : ∀ q x, D.all[q]? = some x → x.taken = true → R.text q = x.text
  rlen : D.roots.length = 16
  root : ∀ k n, D.roots[k]? = some n → R.root k = n
  rest : ∀ q, R.pages ≤ q → q < R.maps * 4096 → R.has q = false
section
variable {R R' : RoomS} {D : Doc}
theorem Says.at (h : Says R D) {q : Nat} (hq : q < R.pages) : ∃ x, D.all[q]? = some x ∧ R.has q = x.taken := by
  have hl : q < D.all.length := by rw [h.len]; exact hq
  exact ⟨D.all[q], List.getElem?_eq_getElem hl, h.has q _ (List.getElem?_eq_getElem hl)⟩
theorem Says.getD (h : Says R D) {q : Nat} (hq : q < R.pages) : (D.all.getD q ⟨false, ⟨#[]⟩⟩).taken = R.has q := by
  obtain ⟨x, hx, hh⟩ := h.at hq
  rw [hh, List.getD_eq_getElem?_getD, hx]
  rfl
theorem Says.err (h : Says R D) (i : Int) : D.err i = R.err i := by
  unfold Doc.err RoomS.err
  rw [h.len]
  by_cases hi : 0 ≤ i ∧ i < R.pages
  · rw [if_pos hi, if_pos hi, h.getD (by omega)]
  · rw [if_neg hi, if_neg hi]
theorem cnt_ext {f g : Nat → Bool} {a : Nat} (b : Nat) (h : ∀ q, q < a → f q = g q) (h0 : ∀ q, a ≤ q → q < a + b → f q = false) : cnt f (a + b) = cnt g a := by
  induction b with
  | zero => exact cnt_congr h
  | succ b ih =>
    rw [← Nat.add_assoc, cnt_succ, ih (fun q h1 h2 => h0 q h1 (by omega)), h0 (a + b) (by omega) (by omega)]
    rfl
theorem Says.used (h : Says R D) (hf : R.pages ≤ R.maps * 4096) : R.used = D.used R.pages := by
  unfold RoomS.used Doc.used
  rw [show R.maps * 4096 = R.pages + (R.maps * 4096 - R.pages) by omega]
  exact cnt_ext _ (fun q hq => (h.getD hq).symm) (fun q h1 h2 => h.rest q h1 (by omega))
theorem Says.alloc (h : Says R D) {p : Nat} (hp : p < R.pages) (hf : R.pages ≤ R.maps * 4096) (hl : Like R R') (ha : Alloced R R' p) : Says R' { D with all := D.all.set p ⟨true, zeros 512⟩ } := by
  have hm := hl.maps
  have hpg := hl.pages
  refine ⟨by rw [List.length_set, hpg]; exact h.len, fun q x hx => ?_, fun q x hx ht => ?_, h.rlen, fun k n hk => by rw [ha.root]; exact h.root k n hk, fun q h1 h2 => ?_⟩
  · have hq : q < R.pages := by rw [← h.len]; have := (List.getElem?_eq_some_iff.1 hx).1; rwa [List.length_set] at this
    rw [ha.has q (by omega)]
    rw [List.getElem?_set] at hx
    by_cases hqp : p = q
    · subst hqp
      rw [if_pos rfl, if_pos (by rw [h.len]; exact hp)] at hx
      cases hx
      simp
    · rw [if_neg hqp] at hx
      rw [h.has q x hx]
      have : decide (q = p) = false := by simpa using fun e => hqp e.symm
      rw [this, Bool.false_or]
  · have hq : q < R.pages := by rw [← h.len]; have := (List.getElem?_eq_some_iff.1 hx).1; rwa [List.length_set] at this
    rw [ha.text q hq]
    rw [List.getElem?_set] at hx
    by_cases hqp : p = q
    · subst hqp
      rw [if_pos rfl, if_pos (by rw [h.len]; exact hp)] at hx
      cases hx
      rw [if_pos rfl]
    · rw [if_neg hqp] at hx
      rw [if_neg (fun e => hqp e.symm)]
      exact h.text q x hx ht
  · rw [hpg] at h1
    rw [hm] at h2
    rw [ha.has q h2, h.rest q h1 h2]
    have : decide (q = p) = false := by simp; omega
    rw [this]; rfl
theorem Says.free (h : Says R D) {p : Nat} (hp : p < R.pages) (hf : R.pages ≤ R.maps * 4096) (hl : Like R R') (ha : Freed R R' p) : Says R' { D with all := D.all.set p ⟨false, ⟨#[]⟩⟩ } := by
  have hm := hl.maps
  have hpg := hl.pages
  refine ⟨by rw [List.length_set, hpg]; exact h.len, fun q x hx => ?_, fun q x hx ht => ?_, h.rlen, fun k n hk => by rw [ha.root]; exact h.root k n hk, fun q h1 h2 => ?_⟩
  · have hq : q < R.pages := by rw [← h.len]; have := (List.getElem?_eq_some_iff.1 hx).1; rwa [List.length_set] at this
    rw [ha.has q (by omega)]
    rw [List.getElem?_set] at hx
    by_cases hqp : p = q
    · subst hqp
      rw [if_pos rfl, if_pos (by rw [h.len]; exact hp)] at hx
      cases hx
      simp
    · rw [if_neg hqp] at hx
      rw [h.has q x hx]
      have : decide (q = p) = false := by simpa using fun e => hqp e.symm
      rw [this, Bool.not_false, Bool.true_and]
  · have hq : q < R.pages := by rw [← h.len]; have := (List.getElem?_eq_some_iff.1 hx).1; rwa [List.length_set] at this
    rw [ha.text q hq]
    rw [List.getElem?_set] at hx
    by_cases hqp : p = q
    · subst hqp
      rw [if_pos rfl, if_pos (by rw [h.len]; exact hp)] at hx
      cases hx
      cases ht
    · rw [if_neg hqp] at hx
      exact h.text q x hx ht
  · rw [hpg] at h1
    rw [hm] at h2
    rw [ha.has q h2, h.rest q h1 h2, Bool.and_false]
theorem Says.write (h : Says R D) {p : Nat} (hp : p < R.pages) (ht : R.has p = true) (hf : R.pages ≤ R.maps * 4096) (hl : Like R R') {s : ByteArray} (ha : Wrote R R' p s) : Says R' { D with all := D.all.set p ⟨true, s⟩ } := by
  have hm := hl.maps
  have hpg := hl.pages
  refine ⟨by rw [List.length_set, hpg]; exact h.len, fun q x hx => ?_, fun q x hx ht => ?_, h.rlen, fun k n hk => by rw [ha.root]; exact h.root k n hk, fun q h1 h2 => ?_⟩
  · have hq : q < R.pages := by rw [← h.len]; have := (List.getElem?_eq_some_iff.1 hx).1; rwa [List.length_set] at this
    rw [ha.has q (by omega)]
    rw [List.getElem?_set] at hx
    by_cases hqp : p = q
    · subst hqp
      rw [if_pos rfl, if_pos (by rw [h.len]; exact hp)] at hx
      cases hx
      exact ht
    · rw [if_neg hqp] at hx
      exact h.has q x hx
  · have hq : q < R.pages := by rw [← h.len]; have := (List.getElem?_eq_some_iff.1 hx).1; rwa [List.length_set] at this
    rw [ha.text q hq]
    rw [List.getElem?_set] at hx
    by_cases hqp : p = q
    · subst hqp
      rw [if_pos rfl, if_pos (by rw [h.len]; exact hp)] at hx
      cases hx
      rw [if_pos rfl]
    · rw [if_neg hqp] at hx
      rw [if_neg (fun e => hqp e.symm)]
      exact h.text q x hx ht
  · rw [hpg] at h1
    rw [hm] at h2
    rw [ha.has q h2, h.rest q h1 h2]
theorem Says.setRoot (h : Says R D) {k n : Nat} (hk : k < 16) (hf : R.pages ≤ R.maps * 4096) (hl : Like R R') (ha : Rooted R R' k n) : Says R' { D with roots := D.roots.set k n } := by
  have hm := hl.maps
  have hpg := hl.pages
  refine ⟨by rw [hpg]; exact h.len, fun q x hx => ?_, fun q x hx ht => ?_, by rw [List.length_set]; exact h.rlen, fun k' m hk' => ?_, fun q h1 h2 => ?_⟩
  · have hq : q < R.pages := by rw [← h.len]; exact (List.getElem?_eq_some_iff.1 hx).1
    rw [ha.has q (by omega)]
    exact h.has q x hx
  · have hq : q < R.pages := by rw [← h.len]; exact (List.getElem?_eq_some_iff.1 hx).1
    rw [ha.text q hq]
    exact h.text q x hx ht
  · rw [ha.root k']
    rw [List.getElem?_set] at hk'
    by_cases hkk : k = k'
    · subst hkk
      rw [if_pos rfl, if_pos (by rw [h.rlen]; exact hk)] at hk'
      cases hk'
      rw [if_pos rfl]
    · rw [if_neg hkk] at hk'
      rw [if_neg (fun e => hkk e.symm)]
      exact h.root k' m hk'
  · rw [hpg] at h1
    rw [hm] at h2
    rw [ha.has q h2, h.rest q h1 h2]
/-- a room whose homes are the same -/
theorem Says.like (h : Says R D) (hm : R'.maps = R.maps) (hp : R'.pages = R.pages) {n : Nat} (hn : 1 + R.maps + R.pages ≤ n) (hf : R.pages ≤ R.maps * 4096) (hh : ∀ i : Nat, i < n → R'.home (i : Int) = R.home (i : Int)) : Says R' D := by
  have hbit : ∀ q, q < R.maps * 4096 → R'.has q = R.has q := fun q hq => by
    unfold RoomS.has bitOf
    rw [hh (1 + q / 4096) (by omega)]
  refine ⟨by rw [hp]; exact h.len, fun q x hx => ?_, fun q x hx ht => ?_, h.rlen, fun k m hk => ?_, fun q h1 h2 => ?_⟩
  · have hq : q < R.pages := by rw [← h.len]; exact (List.getElem?_eq_some_iff.1 hx).1
    rw [hbit q (by omega)]
    exact h.has q x hx
  · have hq : q < R.pages := by rw [← h.len]; exact (List.getElem?_eq_some_iff.1 hx).1
    unfold RoomS.text
    rw [hm, hh (1 + R.maps + q) (by omega)]
    exact h.text q x hx ht
  · unfold RoomS.root
    rw [show (0 : Int) = ((0 : Nat) : Int) from rfl, hh 0 (by omega)]
    exact h.root k m hk
  · rw [hp] at h1
    rw [hm] at h2
    rw [hbit q h2]
    exact h.rest q h1 h2
theorem rootUp_zeros (k j : Nat) : rootUp (zeros 512) k j = 0 := by
  induction j with
  | zero => rfl
  | succ j ih => rw [rootUp_succ, ih, byteN_zeros]
/-- a room of noughts -/
theorem says_new {n : Nat} (h : Fresh R n) : Says R ⟨List.replicate R.pages ⟨false, ⟨#[]⟩⟩, List.replicate 16 0⟩ := by
  refine ⟨List.length_replicate, fun q x hx => ?_, fun q x hx ht => ?_, List.length_replicate, fun k m hk => ?_, fun q _ _ => h.has q⟩
  · rw [List.getElem?_replicate] at hx
    split at hx
    · cases hx; exact h.has q
    · cases hx
  · rw [List.getElem?_replicate] at hx
    split at hx
    · cases hx; cases ht
    · cases hx
  · rw [List.getElem?_replicate] at hk
    split at hk
    · cases hk
      unfold RoomS.root
      rw [h.home]
      exact rootUp_zeros k 8
    · cases hk
end
end Go.Proofs.YtalgheocjnajlaaGreatDoor

namespace Go.Proofs.YtalgheocjnajlaaGreatDoor
open Go.RowKit Go.MapKept
attribute [local go_sem] gives givesH
set_option maxRecDepth 100000

def pgCells (l : List Pg) : List Value := l.flatMap (fun x => [.bool x.taken, .string x.text])
def rtCells (l : List Nat) : List Value := l.map (fun (n : Nat) => Value.int .u64 (n : Int))
theorem pgCells_length (l : List Pg) : (pgCells l).length = l.length * 2 := by
  induction l with
  | nil => rfl
  | cons x l ih => unfold pgCells at ih ⊢; rw [List.flatMap_cons, List.length_append, ih]; simp; omega
theorem pgCells_cons (x : Pg) (l : List Pg) : pgCells (x :: l) = .bool x.taken :: .string x.text :: pgCells l := rfl
theorem pgCells_get (l : List Pg) (q : Nat) (x : Pg) (h : l[q]? = some x) : (pgCells l)[q * 2]? = some (.bool x.taken) ∧ (pgCells l)[q * 2 + 1]? = some (.string x.text) := by
  induction l generalizing q with
  | nil => simp at h
  | cons y l ih =>
    cases q with
    | zero => simp at h; subst h; exact ⟨rfl, rfl⟩
    | succ q =>
      rw [List.getElem?_cons_succ] at h
      have h2 := ih q h
      rw [pgCells_cons]
      have e1 : (q + 1) * 2 = q * 2 + 1 + 1 := by omega
      rw [e1, List.getElem?_cons_succ, List.getElem?_cons_succ, List.getElem?_cons_succ, List.getElem?_cons_succ]
      exact h2
theorem pgCells_set (l : List Pg) (q : Nat) (x : Pg) : ((pgCells l).set (q * 2) (.bool x.taken)).set (q * 2 + 1) (.string x.text) = pgCells (l.set q x) := by
  induction l generalizing q with
  | nil => simp [pgCells]
  | cons y l ih =>
    cases q with
    | zero => rfl
    | succ q =>
      rw [pgCells_cons, List.set_cons_succ, pgCells_cons]
      have e1 : (q + 1) * 2 = q * 2 + 1 + 1 := by omega
      rw [e1, List.set_cons_succ, List.set_cons_succ, List.set_cons_succ, List.set_cons_succ, ih]
theorem rtCells_set (l : List Nat) (k n : Nat) : (rtCells l).set k (.int .u64 (n : Int)) = rtCells (l.set k n) := by
  unfold rtCells; rw [List.map_set]

structure DocAt (w : World) (b : Nat) (av rv : Value) (D : Doc) : Prop where
  cells : w.heap[b]? = some (.cells #[av, rv] 89 (0, 0))
  all : w.ownsRow 0 117 2 av D.all.length (pgCells D.all)
  roots : w.ownsRow 0 71 1 rv D.roots.length (rtCells D.roots)
  apart : av.ownBlock ≠ some b ∧ rv.ownBlock ≠ some b ∧ ∀ k, av.ownBlock = some k → rv.ownBlock ≠ some k
def docOwn (b : Nat) (av rv : Value) (k : Nat) : Prop := k = b ∨ av.ownBlock = some k ∨ rv.ownBlock = some k
/-- a document's room made anew -/
structure NewDoc (w w' : World) (b : Nat) (av rv : Value) (D : Doc) : Prop where
  at_ : DocAt w' b av rv D
  new : ∀ k, docOwn b av rv k → w.heap.size ≤ k
  below : Below w.heap.size w w'
section
variable {w w' : World} {b : Nat} {av rv : Value} {D : Doc}
theorem DocAt.keep {S : Nat → Prop} (h : DocAt w b av rv D) (hk : Keep S w w') (hn : ∀ k, docOwn b av rv k → ¬ S k) : DocAt w' b av rv D :=
  ⟨hk.at h.cells (hn _ (.inl rfl)), hk.ownsRow h.all (fun k e => hn k (.inr (.inl e))), hk.ownsRow h.roots (fun k e => hn k (.inr (.inr e))), h.apart⟩
theorem DocAt.still (h : DocAt w b av rv D) (hb : Below w.heap.size w w') : DocAt w' b av rv D := h.keep (Keep.still hb) (fun _ _ e => e)
theorem DocAt.lt (h : DocAt w b av rv D) {k : Nat} (hk : docOwn b av rv k) : k < w.heap.size := by
  rcases hk with e | e | e
  · subst e; exact (Array.getElem?_eq_some_iff.1 h.cells).1
  · exact (h.all.lt k e).2
  · exact (h.roots.lt k e).2
theorem DocAt.cell (h : DocAt w b av rv D) : w.cell? ⟨b, 0, none⟩ = some av ∧ w.cell? ⟨b, 1, none⟩ = some rv := ⟨Lib.cell_of_heap h.cells 0, Lib.cell_of_heap h.cells 1⟩
/-- the pages' row, when there is a page -/
theorem DocAt.form (h : DocAt w b av rv D) (hl : 0 < D.all.length) : ∃ g c, av = .slice (some ⟨g, 0, none⟩) D.all.length c ∧ D.all.length ≤ c ∧ c ≤ maxLen := by
  obtain ⟨g, c, e1, e2, e3, _⟩ := row_posB h.all hl
  exact ⟨g, c, e1, e2, e3⟩
/-- a page set -/
theorem DocAt.setPage {g n c : Nat} (h : DocAt w b (.slice (some ⟨g, 0, none⟩) n c) rv D) (hn : D.all.length = n) (q : Nat) (x : Pg) :
    DocAt ((w.setCell ⟨g, q * 2, none⟩ (.bool x.taken)).setCell ⟨g, q * 2 + 1, none⟩ (.string x.text)) b (.slice (some ⟨g, 0, none⟩) n c) rv { D with all := D.all.set q x } ∧
      Keep (fun k => k = g) w ((w.setCell ⟨g, q * 2, none⟩ (.bool x.taken)).setCell ⟨g, q * 2 + 1, none⟩ (.string x.text)) := by
  have hk : Keep (fun k => k = g) w ((w.setCell ⟨g, q * 2, none⟩ (.bool x.taken)).setCell ⟨g, q * 2 + 1, none⟩ (.string x.text)) :=
    ((Keep.refl (fun k => k = g) w).setCell (p := ⟨g, q * 2, none⟩) (fun _ => rfl) _).setCell (p := ⟨g, q * 2 + 1, none⟩) (fun _ => rfl) _
  have ha := h.all
  rw [hn] at ha
  have h2 := ((ha.stored (q * 2) (.bool x.taken)).1.stored (q * 2 + 1) (.string x.text)).1
  rw [pgCells_set] at h2
  refine ⟨⟨hk.at h.cells (fun e => h.apart.1 (by rw [e]; rfl)), ?_, hk.ownsRow h.roots (fun k e1 e2 => h.apart.2.2 k (by rw [e2]; rfl) e1), h.apart⟩, hk⟩
  rw [List.length_set, hn]
  exact h2
/-- a number set -/
theorem DocAt.setRoot {g n c : Nat} (h : DocAt w b av (.slice (some ⟨g, 0, none⟩) n c) D) (hn : D.roots.length = n) (k m : Nat) :
    DocAt (w.setCell ⟨g, k, none⟩ (.int .u64 (m : Int))) b av (.slice (some ⟨g, 0, none⟩) n c) { D with roots := D.roots.set k m } ∧ Keep (fun q => q = g) w (w.setCell ⟨g, k, none⟩ (.int .u64 (m : Int))) := by
  have hk : Keep (fun q => q = g) w (w.setCell ⟨g, k, none⟩ (.int .u64 (m : Int))) := (Keep.refl (fun q => q = g) w).setCell (p := ⟨g, k, none⟩) (fun _ => rfl) _
  have ha := h.roots
  rw [hn] at ha
  have h2 := (ha.stored k (.int .u64 (m : Int))).1
  rw [rtCells_set] at h2
  refine ⟨⟨hk.at h.cells (fun e => h.apart.2.1 (by rw [e]; rfl)), hk.ownsRow h.all (fun q e1 e2 => h.apart.2.2 q e1 (by rw [e2]; rfl)), ?_, h.apart⟩, hk⟩
  rw [List.length_set, hn]
  exact h2
end
end Go.Proofs.YtalgheocjnajlaaGreatDoor

namespace Go.Proofs.YtalgheocjnajlaaGreatDoor
open Go.RowKit Go.MapKept
attribute [local go_sem] gives givesH
set_option maxRecDepth 100000

section
variable {w w' : World} {b g n c : Nat} {av rv : Value} {D : Doc}
theorem DocAt.page (h : DocAt w b (.slice (some ⟨g, 0, none⟩) n c) rv D) (hn : D.all.length = n) {q : Nat} {x : Pg} (hx : D.all[q]? = some x) :
    w.cell? ⟨g, q * 2, none⟩ = some (.bool x.taken) ∧ w.cell? ⟨g, q * 2 + 1, none⟩ = some (.string x.text) ∧ w.frozen? ⟨g, q * 2, none⟩ = false ∧ w.frozen? ⟨g, q * 2 + 1, none⟩ = false := by
  have ha := h.all
  rw [hn] at ha
  obtain ⟨h1, h2⟩ := pgCells_get D.all q x hx
  have hq : q < n := by rw [← hn]; exact (List.getElem?_eq_some_iff.1 hx).1
  exact ⟨(ha.cellAt _ (by omega)).trans h1, (ha.cellAt _ (by omega)).trans h2, ha.frozenAt _, ha.frozenAt _⟩
theorem Doc.at (D : Doc) {q : Nat} (hq : q < D.all.length) : ∃ x, D.all[q]? = some x ∧ D.all.getD q ⟨false, ⟨#[]⟩⟩ = x := by
  refine ⟨D.all[q], List.getElem?_eq_getElem hq, ?_⟩
  rw [List.getD_eq_getElem?_getD, List.getElem?_eq_getElem hq]
  rfl
theorem Doc.err_in (D : Doc) {q : Nat} {x : Pg} (hx : D.all[q]? = some x) : D.err q = if x.taken then 0 else 6 := by
  have hq := (List.getElem?_eq_some_iff.1 hx).1
  unfold Doc.err
  rw [if_pos (by omega), Int.toNat_natCast, List.getD_eq_getElem?_getD, hx]
  rfl
theorem Doc.err_out (D : Doc) {i : Int} (hi : ¬ (0 ≤ i ∧ i < D.all.length)) : D.err i = 2 := if_neg hi

theorem ref7At_any (h : DocAt w b av rv D) (hl : 0 < D.all.length) (i : Int) :
    Calls Tryz.prog 69 #[.pointer (some ⟨b, 0, none⟩), .int .i64 i] w fun e w' => e = .returned (.int .i64 (D.err i)) ∧ w = w' := by
  obtain ⟨g, c, hav, _, _⟩ := h.form hl
  obtain ⟨n, hn⟩ : ∃ n, D.all.length = n := ⟨_, rfl⟩
  rw [hn] at hav
  subst hav
  obtain ⟨k0, k1⟩ := h.cell
  by_cases c1 : i < 0
  · have d1 : decide (i < 0) = true := by simpa using c1
    rw [D.err_out (by omega)]
    clear h
    go_enter Tryz.func69, Tryz.ntmps69
    go_wp2
    go_ret
    exact ⟨rfl, rfl⟩
  have d1 : decide (i < 0) = false := by simpa using c1
  by_cases c2 : (n : Int) ≤ i
  · have d2 : decide ((n : Int) ≤ i) = true := by simpa using c2
    rw [D.err_out (by omega)]
    clear h
    go_enter Tryz.func69, Tryz.ntmps69
    go_wp2
    go_ret
    exact ⟨rfl, rfl⟩
  have d2 : decide ((n : Int) ≤ i) = false := by simpa using c2
  obtain ⟨q, rfl⟩ : ∃ q : Nat, i = q := ⟨i.toNat, by omega⟩
  obtain ⟨x, hx, _⟩ := D.at (q := q) (by omega)
  obtain ⟨p0, p1, _, _⟩ := h.page hn hx
  rw [D.err_in hx]
  have j0 : (0 : Int) ≤ (q : Int) := by omega
  have j1 : (q : Int) < (n : Int) := by omega
  obtain ⟨tk, tx⟩ := x
  clear h
  cases tk with
  | true =>
    go_enter Tryz.func69, Tryz.ntmps69
    go_wp2
    go_ret
    exact ⟨rfl, rfl⟩
  | false =>
    go_enter Tryz.func69, Tryz.ntmps69
    go_wp2
    go_ret
    exact ⟨rfl, rfl⟩
def Doc.hasAt (D : Doc) (i : Int) : Bool := decide (0 ≤ i ∧ i < D.all.length) && (D.all.getD i.toNat ⟨false, ⟨#[]⟩⟩).taken
def Doc.hasErr (D : Doc) (i : Int) : Int := if 0 ≤ i ∧ i < D.all.length then 0 else 2
theorem ref7Has_any (h : DocAt w b av rv D) (hl : 0 < D.all.length) (i : Int) :
    Calls Tryz.prog 42 #[.pointer (some ⟨b, 0, none⟩), .int .i64 i] w fun e w' => e = .returned (.tuple #[.bool (D.hasAt i), .int .i64 (D.hasErr i)]) ∧ w = w' := by
  obtain ⟨g, c, hav, _, _⟩ := h.form hl
  obtain ⟨n, hn⟩ : ∃ n, D.all.length = n := ⟨_, rfl⟩
  rw [hn] at hav
  subst hav
  obtain ⟨k0, k1⟩ := h.cell
  by_cases c1 : i < 0
  · have d1 : decide (i < 0) = true := by simpa using c1
    have e1 : D.hasAt i = false := by unfold Doc.hasAt; rw [show decide (0 ≤ i ∧ i < (D.all.length : Int)) = false from decide_eq_false (by omega)]; rfl
    have e2 : D.hasErr i = 2 := if_neg (by omega)
    rw [e1, e2]
    clear h
    go_enter Tryz.func42, Tryz.ntmps42
    go_wp2
    go_ret2
    exact ⟨rfl, rfl⟩
  have d1 : decide (i < 0) = false := by simpa using c1
  by_cases c2 : (n : Int) ≤ i
  · have d2 : decide ((n : Int) ≤ i) = true := by simpa using c2
    have e1 : D.hasAt i = false := by unfold Doc.hasAt; rw [show decide (0 ≤ i ∧ i < (D.all.length : Int)) = false from decide_eq_false (by omega)]; rfl
    have e2 : D.hasErr i = 2 := if_neg (by omega)
    rw [e1, e2]
    clear h
    go_enter Tryz.func42, Tryz.ntmps42
    go_wp2
    go_ret2
    exact ⟨rfl, rfl⟩
  have d2 : decide ((n : Int) ≤ i) = false := by simpa using c2
  obtain ⟨q, rfl⟩ : ∃ q : Nat, i = q := ⟨i.toNat, by omega⟩
  obtain ⟨x, hx, hg⟩ := D.at (q := q) (by omega)
  obtain ⟨p0, p1, _, _⟩ := h.page hn hx
  have e1 : D.hasAt q = x.taken := by unfold Doc.hasAt; rw [show decide (0 ≤ (q : Int) ∧ (q : Int) < (D.all.length : Int)) = true from decide_eq_true (by omega), Int.toNat_natCast, hg]; rfl
  have e2 : D.hasErr q = 0 := if_pos (by omega)
  rw [e1, e2]
  have j0 : (0 : Int) ≤ (q : Int) := by omega
  have j1 : (q : Int) < (n : Int) := by omega
  clear h
  go_enter Tryz.func42, Tryz.ntmps42
  go_wp2
  go_ret2
  exact ⟨rfl, rfl⟩
theorem ref7Read_bad (h : DocAt w b av rv D) (hl : 0 < D.all.length) (i : Int) (he : D.err i ≠ 0) :
    Calls Tryz.prog 40 #[.pointer (some ⟨b, 0, none⟩), .int .i64 i] w fun e w' => e = .returned (.tuple #[.string ⟨#[]⟩, .int .i64 (D.err i)]) ∧ w = w' := by
  have H1 := Lib.hid (ref7At_any h hl i)
  generalize D.err i = z at *
  have e1 : (z != 0) = true := by simpa using he
  clear h
  go_enter Tryz.func40, Tryz.ntmps40
  go_wp2_with (go_at_call 69; refine (H1.out).mono ?_; rintro e w1 ⟨rfl, rfl⟩)
  go_ret2
  exact ⟨rfl, rfl⟩
theorem ref7Read_ok (h : DocAt w b av rv D) (hl : 0 < D.all.length) {q : Nat} {s : ByteArray} (hx : D.all[q]? = some ⟨true, s⟩) :
    Calls Tryz.prog 40 #[.pointer (some ⟨b, 0, none⟩), .int .i64 q] w fun e w' => e = .returned (.tuple #[.string s, .int .i64 0]) ∧ w = w' := by
  have H1 := Lib.hid (ref7At_any h hl q)
  rw [D.err_in hx, if_pos rfl] at H1
  obtain ⟨g, c, hav, _, _⟩ := h.form hl
  obtain ⟨n, hn⟩ : ∃ n, D.all.length = n := ⟨_, rfl⟩
  rw [hn] at hav
  subst hav
  obtain ⟨k0, k1⟩ := h.cell
  obtain ⟨p0, p1, _, _⟩ := h.page hn hx
  simp only at p0 p1
  have hq := (List.getElem?_eq_some_iff.1 hx).1
  have j0 : (0 : Int) ≤ (q : Int) := by omega
  have j1 : (q : Int) < (n : Int) := by omega
  clear h
  go_enter Tryz.func40, Tryz.ntmps40
  go_wp2_with (go_at_call 69; refine (H1.out).mono ?_; rintro e w1 ⟨rfl, rfl⟩)
  go_ret2
  exact ⟨rfl, rfl⟩
theorem ref7Free_bad (h : DocAt w b av rv D) (hl : 0 < D.all.length) (i : Int) (he : D.err i ≠ 0) :
    Calls Tryz.prog 36 #[.pointer (some ⟨b, 0, none⟩), .int .i64 i] w fun e w' => e = .returned (.int .i64 (D.err i)) ∧ w = w' := by
  have H1 := Lib.hid (ref7At_any h hl i)
  generalize D.err i = z at *
  have e1 : (z == 0) = false := by simpa using he
  clear h
  go_enter Tryz.func36, Tryz.ntmps36
  go_wp2_with (go_at_call 69; refine (H1.out).mono ?_; rintro e w1 ⟨rfl, rfl⟩)
  go_ret
  exact ⟨rfl, rfl⟩
theorem ref7Free_ok (h : DocAt w b av rv D) (hl : 0 < D.all.length) {q : Nat} {s : ByteArray} (hx : D.all[q]? = some ⟨true, s⟩) :
    Calls Tryz.prog 36 #[.pointer (some ⟨b, 0, none⟩), .int .i64 q] w fun e w' => e = .returned (.int .i64 0) ∧ DocAt w' b av rv { D with all := D.all.set q ⟨false, ⟨#[]⟩⟩ } ∧ Keep (fun k => av.ownBlock = some k) w w' := by
  have H1 := Lib.hid (ref7At_any h hl q)
  rw [D.err_in hx, if_pos rfl] at H1
  obtain ⟨g, c, hav, _, _⟩ := h.form hl
  obtain ⟨n, hn⟩ : ∃ n, D.all.length = n := ⟨_, rfl⟩
  rw [hn] at hav
  subst hav
  obtain ⟨k0, k1⟩ := h.cell
  obtain ⟨p0, p1, f0, f1⟩ := h.page hn hx
  simp only at p0 p1
  have hq := (List.getElem?_eq_some_iff.1 hx).1
  have j0 : (0 : Int) ≤ (q : Int) := by omega
  have j1 : (q : Int) < (n : Int) := by omega
  have HE := Lib.hid (h.setPage hn q ⟨false, ⟨#[]⟩⟩)
  clear h
  go_enter Tryz.func36, Tryz.ntmps36
  go_wp2_with (go_at_call 69; refine (H1.out).mono ?_; rintro e w1 ⟨rfl, rfl⟩)
  go_ret
  exact ⟨rfl, HE.out.1, HE.out.2.mono (fun k _ e => by rw [e]; rfl)⟩
end
end Go.Proofs.YtalgheocjnajlaaGreatDoor

namespace Go.Proofs.YtalgheocjnajlaaGreatDoor
open Go.RowKit Go.MapKept
attribute [local go_sem] gives givesH
set_option maxRecDepth 100000

section
variable {w w' : World} {b g n c : Nat} {av rv : Value} {D : Doc}
theorem ref7Used_any (h : DocAt w b av rv D) (hl : 0 < D.all.length) (h63 : D.all.length ≤ 1000000) :
    Calls Tryz.prog 75 #[.pointer (some ⟨b, 0, none⟩)] w fun e w' => e = .returned (.int .i64 (D.used D.all.length)) ∧ w = w' := by
  obtain ⟨g, c, hav, _, _⟩ := h.form hl
  obtain ⟨n, hn⟩ : ∃ n, D.all.length = n := ⟨_, rfl⟩
  have HN := Lib.hid hn
  rw [hn] at hav h63 ⊢
  subst hav
  obtain ⟨k0, k1⟩ := h.cell
  have HP := Lib.hid (fun q (hq : q < n) => (by
    obtain ⟨x, hx, hg⟩ := D.at (q := q) (by omega)
    exact ⟨x.taken, (h.page hn hx).1, by rw [hg]⟩ : ∃ t, w.cell? ⟨g, q * 2, none⟩ = some (.bool t) ∧ (D.all.getD q ⟨false, ⟨#[]⟩⟩).taken = t))
  clear h hn
  go_enter Tryz.func75, Tryz.ntmps75
  go_wp2
  go_loop [3, 4] (fun m i => ∃ q : Nat, q ≤ n ∧ i = .int .i64 q ∧ m = .int .i64 (D.used q)) (fun _ i => n - (intOf i).toNat)
  case atStart => exact ⟨0, by omega, rfl, rfl⟩
  case round =>
    obtain ⟨q, hq, rfl, rfl⟩ := hrel
    by_cases hlt : q < n
    · have e1 : decide ((q : Int) < (n : Int)) = true := by simp; omega
      have e1' : decide (q < n) = true := by simpa using hlt
      obtain ⟨t, p0, ht⟩ := HP.out q hlt
      have j0 : (0 : Int) ≤ (q : Int) := by omega
      have j1 : (q : Int) < (n : Int) := by omega
      have hc : D.used q ≤ q := cnt_le _ _
      have hs : D.used (q + 1) = D.used q + (if t then 1 else 0) := by unfold Doc.used; rw [cnt_succ, ht]
      obtain ⟨u, hu⟩ : ∃ u, D.used q = u := ⟨_, rfl⟩
      rw [hu] at hc hs ⊢
      have HS := Lib.hid hs
      clear hs hu ht
      cases t with
      | true =>
        go_wp2
        go_round
        case rel => exact ⟨q + 1, by omega, by go_num, by rw [HS.out]; go_num⟩
        case measure => simp [intOf]; omega
      | false =>
        go_wp2
        go_round
        case rel => exact ⟨q + 1, by omega, by go_num, by rw [HS.out]; rfl⟩
        case measure => simp [intOf]; omega
    · obtain rfl : q = n := by omega
      have e1 : decide ((q : Int) < (q : Int)) = false := by simp
      have e1' : decide (q < q) = false := by simp
      go_wp2
      go_ret
      exact ⟨rfl, rfl⟩
theorem ref7Write_bad (h : DocAt w b av rv D) (hl : 0 < D.all.length) (i : Int) (s : ByteArray) (he : D.err i ≠ 0) :
    Calls Tryz.prog 38 #[.pointer (some ⟨b, 0, none⟩), .int .i64 i, .string s] w fun e w' => e = .returned (.int .i64 (D.err i)) ∧ w = w' := by
  have H1 := Lib.hid (ref7At_any h hl i)
  generalize D.err i = z at *
  have e1 : (z != 0) = true := by simpa using he
  clear h
  go_enter Tryz.func38, Tryz.ntmps38
  go_wp2_with (go_at_call 69; refine (H1.out).mono ?_; rintro e w1 ⟨rfl, rfl⟩)
  go_ret
  exact ⟨rfl, rfl⟩
theorem ref7Write_long (h : DocAt w b av rv D) (hl : 0 < D.all.length) (i : Int) (s : ByteArray) (he : D.err i = 0) (hs : 512 < s.size) :
    Calls Tryz.prog 38 #[.pointer (some ⟨b, 0, none⟩), .int .i64 i, .string s] w fun e w' => e = .returned (.int .i64 5) ∧ w = w' := by
  have H1 := Lib.hid (ref7At_any h hl i)
  rw [he] at H1
  have e1 : decide ((512 : Int) < (s.size : Int)) = true := by simp; omega
  have e1' : decide (512 < s.size) = true := by simpa using hs
  clear h he
  go_enter Tryz.func38, Tryz.ntmps38
  go_wp2_with (go_at_call 69; refine (H1.out).mono ?_; rintro e w1 ⟨rfl, rfl⟩)
  go_ret
  exact ⟨rfl, rfl⟩
set_option maxHeartbeats 1000000 in
theorem ref7Write_ok (h : DocAt w b av rv D) (hl : 0 < D.all.length) {q : Nat} {s0 : ByteArray} (hx : D.all[q]? = some ⟨true, s0⟩) (s : ByteArray) (hs : s.size ≤ 512) :
    Calls Tryz.prog 38 #[.pointer (some ⟨b, 0, none⟩), .int .i64 q, .string s] w fun e w' => e = .returned (.int .i64 0) ∧ DocAt w' b av rv { D with all := D.all.set q ⟨true, fullS s⟩ } ∧ Keep (fun k => av.ownBlock = some k) w w' := by
  have H1 := Lib.hid (ref7At_any h hl q)
  rw [D.err_in hx, if_pos rfl] at H1
  have e1 : decide ((512 : Int) < (s.size : Int)) = false := by simp; omega
  have e1' : decide (512 < s.size) = false := by simpa using hs
  have HF := Lib.hid (fun u => ref4Full_any s hs u)
  obtain ⟨g, c, hav, _, _⟩ := h.form hl
  obtain ⟨n, hn⟩ : ∃ n, D.all.length = n := ⟨_, rfl⟩
  have HN := Lib.hid hn
  rw [hn] at hav
  subst hav
  have hq := (List.getElem?_eq_some_iff.1 hx).1
  have j0 : (0 : Int) ≤ (q : Int) := by omega
  have j1 : (q : Int) < (n : Int) := by omega
  have H := Lib.hid h
  have HX := Lib.hid hx
  clear h hn hx
  go_enter Tryz.func38, Tryz.ntmps38
  go_wp2_with (go_at_call 69; refine (H1.out).mono ?_; rintro e w1 ⟨rfl, rfl⟩)
  obtain ⟨S, hS⟩ : ∃ S : World → Prop, ∀ u, S u ↔ Keep (fun _ => False) (w) u := ⟨fun u => Keep (fun _ => False) (w) u, fun _ => Iff.rfl⟩
  have HS := Lib.hid hS
  clear hS
  refine wp_region_ord 8 [(0, true), (1, true), (2, true), (3, true), (4, true), (5, true), (6, false), (7, true)] S (by kernel_rfl) (by kernel_rfl) ((HS.out _).2 (Keep.refl _ _).drew) ?_
  iterate 6
    first
      | (refine wpH_passed rfl (by rfl) (fun K hK => ?_); go_simp; refine hK _ ?_; clear hK K)
      | (first
           | refine wpH_read rfl rfl (fun K hK => ?_)
           | refine wpH_readw rfl (by rfl) (fun K hK => ?_)
         apply Exists.intro
         refine ⟨fun u hu => ?_, ?_⟩
         · have hu := (HS.out u).1 hu
           obtain ⟨k0, k1⟩ := (H.out.keep hu (fun _ _ e => e)).cell
           clear hu
           go_simp
           exact ⟨rfl, rfl⟩
         go_simp
         refine hK _ ?_
         clear hK K)
  refine wpH_do rfl rfl (fun K hK => ?_)
  go_simp
  go_at_call 26
  refine (HF.out _).mono ?_
  rintro e u5 ⟨rfl, hb5⟩
  have k5 : Keep (fun _ => False) w u5 := (Keep.refl _ _).drew.trans (Keep.ofBelow (S := fun _ => False) hb5) (fun _ _ h => h)
  refine hK _ _ ((HS.out _).2 k5) ?_
  clear hK K
  iterate 1
    first
      | (refine wpH_passed rfl (by rfl) (fun K hK => ?_); go_simp; refine hK _ ?_; clear hK K)
      | (first
           | refine wpH_read rfl rfl (fun K hK => ?_)
           | refine wpH_readw rfl (by rfl) (fun K hK => ?_)
         apply Exists.intro
         refine ⟨fun u hu => ?_, ?_⟩
         · have hu := (HS.out u).1 hu
           obtain ⟨k0, k1⟩ := (H.out.keep hu (fun _ _ e => e)).cell
           clear hu
           go_simp
           exact ⟨rfl, rfl⟩
         go_simp
         refine hK _ ?_
         clear hK K)
  refine wpH_nil ?_
  simp only [List.drop_succ_cons, List.drop_zero]
  have h5 := H.out.keep k5 (fun _ _ e => e)
  obtain ⟨p0, p1, f0, f1⟩ := h5.page HN.out HX.out
  try simp only at p0 p1
  have HE := Lib.hid (h5.setPage HN.out q ⟨true, fullS s⟩)
  have HK5 := Lib.hid k5
  clear k5 hb5 h5 S HS
  go_wp2
  go_ret
  exact ⟨rfl, HE.out.1, (HK5.out.mono (fun k _ e => e.elim)).trans HE.out.2 (fun k _ e => by rw [e]; rfl)⟩
theorem ref7Alloc_full (h : DocAt w b av rv D) (hl : 0 < D.all.length) (h63 : D.all.length ≤ 1000000) (ha : ∀ (q : Nat) (x : Pg), D.all[q]? = some x → x.taken = true) :
    Calls Tryz.prog 34 #[.pointer (some ⟨b, 0, none⟩)] w fun e w' => e = .returned (.tuple #[.int .i64 0, .int .i64 4]) ∧ w = w' := by
  obtain ⟨g, c, hav, _, _⟩ := h.form hl
  obtain ⟨n, hn⟩ : ∃ n, D.all.length = n := ⟨_, rfl⟩
  rw [hn] at hav h63
  subst hav
  obtain ⟨k0, k1⟩ := h.cell
  have HP := Lib.hid (fun q (hq : q < n) => (by
    obtain ⟨x, hx, hg⟩ := D.at (q := q) (by omega)
    rw [← ha q x hx]
    exact (h.page hn hx).1 : w.cell? ⟨g, q * 2, none⟩ = some (.bool true)))
  clear h hn ha
  go_enter Tryz.func34, Tryz.ntmps34
  go_wp2
  go_loop [4] (fun i => ∃ q : Nat, q ≤ n ∧ i = .int .i64 q) (fun i => n - (intOf i).toNat)
  case atStart => exact ⟨0, by omega, rfl⟩
  case round =>
    obtain ⟨q, hq, rfl⟩ := hrel
    by_cases hlt : q < n
    · have e1 : decide ((q : Int) < (n : Int)) = true := by simp; omega
      have e1' : decide (q < n) = true := by simpa using hlt
      have p0 := HP.out q hlt
      have j0 : (0 : Int) ≤ (q : Int) := by omega
      have j1 : (q : Int) < (n : Int) := by omega
      go_wp2
      go_round
      case rel => exact ⟨q + 1, by omega, by go_num⟩
      case measure => simp [intOf]; omega
    · obtain rfl : q = n := by omega
      have e1 : decide ((q : Int) < (q : Int)) = false := by simp
      have e1' : decide (q < q) = false := by simp
      go_wp2
      go_ret2
      exact ⟨rfl, rfl⟩
set_option maxHeartbeats 1000000 in
theorem ref7Alloc_ok (h : DocAt w b av rv D) (h63 : D.all.length ≤ 1000000) {p : Nat} {s0 : ByteArray} (hx : D.all[p]? = some ⟨false, s0⟩) (ha : ∀ (q : Nat) (x : Pg), q < p → D.all[q]? = some x → x.taken = true) :
    Calls Tryz.prog 34 #[.pointer (some ⟨b, 0, none⟩)] w fun e w' => e = .returned (.tuple #[.int .i64 p, .int .i64 0]) ∧ DocAt w' b av rv { D with all := D.all.set p ⟨true, fullS ⟨#[]⟩⟩ } ∧ Keep (fun k => av.ownBlock = some k) w w' := by
  have hp := (List.getElem?_eq_some_iff.1 hx).1
  have HF := Lib.hid (fun u => ref4Full_any ⟨#[]⟩ (by decide) u)
  obtain ⟨g, c, hav, _, _⟩ := h.form (by omega)
  obtain ⟨n, hn⟩ : ∃ n, D.all.length = n := ⟨_, rfl⟩
  have HN := Lib.hid hn
  rw [hn] at hav h63 hp
  subst hav
  obtain ⟨k0, k1⟩ := h.cell
  have HP := Lib.hid (fun q (hq : q < p) => (by
    obtain ⟨x, hx, hg⟩ := D.at (q := q) (by omega)
    rw [← ha q x hq hx]
    exact (h.page hn hx).1 : w.cell? ⟨g, q * 2, none⟩ = some (.bool true)))
  have HP0 := Lib.hid (h.page hn hx).1
  have H := Lib.hid h
  have HX := Lib.hid hx
  clear h hn ha hx
  go_enter Tryz.func34, Tryz.ntmps34
  go_wp2
  go_loop [4] (fun i => ∃ q : Nat, q ≤ p ∧ i = .int .i64 q) (fun i => p - (intOf i).toNat)
  case atStart => exact ⟨0, by omega, rfl⟩
  case round =>
    obtain ⟨q, hq, rfl⟩ := hrel
    have e1 : decide ((q : Int) < (n : Int)) = true := by simp; omega
    have e1' : decide (q < n) = true := by simp; omega
    have j0 : (0 : Int) ≤ (q : Int) := by omega
    have j1 : (q : Int) < (n : Int) := by omega
    by_cases hlt : q < p
    · have p0 := HP.out q hlt
      go_wp2
      go_round
      case rel => exact ⟨q + 1, by omega, by go_num⟩
      case measure => simp [intOf]; omega
    · obtain rfl : q = p := by omega
      have p0 := HP0.out
      try simp only at p0
      go_wp2_with (fail)
      obtain ⟨S, hS⟩ : ∃ S : World → Prop, ∀ u, S u ↔ Keep (fun _ => False) (w) u := ⟨fun u => Keep (fun _ => False) (w) u, fun _ => Iff.rfl⟩
      have HS := Lib.hid hS
      clear hS
      refine wp_region_ord 7 [(0, true), (1, true), (2, true), (3, true), (4, true), (5, false), (6, true)] S (by kernel_rfl) (by kernel_rfl) ((HS.out _).2 (Keep.refl _ _).drew) ?_
      iterate 5
        first
          | (refine wpH_passed rfl (by rfl) (fun K hK => ?_); go_simp; refine hK _ ?_; clear hK K)
          | (first
               | refine wpH_read rfl rfl (fun K hK => ?_)
               | refine wpH_readw rfl (by rfl) (fun K hK => ?_)
             apply Exists.intro
             refine ⟨fun u hu => ?_, ?_⟩
             · have hu := (HS.out u).1 hu
               obtain ⟨k0, k1⟩ := (H.out.keep hu (fun _ _ e => e)).cell
               clear hu
               go_simp
               exact ⟨rfl, rfl⟩
             go_simp
             refine hK _ ?_
             clear hK K)
      refine wpH_do rfl rfl (fun K hK => ?_)
      go_simp
      go_at_call 26
      refine (HF.out _).mono ?_
      rintro e u5 ⟨rfl, hb5⟩
      have k5 : Keep (fun _ => False) w u5 := (Keep.refl _ _).drew.trans (Keep.ofBelow (S := fun _ => False) hb5) (fun _ _ h => h)
      refine hK _ _ ((HS.out _).2 k5) ?_
      clear hK K
      iterate 1
        first
          | (refine wpH_passed rfl (by rfl) (fun K hK => ?_); go_simp; refine hK _ ?_; clear hK K)
          | (first
               | refine wpH_read rfl rfl (fun K hK => ?_)
               | refine wpH_readw rfl (by rfl) (fun K hK => ?_)
             apply Exists.intro
             refine ⟨fun u hu => ?_, ?_⟩
             · have hu := (HS.out u).1 hu
               obtain ⟨k0, k1⟩ := (H.out.keep hu (fun _ _ e => e)).cell
               clear hu
               go_simp
               exact ⟨rfl, rfl⟩
             go_simp
             refine hK _ ?_
             clear hK K)
      refine wpH_nil ?_
      simp only [List.drop_succ_cons, List.drop_zero]
      have h5 := H.out.keep k5 (fun _ _ e => e)
      obtain ⟨p0, p1, f0, f1⟩ := h5.page HN.out HX.out
      try simp only at p0 p1
      have HE := Lib.hid (h5.setPage HN.out q ⟨true, fullS ⟨#[]⟩⟩)
      have HK5 := Lib.hid k5
      clear k5 hb5 h5 S HS
      go_wp2
      go_ret2
      exact ⟨rfl, HE.out.1, (HK5.out.mono (fun k _ e => e.elim)).trans HE.out.2 (fun k _ e => by rw [e]; rfl)⟩
end
end Go.Proofs.YtalgheocjnajlaaGreatDoor

namespace Go.Proofs.YtalgheocjnajlaaGreatDoor
section
variable {P : Program} {ops : Array Oper} {md : Region.Mode} {S : World → Prop}

/-- an order of one's choice, with forks -/
inductive Way where
  | fin
  | read (k : Nat) (r : Way)
  | one (k : Nat) (r : Way)
  | two (k1 : Nat) (r1 : Way) (k2 : Nat) (r2 : Way)
def Way.len : Way → Nat
  | .fin => 0
  | .read _ r => r.len + 1
  | .one _ r => r.len + 1
  | .two _ r1 _ _ => r1.len + 1
def wayB (md : Region.Mode) (ops : Array Oper) (n g : Nat) : Way → Array Bool → Bool
  | .fin, listed => Region.seqB md ops g n listed
  | .read k r, listed => decide (k < n) && ((Region.ready md ops listed).contains k && Region.free md ops listed k) && wayB md ops n g r (listed.setIfInBounds k true)
  | .one k r, listed => decide (k < n) && decide (Region.ready md ops listed = [k]) && wayB md ops n g r (listed.setIfInBounds k true)
  | .two k1 r1 k2 r2, listed => (decide (k1 < n) && decide (k2 < n) && decide (r1.len = r2.len) && decide (Region.ready md ops listed = [k1, k2])) && (wayB md ops n g r1 (listed.setIfInBounds k1 true) && wayB md ops n g r2 (listed.setIfInBounds k2 true))
/-- operation k as it stands -/
def wpDo (P : Program) (ops : Array Oper) (S : World → Prop) (l : List Oper) (k : Nat) (K : Act → World → Prop) (a : Act) (w : World) : Prop :=
  match l[k]? with
  | none => False
  | some o => if Region.wanted o (yielded ops a.tmps) then o.wp P a w (fun a' w' => S w' ∧ K a' w') NoWay else K (a.put o.dst undef) w
def wpW (P : Program) (ops : Array Oper) (S : World → Prop) (l : List Oper) (Lq : Act → World → Prop) : Way → Act → World → Prop
  | .fin, a, w => Lq a w
  | .read k r, a, w =>
    match l[k]? with
    | none => False
    | some o => if Region.wanted o (yielded ops a.tmps) then ∃ v, HeldV P o a S v ∧ wpW P ops S l Lq r (a.put o.dst v) w else wpW P ops S l Lq r (a.put o.dst undef) w
  | .one k r, a, w => wpDo P ops S l k (wpW P ops S l Lq r) a w
  | .two k1 r1 k2 r2, a, w => wpDo P ops S l k1 (wpW P ops S l Lq r1) a w ∧ wpDo P ops S l k2 (wpW P ops S l Lq r2) a w

theorem wpW_read {l : List Oper} {Lq : Act → World → Prop} {k : Nat} {r : Way} {a : Act} {w : World} {o : Oper} (hk : l[k]? = some o) (hw : Region.wanted o (yielded ops a.tmps) = true)
    (h : ∀ K : Act → Prop, (∀ a, wpW P ops S l Lq r a w → K a) → ∃ v, HeldV P o a S v ∧ K (a.put o.dst v)) : wpW P ops S l Lq (.read k r) a w := by
  unfold wpW
  simp only [hk, hw, if_true]
  exact h _ (fun _ h => h)
theorem wpW_passed {l : List Oper} {Lq : Act → World → Prop} {k : Nat} {r : Way} {a : Act} {w : World} {o : Oper} (hk : l[k]? = some o) (hw : Region.wanted o (yielded ops a.tmps) = false)
    (h : ∀ K : Act → Prop, (∀ a, wpW P ops S l Lq r a w → K a) → K (a.put o.dst undef)) : wpW P ops S l Lq (.read k r) a w := by
  unfold wpW
  simp only [hk, hw, Bool.false_eq_true, if_false]
  exact h _ (fun _ h => h)
theorem wpDo_do {l : List Oper} {k : Nat} {K0 : Act → World → Prop} {a : Act} {w : World} {o : Oper} (hk : l[k]? = some o) (hw : Region.wanted o (yielded ops a.tmps) = true)
    (h : ∀ K : Act → World → Prop, (∀ a w, S w → K0 a w → K a w) → o.wp P a w K NoWay) : wpDo P ops S l k K0 a w := by
  unfold wpDo
  simp only [hk, hw, if_true]
  exact h _ (fun _ _ h1 h2 => ⟨h1, h2⟩)
theorem wpDo_passed {l : List Oper} {k : Nat} {K0 : Act → World → Prop} {a : Act} {w : World} {o : Oper} (hk : l[k]? = some o) (hw : Region.wanted o (yielded ops a.tmps) = false)
    (h : ∀ K : Act → Prop, (∀ a, K0 a w → K a) → K (a.put o.dst undef)) : wpDo P ops S l k K0 a w := by
  unfold wpDo
  simp only [hk, hw, Bool.false_eq_true, if_false]
  exact h _ (fun _ h => h)
theorem wpW_one {l : List Oper} {Lq : Act → World → Prop} {k : Nat} {r : Way} {a : Act} {w : World} (h : wpDo P ops S l k (wpW P ops S l Lq r) a w) : wpW P ops S l Lq (.one k r) a w := h
theorem wpW_two {l : List Oper} {Lq : Act → World → Prop} {k1 k2 : Nat} {r1 r2 : Way} {a : Act} {w : World} (h1 : wpDo P ops S l k1 (wpW P ops S l Lq r1) a w) (h2 : wpDo P ops S l k2 (wpW P ops S l Lq r2) a w) : wpW P ops S l Lq (.two k1 r1 k2 r2) a w := ⟨h1, h2⟩
theorem wpW_fin {l : List Oper} {Lq : Act → World → Prop} {a : Act} {w : World} (h : Lq a w) : wpW P ops S l Lq .fin a w := h

theorem opW_of_wpDo {l : List Oper} (hl : ops = l.toArray) {k : Nat} {K0 K1 : Act → World → Prop} {a : Act} {w : World} (hS : S w) (h : wpDo P ops S l k K0 a w) (hK : ∀ a w, S w → K0 a w → K1 a w) : opW P ops k (fun a' w' => S w' ∧ K1 a' w') a w := by
  have hlk : l[k]? = ops[k]? := by rw [hl]; simp
  unfold wpDo at h
  rw [hlk] at h
  unfold opW
  cases ho : ops[k]? with
  | none => rw [ho] at h; exact h.elim
  | some o =>
    rw [ho] at h
    simp only at h ⊢
    by_cases hw : Region.wanted o (yielded ops a.tmps) = true
    · simp only [hw, if_true] at h ⊢
      exact Oper.wp_mono (fun a' w' h' => ⟨h'.1, hK a' w' h'.1 h'.2⟩) h
    · simp only [hw] at h ⊢
      exact ⟨hS, hK _ _ hS h⟩
theorem wpZ_of_wpW {n g : Nat} {l : List Oper} {Lq : Act → World → Prop} (hl : ops = l.toArray) (hsel : Region.noSelect ops = true) (hs : Region.sinkB md ops n = true) (hc : Region.chainB md ops n = true) (hn : n < ops.size) :
    ∀ (r : Way) (listed : Array Bool) (a : Act) (w : World), HeadInv md ops n listed → wayB md ops n g r listed = true → S w → wpW P ops S l Lq r a w →
    wpZ P md ops S n (fun listed' a' w' => Region.seqB md ops g n listed' = true ∧ Lq a' w') r.len listed a w
  | .fin, listed, a, w, _, hB, _, h => ⟨by simpa [wayB] using hB, h⟩
  | .read k r, listed, a, w, inv, hB, hS, h => by
    simp only [wayB, Bool.and_eq_true, decide_eq_true_eq] at hB
    obtain ⟨⟨hkn, hp1, hp2⟩, hB'⟩ := hB
    have hlk : l[k]? = ops[k]? := by rw [hl]; simp
    unfold wpW at h
    rw [hlk] at h
    cases ho : ops[k]? with
    | none => rw [ho] at h; exact h.elim
    | some o =>
      rw [ho] at h
      simp only at h
      have hr : k ∈ Region.ready md ops listed := by simpa using hp1
      have hfree := Region.free_spec ho hp2
      have fin : ∀ v, YieldsIf P ops S o v a → wpW P ops S l Lq r (a.put o.dst v) w → wpZ P md ops S n (fun listed' a' w' => Region.seqB md ops g n listed' = true ∧ Lq a' w') (r.len + 1) listed a w := fun v hy hK =>
        wpZ_first ho (Region.noSelect_spec hsel) hs hc hn hkn (fun listed' a' w' hL => seqB_ready hL.1) r.len listed a w inv hfree hr hy hS
          (wpZ_of_wpW hl hsel hs hc hn r _ _ w (inv.set hr hkn) hB' hS hK)
      by_cases hw : Region.wanted o (yielded ops a.tmps) = true
      · simp only [hw, if_true] at h
        obtain ⟨v, hv, hK⟩ := h
        exact fin v (.inl ⟨hw, hv.run⟩) hK
      · simp only [hw] at h
        exact fin undef (.inr ⟨by simpa using hw, rfl⟩) h
  | .one k r, listed, a, w, inv, hB, hS, h => by
    simp only [wayB, Bool.and_eq_true, decide_eq_true_eq] at hB
    obtain ⟨⟨hkn, hp⟩, hB'⟩ := hB
    have hr : k ∈ Region.ready md ops listed := by rw [hp]; simp
    refine ⟨fun h0 => (by rw [hp] at h0; cases h0), fun j hj => ?_⟩
    rw [hp] at hj
    obtain rfl : j = k := by simpa using hj
    exact ⟨hkn, opW_of_wpDo hl hS h (fun a' w' hS' h' => wpZ_of_wpW hl hsel hs hc hn r _ a' w' (inv.set hr hkn) hB' hS' h')⟩
  | .two k1 r1 k2 r2, listed, a, w, inv, hB, hS, h => by
    simp only [wayB, Bool.and_eq_true, decide_eq_true_eq] at hB
    obtain ⟨⟨⟨⟨hk1, hk2⟩, hlen⟩, hp⟩, hB1, hB2⟩ := hB
    have hr1 : k1 ∈ Region.ready md ops listed := by rw [hp]; simp
    have hr2 : k2 ∈ Region.ready md ops listed := by rw [hp]; simp
    refine ⟨fun h0 => (by rw [hp] at h0; cases h0), fun j hj => ?_⟩
    rw [hp] at hj
    have hj2 : j = k1 ∨ j = k2 := by simpa using hj
    rcases hj2 with rfl | rfl
    · exact ⟨hk1, opW_of_wpDo hl hS h.1 (fun a' w' hS' h' => wpZ_of_wpW hl hsel hs hc hn r1 _ a' w' (inv.set hr1 hk1) hB1 hS' h')⟩
    · refine ⟨hk2, opW_of_wpDo hl hS h.2 (fun a' w' hS' h' => ?_)⟩
      have := wpZ_of_wpW hl hsel hs hc hn r2 _ a' w' (inv.set hr2 hk2) hB2 hS' h'
      rw [← hlen] at this
      exact this

def wayAllB (md : Region.Mode) (ops : Array Oper) (n : Nat) (r : Way) : Bool :=
  Region.noSelect ops && decide (n < ops.size) && decide (r.len = n) && Region.sinkB md ops n && Region.chainB md ops n && wayB md ops n (ops.size - n) r (Array.replicate ops.size false)
/-- THE LAW -/
theorem wp_region_way {id : Nat} {Q : Exit → Act → World → Prop} {a : Act} {w : World} {l : List Oper} (n : Nat) (r : Way) (S : World → Prop) (hm : P.follows .mixedOrders = true) (hB : wayAllB .any l.toArray n r = true)
    (hS : S w.drew)
    (h : wpW P l.toArray S l (fun a' w' => wpList P l.toArray Q (l.drop n) a' w') r a w.drew) : (Code.region id l.toArray true).wp P Q a w := by
  simp only [wayAllB, Bool.and_eq_true, decide_eq_true_eq] at hB
  obtain ⟨⟨⟨⟨⟨hsel, hn⟩, hlen⟩, hs⟩, hc⟩, hheld⟩ := hB
  have hn' : n < l.length := by simpa using hn
  have hdl : (l.drop n).length = l.toArray.size - n := by simp
  have inv0 : HeadInv .any l.toArray n (Array.replicate l.toArray.size false) :=
    ⟨by simp, fun j oj _ hl => (by rw [getD_replicate_false] at hl; cases hl), fun t _ ht => getD_in (by simpa using ht) (getD_replicate_false _ _)⟩
  have H := wpZ_of_wpW (md := .any) (g := l.toArray.size - n) rfl hsel hs hc hn r _ a w.drew inv0 hheld hS h
  refine wp_region_any hm ?_
  have := wpAny_of_wpZ (Q := Q) (g := l.toArray.size - n) (fun listed a' w' hL => by
    have := wpAny_of_seq (md := .any) (Q' := Q) (l.drop n) n listed a' w' (fun j => by simp [List.getElem?_drop]) (by rw [hdl]; exact hL.1) hL.2
    rwa [hdl] at this) _ _ _ _ H
  rw [hlen, show n + (l.toArray.size - n) = l.toArray.size by omega] at this
  exact this
end
end Go.Proofs.YtalgheocjnajlaaGreatDoor

namespace Go.Proofs.YtalgheocjnajlaaGreatDoor
open Go.RowKit Go.MapKept
attribute [local go_sem] gives givesH
set_option maxRecDepth 100000

theorem infoPg : (Tryz.prog.info? 117).map (fun i => (i.zero, i.size, i.bytes)) = some (some (.agg #[.bool false, .string ⟨#[]⟩]), 2, 24) := by kernel_rfl
theorem infoU64 : (Tryz.prog.info? 71).map (fun i => (i.zero, i.size, i.bytes)) = some (some (.int .u64 0), 1, 8) := by kernel_rfl
theorem pgCells_one (l : List Pg) : ∀ u ∈ pgCells l, u.oneCell' = true := by
  intro u hu
  unfold pgCells at hu
  obtain ⟨x, _, hx⟩ := List.mem_flatMap.1 hu
  simp only [List.mem_cons, List.not_mem_nil, or_false] at hx
  rcases hx with rfl | rfl <;> rfl
theorem rtCells_one (l : List Nat) : ∀ u ∈ rtCells l, u.oneCell' = true := by
  intro u hu
  unfold rtCells at hu
  obtain ⟨x, _, rfl⟩ := List.mem_map.1 hu
  rfl
theorem addr_add (g j : Nat) : (⟨g, 0, none⟩ : Addr).add j = ⟨g, j, none⟩ := by unfold Addr.add; split <;> simp_all
theorem empty_row (u : World) (T : TypeId) (sz x : Nat) (hx : u.heap.size = x) : (u.alloc (.cells #[] T)).ownsRow 0 T sz (.slice (some ⟨x, 0, none⟩) 0 0) 0 [] := by
  subst hx
  exact ⟨by simp, .inr ⟨u.heap.size, 0, _, rfl, Nat.zero_le _, heap_alloc_new u _, Nat.le_refl _, Nat.zero_le _, by simp, by simp⟩⟩
section
variable {w w' : World} {b g n c : Nat} {av rv : Value} {D : Doc}
theorem newDoc_end {u : World} (k : Keep (fun _ => False) w u) (hA : u.ownsRow 0 117 2 av D.all.length (pgCells D.all)) (hB : u.ownsRow 0 71 1 rv D.roots.length (rtCells D.roots))
    (nA : ∀ k, av.ownBlock = some k → w.heap.size ≤ k) (nB : ∀ k, rv.ownBlock = some k → w.heap.size ≤ k) (hne : ∀ k, av.ownBlock = some k → rv.ownBlock ≠ some k) :
    NewDoc w (u.alloc (.cells #[av, rv] 89)) u.heap.size av rv D := by
  refine ⟨⟨heap_alloc_new u _, hA.alloc _, hB.alloc _, fun e => ?_, fun e => ?_, hne⟩, fun q hq => ?_, ?_⟩
  · have := (hA.lt _ e).2; omega
  · have := (hB.lt _ e).2; omega
  · rcases hq with e | e | e
    · rw [e]; exact k.size
    · exact nA q e
    · exact nB q e
  · exact (k.alloc _).below (Nat.le_refl _) (fun _ _ e => e)
set_option maxHeartbeats 2000000 in
theorem ref7Copy_any (h : DocAt w b av rv D) (hl : 0 < D.all.length) (hr : D.roots.length = 16) (h63 : D.all.length ≤ 1000000) :
    Calls Tryz.prog 32 #[.pointer (some ⟨b, 0, none⟩)] w fun e w' => ∃ b' av' rv', e = .returned (.pointer (some ⟨b', 0, none⟩)) ∧ NewDoc w w' b' av' rv' D := by
  obtain ⟨j0, hj0, hy0, hy1, hy2⟩ := info_parts infoPg
  have HJ := Lib.hid hj0
  have Hy0 := Lib.hid hy0
  have Hy1 := Lib.hid hy1
  have Hy2 := Lib.hid hy2
  obtain ⟨j1, hj1, hz0, hz1, hz2⟩ := info_parts infoU64
  have HI := Lib.hid hj1
  have Hz0 := Lib.hid hz0
  have Hz1 := Lib.hid hz1
  have Hz2 := Lib.hid hz2
  clear hj0 hy0 hy1 hy2 hj1 hz0 hz1 hz2
  obtain ⟨g, c, hav, _, _⟩ := h.form hl
  obtain ⟨g2, c2, hrv, _, _⟩ := row_posB h.roots (by omega)
  rw [hr] at hrv
  obtain ⟨n, hn⟩ : ∃ n, D.all.length = n := ⟨_, rfl⟩
  have HN := Lib.hid hn
  have HR := Lib.hid hr
  rw [hn] at hav hl h63
  subst hav hrv
  have hg := (h.all.lt g rfl).2
  have hg2 := (h.roots.lt g2 rfl).2
  have hnewA : ∀ j u, (pgCells D.all)[j]? = some u → w.cell? ((⟨g, 0, none⟩ : Addr).add j) = some u := h.all.cells rfl
  have hnewB : ∀ j u, (rtCells D.roots)[j]? = some u → w.cell? ((⟨g2, 0, none⟩ : Addr).add j) = some u := h.roots.cells rfl
  have hlA : (pgCells D.all).length = n * 2 := by rw [pgCells_length, hn]
  have hlB : (rtCells D.roots).length = 16 * 1 := by unfold rtCells; rw [List.length_map, hr]
  have hoA := pgCells_one D.all
  have hoB := rtCells_one D.roots
  have H := Lib.hid h
  have HA := Lib.hid hnewA
  have HB := Lib.hid hnewB
  obtain ⟨cA, hcA⟩ : ∃ cA, pgCells D.all = cA := ⟨_, rfl⟩
  obtain ⟨cB, hcB⟩ : ∃ cB, rtCells D.roots = cB := ⟨_, rfl⟩
  have HCA := Lib.hid hcA
  have HCB := Lib.hid hcB
  rw [hcA] at HA hlA hoA
  rw [hcB] at HB hlB hoB
  clear h hn hr hnewA hnewB hcA hcB
  go_enter Tryz.func32, Tryz.ntmps32
  go_wp2_with (fail)
  obtain ⟨S, hS⟩ : ∃ S : World → Prop, ∀ u, S u ↔ Keep (fun _ => False) w u := ⟨fun u => Keep (fun _ => False) w u, fun _ => Iff.rfl⟩
  have HS := Lib.hid hS
  clear hS
  refine wp_region_way 13 (.read 1 (.read 2 (.read 3 (.read 4 (.read 7 (.read 8 (.read 9 (.read 10 (.two 0 (.two 5 (.one 6 (.one 11 (.read 12 .fin))) 6 (.one 5 (.one 11 (.read 12 .fin)))) 6 (.one 0 (.one 5 (.one 11 (.read 12 .fin))))))))))))) S (by kernel_rfl) (by kernel_rfl) ((HS.out _).2 (Keep.refl _ _).drew) ?_
  iterate 8
    first
      | (refine wpW_passed rfl (by rfl) (fun K hK => ?_); go_simp; refine hK _ ?_; clear hK K)
      | (refine wpW_read rfl (by rfl) (fun K hK => ?_)
         apply Exists.intro
         refine ⟨fun u hu => ?_, ?_⟩
         · have hu := (HS.out u).1 hu
           obtain ⟨k0, k1⟩ := (H.out.keep hu (fun _ _ e => e)).cell
           clear hu
           go_simp
           exact ⟨rfl, rfl⟩
         go_simp
         refine hK _ ?_
         clear hK K)
  refine wpW_two ?_ ?_
  · refine wpDo_do rfl (by rfl) (fun K hK => ?_)
    go_simp
    have k1 : Keep (fun _ => False) w (((w).alloc (.cells #[] 117)).drew) := (by have kp := ((Keep.refl (fun _ => False) w).drew).alloc (.cells #[] 117); exact ⟨kp.os, kp.tape, kp.output, kp.size, kp.block⟩)
    have r1 : (((w).alloc (.cells #[] 117)).drew).ownsRow 0 117 2 (.slice (some ⟨w.heap.size, 0, none⟩) 0 0) 0 [] := empty_row (w) 117 2 (w.heap.size) (by simp)
    have z1 : w.heap.size ≤ w.heap.size := by have := ((Keep.refl (fun _ => False) w).drew).size; (try simp at this); omega
    refine hK _ _ ((HS.out _).2 k1) ?_
    clear hK K
    refine wpW_two ?_ ?_
    · refine wpDo_do rfl (by rfl) (fun K hK => ?_)
      refine wp_append_lies _ _ _ 86 (by rfl) 0 117 j0 (.agg #[.bool false, .string ⟨#[]⟩]) 2 24 Tryz.underlying86 HJ.out Hy0.out Hy1.out Hy2.out (by rfl) (by decide) (.slice (some ⟨w.heap.size, 0, none⟩) 0 0) 0 [] (by rfl) r1 ⟨g, 0, none⟩ n c cA (by rfl) hlA (fun j u hj => by rw [addr_add, (k1).cell (p := ⟨g, j, none⟩) hg (fun e => e), ← addr_add]; exact HA.out j u hj) hoA hl (by unfold maxLen; omega) (by omega) (Nat.zero_le _) (w.heap.size + 1) (by simp) ?_
      intro gA cA' u2 r2 hgr2 hlo2 hlt2
      rw [Nat.zero_add, List.nil_append] at r2
      rw [Nat.zero_add]
      have fe2 : gA = w.heap.size ∨ gA = w.heap.size + 1 := hlo2.imp (fun e => (Option.some.inj e).symm) id
      have k2 := (k1).grown hgr2 (fun q hq e => by have e2 : w.heap.size = q := Option.some.inj e; have := z1; omega)
      refine hK _ _ ((HS.out _).2 k2) ?_
      clear hK K
      have z2 : w.heap.size ≤ gA := by have := z1; omega
      refine wpW_one ?_
      refine wpDo_do rfl (by rfl) (fun K hK => ?_)
      go_simp
      have k3 : Keep (fun _ => False) w ((u2).alloc (.cells #[] 71)) := (by have kp := (k2).alloc (.cells #[] 71); exact ⟨kp.os, kp.tape, kp.output, kp.size, kp.block⟩)
      have r3 : ((u2).alloc (.cells #[] 71)).ownsRow 0 71 1 (.slice (some ⟨u2.heap.size, 0, none⟩) 0 0) 0 [] := empty_row (u2) 71 1 (u2.heap.size) (by simp)
      have z3 : w.heap.size ≤ u2.heap.size := by have := (k2).size; (try simp at this); omega
      have r3o := r2.alloc (.cells #[] 71)
      refine hK _ _ ((HS.out _).2 k3) ?_
      clear hK K
      refine wpW_one ?_
      refine wpDo_do rfl (by rfl) (fun K hK => ?_)
      refine wp_append_lies _ _ _ 87 (by rfl) 0 71 j1 (.int .u64 0) 1 8 Tryz.underlying87 HI.out Hz0.out Hz1.out Hz2.out (by rfl) (by decide) (.slice (some ⟨u2.heap.size, 0, none⟩) 0 0) 0 [] (by rfl) r3 ⟨g2, 0, none⟩ 16 c2 cB (by rfl) hlB (fun j u hj => by rw [addr_add, (k3).cell (p := ⟨g2, j, none⟩) hg2 (fun e => e), ← addr_add]; exact HB.out j u hj) hoB (by decide) (by unfold maxLen; omega) (by omega) (Nat.zero_le _) (u2.heap.size + 1) (by simp) ?_
      intro gB cB' u4 r4 hgr4 hlo4 hlt4
      rw [Nat.zero_add, List.nil_append] at r4
      rw [Nat.zero_add]
      have fe4 : gB = u2.heap.size ∨ gB = u2.heap.size + 1 := hlo4.imp (fun e => (Option.some.inj e).symm) id
      have k4 := (k3).grown hgr4 (fun q hq e => by have e2 : u2.heap.size = q := Option.some.inj e; have := z3; omega)
      have r4o := r3o.kept hgr4 (.inr (fun e => by have e2 : gA = u2.heap.size := Option.some.inj e; have := fe2; have := hlt2; omega))
      refine hK _ _ ((HS.out _).2 k4) ?_
      clear hK K
      have z4 : w.heap.size ≤ gB := by have := z3; omega
      refine wpW_read rfl (by rfl) (fun K hK => ?_)
      apply Exists.intro
      refine ⟨fun u hu => ?_, ?_⟩
      · go_simp
        exact ⟨rfl, rfl⟩
      go_simp
      refine hK _ ?_
      clear hK K
      refine wpW_fin ?_
      simp only [List.drop_succ_cons, List.drop_zero]
      have hfA := r4o
      have hfB := r4
      rw [← HCA.out] at hfA
      rw [← HCB.out] at hfB
      have hE := newDoc_end (D := D) k4 (by rw [HN.out]; exact hfA) (by rw [HR.out]; exact hfB) (fun q hq => by have e2 : gA = q := Option.some.inj hq; have := z2; omega) (fun q hq => by have e2 : gB = q := Option.some.inj hq; have := z4; omega) (fun q hq hq2 => by
        have e1 : gA = q := Option.some.inj hq
        have e2 : gB = q := Option.some.inj hq2
        omega)
      have HE := Lib.hid hE
      clear hE
      go_wp2
      go_ret
      exact ⟨_, _, _, rfl, HE.out⟩
    · refine wpDo_do rfl (by rfl) (fun K hK => ?_)
      go_simp
      have k2 : Keep (fun _ => False) w ((((w).alloc (.cells #[] 117)).alloc (.cells #[] 71)).drew) := (by have kp := (k1).alloc (.cells #[] 71); exact ⟨kp.os, kp.tape, kp.output, kp.size, kp.block⟩)
      have r2 : ((((w).alloc (.cells #[] 117)).alloc (.cells #[] 71)).drew).ownsRow 0 71 1 (.slice (some ⟨w.heap.size + 1, 0, none⟩) 0 0) 0 [] := empty_row ((w).alloc (.cells #[] 117)) 71 1 (w.heap.size + 1) (by simp)
      have z2 : w.heap.size ≤ w.heap.size + 1 := by have := (k1).size; (try simp at this); omega
      have r2o : ((((w).alloc (.cells #[] 117)).alloc (.cells #[] 71)).drew).ownsRow 0 117 2 (.slice (some ⟨w.heap.size, 0, none⟩) 0 0) 0 [] := r1.alloc (.cells #[] 71)
      refine hK _ _ ((HS.out _).2 k2) ?_
      clear hK K
      refine wpW_one ?_
      refine wpDo_do rfl (by rfl) (fun K hK => ?_)
      refine wp_append_lies _ _ _ 86 (by rfl) 0 117 j0 (.agg #[.bool false, .string ⟨#[]⟩]) 2 24 Tryz.underlying86 HJ.out Hy0.out Hy1.out Hy2.out (by rfl) (by decide) (.slice (some ⟨w.heap.size, 0, none⟩) 0 0) 0 [] (by rfl) r2o ⟨g, 0, none⟩ n c cA (by rfl) hlA (fun j u hj => by rw [addr_add, (k2).cell (p := ⟨g, j, none⟩) hg (fun e => e), ← addr_add]; exact HA.out j u hj) hoA hl (by unfold maxLen; omega) (by omega) (Nat.zero_le _) (w.heap.size + 1 + 1) (by simp) ?_
      intro gA cA' u3 r3 hgr3 hlo3 hlt3
      rw [Nat.zero_add, List.nil_append] at r3
      rw [Nat.zero_add]
      have fe3 : gA = w.heap.size ∨ gA = w.heap.size + 1 + 1 := hlo3.imp (fun e => (Option.some.inj e).symm) id
      have k3 := (k2).grown hgr3 (fun q hq e => by have e2 : w.heap.size = q := Option.some.inj e; have := z1; omega)
      have r3o := r2.kept hgr3 (.inr (fun e => by have e2 : w.heap.size + 1 = w.heap.size := Option.some.inj e;  omega))
      refine hK _ _ ((HS.out _).2 k3) ?_
      clear hK K
      have z3 : w.heap.size ≤ gA := by have := z1; omega
      refine wpW_one ?_
      refine wpDo_do rfl (by rfl) (fun K hK => ?_)
      refine wp_append_lies _ _ _ 87 (by rfl) 0 71 j1 (.int .u64 0) 1 8 Tryz.underlying87 HI.out Hz0.out Hz1.out Hz2.out (by rfl) (by decide) (.slice (some ⟨w.heap.size + 1, 0, none⟩) 0 0) 0 [] (by rfl) r3o ⟨g2, 0, none⟩ 16 c2 cB (by rfl) hlB (fun j u hj => by rw [addr_add, (k3).cell (p := ⟨g2, j, none⟩) hg2 (fun e => e), ← addr_add]; exact HB.out j u hj) hoB (by decide) (by unfold maxLen; omega) (by omega) (Nat.zero_le _) (u3.heap.size) (by simp) ?_
      intro gB cB' u4 r4 hgr4 hlo4 hlt4
      rw [Nat.zero_add, List.nil_append] at r4
      rw [Nat.zero_add]
      have fe4 : gB = w.heap.size + 1 ∨ gB = u3.heap.size := hlo4.imp (fun e => (Option.some.inj e).symm) id
      have k4 := (k3).grown hgr4 (fun q hq e => by have e2 : w.heap.size + 1 = q := Option.some.inj e; have := z2; omega)
      have r4o := r3.kept hgr4 (.inr (fun e => by have e2 : gA = w.heap.size + 1 := Option.some.inj e; have := fe3; have := hlt3; omega))
      refine hK _ _ ((HS.out _).2 k4) ?_
      clear hK K
      have z4 : w.heap.size ≤ gB := by have := z2; omega
      refine wpW_read rfl (by rfl) (fun K hK => ?_)
      apply Exists.intro
      refine ⟨fun u hu => ?_, ?_⟩
      · go_simp
        exact ⟨rfl, rfl⟩
      go_simp
      refine hK _ ?_
      clear hK K
      refine wpW_fin ?_
      simp only [List.drop_succ_cons, List.drop_zero]
      have hfA := r4o
      have hfB := r4
      rw [← HCA.out] at hfA
      rw [← HCB.out] at hfB
      have hE := newDoc_end (D := D) k4 (by rw [HN.out]; exact hfA) (by rw [HR.out]; exact hfB) (fun q hq => by have e2 : gA = q := Option.some.inj hq; have := z3; omega) (fun q hq => by have e2 : gB = q := Option.some.inj hq; have := z4; omega) (fun q hq hq2 => by
        have e1 : gA = q := Option.some.inj hq
        have e2 : gB = q := Option.some.inj hq2
        omega)
      have HE := Lib.hid hE
      clear hE
      go_wp2
      go_ret
      exact ⟨_, _, _, rfl, HE.out⟩
  · refine wpDo_do rfl (by rfl) (fun K hK => ?_)
    go_simp
    have k1 : Keep (fun _ => False) w (((w).alloc (.cells #[] 71)).drew) := (by have kp := ((Keep.refl (fun _ => False) w).drew).alloc (.cells #[] 71); exact ⟨kp.os, kp.tape, kp.output, kp.size, kp.block⟩)
    have r1 : (((w).alloc (.cells #[] 71)).drew).ownsRow 0 71 1 (.slice (some ⟨w.heap.size, 0, none⟩) 0 0) 0 [] := empty_row (w) 71 1 (w.heap.size) (by simp)
    have z1 : w.heap.size ≤ w.heap.size := by have := ((Keep.refl (fun _ => False) w).drew).size; (try simp at this); omega
    refine hK _ _ ((HS.out _).2 k1) ?_
    clear hK K
    refine wpW_one ?_
    refine wpDo_do rfl (by rfl) (fun K hK => ?_)
    go_simp
    have k2 : Keep (fun _ => False) w ((((w).alloc (.cells #[] 71)).alloc (.cells #[] 117)).drew) := (by have kp := (k1).alloc (.cells #[] 117); exact ⟨kp.os, kp.tape, kp.output, kp.size, kp.block⟩)
    have r2 : ((((w).alloc (.cells #[] 71)).alloc (.cells #[] 117)).drew).ownsRow 0 117 2 (.slice (some ⟨w.heap.size + 1, 0, none⟩) 0 0) 0 [] := empty_row ((w).alloc (.cells #[] 71)) 117 2 (w.heap.size + 1) (by simp)
    have z2 : w.heap.size ≤ w.heap.size + 1 := by have := (k1).size; (try simp at this); omega
    have r2o : ((((w).alloc (.cells #[] 71)).alloc (.cells #[] 117)).drew).ownsRow 0 71 1 (.slice (some ⟨w.heap.size, 0, none⟩) 0 0) 0 [] := r1.alloc (.cells #[] 117)
    refine hK _ _ ((HS.out _).2 k2) ?_
    clear hK K
    refine wpW_one ?_
    refine wpDo_do rfl (by rfl) (fun K hK => ?_)
    refine wp_append_lies _ _ _ 86 (by rfl) 0 117 j0 (.agg #[.bool false, .string ⟨#[]⟩]) 2 24 Tryz.underlying86 HJ.out Hy0.out Hy1.out Hy2.out (by rfl) (by decide) (.slice (some ⟨w.heap.size + 1, 0, none⟩) 0 0) 0 [] (by rfl) r2 ⟨g, 0, none⟩ n c cA (by rfl) hlA (fun j u hj => by rw [addr_add, (k2).cell (p := ⟨g, j, none⟩) hg (fun e => e), ← addr_add]; exact HA.out j u hj) hoA hl (by unfold maxLen; omega) (by omega) (Nat.zero_le _) (w.heap.size + 1 + 1) (by simp) ?_
    intro gA cA' u3 r3 hgr3 hlo3 hlt3
    rw [Nat.zero_add, List.nil_append] at r3
    rw [Nat.zero_add]
    have fe3 : gA = w.heap.size + 1 ∨ gA = w.heap.size + 1 + 1 := hlo3.imp (fun e => (Option.some.inj e).symm) id
    have k3 := (k2).grown hgr3 (fun q hq e => by have e2 : w.heap.size + 1 = q := Option.some.inj e; have := z2; omega)
    have r3o := r2o.kept hgr3 (.inr (fun e => by have e2 : w.heap.size = w.heap.size + 1 := Option.some.inj e;  omega))
    refine hK _ _ ((HS.out _).2 k3) ?_
    clear hK K
    have z3 : w.heap.size ≤ gA := by have := z2; omega
    refine wpW_one ?_
    refine wpDo_do rfl (by rfl) (fun K hK => ?_)
    refine wp_append_lies _ _ _ 87 (by rfl) 0 71 j1 (.int .u64 0) 1 8 Tryz.underlying87 HI.out Hz0.out Hz1.out Hz2.out (by rfl) (by decide) (.slice (some ⟨w.heap.size, 0, none⟩) 0 0) 0 [] (by rfl) r3o ⟨g2, 0, none⟩ 16 c2 cB (by rfl) hlB (fun j u hj => by rw [addr_add, (k3).cell (p := ⟨g2, j, none⟩) hg2 (fun e => e), ← addr_add]; exact HB.out j u hj) hoB (by decide) (by unfold maxLen; omega) (by omega) (Nat.zero_le _) (u3.heap.size) (by simp) ?_
    intro gB cB' u4 r4 hgr4 hlo4 hlt4
    rw [Nat.zero_add, List.nil_append] at r4
    rw [Nat.zero_add]
    have fe4 : gB = w.heap.size ∨ gB = u3.heap.size := hlo4.imp (fun e => (Option.some.inj e).symm) id
    have k4 := (k3).grown hgr4 (fun q hq e => by have e2 : w.heap.size = q := Option.some.inj e; have := z1; omega)
    have r4o := r3.kept hgr4 (.inr (fun e => by have e2 : gA = w.heap.size := Option.some.inj e; have := fe3; have := hlt3; omega))
    refine hK _ _ ((HS.out _).2 k4) ?_
    clear hK K
    have z4 : w.heap.size ≤ gB := by have := z1; omega
    refine wpW_read rfl (by rfl) (fun K hK => ?_)
    apply Exists.intro
    refine ⟨fun u hu => ?_, ?_⟩
    · go_simp
      exact ⟨rfl, rfl⟩
    go_simp
    refine hK _ ?_
    clear hK K
    refine wpW_fin ?_
    simp only [List.drop_succ_cons, List.drop_zero]
    have hfA := r4o
    have hfB := r4
    rw [← HCA.out] at hfA
    rw [← HCB.out] at hfB
    have hE := newDoc_end (D := D) k4 (by rw [HN.out]; exact hfA) (by rw [HR.out]; exact hfB) (fun q hq => by have e2 : gA = q := Option.some.inj hq; have := z3; omega) (fun q hq => by have e2 : gB = q := Option.some.inj hq; have := z4; omega) (fun q hq hq2 => by
      have e1 : gA = q := Option.some.inj hq
      have e2 : gB = q := Option.some.inj hq2
      omega)
    have HE := Lib.hid hE
    clear hE
    go_wp2
    go_ret
    exact ⟨_, _, _, rfl, HE.out⟩
end
end Go.Proofs.YtalgheocjnajlaaGreatDoor

namespace Go.Proofs.YtalgheocjnajlaaGreatDoor
open Go.RowKit Go.MapKept
attribute [local go_sem] gives givesH
set_option maxRecDepth 100000

def pg0 : Pg := ⟨false, ⟨#[]⟩⟩
theorem made_pg (n : Nat) : (madeCells (Value.agg #[.bool false, .string ⟨#[]⟩]).cells (n * 2)).toList = pgCells (List.replicate n pg0) := by
  show (madeCells #[.bool false, .string ⟨#[]⟩] (n * 2)).toList = _
  apply List.ext_getElem?
  intro j
  by_cases hj : j < n * 2
  · have hq : (List.replicate n pg0)[j / 2]? = some pg0 := by rw [List.getElem?_replicate, if_pos (by omega)]
    obtain ⟨h0, h1⟩ := pgCells_get _ _ _ hq
    rcases Nat.mod_two_eq_zero_or_one j with e | e
    · have e2 : j / 2 * 2 = j := by omega
      rw [e2] at h0
      rw [h0]
      simp [madeCells, hj, e, pg0]
    · have e2 : j / 2 * 2 + 1 = j := by omega
      rw [e2] at h1
      rw [h1]
      simp [madeCells, hj, e, pg0]
  · rw [List.getElem?_eq_none (l := pgCells (List.replicate n pg0)) (by rw [pgCells_length, List.length_replicate]; omega)]
    simp [madeCells, hj]
theorem made_rt : (madeCells (Value.int .u64 0).cells (16 * 1)).toList = rtCells (List.replicate 16 0) := by
  show (madeCells #[Value.int .u64 0] 16).toList = _
  rw [toList_madeCells_one]
  rfl
set_option maxHeartbeats 2000000 in
theorem ref7New_any (h : Int) (w : World) :
    Calls Tryz.prog 31 #[.int .i64 h] w fun e w' => ∃ b av rv, e = .returned (.pointer (some ⟨b, 0, none⟩)) ∧ NewDoc w w' b av rv ⟨List.replicate (pagesOf h).toNat pg0, List.replicate 16 0⟩ := by
  obtain ⟨j0, hj0, hy0, hy1, hy2⟩ := info_parts infoPg
  have HJ := Lib.hid hj0
  have Hy0 := Lib.hid hy0
  have Hy1 := Lib.hid hy1
  have Hy2 := Lib.hid hy2
  obtain ⟨j1, hj1, hz0, hz1, hz2⟩ := info_parts infoU64
  have HI := Lib.hid hj1
  have Hz0 := Lib.hid hz0
  have Hz1 := Lib.hid hz1
  have Hz2 := Lib.hid hz2
  clear hj0 hy0 hy1 hy2 hj1 hz0 hz1 hz2
  have HP := Lib.hid (fun u => refPages_any h u)
  obtain ⟨hp0, hp1⟩ := pagesOf_bd h
  obtain ⟨n, hn⟩ : ∃ n, (pagesOf h).toNat = n := ⟨_, rfl⟩
  have hpn : pagesOf h = (n : Int) := by omega
  have hn1 : n ≤ 1048576 := by omega
  rw [hn]
  rw [hpn] at HP
  clear hp0 hp1 hn hpn
  go_enter Tryz.func31, Tryz.ntmps31
  go_wp2_with (fail)
  obtain ⟨S, hS⟩ : ∃ S : World → Prop, ∀ u, S u ↔ Keep (fun _ => False) w u := ⟨fun u => Keep (fun _ => False) w u, fun _ => Iff.rfl⟩
  have HS := Lib.hid hS
  clear hS
  refine wp_region_way 5 (.read 0 (.two 1 (.two 2 (.one 3 (.read 4 .fin)) 3 (.one 2 (.read 4 .fin))) 3 (.one 1 (.one 2 (.read 4 .fin))))) S (by kernel_rfl) (by kernel_rfl) ((HS.out _).2 (Keep.refl _ _).drew) ?_
  first
    | (refine wpW_passed rfl (by rfl) (fun K hK => ?_); go_simp; refine hK _ ?_; clear hK K)
    | (refine wpW_read rfl (by rfl) (fun K hK => ?_)
       apply Exists.intro
       refine ⟨fun u hu => ?_, ?_⟩
       · go_simp
         exact ⟨rfl, rfl⟩
       go_simp
       refine hK _ ?_
       clear hK K)
  refine wpW_two ?_ ?_
  · refine wpDo_do rfl (by rfl) (fun K hK => ?_)
    go_simp
    go_at_call 63
    with_reducible refine (HP.out _).mono ?_
    rintro e _ ⟨rfl, rfl⟩
    refine hK _ _ ((HS.out _).2 ((Keep.refl (fun _ => False) w).drew)) ?_
    clear hK K
    refine wpW_two ?_ ?_
    · refine wpDo_do rfl (by rfl) (fun K hK => ?_)
      obtain ⟨u2, l2, r2, g2⟩ := run_make_full (P := Tryz.prog) (w.drew) 0 86 117 j0 (.agg #[.bool false, .string ⟨#[]⟩]) 2 Tryz.underlying86 HJ.out Hy0.out Hy1.out .i64 .i64 n (by rw [Hy2.out]; omega) (by unfold maxLen; omega) (Nat.zero_le _)
      replace l2 : (Instr.makeSlice 86 (.int .i64 (n : Int)) (.int .i64 (n : Int))).run Tryz.prog (w.drew) = .ok (.slice (some ⟨w.heap.size, 0, none⟩) n n) u2 := l2
      replace r2 : u2.ownsRow 0 117 2 (.slice (some ⟨w.heap.size, 0, none⟩) n n) n _ := r2
      rw [made_pg] at r2
      have k2 := ((Keep.refl (fun _ => False) w).drew).grown g2 (fun q hq e => by cases e)
      have z2 : w.heap.size ≤ w.heap.size := ((Keep.refl (fun _ => False) w).drew).size
      have y2 : w.heap.size < u2.heap.size := (r2.lt _ rfl).2
      go_simp
      refine hK _ _ ((HS.out _).2 k2) ?_
      clear hK K l2
      refine wpW_one ?_
      refine wpDo_do rfl (by rfl) (fun K hK => ?_)
      obtain ⟨u3, l3, r3, g3⟩ := run_make_full (P := Tryz.prog) (u2) 0 87 71 j1 (.int .u64 0) 1 Tryz.underlying87 HI.out Hz0.out Hz1.out .i64 .i64 16 (by rw [Hz2.out]; omega) (by unfold maxLen; omega) (Nat.zero_le _)
      replace l3 : (Instr.makeSlice 87 (.int .i64 16) (.int .i64 16)).run Tryz.prog (u2) = .ok (.slice (some ⟨u2.heap.size, 0, none⟩) 16 16) u3 := l3
      replace r3 : u3.ownsRow 0 71 1 (.slice (some ⟨u2.heap.size, 0, none⟩) 16 16) 16 _ := r3
      rw [made_rt] at r3
      have k3 := (k2).grown g3 (fun q hq e => by cases e)
      have r3o := r2.kept g3 (.inr (fun e => by cases e))
      have z3 : w.heap.size ≤ u2.heap.size := (k2).size
      have y3 : u2.heap.size < u3.heap.size := (r3.lt _ rfl).2
      go_simp
      refine hK _ _ ((HS.out _).2 k3) ?_
      clear hK K l3
      first
        | (refine wpW_passed rfl (by rfl) (fun K hK => ?_); go_simp; refine hK _ ?_; clear hK K)
        | (refine wpW_read rfl (by rfl) (fun K hK => ?_)
           apply Exists.intro
           refine ⟨fun u hu => ?_, ?_⟩
           · go_simp
             exact ⟨rfl, rfl⟩
           go_simp
           refine hK _ ?_
           clear hK K)
      refine wpW_fin ?_
      simp only [List.drop_succ_cons, List.drop_zero]
      have hE := newDoc_end (D := ⟨List.replicate n pg0, List.replicate 16 0⟩) k3 (by rw [List.length_replicate]; exact r3o) (by rw [List.length_replicate]; exact r3) (fun q hq => by have e2 : w.heap.size = q := Option.some.inj hq; have := z2; omega) (fun q hq => by have e2 : u2.heap.size = q := Option.some.inj hq; have := z3; omega) (fun q hq hq2 => by
        have e1 : w.heap.size = q := Option.some.inj hq
        have e2 : u2.heap.size = q := Option.some.inj hq2
        have := y2
        have := y3
        omega)
      have HE := Lib.hid hE
      clear hE
      go_wp2
      go_ret
      exact ⟨_, _, _, rfl, HE.out⟩
    · refine wpDo_do rfl (by rfl) (fun K hK => ?_)
      obtain ⟨u2, l2, r2, g2⟩ := run_make_full (P := Tryz.prog) (w.drew) 0 87 71 j1 (.int .u64 0) 1 Tryz.underlying87 HI.out Hz0.out Hz1.out .i64 .i64 16 (by rw [Hz2.out]; omega) (by unfold maxLen; omega) (Nat.zero_le _)
      replace l2 : (Instr.makeSlice 87 (.int .i64 16) (.int .i64 16)).run Tryz.prog (w.drew) = .ok (.slice (some ⟨w.heap.size, 0, none⟩) 16 16) u2 := l2
      replace r2 : u2.ownsRow 0 71 1 (.slice (some ⟨w.heap.size, 0, none⟩) 16 16) 16 _ := r2
      rw [made_rt] at r2
      have k2 := ((Keep.refl (fun _ => False) w).drew).grown g2 (fun q hq e => by cases e)
      have z2 : w.heap.size ≤ w.heap.size := ((Keep.refl (fun _ => False) w).drew).size
      have y2 : w.heap.size < u2.heap.size := (r2.lt _ rfl).2
      go_simp
      refine hK _ _ ((HS.out _).2 k2) ?_
      clear hK K l2
      refine wpW_one ?_
      refine wpDo_do rfl (by rfl) (fun K hK => ?_)
      obtain ⟨u3, l3, r3, g3⟩ := run_make_full (P := Tryz.prog) (u2) 0 86 117 j0 (.agg #[.bool false, .string ⟨#[]⟩]) 2 Tryz.underlying86 HJ.out Hy0.out Hy1.out .i64 .i64 n (by rw [Hy2.out]; omega) (by unfold maxLen; omega) (Nat.zero_le _)
      replace l3 : (Instr.makeSlice 86 (.int .i64 (n : Int)) (.int .i64 (n : Int))).run Tryz.prog (u2) = .ok (.slice (some ⟨u2.heap.size, 0, none⟩) n n) u3 := l3
      replace r3 : u3.ownsRow 0 117 2 (.slice (some ⟨u2.heap.size, 0, none⟩) n n) n _ := r3
      rw [made_pg] at r3
      have k3 := (k2).grown g3 (fun q hq e => by cases e)
      have r3o := r2.kept g3 (.inr (fun e => by cases e))
      have z3 : w.heap.size ≤ u2.heap.size := (k2).size
      have y3 : u2.heap.size < u3.heap.size := (r3.lt _ rfl).2
      go_simp
      refine hK _ _ ((HS.out _).2 k3) ?_
      clear hK K l3
      first
        | (refine wpW_passed rfl (by rfl) (fun K hK => ?_); go_simp; refine hK _ ?_; clear hK K)
        | (refine wpW_read rfl (by rfl) (fun K hK => ?_)
           apply Exists.intro
           refine ⟨fun u hu => ?_, ?_⟩
           · go_simp
             exact ⟨rfl, rfl⟩
           go_simp
           refine hK _ ?_
           clear hK K)
      refine wpW_fin ?_
      simp only [List.drop_succ_cons, List.drop_zero]
      have hE := newDoc_end (D := ⟨List.replicate n pg0, List.replicate 16 0⟩) k3 (by rw [List.length_replicate]; exact r3) (by rw [List.length_replicate]; exact r3o) (fun q hq => by have e2 : u2.heap.size = q := Option.some.inj hq; have := z3; omega) (fun q hq => by have e2 : w.heap.size = q := Option.some.inj hq; have := z2; omega) (fun q hq hq2 => by
        have e1 : u2.heap.size = q := Option.some.inj hq
        have e2 : w.heap.size = q := Option.some.inj hq2
        have := y3
        have := y2
        omega)
      have HE := Lib.hid hE
      clear hE
      go_wp2
      go_ret
      exact ⟨_, _, _, rfl, HE.out⟩
  · refine wpDo_do rfl (by rfl) (fun K hK => ?_)
    obtain ⟨u1, l1, r1, g1⟩ := run_make_full (P := Tryz.prog) (w.drew) 0 87 71 j1 (.int .u64 0) 1 Tryz.underlying87 HI.out Hz0.out Hz1.out .i64 .i64 16 (by rw [Hz2.out]; omega) (by unfold maxLen; omega) (Nat.zero_le _)
    replace l1 : (Instr.makeSlice 87 (.int .i64 16) (.int .i64 16)).run Tryz.prog (w.drew) = .ok (.slice (some ⟨w.heap.size, 0, none⟩) 16 16) u1 := l1
    replace r1 : u1.ownsRow 0 71 1 (.slice (some ⟨w.heap.size, 0, none⟩) 16 16) 16 _ := r1
    rw [made_rt] at r1
    have k1 := ((Keep.refl (fun _ => False) w).drew).grown g1 (fun q hq e => by cases e)
    have z1 : w.heap.size ≤ w.heap.size := ((Keep.refl (fun _ => False) w).drew).size
    have y1 : w.heap.size < u1.heap.size := (r1.lt _ rfl).2
    go_simp
    refine hK _ _ ((HS.out _).2 k1) ?_
    clear hK K l1
    refine wpW_one ?_
    refine wpDo_do rfl (by rfl) (fun K hK => ?_)
    go_simp
    go_at_call 63
    with_reducible refine (HP.out _).mono ?_
    rintro e _ ⟨rfl, rfl⟩
    refine hK _ _ ((HS.out _).2 (k1)) ?_
    clear hK K
    refine wpW_one ?_
    refine wpDo_do rfl (by rfl) (fun K hK => ?_)
    obtain ⟨u3, l3, r3, g3⟩ := run_make_full (P := Tryz.prog) (u1) 0 86 117 j0 (.agg #[.bool false, .string ⟨#[]⟩]) 2 Tryz.underlying86 HJ.out Hy0.out Hy1.out .i64 .i64 n (by rw [Hy2.out]; omega) (by unfold maxLen; omega) (Nat.zero_le _)
    replace l3 : (Instr.makeSlice 86 (.int .i64 (n : Int)) (.int .i64 (n : Int))).run Tryz.prog (u1) = .ok (.slice (some ⟨u1.heap.size, 0, none⟩) n n) u3 := l3
    replace r3 : u3.ownsRow 0 117 2 (.slice (some ⟨u1.heap.size, 0, none⟩) n n) n _ := r3
    rw [made_pg] at r3
    have k3 := (k1).grown g3 (fun q hq e => by cases e)
    have r3o := r1.kept g3 (.inr (fun e => by cases e))
    have z3 : w.heap.size ≤ u1.heap.size := (k1).size
    have y3 : u1.heap.size < u3.heap.size := (r3.lt _ rfl).2
    go_simp
    refine hK _ _ ((HS.out _).2 k3) ?_
    clear hK K l3
    first
      | (refine wpW_passed rfl (by rfl) (fun K hK => ?_); go_simp; refine hK _ ?_; clear hK K)
      | (refine wpW_read rfl (by rfl) (fun K hK => ?_)
         apply Exists.intro
         refine ⟨fun u hu => ?_, ?_⟩
         · go_simp
           exact ⟨rfl, rfl⟩
         go_simp
         refine hK _ ?_
         clear hK K)
    refine wpW_fin ?_
    simp only [List.drop_succ_cons, List.drop_zero]
    have hE := newDoc_end (D := ⟨List.replicate n pg0, List.replicate 16 0⟩) k3 (by rw [List.length_replicate]; exact r3) (by rw [List.length_replicate]; exact r3o) (fun q hq => by have e2 : u1.heap.size = q := Option.some.inj hq; have := z3; omega) (fun q hq => by have e2 : w.heap.size = q := Option.some.inj hq; have := z1; omega) (fun q hq hq2 => by
      have e1 : u1.heap.size = q := Option.some.inj hq
      have e2 : w.heap.size = q := Option.some.inj hq2
      have := y3
      have := y1
      omega)
    have HE := Lib.hid hE
    clear hE
    go_wp2
    go_ret
    exact ⟨_, _, _, rfl, HE.out⟩
end Go.Proofs.YtalgheocjnajlaaGreatDoor

namespace Go.Proofs.YtalgheocjnajlaaGreatDoor
open Go.RowKit Go.MapKept
set_option maxRecDepth 100000

structure DocS where
  b : Nat
  av : Value
  rv : Value
  D : Doc
def DocS.own (X : DocS) (k : Nat) : Prop := docOwn X.b X.av X.rv k
structure RBase (w0 w : World) (bl : Nat) (L : LogS) (d : Dk) (N homes : Nat) (W : Int → ByteArray) (br : Nat) (R : RoomS) (X Y : DocS) : Prop where
  room : RoomAt w br R
  tx : TxIn w0.heap.size w bl L d N homes 200 W R.bt R.T
  doc : DocAt w X.b X.av X.rv X.D
  kept : DocAt w Y.b Y.av Y.rv Y.D
  ge : w0.heap.size ≤ br
  apX : ∀ k, X.own k → w0.heap.size ≤ k ∧ ¬ R.foot br k
  apY : ∀ k, Y.own k → w0.heap.size ≤ k ∧ ¬ R.foot br k
  apXY : ∀ k, X.own k → ¬ Y.own k
  below : Below w0.heap.size w0 w
section
variable {w0 w w' : World} {bl : Nat} {L : LogS} {d : Dk} {N homes : Nat} {W : Int → ByteArray} {br : Nat} {R R' : RoomS} {X Y : DocS}
theorem RoomAt.foot_lt (h : RoomAt w br R) {k : Nat} (hk : R.foot br k) : k < w.heap.size := by
  rcases hk with e | e
  · subst e; exact (Array.getElem?_eq_some_iff.1 h.cells).1
  · exact h.tx.foot_lt e
theorem RBase.still (h : RBase w0 w bl L d N homes W br R X Y) (hb : Below w.heap.size w w') : RBase w0 w' bl L d N homes W br R X Y :=
  ⟨h.room.still hb, h.tx.still hb, h.doc.still hb, h.kept.still hb, h.ge, h.apX, h.apY, h.apXY, h.below.trans (hb.mono h.below.size)⟩
theorem RBase.footGe (h : RBase w0 w bl L d N homes W br R X Y) (k : Nat) (hk : R.T.foot R.bt k) : w0.heap.size ≤ k := by
  rcases hk with e | e | e | e | e
  · exact h.tx.newer k (.inl e)
  · exact h.tx.newer k (.inr (.inl e))
  · rw [h.tx.tx.flE] at e; exact h.tx.log.newer k e
  · exact h.tx.newer k (.inr (.inr (.inl e)))
  · exact h.tx.newer k (.inr (.inr (.inr e)))
/-- the change and its log turned -/
theorem RBase.turn (h : RBase w0 w bl L d N homes W br R X Y) {L' : LogS} {d' : Dk} {N' : Nat} {W' : Int → ByteArray} {T' : TxS} (hl : LogIn w0.heap.size w' bl L' d' N' homes 200 W') (ht : OnLog w' R.bt T' bl L' homes W')
    (hk : Keep (R.T.foot R.bt) w w') (hf : ∀ k, T'.foot R.bt k → R.T.foot R.bt k ∨ w.heap.size ≤ k) (hn : ∀ k, T'.own R.bt k → w0.heap.size ≤ k) :
    RBase w0 w' bl L' d' N' homes W' br (R.turned T') X Y := by
  have hlt : br < w.heap.size := h.room.foot_lt (.inl rfl)
  have ap : ∀ k, k < w.heap.size → ¬ R.foot br k → ¬ (R.turned T').foot br k := fun k h1 h2 e => by
    rcases e with e | e
    · exact h2 (.inl e)
    · rcases hf k e with e | e
      · exact h2 (.inr e)
      · omega
  refine ⟨⟨hk.at h.room.cells h.room.apart, ht.at_, fun e => ?_, ⟨h.room.fit.1, ?_⟩⟩, ⟨hl, ht, hn⟩, h.doc.keep hk (fun k e1 e2 => (h.apX k e1).2 (.inr e2)), h.kept.keep hk (fun k e1 e2 => (h.apY k e1).2 (.inr e2)), h.ge,
    fun k e => ⟨(h.apX k e).1, ap k (h.doc.lt e) (h.apX k e).2⟩, fun k e => ⟨(h.apY k e).1, ap k (h.kept.lt e) (h.apY k e).2⟩, h.apXY, h.below.trans (hk.below h.below.size (fun i hi e => by have := h.footGe i e; omega))⟩
  · rcases hf br e with e | e
    · exact h.room.apart e
    · omega
  · have h1 := h.room.fit.2
    rw [h.tx.tx.nE] at h1
    show 1 + R.maps + R.pages ≤ T'.n
    rw [ht.nE]
    exact h1
theorem RoomStep.turned (hs : RoomStep br w R w' R') : R' = R.turned R'.T := by
  obtain ⟨bt, T, m, p⟩ := R'
  have h1 := hs.bt
  have h2 := hs.maps
  have h3 := hs.pages
  simp only at h1 h2 h3
  subst h1 h2 h3
  rfl
theorem RBase.step (h : RBase w0 w bl L d N homes W br R X Y) (hs : RoomStep br w R w' R') : RBase w0 w' bl L d N homes W br R' X Y := by
  rw [hs.turned]
  exact h.turn (h.tx.log.txStep h.tx.tx hs.tx) (h.tx.tx.step hs.tx) (hs.tx.keep.mono (fun _ _ => TxS.own_foot)) (fun k => hs.tx.foot) ((hs.tx.newer h.tx.newer h.below.size).1)
/-- the log took what the change held -/
theorem RBase.com (h : RBase w0 w bl L d N homes W br R X Y) {L' : LogS} {d' : Dk} {N' : Nat} {W' : Int → ByteArray} {T' : TxS} (hl : LogIn w0.heap.size w' bl L' d' N' homes 200 W') (ht : OnLog w' R.bt T' bl L' homes W')
    (hk : Keep (fun k => L.foot bl k ∨ R.T.own R.bt k) w w') (hf : ∀ k, L'.foot bl k → L.foot bl k ∨ w.heap.size ≤ k) (ho : ∀ k, T'.own R.bt k → R.T.own R.bt k ∨ w.heap.size ≤ k) :
    RBase w0 w' bl L' d' N' homes W' br (R.turned T') X Y := by
  refine h.turn hl ht (hk.mono (fun k _ e => e.elim (fun e => .inr (.inr (.inl (by rw [h.tx.tx.flE]; exact e)))) TxS.own_foot)) (fun k e => ?_) (fun k e => (ho k e).elim (h.tx.newer k) (fun e => Nat.le_trans h.below.size e))
  rcases e with e | e | e | e | e
  · exact (ho k (.inl e)).imp TxS.own_foot id
  · exact (ho k (.inr (.inl e))).imp TxS.own_foot id
  · rw [ht.flE] at e
    exact (hf k e).imp (fun e => .inr (.inr (.inl (by rw [h.tx.tx.flE]; exact e)))) id
  · exact (ho k (.inr (.inr (.inl e)))).imp TxS.own_foot id
  · exact (ho k (.inr (.inr (.inr e)))).imp TxS.own_foot id
/-- the document's room turned -/
theorem RBase.docX (h : RBase w0 w bl L d N homes W br R X Y) {D' : Doc} (hd : DocAt w' X.b X.av X.rv D') (hk : Keep X.own w w') : RBase w0 w' bl L d N homes W br R { X with D := D' } Y := by
  have hf : ∀ k, R.T.foot R.bt k → ¬ X.own k := fun k e1 e2 => (h.apX k e2).2 (.inr e1)
  refine ⟨h.room.keep hk (fun k e1 e2 => (h.apX k e2).2 e1), ⟨h.tx.log.keep hk (fun k e => hf k (.inr (.inr (.inl (by rw [h.tx.tx.flE]; exact e))))), h.tx.tx.keep hk (fun k e => hf k (TxS.own_foot e)) (fun k e => hf k (.inr (.inr (.inl (by rw [h.tx.tx.flE]; exact e))))), h.tx.newer⟩,
    hd, h.kept.keep hk (fun k e1 e2 => h.apXY k e2 e1), h.ge, h.apX, h.apY, h.apXY, h.below.trans (hk.below h.below.size (fun i hi e => by have := (h.apX i e).1; omega))⟩
theorem RBase.copyY (h : RBase w0 w bl L d N homes W br R X Y) {b' : Nat} {av' rv' : Value} {D' : Doc} (hn : NewDoc w w' b' av' rv' D') : RBase w0 w' bl L d N homes W br R X ⟨b', av', rv', D'⟩ := by
  have h' := h.still hn.below
  exact ⟨h'.room, h'.tx, h'.doc, hn.at_, h'.ge, h'.apX, fun k e => ⟨Nat.le_trans h.below.size (hn.new k e), fun e2 => by have := hn.new k e; have := h.room.foot_lt e2; omega⟩, fun k e e2 => by have := hn.new k e2; have := h.doc.lt e; omega, h'.below⟩
theorem RBase.copyX (h : RBase w0 w bl L d N homes W br R X Y) {b' : Nat} {av' rv' : Value} {D' : Doc} (hn : NewDoc w w' b' av' rv' D') : RBase w0 w' bl L d N homes W br R ⟨b', av', rv', D'⟩ Y := by
  have h' := h.still hn.below
  exact ⟨h'.room, h'.tx, hn.at_, h'.kept, h'.ge, fun k e => ⟨Nat.le_trans h.below.size (hn.new k e), fun e2 => by have := hn.new k e; have := h.room.foot_lt e2; omega⟩, h'.apY, fun k e e2 => by have := hn.new k e; have := h.kept.lt e2; omega, h'.below⟩

def RoomS.empty (R : RoomS) : RoomS := { R with T := { R.T with puts := [] } }
structure RRel (w0 w : World) (bl : Nat) (L : LogS) (d : Dk) (N homes : Nat) (W : Int → ByteArray) (br bt : Nat) (R : RoomS) (X Y : DocS) (k : Nat) : Prop where
  base : RBase w0 w bl L d N homes W br R X Y
  says : Says R X.D
  saysK : Says R.empty Y.D
  btE : R.bt = bt
  pos : 0 < R.pages ∧ R.pages ≤ 1000
  len : R.T.puts.length ≤ 2 * k
  hN : N ≤ k
  hom : homes ≤ 40
variable {bt k : Nat}
theorem RRel.still (h : RRel w0 w bl L d N homes W br bt R X Y k) (hb : Below w.heap.size w w') : RRel w0 w' bl L d N homes W br bt R X Y k := ⟨h.base.still hb, h.says, h.saysK, h.btE, h.pos, h.len, h.hN, h.hom⟩
theorem RRel.mono (h : RRel w0 w bl L d N homes W br bt R X Y k) {k' : Nat} (hk : k ≤ k') : RRel w0 w bl L d N homes W br bt R X Y k' := ⟨h.base, h.says, h.saysK, h.btE, h.pos, by have := h.len; omega, Nat.le_trans h.hN hk, h.hom⟩
theorem RRel.dlen (h : RRel w0 w bl L d N homes W br bt R X Y k) : X.D.all.length = R.pages := h.says.len
theorem RRel.fit (h : RRel w0 w bl L d N homes W br bt R X Y k) : R.pages ≤ R.maps * 4096 := by have := h.base.room.fit.1; omega
theorem empty_home (R : RoomS) (i : Int) : R.empty.home i = R.T.f i := rfl
/-- the room and the document's, both turned -/
theorem RRel.turn (h : RRel w0 w bl L d N homes W br bt R X Y k) {w1 w2 : World} {R' : RoomS} {D' : Doc} (hs : RoomStep br w R w1 R') (hb : Below w1.heap.size w1 w') (hd : DocAt w2 X.b X.av X.rv D') (hk : Keep X.own w' w2) (hy : Says R' D') (hl : ∃ a, R'.T.puts = R.T.puts ++ a ∧ a.length ≤ 2) :
    RRel w0 w2 bl L d N homes W br bt R' { X with D := D' } Y (k + 1) := by
  refine ⟨((h.base.step hs).still hb).docX hd hk, hy, ?_, hs.bt.trans h.btE, by rw [hs.pages]; exact h.pos, ?_, Nat.le_succ_of_le h.hN, h.hom⟩
  · exact h.saysK.like (R' := R'.empty) hs.maps hs.pages (n := 1 + R.maps + R.pages) (Nat.le_refl _) h.fit (fun i _ => by rw [empty_home, empty_home, hs.tx.f])
  · obtain ⟨a, h1, h2⟩ := hl
    rw [h1, List.length_append]
    have := h.len
    omega
theorem fullS_nil : fullS ⟨#[]⟩ = zeros 512 := by kernel_rfl
end
end Go.Proofs.YtalgheocjnajlaaGreatDoor

namespace Go.Proofs.YtalgheocjnajlaaGreatDoor
open Go.RowKit Go.MapKept
attribute [local go_sem] gives givesH
set_option maxRecDepth 100000

theorem root_bad {w : World} {br : Nat} {R : RoomS} (h : RoomAt w br R) (i : Int) (hi : ¬ (0 ≤ i ∧ i < 16)) :
    Calls Tryz.prog 44 #[.pointer (some ⟨br, 0, none⟩), .int .i64 i] w fun e w' => e = .returned (.tuple #[.int .u64 0, .int .i64 2]) ∧ Below w.heap.size w w' := by
  have HM := Lib.hid (home_in h h.pos)
  generalize R.home ((0 : Nat) : Int) = s at *
  clear h
  by_cases h0 : i < 0
  · have e1 : decide (i < 0) = true := by simpa using h0
    go_enter Tryz.func44, Tryz.ntmps44
    go_wp2_with (fail)
    refine (HM.out).mono ?_
    rintro e w1 ⟨rfl, hb1⟩
    go_wp2
    go_ret2
    exact ⟨rfl, hb1⟩
  · have e1 : decide (i < 0) = false := by simpa using h0
    have e2 : decide ((16 : Int) ≤ i) = true := by simp; omega
    go_enter Tryz.func44, Tryz.ntmps44
    go_wp2_with (fail)
    refine (HM.out).mono ?_
    rintro e w1 ⟨rfl, hb1⟩
    go_wp2
    go_ret2
    exact ⟨rfl, hb1⟩
theorem setRoot_bad {w : World} {br : Nat} {R : RoomS} (h : RoomAt w br R) (i : Int) (hi : ¬ (0 ≤ i ∧ i < 16)) (n : Int) :
    Calls Tryz.prog 43 #[.pointer (some ⟨br, 0, none⟩), .int .i64 i, .int .u64 n] w fun e w' => e = .returned (.int .i64 2) ∧ Below w.heap.size w w' := by
  have HM := Lib.hid (home_in h h.pos)
  generalize R.home ((0 : Nat) : Int) = s at *
  clear h
  by_cases h0 : i < 0
  · have e1 : decide (i < 0) = true := by simpa using h0
    go_enter Tryz.func43, Tryz.ntmps43
    go_wp2_with (fail)
    refine (HM.out).mono ?_
    rintro e w1 ⟨rfl, hb1⟩
    go_wp2
    go_ret
    exact ⟨rfl, hb1⟩
  · have e1 : decide (i < 0) = false := by simpa using h0
    have e2 : decide ((16 : Int) ≤ i) = true := by simp; omega
    go_enter Tryz.func43, Tryz.ntmps43
    go_wp2_with (fail)
    refine (HM.out).mono ?_
    rintro e w1 ⟨rfl, hb1⟩
    go_wp2
    go_ret
    exact ⟨rfl, hb1⟩

theorem nodup_le {α : Type} [DecidableEq α] : ∀ {l1 l2 : List α}, l1.Nodup → (∀ x ∈ l1, x ∈ l2) → l1.length ≤ l2.length
  | [], _, _, _ => Nat.zero_le _
  | x :: t, l2, hd, hs => by
    have hx := hs x (by simp)
    have hd2 := List.nodup_cons.1 hd
    have := nodup_le (l1 := t) (l2 := l2.erase x) hd2.2 (fun y hy => (List.mem_erase_of_ne (fun e => hd2.1 (by rw [← e]; exact hy))).2 (hs y (List.mem_cons_of_mem _ hy)))
    rw [List.length_erase_of_mem hx] at this
    have h1 : 0 < l2.length := List.length_pos_of_mem hx
    simp only [List.length_cons]
    omega
theorem metL_bound {p : Puts} {n : Nat} (h : ∀ x ∈ p, 0 ≤ x.1 ∧ x.1 < n) : (metL p).length ≤ n := by
  have h2 : ((List.range n).map (fun (i : Nat) => (i : Int))).length = n := by rw [List.length_map, List.length_range]
  rw [← h2]
  refine nodup_le (metL_nodup p) (fun i hi => ?_)
  obtain ⟨x, hx, he⟩ := (metL_mem p i).1 hi
  have := h x hx
  exact List.mem_map.2 ⟨i.toNat, List.mem_range.2 (by omega), by omega⟩
theorem seen_over {p : Puts} (h : ∀ x ∈ p, x.2.size = 512) (W : Int → ByteArray) (i : Int) : overG (fullG p) W i = seen p W i := by
  rw [seen_lastOf]
  unfold overG fullG
  cases hl : lastOf p i with
  | none => rfl
  | some t => exact fullS_full t (h _ (lastOf_mem hl))
theorem least_free (R : RoomS) (h : ¬ ∀ q, q < R.pages → R.has q = true) : ∃ p, p < R.pages ∧ R.has p = false ∧ ∀ i, i < p → R.has i = true := by
  have hex : ∃ q, q < R.pages ∧ R.has q = false := by
    refine Classical.byContradiction (fun hno => h (fun q hq => ?_))
    cases hc : R.has q with
    | true => rfl
    | false => exact absurd ⟨q, hq, hc⟩ hno
  obtain ⟨q, hq, hq0⟩ := hex
  induction q using Nat.strongRecOn with
  | _ q ih =>
    by_cases hb : ∃ i, i < q ∧ R.has i = false
    · obtain ⟨i, hi, hi0⟩ := hb
      exact ih i hi (by omega) hi0
    · refine ⟨q, hq, hq0, fun i hi => ?_⟩
      cases hc : R.has i with
      | true => rfl
      | false => exact absurd ⟨i, hi, hc⟩ hb
theorem err_cases (R : RoomS) (i : Int) : (∃ p : Nat, i = p ∧ p < R.pages ∧ R.has p = true ∧ R.err i = 0) ∨ R.err i ≠ 0 := by
  by_cases he : R.err i = 0
  · have hin : 0 ≤ i ∧ i < R.pages := by
      refine Classical.byContradiction (fun hno => ?_)
      unfold RoomS.err at he
      rw [if_neg hno] at he
      cases he
    obtain ⟨p, rfl⟩ : ∃ p : Nat, i = p := ⟨i.toNat, by omega⟩
    refine .inl ⟨p, rfl, by omega, ?_, he⟩
    unfold RoomS.err at he
    rw [if_pos hin, Int.toNat_natCast] at he
    cases hc : R.has p with
    | true => rfl
    | false => rw [hc] at he; cases he
  · exact .inr he
theorem Says.page {R : RoomS} {D : Doc} (h : Says R D) {q : Nat} (hq : q < R.pages) : ∃ s, D.all[q]? = some ⟨R.has q, s⟩ ∧ (R.has q = true → R.text q = s) := by
  obtain ⟨⟨t, s⟩, hx, hh⟩ := h.at hq
  simp only at hh
  rw [hh]
  exact ⟨s, hx, fun e => h.text q _ hx e⟩
theorem Says.hasAt {R : RoomS} {D : Doc} (h : Says R D) (i : Int) : D.hasAt i = R.hasAt i ∧ D.hasErr i = R.hasErr i := by
  unfold Doc.hasAt RoomS.hasAt Doc.hasErr RoomS.hasErr
  rw [h.len]
  refine ⟨?_, rfl⟩
  by_cases hi : 0 ≤ i ∧ i < R.pages
  · rw [decide_eq_true hi, h.getD (by omega)]
  · rw [decide_eq_false hi]; rfl

section
variable {w0 w : World} {bl : Nat} {L : LogS} {d : Dk} {N homes : Nat} {W : Int → ByteArray} {br bt k : Nat} {R : RoomS} {X Y : DocS}
theorem stepKeep {w w' : World} {R' : RoomS} (hs : RoomStep br w R w' R') : Keep (R.foot br) w w' := hs.tx.keep.mono (fun _ _ e => .inr (TxS.own_foot e))
theorem belowKeep {S : Nat → Prop} {w w' : World} (hb : Below w.heap.size w w') : Keep S w w' := Keep.ofBelow hb
theorem RRel.docAt (h : RRel w0 w bl L d N homes W br bt R X Y k) {w1 u : World} {R' : RoomS} (hs : RoomStep br w R w1 R') (hb : Below w1.heap.size w1 u) : DocAt u X.b X.av X.rv X.D := ((h.base.step hs).still hb).doc
theorem RRel.alloc (h : RRel w0 w bl L d N homes W br bt R X Y k) (hk : k ≤ 80) :
    Calls Tryz.prog 33 #[.pointer (some ⟨br, 0, none⟩)] w fun e w1 => ∃ (p c : Int), e = .returned (.tuple #[.int .i64 p, .int .i64 c]) ∧ Keep (R.foot br) w w1 ∧ ∀ u, Below w1.heap.size w1 u →
      Calls Tryz.prog 34 #[.pointer (some ⟨X.b, 0, none⟩)] u fun e w2 => e = .returned (.tuple #[.int .i64 p, .int .i64 c]) ∧ Keep X.own u w2 ∧ ∃ R' D', RRel w0 w2 bl L d N homes W br bt R' { X with D := D' } Y (k + 1) := by
  have hp0 := h.pos
  have hlen := h.len
  have hl : 0 < X.D.all.length := by rw [h.dlen]; exact hp0.1
  have h63 : X.D.all.length ≤ 1000000 := by rw [h.dlen]; omega
  by_cases hall : ∀ q, q < R.pages → R.has q = true
  · refine (alloc_full h.base.room hall).mono fun e w1 ⟨he, hb⟩ => ⟨_, _, he, belowKeep hb, fun u hu => ?_⟩
    have hs := RoomStep.still h.base.room hb
    have hd := h.docAt hs hu
    refine (ref7Alloc_full hd hl h63 (fun q x hx => ?_)).mono fun e w2 ⟨he, hw⟩ => ⟨he, by rw [← hw]; exact Keep.refl _ _, _, _, h.turn hs hu (by rw [← hw]; exact hd) (by rw [← hw]; exact Keep.refl _ _) h.says ⟨[], by simp, by simp⟩⟩
    rw [← h.says.has q x hx]
    exact hall q (by rw [← h.dlen]; exact (List.getElem?_eq_some_iff.1 hx).1)
  · obtain ⟨p, hp, h0, h1⟩ := least_free R hall
    refine (alloc_ok h.base.room (by omega) p hp h0 h1).mono fun e w1 ⟨he, R', hs, ha⟩ => ⟨_, _, he, stepKeep hs, fun u hu => ?_⟩
    have hd := h.docAt hs hu
    obtain ⟨s, hx, _⟩ := h.says.page hp
    rw [h0] at hx
    refine (ref7Alloc_ok hd h63 hx (fun q x hq hx => ?_)).mono fun e w2 ⟨he, hd2, hk2⟩ => ?_
    · rw [← h.says.has q x hx]
      exact h1 q hq
    · have hk3 : Keep X.own u w2 := hk2.mono (fun _ _ e => .inr (.inl e))
      refine ⟨he, hk3, R', _, h.turn hs hu hd2 hk3 ?_ ha.puts⟩
      rw [fullS_nil]
      exact h.says.alloc hp h.fit ⟨hs.bt, hs.maps, hs.pages, hs.tx.n, hs.tx.f⟩ ha
theorem RRel.free (h : RRel w0 w bl L d N homes W br bt R X Y k) (hk : k ≤ 80) (i : Int) :
    Calls Tryz.prog 35 #[.pointer (some ⟨br, 0, none⟩), .int .i64 i] w fun e w1 => ∃ (c : Int), e = .returned (.int .i64 c) ∧ Keep (R.foot br) w w1 ∧ ∀ u, Below w1.heap.size w1 u →
      Calls Tryz.prog 36 #[.pointer (some ⟨X.b, 0, none⟩), .int .i64 i] u fun e w2 => e = .returned (.int .i64 c) ∧ Keep X.own u w2 ∧ ∃ R' D', RRel w0 w2 bl L d N homes W br bt R' { X with D := D' } Y (k + 1) := by
  have hp0 := h.pos
  have hlen := h.len
  have hl : 0 < X.D.all.length := by rw [h.dlen]; exact hp0.1
  rcases err_cases R i with ⟨p, rfl, hp, h1, _⟩ | he0
  · refine (free_ok h.base.room (by omega) p hp h1).mono fun e w1 ⟨he, R', hs, ha⟩ => ⟨_, he, stepKeep hs, fun u hu => ?_⟩
    have hd := h.docAt hs hu
    obtain ⟨s, hx, _⟩ := h.says.page hp
    rw [h1] at hx
    refine (ref7Free_ok hd hl hx).mono fun e w2 ⟨he, hd2, hk2⟩ => ?_
    have hk3 : Keep X.own u w2 := hk2.mono (fun _ _ e => .inr (.inl e))
    exact ⟨he, hk3, R', _, h.turn hs hu hd2 hk3 (h.says.free hp h.fit ⟨hs.bt, hs.maps, hs.pages, hs.tx.n, hs.tx.f⟩ ha) (by obtain ⟨a, a1, a2⟩ := ha.puts; exact ⟨a, a1, by omega⟩)⟩
  · refine (free_bad h.base.room i he0).mono fun e w1 ⟨he, hb⟩ => ⟨_, he, belowKeep hb, fun u hu => ?_⟩
    have hs := RoomStep.still h.base.room hb
    have hd := h.docAt hs hu
    refine (ref7Free_bad hd hl i (by rw [h.says.err]; exact he0)).mono fun e w2 ⟨he, hw⟩ => ?_
    rw [h.says.err] at he
    exact ⟨he, by rw [← hw]; exact Keep.refl _ _, _, _, h.turn hs hu (by rw [← hw]; exact hd) (by rw [← hw]; exact Keep.refl _ _) h.says ⟨[], by simp, by simp⟩⟩
theorem RRel.write (h : RRel w0 w bl L d N homes W br bt R X Y k) (hk : k ≤ 80) (i : Int) (s : ByteArray) (hsz : s.size ≤ 9223372036854775807) :
    Calls Tryz.prog 37 #[.pointer (some ⟨br, 0, none⟩), .int .i64 i, .string s] w fun e w1 => ∃ (c : Int), e = .returned (.int .i64 c) ∧ Keep (R.foot br) w w1 ∧ ∀ u, Below w1.heap.size w1 u →
      Calls Tryz.prog 38 #[.pointer (some ⟨X.b, 0, none⟩), .int .i64 i, .string s] u fun e w2 => e = .returned (.int .i64 c) ∧ Keep X.own u w2 ∧ ∃ R' D', RRel w0 w2 bl L d N homes W br bt R' { X with D := D' } Y (k + 1) := by
  have hp0 := h.pos
  have hlen := h.len
  have hl : 0 < X.D.all.length := by rw [h.dlen]; exact hp0.1
  rcases err_cases R i with ⟨p, rfl, hp, h1, he0⟩ | he0
  · refine (write_ok h.base.room (by omega) p hp h1 s hsz).mono fun e w1 ⟨he, R', hs, ha⟩ => ⟨_, he, stepKeep hs, fun u hu => ?_⟩
    have hd := h.docAt hs hu
    obtain ⟨s0, hx, _⟩ := h.says.page hp
    rw [h1] at hx
    by_cases hlong : 512 < s.size
    · rw [if_pos hlong]
      obtain ⟨_, hpu⟩ : 512 < s.size ∧ R'.T.puts = R.T.puts := ha.resolve_right (fun e => by omega)
      refine (ref7Write_long hd hl p s (by rw [h.says.err]; exact he0) hlong).mono fun e w2 ⟨he, hw⟩ => ?_
      refine ⟨he, by rw [← hw]; exact Keep.refl _ _, _, _, h.turn hs hu (by rw [← hw]; exact hd) (by rw [← hw]; exact Keep.refl _ _) (h.says.like hs.maps hs.pages (n := 1 + R.maps + R.pages) (Nat.le_refl _) h.fit (fun i _ => home_same hs.tx.f hpu i)) ⟨[], by simpa using hpu, by simp⟩⟩
    · rw [if_neg hlong]
      have hwr := (ha.resolve_left (fun e => by omega)).2
      refine (ref7Write_ok hd hl hx s (by omega)).mono fun e w2 ⟨he, hd2, hk2⟩ => ?_
      have hk3 : Keep X.own u w2 := hk2.mono (fun _ _ e => .inr (.inl e))
      exact ⟨he, hk3, R', _, h.turn hs hu hd2 hk3 (h.says.write hp h1 h.fit ⟨hs.bt, hs.maps, hs.pages, hs.tx.n, hs.tx.f⟩ hwr) (by obtain ⟨a, a1, a2⟩ := hwr.puts; exact ⟨a, a1, by omega⟩)⟩
  · refine (write_bad h.base.room i he0 s).mono fun e w1 ⟨he, hb⟩ => ⟨_, he, belowKeep hb, fun u hu => ?_⟩
    have hs := RoomStep.still h.base.room hb
    have hd := h.docAt hs hu
    refine (ref7Write_bad hd hl i s (by rw [h.says.err]; exact he0)).mono fun e w2 ⟨he, hw⟩ => ?_
    rw [h.says.err] at he
    exact ⟨he, by rw [← hw]; exact Keep.refl _ _, _, _, h.turn hs hu (by rw [← hw]; exact hd) (by rw [← hw]; exact Keep.refl _ _) h.says ⟨[], by simp, by simp⟩⟩
theorem RRel.read (h : RRel w0 w bl L d N homes W br bt R X Y k) (i : Int) : ∃ (s : ByteArray) (c : Int),
    (∀ u, Below w.heap.size w u → Calls Tryz.prog 39 #[.pointer (some ⟨br, 0, none⟩), .int .i64 i] u fun e w' => e = .returned (.tuple #[.string s, .int .i64 c]) ∧ Below u.heap.size u w') ∧
    ∀ u, Below w.heap.size w u → Calls Tryz.prog 40 #[.pointer (some ⟨X.b, 0, none⟩), .int .i64 i] u fun e w' => e = .returned (.tuple #[.string s, .int .i64 c]) ∧ u = w' := by
  have hp0 := h.pos
  have hl : 0 < X.D.all.length := by rw [h.dlen]; exact hp0.1
  rcases err_cases R i with ⟨p, rfl, hp, h1, he0⟩ | he0
  · obtain ⟨s, hx, ht⟩ := h.says.page hp
    rw [h1] at hx
    refine ⟨s, 0, fun u hu => ?_, fun u hu => ref7Read_ok (h.still hu).base.doc hl hx⟩
    rw [← ht h1]
    exact read_ok (h.still hu).base.room p hp h1
  · refine ⟨_, _, fun u hu => read_bad (h.still hu).base.room i he0, fun u hu => ?_⟩
    rw [← h.says.err]
    exact ref7Read_bad (h.still hu).base.doc hl i (by rw [h.says.err]; exact he0)
theorem RRel.has (h : RRel w0 w bl L d N homes W br bt R X Y k) (i : Int) : ∃ (t : Bool) (c : Int),
    (∀ u, Below w.heap.size w u → Calls Tryz.prog 41 #[.pointer (some ⟨br, 0, none⟩), .int .i64 i] u fun e w' => e = .returned (.tuple #[.bool t, .int .i64 c]) ∧ Below u.heap.size u w') ∧
    ∀ u, Below w.heap.size w u → Calls Tryz.prog 42 #[.pointer (some ⟨X.b, 0, none⟩), .int .i64 i] u fun e w' => e = .returned (.tuple #[.bool t, .int .i64 c]) ∧ u = w' := by
  have hp0 := h.pos
  have hl : 0 < X.D.all.length := by rw [h.dlen]; exact hp0.1
  refine ⟨_, _, fun u hu => has_any (h.still hu).base.room i, fun u hu => ?_⟩
  have := ref7Has_any (h.still hu).base.doc hl i
  rwa [(h.says.hasAt i).1, (h.says.hasAt i).2] at this
theorem RRel.root (h : RRel w0 w bl L d N homes W br bt R X Y k) (i : Int) : ∃ (n c : Int), (c = 0 ↔ 0 ≤ i ∧ i < 16) ∧ (c = 0 ∨ c = 2 ∧ n = 0) ∧
    ∀ u, Below w.heap.size w u → Calls Tryz.prog 44 #[.pointer (some ⟨br, 0, none⟩), .int .i64 i] u fun e w' => e = .returned (.tuple #[.int .u64 n, .int .i64 c]) ∧ Below u.heap.size u w' := by
  by_cases hi : 0 ≤ i ∧ i < 16
  · obtain ⟨q, rfl⟩ : ∃ q : Nat, i = q := ⟨i.toNat, by omega⟩
    exact ⟨_, 0, by simp only [hi]; simp, .inl rfl, fun u hu => root_any (h.still hu).base.room q (by omega)⟩
  · exact ⟨0, 2, by simp only [hi]; simp, .inr ⟨rfl, rfl⟩, fun u hu => root_bad (h.still hu).base.room i hi⟩
/-- SetRoot; the document's number is set by the law itself -/
theorem RRel.setRoot (h : RRel w0 w bl L d N homes W br bt R X Y k) (hk : k ≤ 80) (i n : Int) (hn : 0 ≤ n ∧ n < 18446744073709551616) :
    Calls Tryz.prog 43 #[.pointer (some ⟨br, 0, none⟩), .int .i64 i, .int .u64 n] w fun e w1 => ∃ (c : Int), e = .returned (.int .i64 c) ∧ Keep (R.foot br) w w1 ∧
      ((0 ≤ i ∧ i < 16 ∧ c = 0 ∧ ∃ g cp, X.rv = .slice (some ⟨g, 0, none⟩) 16 cp ∧ DocAt w1 X.b X.av X.rv X.D ∧ ∃ R' D', RRel w0 (w1.setCell ⟨g, i.toNat, none⟩ (.int .u64 n)) bl L d N homes W br bt R' { X with D := D' } Y (k + 1)) ∨
       (¬ (0 ≤ i ∧ i < 16) ∧ c = 2 ∧ RRel w0 w1 bl L d N homes W br bt R X Y (k + 1))) := by
  have hlen := h.len
  by_cases hi : 0 ≤ i ∧ i < 16
  · obtain ⟨q, rfl⟩ : ∃ q : Nat, i = q := ⟨i.toNat, by omega⟩
    obtain ⟨m, rfl⟩ : ∃ m : Nat, n = m := ⟨n.toNat, by omega⟩
    refine (setRoot_any h.base.room (by omega) q (by omega) m (by omega)).mono fun e w1 ⟨he, R', hs, hp⟩ => ⟨_, he, stepKeep hs, .inl ⟨hi.1, hi.2, rfl, ?_⟩⟩
    have hd := h.docAt hs (Below.refl _ _)
    have hr16 := h.says.rlen
    obtain ⟨g, cp, e1, _, _, _⟩ := row_posB hd.roots (by omega)
    rw [hr16] at e1
    refine ⟨g, cp, e1, hd, R', { X.D with roots := X.D.roots.set q m }, ?_⟩
    rw [Int.toNat_natCast]
    have hd1 := hd
    rw [e1] at hd1
    obtain ⟨h2, hk2⟩ := hd1.setRoot hr16 q m
    rw [← e1] at h2
    refine h.turn hs (Below.refl _ _) h2 (hk2.mono (fun k _ e => .inr (.inr (by rw [e1, e]; rfl)))) (h.says.setRoot (by omega) h.fit ⟨hs.bt, hs.maps, hs.pages, hs.tx.n, hs.tx.f⟩ (rooted_of h.base.room (by omega) (by omega) hs.tx.f hs.maps hp)) ⟨_, hp, by simp⟩
  · exact (setRoot_bad h.base.room i hi n).mono fun e w1 ⟨he, hb⟩ => ⟨_, he, belowKeep hb, .inr ⟨hi, rfl, (h.still hb).mono (Nat.le_succ _)⟩⟩
/-- Commit, and a copy kept -/
theorem RRel.commit (h : RRel w0 w bl L d N homes W br bt R X Y k) (hk : k ≤ 80) :
    Calls Tryz.prog 20 #[.pointer (some ⟨bt, 0, none⟩)] w fun e w1 => e = .returned (.int .i64 0) ∧ Keep (R.foot br) w w1 ∧ ∀ u, Below w1.heap.size w1 u →
      Calls Tryz.prog 32 #[.pointer (some ⟨X.b, 0, none⟩)] u fun e w2 => ∃ L' d' N' W' R' Y', e = .returned (.pointer (some ⟨Y'.b, 0, none⟩)) ∧ Below u.heap.size u w2 ∧ RRel w0 w2 bl L' d' N' homes W' br bt R' X Y' (k + 1) := by
  have hp0 := h.pos
  have hlen := h.len
  have hNk := h.hN
  have hh := h.hom
  have hl : 0 < X.D.all.length := by rw [h.dlen]; exact hp0.1
  have h63 : X.D.all.length ≤ 1000000 := by rw [h.dlen]; omega
  have hgood := h.base.tx.tx.at_.good
  rw [h.base.tx.tx.nE] at hgood
  have hc0 : cErr homes 200 R.T.puts = 0 := by
    refine cErr_zero (fun x hx => ?_) ?_
    · have := hgood x hx; omega
    · have h1 : (metL R.T.puts).length ≤ homes := metL_bound (fun x hx => by have := hgood x hx; omega)
      unfold secs
      omega
  have hco := txCommit_any h.base.tx.log h.base.tx.tx (by omega) (by omega) h.base.below.size h.base.tx.newer
  rw [h.btE] at hco
  refine hco.mono fun e w1 hc => ?_
  obtain ⟨he, L', d', T', hl2, ht2, hp2, hk2, hf2, ho2, _⟩ := hc
  rw [hc0] at he hp2
  rw [if_pos rfl] at hp2
  have hb2 := h.base.com hl2 (by rw [h.btE]; exact ht2) (by rw [h.btE]; exact hk2) hf2 (by rw [h.btE]; exact ho2)
  refine ⟨he, hk2.mono (fun q _ e => .inr ?_), fun u hu => ?_⟩
  · rcases e with e | e
    · exact .inr (.inr (.inl (by rw [h.base.tx.tx.flE]; exact e)))
    · rw [h.btE]; exact TxS.own_foot e
  · have hb3 := hb2.still hu
    refine (ref7Copy_any hb3.doc hl h.says.rlen h63).mono fun e w2 ⟨b', av', rv', he, hn⟩ => ⟨L', d', N + 1, comW homes 200 R.T.puts W, R.turned T', ⟨b', av', rv', X.D⟩, he, hn.below, ?_⟩
    have hW : ∀ i : Int, (R.turned T').home i = R.home i := fun i => by
      unfold RoomS.home TxS.read RoomS.turned
      simp only
      rw [hp2, ht2.fE]
      show (comW homes 200 R.T.puts W) i = _
      unfold comW
      rw [if_pos hc0, seen_over (fun x hx => (hgood x hx).2.2), h.base.tx.tx.fE]
    have hE : (R.turned T').empty = R.turned T' := by
      unfold RoomS.empty RoomS.turned
      simp only
      rw [← hp2]
    have hy : Says (R.turned T') X.D := h.says.like (R' := R.turned T') rfl rfl (n := 1 + R.maps + R.pages) (Nat.le_refl _) h.fit (fun i _ => hW i)
    exact ⟨hb3.copyY hn, hy, by rw [hE]; exact hy, h.btE, h.pos, by show T'.puts.length ≤ _; rw [hp2]; exact Nat.zero_le _, Nat.succ_le_succ hNk, hh⟩
/-- Drop, and the kept one copied -/
theorem RRel.drop (h : RRel w0 w bl L d N homes W br bt R X Y k) (hk : k ≤ 80) :
    Calls Tryz.prog 21 #[.pointer (some ⟨bt, 0, none⟩)] w fun e w1 => e = .returned (.tuple #[]) ∧ Keep (R.foot br) w w1 ∧ ∀ u, Below w1.heap.size w1 u →
      Calls Tryz.prog 32 #[.pointer (some ⟨Y.b, 0, none⟩)] u fun e w2 => ∃ R' X', e = .returned (.pointer (some ⟨X'.b, 0, none⟩)) ∧ Below u.heap.size u w2 ∧ RRel w0 w2 bl L d N homes W br bt R' X' Y (k + 1) := by
  have hp0 := h.pos
  have hlen := h.len
  have hy0 : Y.D.all.length = R.pages := h.saysK.len
  have hl : 0 < Y.D.all.length := by rw [hy0]; exact hp0.1
  have h63 : Y.D.all.length ≤ 1000000 := by rw [hy0]; omega
  have hdr := txDrop_any h.base.tx.tx.at_ (by omega)
  rw [h.btE] at hdr
  refine hdr.mono fun e w1 ⟨he, T', hst, hp⟩ => ?_
  have hst2 : TxStep R.bt w R.T w1 T' := by rw [h.btE]; exact hst
  have hs := h.base.room.step hst2
  have hb2 := h.base.step hs
  refine ⟨he, stepKeep hs, fun u hu => ?_⟩
  have hb3 := hb2.still hu
  refine (ref7Copy_any hb3.kept hl h.saysK.rlen h63).mono fun e w2 ⟨b', av', rv', he, hn⟩ => ⟨R.turned T', ⟨b', av', rv', Y.D⟩, he, hn.below, ?_⟩
  have hE : (R.turned T').empty = R.turned T' := by
    unfold RoomS.empty RoomS.turned
    simp only
    rw [← hp]
  have hy : Says (R.turned T') Y.D := h.saysK.like (R' := R.turned T') rfl rfl (n := 1 + R.maps + R.pages) (Nat.le_refl _) h.fit (fun i _ => by
    rw [← hE, empty_home, empty_home]
    show T'.f _ = _
    rw [hst.f])
  exact ⟨hb3.copyX hn, hy, by rw [hE]; exact hy, h.btE, h.pos, by show T'.puts.length ≤ _; rw [hp]; exact Nat.zero_le _, Nat.le_succ_of_le h.hN, h.hom⟩
end
end Go.Proofs.YtalgheocjnajlaaGreatDoor

namespace Go.Proofs.YtalgheocjnajlaaGreatDoor
open Go.RowKit Go.MapKept
attribute [local go_sem] gives givesH
set_option maxRecDepth 100000

theorem DocAt.root {w : World} {b g c : Nat} {av : Value} {D : Doc} (h : DocAt w b av (.slice (some ⟨g, 0, none⟩) 16 c) D) {q n : Nat} (hx : D.roots[q]? = some n) : w.cell? ⟨g, q, none⟩ = some (.int .u64 (n : Int)) := by
  have h1 := h.roots.cells rfl q (.int .u64 (n : Int)) (by unfold rtCells; rw [List.getElem?_map, hx]; rfl)
  rwa [addr_add] at h1
set_option maxHeartbeats 4000000 in
theorem same_any {w0 w : World} {bl : Nat} {L : LogS} {d : Dk} {N homes : Nat} {W : Int → ByteArray} {br bt k : Nat} {R : RoomS} {X Y : DocS} (h : RRel w0 w bl L d N homes W br bt R X Y k) :
    Calls Tryz.prog 45 #[.pointer (some ⟨br, 0, none⟩), .pointer (some ⟨X.b, 0, none⟩)] w fun e w' => e = .returned (.bool true) ∧ Below w.heap.size w w' := by
  have hp0 := h.pos
  have hl : 0 < X.D.all.length := by rw [h.dlen]; exact hp0.1
  have HU := Lib.hid (used_any h.base.room)
  rw [h.says.used h.fit, ← h.says.len] at HU
  obtain ⟨n, hn⟩ : ∃ n, X.D.all.length = n := ⟨_, rfl⟩
  obtain ⟨g, c, hav, _, _⟩ := h.base.doc.form hl
  have hr16 := h.says.rlen
  obtain ⟨g2, c2, hrv, _, _⟩ := row_posB h.base.doc.roots (by omega)
  rw [hr16] at hrv
  rw [hn] at hav
  have hn0 : 0 < n := by omega
  have hn1 : n ≤ 1000 := by rw [← hn, h.dlen]; exact hp0.2
  have hd := h.base.doc
  rw [hav, hrv] at hd
  have HD := Lib.hid hd
  have HX := Lib.hid (fun u (hu : Below w.heap.size w u) => ref7Used_any (h.still hu).base.doc hl (by omega))
  have HPg := Lib.hid (fun u (hu : Below w.heap.size w u) => roomPagesM_any (h.still hu).base.room)
  have HRd := Lib.hid (fun i => h.read i)
  have HRt := Lib.hid (fun q (hq : q < 16) u (hu : Below w.heap.size w u) => root_any (h.still hu).base.room q hq)
  have HRs := Lib.hid h.says.root
  rw [← h.dlen, hn] at HPg
  rw [hn] at HU HX
  obtain ⟨un, hun⟩ : ∃ un, X.D.used n = un := ⟨_, rfl⟩
  rw [hun] at HU HX
  have HN := Lib.hid hn
  have HR16 := Lib.hid hr16
  obtain ⟨xb, hxb⟩ : ∃ xb, X.b = xb := ⟨_, rfl⟩
  rw [hxb] at HD HX HRd
  rw [hxb]
  clear h hp0 hl hn hav hrv hr16 hd hun hxb
  go_enter Tryz.func45, Tryz.ntmps45
  go_wp2_with (fail)
  refine (HU.out).mono ?_
  rintro e w1 ⟨rfl, hb1⟩
  have HB1 := Lib.hid hb1
  have hdw : ∀ m, Below w.heap.size w (w1.drewN m) := fun m => ⟨hb1.os, hb1.tape, hb1.output, hb1.size, fun i hi => hb1.block i hi⟩
  have HX2 := Lib.hid (fun m => (HX.out _ (hdw m)).mono fun e w' (h : e = .returned (.int .i64 un) ∧ w1.drewN m = w') => (⟨h.1, h.2.symm⟩ : e = .returned (.int .i64 un) ∧ w' = w1.drewN m))
  have HPg2 := Lib.hid (fun m => (HPg.out _ (hdw m)).mono fun e w' (h : e = .returned (.int .i64 n) ∧ w1.drewN m = w') => (⟨h.1, h.2.symm⟩ : e = .returned (.int .i64 n) ∧ w' = w1.drewN m))
  obtain ⟨k0, k1⟩ := (HD.out.still hb1).cell
  clear hb1 hdw HU HX HPg
  go_wp2
  go_quiet (first
    | (go_at_call 75; exact Calls.quiet_of_same (HX2.out _))
    | (go_at_call 60; exact Calls.quiet_of_same (HPg2.out _)))
  have hbq : Below w1.heap.size w1 (w1.drewN nq) := ⟨rfl, rfl, rfl, Nat.le_refl _, fun _ _ => rfl⟩
  obtain ⟨wq, hwq⟩ : ∃ wq, w1.drewN nq = wq := ⟨_, rfl⟩
  rw [hwq] at hbq ⊢
  have HBq := Lib.hid (HB1.out.trans (hbq.mono HB1.out.size))
  have hdq := HD.out.still HBq.out
  clear k0 k1 hbq hwq
  obtain ⟨k0, k1⟩ := hdq.cell
  have HDq := Lib.hid hdq
  clear hdq
  go_wp2
  go_loopw [44] (fun i wr => ∃ k : Nat, k ≤ n ∧ i = .int .i64 k ∧ Below w.heap.size w wr) (fun i _ => n - (intOf i).toNat)
  case atStart => exact ⟨0, by omega, rfl, HBq.out⟩
  case round =>
    obtain ⟨j, hj, rfl, hbel⟩ := hrel
    have HB := Lib.hid hbel
    clear hbel
    by_cases hlt : j < n
    · have g1 : decide ((j : Int) < (n : Int)) = true := by simp; omega
      have g1' : decide (j < n) = true := by simpa using hlt
      obtain ⟨s, c0, hr1, hr2⟩ := HRd.out j
      have A1 := Lib.hid (hr1 _ HB.out)
      have A2 := Lib.hid (fun u (hu : Below wr.heap.size wr u) => hr2 u (HB.out.trans (hu.mono HB.out.size)))
      clear hr1 hr2
      go_wp2_with (fail)
      refine (A1.out).mono ?_
      rintro e w3 ⟨rfl, hb3⟩
      have HB3 := Lib.hid hb3
      have A3 := Lib.hid (A2.out _ hb3)
      clear hb3
      go_wp2_with (fail)
      refine (A3.out).mono ?_
      rintro e _ ⟨rfl, rfl⟩
      go_wp2
      go_roundw
      case rel => exact ⟨j + 1, by omega, rfl, HB.out.trans (HB3.out.mono HB.out.size)⟩
      case measure => simp [intOf]; omega
    · have g1 : decide ((j : Int) < (n : Int)) = false := by simp; omega
      have g1' : decide (j < n) = false := by simpa using hlt
      obtain ⟨k2, k3⟩ := (HD.out.still HB.out).cell
      go_wp2
      go_loopw [73] (fun i wr2 => ∃ k : Nat, k ≤ 16 ∧ i = .int .i64 k ∧ Below w.heap.size w wr2) (fun i _ => 16 - (intOf i).toNat)
      case atStart => exact ⟨0, by omega, rfl, HB.out⟩
      case round =>
        obtain ⟨q, hq, rfl, hbel⟩ := hrel
        have HC := Lib.hid hbel
        clear hbel
        by_cases hlt : q < 16
        · have g1 : decide ((q : Int) < 16) = true := by simp; omega
          have g1' : decide (q < 16) = true := by simpa using hlt
          obtain ⟨m, hm⟩ : ∃ m, X.D.roots[q]? = some m := ⟨_, List.getElem?_eq_getElem (by rw [HR16.out]; exact hlt)⟩
          have hcell := (HD.out.still HC.out).root hm
          obtain ⟨k4, k5⟩ := (HD.out.still HC.out).cell
          have A1 := Lib.hid (HRt.out q hlt)
          rw [HRs.out q m hm] at A1
          have q0 : (0 : Int) ≤ (q : Int) := by omega
          have q1 : (q : Int) < 16 := by omega
          clear hm
          go_wp2_with (fail)
          refine (A1.out _ HC.out).mono ?_
          rintro e w3 ⟨rfl, hb3⟩
          go_wp2
          go_roundw
          case rel => exact ⟨q + 1, by omega, rfl, HC.out.trans (hb3.mono HC.out.size)⟩
          case measure => simp [intOf]; omega
        · have g1 : decide ((q : Int) < 16) = false := by simp; omega
          have g1' : decide (q < 16) = false := by simpa using hlt
          go_wp2
          go_ret
          exact ⟨rfl, HC.out⟩
end Go.Proofs.YtalgheocjnajlaaGreatDoor

namespace Go.Proofs.YtalgheocjnajlaaGreatDoor
open Go.ChangeShapes Go.WideShapes Go.ChangeAt Go.RowKit Go.Joins
set_option maxRecDepth 100000

structure Act7T where
  what : Int
  at_ : Int
  n : Int
  text : ByteArray
section
variable {H : Type} {enc : TypeId × Value → H} {W : World}
def Act7T.wf (x : Act7T) : Prop := (Lit.int .i64 x.what).wf = true ∧ (Lit.int .i64 x.at_).wf = true ∧ (Lit.int .u64 x.n).wf = true ∧ x.text.size ≤ 9223372036854775807
def Acts7At (w : World) (B : Nat) (v : Value) (A : List Act7T) : Prop :=
  ∃ a b off cap, v = .slice a A.length cap ∧ A.length ≤ maxLen ∧ (0 < A.length → a = some ⟨b, off, none⟩ ∧ b < B) ∧
    ∀ (k : Nat) x, A[k]? = some x → w.cell? ⟨b, off + k * 4, none⟩ = some (.int .i64 x.what) ∧ w.cell? ⟨b, off + k * 4 + 1, none⟩ = some (.int .i64 x.at_) ∧ w.cell? ⟨b, off + k * 4 + 2, none⟩ = some (.int .u64 x.n) ∧ w.cell? ⟨b, off + k * 4 + 3, none⟩ = some (.string x.text) ∧ x.wf
theorem open_acts7 {v : Value} {d : DataW H} {p : List MemPlace} (hv : ∃ u, v.cells = #[u] ∧ u = v) (h : DataW.Trod enc Tryz.prog W 0 (fun _ => true) true 63 v d p) (hw : Fits 63 d) : ∃ A, Acts7At W W.heap.size v A := by
  obtain ⟨fuel, hf⟩ := h
  obtain ⟨u, hu, rfl⟩ := hv
  rw [hu] at hf
  rcases open_cell 4 (by decide) Tryz.underlying63 (by kernel_rfl) hf hw with rfl | ⟨ad, len, cap, b, off, cs, rfl, hl, ha, hc⟩
  · exact ⟨[], none, 0, 0, 0, rfl, Nat.zero_le _, fun h => absurd h (by simp), fun k x hx => by simp at hx⟩
  · refine ⟨(List.range len).map (fun k => ⟨cInt (cs k) 0, cInt (cs k) 1, cInt (cs k) 2, cStr (cs k) 3⟩), some ad, b, off, cap, by simp, by simpa using hl.1, fun h0 => ?_, fun k x hx => ?_⟩
    · have := ha (by simpa using h0)
      exact ⟨by rw [this.1], this.2⟩
    · obtain ⟨hk, rfl⟩ := map_range_get _ _ _ _ hx
      obtain ⟨h1, h2, m, y, h3, _⟩ := hc k hk
      have f0 := field_int Tryz.underlying73 (by kernel_rfl) h3 h1 0 _ rfl Tryz.underlying3
      have f1 := field_int Tryz.underlying73 (by kernel_rfl) h3 h1 1 _ rfl Tryz.underlying3
      have f2 := field_int Tryz.underlying73 (by kernel_rfl) h3 h1 2 _ rfl Tryz.underlying71
      have f3 := field_str Tryz.underlying73 (by kernel_rfl) h3 h1 3 _ rfl Tryz.underlying9
      exact ⟨(h2 0 (by decide)).trans f0.1, (h2 1 (by decide)).trans f1.1, (h2 2 (by decide)).trans f2.1, (h2 3 (by decide)).trans f3.1, f0.2, f1.2, f2.2, f3.2⟩
end
end Go.Proofs.YtalgheocjnajlaaGreatDoor
