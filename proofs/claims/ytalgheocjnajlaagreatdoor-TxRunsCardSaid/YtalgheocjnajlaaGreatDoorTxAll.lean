/-
  CHANGES (tx): what one is in memory; every operation walked; a change of a law's own, on a log of its own.
-/
import Derived.Test.YtalgheocjnajlaaGreatDoorLogIn
import Derived.Deep.AppendLies
import Derived.Test.YtalgheocjnajlaaGreatDoorHeld
import Derived.Test.YtalgheocjnajlaaGreatDoorOne

namespace Go.Proofs.YtalgheocjnajlaaGreatDoor
open Go.RowKit Go.MapKept

/-- a log that is up, of n homes, that hold f; F: its blocks -/
def LogView (w : World) (bl : Nat) (n : Nat) (f : Int → ByteArray) (F : Nat → Prop) : Prop :=
  ∃ L : LogS, LogAt w bl L ∧ L.down = false ∧ L.D.down = false ∧ L.homes = n ∧ (∀ i : Int, 0 ≤ i → i < (n : Int) → L.read i = f i) ∧ (∀ k, L.foot bl k → F k) ∧ ∀ k, F k → k < w.heap.size
theorem LogView.keep {w w' : World} {bl n : Nat} {f : Int → ByteArray} {F : Nat → Prop} (h : LogView w bl n f F) {S : Nat → Prop} (hk : Keep S w w') (hn : ∀ k, F k → ¬ S k) : LogView w' bl n f F := by
  obtain ⟨L, h1, h2, h3, h4, h5, h6⟩ := h
  exact ⟨L, h1.keep hk (fun k hf => hn k (h6.1 k hf)), h2, h3, h4, h5, h6.1, fun k hf => Nat.lt_of_lt_of_le (h6.2 k hf) hk.size⟩
theorem LogView.lt {w : World} {bl n : Nat} {f : Int → ByteArray} {F : Nat → Prop} (h : LogView w bl n f F) {k : Nat} (hk : F k) : k < w.heap.size := by
  obtain ⟨L, h1, h2, h3, h4, h5, h6⟩ := h
  exact h6.2 k hk
/-- the view of a log of a law's own -/
theorem LogIn.view {B : Nat} {w : World} {bl : Nat} {L : LogS} {d : Dk} {N homes ring : Nat} {W : Int → ByteArray} (h : LogIn B w bl L d N homes ring W) : LogView w bl homes W (L.foot bl) :=
  ⟨L, h.up.at_, h.up.lup, h.up.dup, h.homes, fun i h0 h1 => by
    have := h.up.read i.toNat (by rw [h.homes]; omega)
    rwa [Int.toNat_of_nonneg h0] at this, fun _ h => h, fun k hk => h.up.at_.foot_lt hk⟩
end Go.Proofs.YtalgheocjnajlaaGreatDoor

namespace Go.Proofs.YtalgheocjnajlaaGreatDoor
open Go.RowKit Go.MapKept
attribute [local go_sem] gives

structure TxS where
  bl : Nat
  n : Nat
  f : Int → ByteArray
  rowv : Value
  puts : Puts
  bw : Nat
  g : Int → Option Value
  ng : Nat
  Fl : Nat → Prop

structure TxAt (w : World) (bt : Nat) (T : TxS) : Prop where
  cells : w.heap[bt]? = some (.cells #[.pointer (some ⟨T.bl, 0, none⟩), T.rowv, .map (some T.bw)] 105 (0, 0))
  log : LogView w T.bl T.n T.f T.Fl
  row : w.ownsRow 0 60 2 T.rowv T.puts.length (writeCells T.puts)
  where_ : IMap w T.bw T.g T.ng
  none_ : ∀ i, posns T.puts i = [] → T.g i = none
  some_ : ∀ i, posns T.puts i ≠ [] → ∃ v, T.g i = some v ∧ w.ownsRow 0 3 1 v (posns T.puts i).length ((posns T.puts i).map (fun k => Value.int .i64 (k : Nat)))
  apart : bt ≠ T.bw ∧ ¬ T.Fl bt ∧ ¬ T.Fl T.bw ∧ ∀ k, T.rowv.ownBlock = some k → k ≠ bt ∧ k ≠ T.bw ∧ ¬ T.Fl k
  lists : ∀ i v k, T.g i = some v → v.ownBlock = some k → k ≠ bt ∧ k ≠ T.bw ∧ ¬ T.Fl k ∧ T.rowv.ownBlock ≠ some k
  each : ∀ i j v v' k, T.g i = some v → T.g j = some v' → i ≠ j → v.ownBlock = some k → v'.ownBlock ≠ some k
  good : ∀ x ∈ T.puts, 0 ≤ x.1 ∧ x.1 < T.n ∧ x.2.size = 512

def TxS.foot (T : TxS) (bt k : Nat) : Prop := k = bt ∨ k = T.bw ∨ T.Fl k ∨ T.rowv.ownBlock = some k ∨ ∃ i v, T.g i = some v ∧ v.ownBlock = some k

theorem TxAt.keep {w w' : World} {bt : Nat} {T : TxS} (h : TxAt w bt T) {S : Nat → Prop} (hk : Keep S w w') (hn : ∀ k, T.foot bt k → ¬ S k) : TxAt w' bt T :=
  ⟨hk.at h.cells (hn _ (.inl rfl)), h.log.keep hk (fun k hf => hn k (.inr (.inr (.inl hf)))), hk.ownsRow h.row (fun k e => hn k (.inr (.inr (.inr (.inl e))))), h.where_.keep hk (hn _ (.inr (.inl rfl))), h.none_,
   fun i hi => by
     obtain ⟨v, hv, ho⟩ := h.some_ i hi
     exact ⟨v, hv, hk.ownsRow ho (fun k e => hn k (.inr (.inr (.inr (.inr ⟨i, v, hv, e⟩)))))⟩, h.apart, h.lists, h.each, h.good⟩

end Go.Proofs.YtalgheocjnajlaaGreatDoor

namespace Go.Proofs.YtalgheocjnajlaaGreatDoor
open Go.RowKit Go.MapKept
attribute [local go_sem] gives

/-! ## the log's answers, by its view -/
theorem LogView.still {w u : World} {bl n : Nat} {f : Int → ByteArray} {F : Nat → Prop} (h : LogView w bl n f F) (hb : Below w.heap.size w u) : LogView u bl n f F := h.keep (Keep.still hb) (fun _ _ h => h)
theorem view_down {w : World} {bl n : Nat} {f : Int → ByteArray} {F : Nat → Prop} (h : LogView w bl n f F) :
    Calls Tryz.prog 57 #[.pointer (some ⟨bl, 0, none⟩)] w fun e w' => e = .returned (.bool false) ∧ w = w' := by
  obtain ⟨L, h1, h2, h3, h4, h5, h6⟩ := h
  exact h2 ▸ logDown_any h1.cells
theorem view_homes {w : World} {bl n : Nat} {f : Int → ByteArray} {F : Nat → Prop} (h : LogView w bl n f F) :
    Calls Tryz.prog 56 #[.pointer (some ⟨bl, 0, none⟩)] w fun e w' => e = .returned (.int .i64 n) ∧ Below w.heap.size w w' := by
  obtain ⟨L, h1, h2, h3, h4, h5, h6⟩ := h
  exact h4 ▸ logHomes_any h1
/-- what reading home i of n answers: the text, and the error -/
def homeStr (n : Nat) (f : Int → ByteArray) (i : Int) : ByteArray := if 0 ≤ i ∧ i < n then f i else ⟨#[]⟩
def homeErr (n : Nat) (i : Int) : Int := if 0 ≤ i ∧ i < n then 0 else 2
theorem homeStr_in {n : Nat} {f : Int → ByteArray} {i : Int} (h : 0 ≤ i ∧ i < n) : homeStr n f i = f i := if_pos h
theorem homeErr_in {n : Nat} {i : Int} (h : 0 ≤ i ∧ i < n) : homeErr n i = 0 := if_pos h
theorem homeErr_out {n : Nat} {i : Int} (h : ¬ (0 ≤ i ∧ i < n)) : homeErr n i = 2 := if_neg h
theorem homeErr_up (n : Nat) (i : Int) : homeErr n i ≠ 3 := by unfold homeErr; split <;> decide
def homeSays (n : Nat) (f : Int → ByteArray) (i : Int) : Value := .tuple #[.string (homeStr n f i), .int .i64 (homeErr n i)]
theorem view_read {w : World} {bl n : Nat} {f : Int → ByteArray} {F : Nat → Prop} (h : LogView w bl n f F) {i : Int} (hi : (Lit.int .i64 i).wf = true) :
    Calls Tryz.prog 25 #[.pointer (some ⟨bl, 0, none⟩), .int .i64 i] w fun e w' => e = .returned (homeSays n f i) ∧ Below w.heap.size w w' := by
  obtain ⟨L, h1, h2, h3, h4, h5, h6⟩ := h
  have := logRead_any h1 h2 h3 hi
  have e : L.says i = homeSays n f i := by
    unfold LogS.says homeSays homeStr homeErr
    rw [h4]
    split
    · rename_i h; rw [h5 i h.1 h.2]
    · rfl
  rwa [e] at this
theorem LogView.size {w : World} {bl n : Nat} {f : Int → ByteArray} {F : Nat → Prop} (h : LogView w bl n f F) (i : Int) (h0 : 0 ≤ i) (hn : i < n) : (f i).size = 512 := by
  obtain ⟨L, h1, h2, h3, h4, h5, h6⟩ := h
  rw [← h5 i h0 hn]; exact LogS.read_size h1 i
theorem LogView.small {w : World} {bl n : Nat} {f : Int → ByteArray} {F : Nat → Prop} (h : LogView w bl n f F) : n ≤ 65536 := by
  obtain ⟨L, h1, h2, h3, h4, h5, h6⟩ := h
  have := h1.disk.size
  rw [← h4]; unfold LogS.homes; omega

/-! ## a change in memory: small words -/
theorem tCells {w : World} {b : Nat} {v0 v1 v2 : Value} {t : TypeId} (h : w.heap[b]? = some (.cells #[v0, v1, v2] t (0, 0))) :
    (w.cell? ⟨b, 0, none⟩ = some v0 ∧ w.cell? ⟨b, 1, none⟩ = some v1 ∧ w.cell? ⟨b, 2, none⟩ = some v2) ∧ w.frozen? ⟨b, 0, none⟩ = false ∧ w.frozen? ⟨b, 1, none⟩ = false ∧ w.frozen? ⟨b, 2, none⟩ = false := by
  simp [World.cell?, World.frozen?, h]
def TxS.own (T : TxS) (bt k : Nat) : Prop := k = bt ∨ k = T.bw ∨ T.rowv.ownBlock = some k ∨ ∃ i v, T.g i = some v ∧ v.ownBlock = some k
theorem TxS.own_foot {T : TxS} {bt k : Nat} (h : T.own bt k) : T.foot bt k := by
  rcases h with h | h | h | h
  · exact .inl h
  · exact .inr (.inl h)
  · exact .inr (.inr (.inr (.inl h)))
  · exact .inr (.inr (.inr (.inr h)))
theorem TxAt.still {w u : World} {bt : Nat} {T : TxS} (h : TxAt w bt T) (hb : Below w.heap.size w u) : TxAt u bt T := h.keep (Keep.still hb) (fun _ _ h => h)

theorem txDead_any {w : World} {bt : Nat} {T : TxS} (h : TxAt w bt T) :
    Calls Tryz.prog 52 #[.pointer (some ⟨bt, 0, none⟩)] w fun e w' => e = .returned (.bool false) ∧ w = w' := by
  have H := Lib.hid (view_down h.log)
  obtain ⟨⟨c0, c1, c2⟩, _⟩ := tCells h.cells
  go_enter Tryz.func52, Tryz.ntmps52
  go_wp2_with (go_at_call 57; refine (H.out).mono ?_; rintro e w1 ⟨rfl, rfl⟩)
  go_ret
  exact ⟨rfl, rfl⟩

theorem txHomes_any {w : World} {bt : Nat} {T : TxS} (h : TxAt w bt T) :
    Calls Tryz.prog 24 #[.pointer (some ⟨bt, 0, none⟩)] w fun e w' => e = .returned (.int .i64 T.n) ∧ Below w.heap.size w w' := by
  have H := Lib.hid (view_homes h.log)
  obtain ⟨⟨c0, c1, c2⟩, _⟩ := tCells h.cells
  go_enter Tryz.func24, Tryz.ntmps24
  go_wp2_with (go_at_call 56; refine (H.out).mono ?_; rintro e w1 ⟨rfl, hb⟩)
  go_ret
  exact ⟨rfl, hb⟩

theorem txMark_any {w : World} {bt : Nat} {T : TxS} (h : TxAt w bt T) :
    Calls Tryz.prog 16 #[.pointer (some ⟨bt, 0, none⟩)] w fun e w' => e = .returned (.int .i64 T.puts.length) ∧ w = w' := by
  obtain ⟨⟨c0, c1, c2⟩, _⟩ := tCells h.cells
  obtain ⟨a, c, hv, _⟩ := slice_form h.row
  rw [hv] at c1
  clear hv
  go_enter Tryz.func16, Tryz.ntmps16
  go_wp2
  go_ret
  exact ⟨rfl, rfl⟩

/-- what a home holds, as the change sees it -/
def TxS.read (T : TxS) : Int → ByteArray := seen T.puts T.f
def TxS.says (T : TxS) (i : Int) : Value := homeSays T.n T.read i

set_option maxRecDepth 100000
theorem txRead_any {w : World} {bt : Nat} {T : TxS} (h : TxAt w bt T) {i : Int} (hi : (Lit.int .i64 i).wf = true) :
    Calls Tryz.prog 14 #[.pointer (some ⟨bt, 0, none⟩), .int .i64 i] w fun e w' => e = .returned (T.says i) ∧ Below w.heap.size w w' := by
  have H1 := Lib.hid (txDead_any h)
  have H2 := Lib.hid (view_read h.log hi)
  obtain ⟨⟨c0, c1, c2⟩, _⟩ := tCells h.cells
  have l1 := h.where_.run_lookup Tryz.underlying3 Tryz.underlying103 (zeroInts w) hi false
  by_cases hp : posns T.puts i = []
  · rw [h.none_ i hp] at l1
    have hs : T.says i = homeSays T.n T.f i := by
      unfold TxS.says homeSays homeStr TxS.read
      rw [seen_none _ _ _ hp]
    rw [hs]
    unfold homeSays at *
    generalize homeStr T.n T.f i = s at *
    generalize homeErr T.n i = c at *
    simp only [Option.getD_none, Bool.false_eq_true, if_false] at l1
    clear hp hs
    go_enter Tryz.func14, Tryz.ntmps14
    go_wp2_with (first
      | (go_at_call 52; refine (H1.out).mono ?_; rintro e w1 ⟨rfl, rfl⟩)
      | (go_at_call 25; refine (H2.out).mono ?_; rintro e w1 ⟨rfl, hb⟩))
    go_ret2
    exact ⟨rfl, hb⟩
  · obtain ⟨v, hv, ho⟩ := h.some_ i hp
    rw [hv] at l1
    simp only [Option.getD_some, Bool.false_eq_true, if_false] at l1
    obtain ⟨l, k, hlk⟩ : ∃ l k, posns T.puts i = l ++ [k] := ⟨_, _, (List.dropLast_concat_getLast hp).symm⟩
    obtain ⟨hk, hpk⟩ := seen_last T.puts T.f i l k hlk
    obtain ⟨g, c, rfl, hc1, hc2, hcell⟩ := row_pos ho (by rw [hlk]; simp)
    obtain ⟨r, rc, hr, hr1, hr2, hrow⟩ := row_pos h.row (by omega)
    have ha := hcell l.length (.int .i64 (k : Nat)) (by rw [hlk]; simp)
    have hb := hrow (k * 2 + 1) _ (writeCells_at T.puts k i _ hpk).2
    have hg := h.good _ (List.mem_of_getElem? hpk)
    have hs : T.says i = .tuple #[.string (T.read i), .int .i64 0] := by
      unfold TxS.says homeSays
      rw [homeStr_in ⟨hg.1, hg.2.1⟩, homeErr_in ⟨hg.1, hg.2.1⟩]
    rw [hs]
    have hb' : w.cell? ⟨r, k * 2 + 1, none⟩ = some (.string (T.read i)) := hb
    rw [hr] at c1
    have hln : (posns T.puts i).length = l.length + 1 := by rw [hlk]; simp
    rw [hln] at l1 hc1
    unfold maxLen at hc2 hr2
    have hk0 : (0 : Int) ≤ (k : Int) := by omega
    have hk1 : (k : Int) < (T.puts.length : Int) := by omega
    clear hb hrow hcell ho hlk hv hpk hs hg hr hln
    generalize T.read i = s at *
    generalize l.length = m at *
    generalize T.puts.length = q at *
    go_enter Tryz.func14, Tryz.ntmps14
    go_wp2_with (first
      | (go_at_call 52; refine (H1.out).mono ?_; rintro e w1 ⟨rfl, rfl⟩))
    go_quiet (fail)
    go_wp2
    go_ret2
    exact ⟨rfl, ⟨rfl, rfl, rfl, Nat.le_refl _, fun _ _ => rfl⟩⟩

end Go.Proofs.YtalgheocjnajlaaGreatDoor

namespace Go.Proofs.YtalgheocjnajlaaGreatDoor
open Go.RowKit Go.MapKept
attribute [local go_sem] gives

/-- a change turned: what is left as it was, and what has come -/
structure TxStep (bt : Nat) (w : World) (T : TxS) (w' : World) (T' : TxS) : Prop where
  at_ : TxAt w' bt T'
  bl : T'.bl = T.bl
  n : T'.n = T.n
  f : T'.f = T.f
  Fl : T'.Fl = T.Fl
  keep : Keep (T.own bt) w w'
  own : ∀ k, T'.own bt k → T.own bt k ∨ w.heap.size ≤ k
theorem TxStep.refl {bt : Nat} {w : World} {T : TxS} (h : TxAt w bt T) : TxStep bt w T w T := ⟨h, rfl, rfl, rfl, rfl, Keep.refl _ _, fun _ h => .inl h⟩
theorem TxStep.trans {bt : Nat} {w w' w'' : World} {T T' T'' : TxS} (h : TxStep bt w T w' T') (k : TxStep bt w' T' w'' T'') : TxStep bt w T w'' T'' :=
  ⟨k.at_, k.bl.trans h.bl, k.n.trans h.n, k.f.trans h.f, k.Fl.trans h.Fl, h.keep.trans k.keep (fun i hi hs => (h.own i hs).resolve_right (by omega)),
   fun i hi => (k.own i hi).elim (h.own i) (fun hge => .inr (Nat.le_trans h.keep.size hge))⟩
theorem TxStep.still {bt : Nat} {w u : World} {T : TxS} (h : TxAt w bt T) (hb : Below w.heap.size w u) : TxStep bt w T u T := ⟨h.still hb, rfl, rfl, rfl, rfl, Keep.ofBelow hb, fun _ h => .inl h⟩

def TxS.slot (T : TxS) (i : Int) : Value := (T.g i).getD (.slice none 0 0)
theorem TxAt.slot {w : World} {bt : Nat} {T : TxS} (h : TxAt w bt T) (i : Int) : w.ownsRow 0 3 1 (T.slot i) (posns T.puts i).length ((posns T.puts i).map (fun k => Value.int .i64 (k : Nat))) := by
  unfold TxS.slot
  by_cases hp : posns T.puts i = []
  · rw [h.none_ i hp, hp]; exact World.ownsRow_nil _ _ _ _
  · obtain ⟨v, hv, ho⟩ := h.some_ i hp
    rw [hv]; exact ho
theorem TxS.slot_some {T : TxS} {i : Int} {k : Nat} (h : (T.slot i).ownBlock = some k) : ∃ v, T.g i = some v ∧ v.ownBlock = some k := by
  unfold TxS.slot at h
  cases hg : T.g i with
  | none => rw [hg] at h; cases h
  | some v => rw [hg] at h; exact ⟨v, rfl, h⟩
theorem TxAt.slot_ne {w : World} {bt : Nat} {T : TxS} (h : TxAt w bt T) {i : Int} {k : Nat} (hk : (T.slot i).ownBlock = some k) : k ≠ bt ∧ k ≠ T.bw ∧ ¬ T.Fl k ∧ T.rowv.ownBlock ≠ some k := by
  obtain ⟨v, hv, hvk⟩ := TxS.slot_some hk
  exact h.lists i v k hv hvk
theorem posns_le (p : Puts) (i : Int) : (posns p i).length ≤ p.length := by
  unfold posns
  have := List.length_filter_le (fun k => decide ((p[k]?.map (·.1)) = some i)) (List.range p.length)
  simpa using this

def TxS.put (T : TxS) (i : Int) (s : ByteArray) (v' rowv' : Value) (ng' : Nat) : TxS := { T with puts := T.puts ++ [(i, s)], rowv := rowv', g := putAt T.g i v', ng := ng' }

/-- what a put leaves, from what its operations leave -/
theorem put_step {w : World} {bt : Nat} {T : TxS} (h : TxAt w bt T) {i : Int} {s : ByteArray} (hi : 0 ≤ i ∧ i < T.n) (hs : s.size = 512)
    {u3 u4 u7 : World} {v' rowv' : Value} {ng' : Nat}
    (k3' : Keep (fun k => (T.slot i).ownBlock = some k) w u3)
    (hown3 : u3.ownsRow 0 3 1 v' ((posns T.puts i).length + 1) ((posns T.puts i).map (fun k => Value.int .i64 (k : Nat)) ++ [.int .i64 (T.puts.length : Nat)]))
    (hloc3 : v'.ownBlock = (T.slot i).ownBlock ∨ ∃ k, v'.ownBlock = some k ∧ w.heap.size ≤ k)
    (hm4 : IMap u4 T.bw (putAt T.g i v') ng') (hk4 : Keep (· = T.bw) u3 u4)
    (k47 : Keep (fun k => T.rowv.ownBlock = some k) u4 u7)
    (hown7 : u7.ownsRow 0 60 2 rowv' (T.puts.length + 1) (writeCells T.puts ++ [.int .i64 i, .string s]))
    (hloc7 : rowv'.ownBlock = T.rowv.ownBlock ∨ ∃ k, rowv'.ownBlock = some k ∧ u3.heap.size ≤ k) :
    TxStep bt w T (u7.setCell ⟨bt, 1, none⟩ rowv') (T.put i s v' rowv' ng') := by
  have hbt : bt < w.heap.size := (Array.getElem?_eq_some_iff.1 h.cells).1
  have hbw : T.bw < w.heap.size := h.where_.lt
  have s3 := k3'.size
  have s4 := hk4.size
  have hslot : ∀ k, (T.slot i).ownBlock = some k → k ≠ bt ∧ k ≠ T.bw ∧ ¬ T.Fl k ∧ T.rowv.ownBlock ≠ some k ∧ k < w.heap.size := fun k hk => by
    obtain ⟨v, hv, hvk⟩ := TxS.slot_some hk
    obtain ⟨a, b, c, d⟩ := h.lists i v k hv hvk
    exact ⟨a, b, c, d, ((h.slot i).lt k hk).2⟩
  have hrow : ∀ k, T.rowv.ownBlock = some k → k ≠ bt ∧ k ≠ T.bw ∧ ¬ T.Fl k ∧ k < w.heap.size := fun k hk => by
    obtain ⟨a, b, c⟩ := h.apart.2.2.2 k hk
    exact ⟨a, b, c, (h.row.lt k hk).2⟩
  -- what has turned, exactly
  let S0 : Nat → Prop := fun k => k = T.bw ∨ T.rowv.ownBlock = some k ∨ (T.slot i).ownBlock = some k
  have k3 : Keep S0 w u3 := k3'.mono (fun k _ e => .inr (.inr e))
  have k4 : Keep S0 w u4 := k3.trans hk4 (fun k _ e => .inl e)
  have k7 : Keep S0 w u7 := k4.trans k47 (fun k _ e => .inr (.inl e))
  have nbt : ¬ S0 bt := by
    rintro (e | e | e)
    · exact h.apart.1 e
    · exact (hrow _ e).1 rfl
    · exact (hslot _ e).1 rfl
  have c7 : u7.heap[bt]? = some (.cells #[.pointer (some ⟨T.bl, 0, none⟩), T.rowv, .map (some T.bw)] 105 (0, 0)) := k7.at h.cells nbt
  have kset : Keep (· = bt) u7 (u7.setCell ⟨bt, 1, none⟩ rowv') := (Keep.refl (· = bt) u7).setCell (p := ⟨bt, 1, none⟩) (fun _ => rfl) _
  have kall : Keep (fun k => S0 k ∨ k = bt) w (u7.setCell ⟨bt, 1, none⟩ rowv') := (k7.mono (fun _ _ e => .inl e)).trans kset (fun _ _ e => .inr e)
  have hv'lt : ∀ k, v'.ownBlock = some k → k < u3.heap.size := fun k hk => (hown3.lt k hk).2
  have hv'ne : ∀ k, v'.ownBlock = some k → k ≠ bt ∧ k ≠ T.bw ∧ ¬ T.Fl k ∧ T.rowv.ownBlock ≠ some k ∧ ((T.slot i).ownBlock = some k ∨ w.heap.size ≤ k) := fun k hk => by
    rcases hloc3 with e | e
    · obtain ⟨a, b, c, d, _⟩ := hslot k (e ▸ hk)
      exact ⟨a, b, c, d, .inl (e ▸ hk)⟩
    · obtain ⟨k', e, hge⟩ := e
      have : k = k' := by rw [e] at hk; exact (Option.some.inj hk).symm
      refine ⟨by omega, by omega, fun hf => ?_, fun hr => ?_, .inr (by omega)⟩
      · have := h.log.lt hf; omega
      · have := (hrow k hr).2.2.2; omega
  have hrv'ne : ∀ k, rowv'.ownBlock = some k → k ≠ bt ∧ k ≠ T.bw ∧ ¬ T.Fl k ∧ (T.rowv.ownBlock = some k ∨ u3.heap.size ≤ k) := fun k hk => by
    rcases hloc7 with e | e
    · obtain ⟨a, b, c, _⟩ := hrow k (e ▸ hk)
      exact ⟨a, b, c, .inl (e ▸ hk)⟩
    · obtain ⟨k', e, hge⟩ := e
      have : k = k' := by rw [e] at hk; exact (Option.some.inj hk).symm
      refine ⟨by omega, by omega, fun hf => ?_, .inr (by omega)⟩
      have := h.log.lt hf; omega
  refine ⟨⟨?_, ?_, ?_, ?_, ?_, ?_, ?_, ?_, ?_, ?_⟩, rfl, rfl, rfl, rfl, ?_, ?_⟩
  · show (u7.setCell ⟨bt, 1, none⟩ rowv').heap[bt]? = some (.cells #[.pointer (some ⟨T.bl, 0, none⟩), rowv', .map (some T.bw)] 105 (0, 0))
    simp [World.setCell, Array.getElem?_modify, c7]
  · refine h.log.keep kall (fun k hf e => ?_)
    rcases e with (e | e | e) | e
    · exact h.apart.2.2.1 (e ▸ hf)
    · exact (hrow _ e).2.2.1 hf
    · exact (hslot _ e).2.2.1 hf
    · exact h.apart.2.1 (e ▸ hf)
  · show World.ownsRow _ 0 60 2 rowv' (T.puts ++ [(i, s)]).length (writeCells (T.puts ++ [(i, s)]))
    have e1 : writeCells (T.puts ++ [(i, s)]) = writeCells T.puts ++ [.int .i64 i, .string s] := by simp [writeCells]
    rw [e1, List.length_append]
    exact kset.ownsRow hown7 (fun k hk e => (hrv'ne k hk).1 e)
  · refine (hm4.keep k47 (fun e => (hrow _ e).2.1 rfl)).keep kset (fun e => h.apart.1 e.symm)
  · intro j hj
    show putAt T.g i v' j = none
    rw [show (T.put i s v' rowv' ng').puts = T.puts ++ [(i, s)] from rfl, posns_snoc] at hj
    obtain ⟨hj1, hj2⟩ := List.append_eq_nil_iff.1 hj
    have hne : ¬ j = i := fun e => by rw [if_pos e.symm] at hj2; cases hj2
    unfold putAt
    rw [if_neg hne]
    exact h.none_ j hj1
  · intro j hj
    show ∃ v, putAt T.g i v' j = some v ∧ World.ownsRow _ 0 3 1 v (posns (T.puts ++ [(i, s)]) j).length _
    rw [show (T.put i s v' rowv' ng').puts = T.puts ++ [(i, s)] from rfl] at hj ⊢
    rw [posns_snoc] at hj ⊢
    by_cases hji : j = i
    · subst hji
      refine ⟨v', by simp [putAt], ?_⟩
      rw [if_pos rfl, List.length_append, List.map_append]
      have o4 := hk4.ownsRow hown3 (fun k hk e => (hv'ne k hk).2.1 e)
      have o7 := k47.ownsRow o4 (fun k hk e => (hv'ne k hk).2.2.2.1 e)
      exact kset.ownsRow o7 (fun k hk e => (hv'ne k hk).1 e)
    · rw [if_neg (fun e => hji e.symm), List.append_nil] at hj ⊢
      obtain ⟨v, hv, ho⟩ := h.some_ j hj
      refine ⟨v, by simp [putAt, hji, hv], kall.ownsRow ho (fun k hk e => ?_)⟩
      obtain ⟨a, b, c, d⟩ := h.lists j v k hv hk
      rcases e with (e | e | e) | e
      · exact b e
      · exact d e
      · obtain ⟨v2, hv2, hk2⟩ := TxS.slot_some e
        exact h.each j i v v2 k hv hv2 hji hk hk2
      · exact a e
  · refine ⟨h.apart.1, h.apart.2.1, h.apart.2.2.1, fun k hk => ?_⟩
    obtain ⟨a, b, c, _⟩ := hrv'ne k hk
    exact ⟨a, b, c⟩
  · intro j v k hv hk
    show k ≠ bt ∧ k ≠ T.bw ∧ ¬ T.Fl k ∧ rowv'.ownBlock ≠ some k
    have hv2 : putAt T.g i v' j = some v := hv
    unfold putAt at hv2
    by_cases hji : j = i
    · rw [if_pos hji] at hv2
      cases hv2
      obtain ⟨a, b, c, d, _⟩ := hv'ne k hk
      refine ⟨a, b, c, fun e => ?_⟩
      have hlt := hv'lt k hk
      rcases (hrv'ne k e).2.2.2 with e | e
      · exact d e
      · omega
    · rw [if_neg hji] at hv2
      obtain ⟨a, b, c, d⟩ := h.lists j v k hv2 hk
      refine ⟨a, b, c, fun e => ?_⟩
      have hne : posns T.puts j ≠ [] := fun hp => by rw [h.none_ j hp] at hv2; cases hv2
      obtain ⟨v2, hv3, ho⟩ := h.some_ j hne
      rw [hv2] at hv3
      cases hv3
      have hlt := (ho.lt k hk).2
      rcases (hrv'ne k e).2.2.2 with e | e
      · exact d e
      · omega
  · intro j j' v v2 k hv hv2 hjj hk hk2
    have e1 : putAt T.g i v' j = some v := hv
    have e2 : putAt T.g i v' j' = some v2 := hv2
    unfold putAt at e1 e2
    have old : ∀ j v, T.g j = some v → v.ownBlock = some k → j ≠ i → v'.ownBlock = some k → False := fun j v hv hk hji hvk => by
      have hne : posns T.puts j ≠ [] := fun hp => by rw [h.none_ j hp] at hv; cases hv
      obtain ⟨v3, hv3, ho⟩ := h.some_ j hne
      rw [hv] at hv3
      cases hv3
      have hlt := (ho.lt k hk).2
      rcases (hv'ne k hvk).2.2.2.2 with e | e
      · obtain ⟨v4, hv4, hk4⟩ := TxS.slot_some e
        exact h.each j i v v4 k hv hv4 hji hk hk4
      · omega
    by_cases hji : j = i
    · rw [if_pos hji] at e1
      cases e1
      rw [if_neg (fun e => hjj (hji.trans e.symm))] at e2
      exact old j' v2 e2 hk2 (fun e => hjj (hji.trans e.symm)) hk
    · rw [if_neg hji] at e1
      by_cases hji' : j' = i
      · rw [if_pos hji'] at e2
        cases e2
        exact old j v e1 hk hji hk2
      · rw [if_neg hji'] at e2
        exact h.each j j' v v2 k e1 e2 hjj hk hk2
  · intro x hx
    rcases List.mem_append.1 hx with hx | hx
    · exact h.good x hx
    · obtain rfl : x = (i, s) := by simpa using hx
      exact ⟨hi.1, hi.2, hs⟩
  · refine kall.mono (fun k _ e => ?_)
    rcases e with (e | e | e) | e
    · exact .inr (.inl e)
    · exact .inr (.inr (.inl e))
    · exact .inr (.inr (.inr ((TxS.slot_some e).elim fun v hv => ⟨i, v, hv.1, hv.2⟩)))
    · exact .inl e
  · intro k hk
    rcases hk with e | e | e | ⟨j, v, hv, e⟩
    · exact .inl (.inl e)
    · exact .inl (.inr (.inl e))
    · rcases (hrv'ne k e).2.2.2 with e | e
      · exact .inl (.inr (.inr (.inl e)))
      · exact .inr (by omega)
    · have e1 : putAt T.g i v' j = some v := hv
      unfold putAt at e1
      by_cases hji : j = i
      · rw [if_pos hji] at e1
        cases e1
        rcases (hv'ne k e).2.2.2.2 with e | e
        · exact .inl (.inr (.inr (.inr ((TxS.slot_some e).elim fun v hv => ⟨i, v, hv.1, hv.2⟩))))
        · exact .inr e
      · rw [if_neg hji] at e1
        exact .inl (.inr (.inr (.inr ⟨j, v, e1, e⟩)))

end Go.Proofs.YtalgheocjnajlaaGreatDoor

namespace Go.Proofs.YtalgheocjnajlaaGreatDoor
open Go.RowKit Go.MapKept
attribute [local go_sem] gives givesH

def freshTx (bl n : Nat) (f : Int → ByteArray) (F : Nat → Prop) (bw : Nat) : TxS := { bl := bl, n := n, f := f, rowv := .slice none 0 0, puts := [], bw := bw, g := fun _ => none, ng := 0, Fl := F }
theorem begin_any {w : World} {bl n : Nat} {f : Int → ByteArray} {F : Nat → Prop} (h : LogView w bl n f F) :
    Calls Tryz.prog 10 #[.pointer (some ⟨bl, 0, none⟩)] w fun e w' => ∃ bt T, e = .returned (.pointer (some ⟨bt, 0, none⟩)) ∧ T = freshTx bl n f F w.heap.size ∧ TxAt w' bt T ∧ bt = w.heap.size + 1 ∧ Below w.heap.size w w' := by
  have hmm := @run_makeMap Tryz.prog
  have HN := Lib.hid (new2 w (Obj.map #[] 0) (Obj.cells #[.pointer (some ⟨bl, 0, none⟩), .slice none 0 0, .map (some w.heap.size)] 105))
  go_enter Tryz.func10, Tryz.ntmps10
  go_wp2
  go_ret
  obtain ⟨n1, n2, nb⟩ := HN.out
  refine ⟨w.heap.size + 1, _, rfl, rfl, ⟨n2, h.still nb, World.ownsRow_nil _ _ _ _, IMap_empty n1, fun _ _ => rfl, fun i hi => absurd rfl hi, ⟨?_, ?_, ?_, ?_⟩, ?_, ?_, ?_⟩, rfl, nb⟩
  · show w.heap.size + 1 ≠ w.heap.size; omega
  · intro hf; have := h.lt hf; omega
  · intro hf; have hlt : w.heap.size < w.heap.size := h.lt hf; omega
  · intro k hk; cases hk
  · intro i v k hv; cases hv
  · intro i j v v' k hv; cases hv
  · intro x hx; cases hx

def writeErr (n : Nat) (i : Int) (s : ByteArray) : Int := if 0 ≤ i ∧ i < n then (if 512 < s.size then 5 else 0) else 2

set_option maxRecDepth 100000
set_option maxHeartbeats 1000000 in
theorem txWrite_ok {w : World} {bt : Nat} {T : TxS} (h : TxAt w bt T) (hlen : T.puts.length < 1000000000000) {i : Int} (hi : 0 ≤ i ∧ i < T.n) (s : ByteArray) (hs : s.size ≤ 512) :
    Calls Tryz.prog 13 #[.pointer (some ⟨bt, 0, none⟩), .int .i64 i, .string s] w fun e w' => e = .returned (.int .i64 0) ∧ ∃ T', TxStep bt w T w' T' ∧ T'.puts = T.puts ++ [(i, fullS s)] := by
  have hn := h.log.small
  have H1 := Lib.hid (fun u (hu : TxAt u bt T) => txDead_any hu)
  have H2 := Lib.hid (fun u (hu : TxAt u bt T) => txHomes_any hu)
  have H3 := Lib.hid (fun u => repeat_zero s hs u)
  have HCat := Lib.hid (fun u => fullS_cat s hs u)
  obtain ⟨ra, rc, hr, _⟩ := slice_form h.row
  have HR := Lib.hid hr
  clear hr
  have e1 : decide (i < 0) = false := by simp; omega
  have e2 : decide ((T.n : Int) ≤ i) = false := by simp; omega
  have e3 : decide ((512 : Int) < (s.size : Nat)) = false := by simp; omega
  have e4 : IntKind.i64.wrap ((512 : Int) - (s.size : Nat)) = (512 : Int) - (s.size : Nat) := wrapI (by omega) (by omega)
  have hwf : (Lit.int .i64 i).wf = true := keyOk (by omega) (by omega)
  obtain ⟨i0, hi0, hz0, hz1, hz2⟩ := info_parts infoInt
  obtain ⟨j0, hj0, hy0, hy1, hy2⟩ := info_parts infoPut
  have HI := Lib.hid hi0
  have HJ := Lib.hid hj0
  have Hz0 := Lib.hid hz0
  have Hz1 := Lib.hid hz1
  have Hz2 := Lib.hid hz2
  have Hy0 := Lib.hid hy0
  have Hy1 := Lib.hid hy1
  have Hy2 := Lib.hid hy2
  clear hi0 hj0 hz0 hz1 hz2 hy0 hy1 hy2
  have H := Lib.hid h
  have HIi := Lib.hid hi
  clear hi
  clear h
  go_enter Tryz.func13, Tryz.ntmps13
  go_wp2_with (first
    | (go_at_call 52; refine (H1.out _ H.out).mono ?_; rintro e w1 ⟨rfl, rfl⟩)
    | (go_at_call 24; refine (H2.out _ H.out).mono ?_; rintro e w1 ⟨rfl, hb1⟩))
  have HA1 := Lib.hid (H.out.still hb1)
  have HB1 := Lib.hid hb1
  clear hb1
  have HL := Lib.hid (posns_le T.puts i)
  have h63 : (posns T.puts i).length + 1 ≤ maxLen := by have := HL.out; unfold maxLen; omega
  obtain ⟨S, hS⟩ : ∃ S : World → Prop, ∀ u, S u ↔ Keep (fun k => (T.slot i).ownBlock = some k) (w1) u := ⟨fun u => Keep (fun k => (T.slot i).ownBlock = some k) (w1) u, fun _ => Iff.rfl⟩
  have HS := Lib.hid hS
  clear hS
  refine wp_region_ord 18 [(0, true), (1, true), (2, true), (3, true), (4, true), (5, true), (6, true), (7, true), (8, true), (9, true), (10, true), (11, true), (12, true), (13, true), (14, true), (15, true), (16, false), (17, false)] S (by kernel_rfl) (by kernel_rfl) ((HS.out _).2 (Keep.refl _ _).drew) ?_
  iterate 16
    first
      | (refine wpH_passed rfl (by rfl) (fun K hK => ?_); go_simp; refine hK _ ?_; clear hK K)
      | (first
           | refine wpH_read rfl rfl (fun K hK => ?_)
           | refine wpH_readw rfl (by rfl) (fun K hK => ?_)
         apply Exists.intro
         refine ⟨fun u hu => ?_, ?_⟩
         · have hu := (HS.out u).1 hu
           obtain ⟨⟨c0, c1, c2⟩, _⟩ := tCells (hu.at HA1.out.cells (fun e => (HA1.out.slot_ne e).1 rfl))
           have l1 := (HA1.out.where_.keep hu (fun e => (HA1.out.slot_ne e).2.1 rfl)).run_lookup Tryz.underlying3 Tryz.underlying103 (zeroInts u) hwf false
           simp only [Bool.false_eq_true, if_false] at l1
           rw [HR.out] at c1
           clear hu
           go_simp
           exact ⟨rfl, rfl⟩
         go_simp
         refine hK _ ?_
         clear hK K)
  refine wpH_do rfl rfl (fun K hK => ?_)
  go_simp
  have kA : Keep (fun k => (T.slot i).ownBlock = some k) w1 (w1.alloc (Obj.cells #[Value.int IntKind.i64 (T.puts.length : Nat)] 3)).drew := ((Keep.refl _ _).alloc _).drew
  refine hK _ _ ((HS.out _).2 kA) ?_
  clear hK K
  refine wpH_do rfl rfl (fun K hK => ?_)
  refine wp_append_lies _ _ _ 40 (by rfl) 0 3 i0 (.int .i64 0) 1 8 Tryz.underlying40 HI.out Hz0.out Hz1.out Hz2.out (by rfl) (by decide) (T.slot i) _ _ (by rfl) (((HA1.out.slot i).alloc _).drew) ⟨w1.heap.size, 0, none⟩ 1 1 [.int .i64 (T.puts.length : Nat)] (by rfl) (by rfl) (World.news_of_block (cs := #[.int .i64 (T.puts.length : Nat)]) (t := 3) (fr := (0, 0)) (heap_alloc_new w1 _)) (ints_oneCell .i64 [(T.puts.length : Nat)]) (by decide) h63 ?_ (Nat.zero_le _) _ rfl ?_
  · have := HL.out; omega
  intro g cap u3 hown3 hg3 hloc hglt
  have k3 := kA.grown hg3 (fun k _ e => e)
  refine hK _ _ ((HS.out _).2 k3) ?_
  clear hK K
  refine wpH_nil ?_
  simp only [List.drop_succ_cons, List.drop_zero]
  have hm3 := HA1.out.where_.keep k3 (fun e => (HA1.out.slot_ne e).2.1 rfl)
  obtain ⟨u4, hr4, hm4, hk4, hz4, hd4⟩ := hm3.run_update Tryz.underlying3 Tryz.underlying103 hwf (.slice (some ⟨g, 0, none⟩) ((posns T.puts i).length + 1) cap)
  have hloc3 : (Value.slice (some ⟨g, 0, none⟩) ((posns T.puts i).length + 1) cap).ownBlock = (T.slot i).ownBlock ∨ ∃ k, (Value.slice (some ⟨g, 0, none⟩) ((posns T.puts i).length + 1) cap).ownBlock = some k ∧ w1.heap.size ≤ k := by
    rcases hloc with e | e
    · exact .inl (e ▸ rfl)
    · exact .inr ⟨g, rfl, by rw [e]; simp⟩
  have c4 := hk4.at (k3.at HA1.out.cells (fun e => (HA1.out.slot_ne e).1 rfl)) HA1.out.apart.1
  have r4 := hk4.ownsRow (k3.ownsRow HA1.out.row (fun k hk e => (HA1.out.slot_ne e).2.2.2 hk)) (fun k hk e => (HA1.out.apart.2.2.2 k hk).2.1 e)
  have HK3 := Lib.hid k3
  have HK4 := Lib.hid hk4
  have HM4 := Lib.hid hm4
  have HO3 := Lib.hid hown3
  have HLoc := Lib.hid hloc3
  have HC4 := Lib.hid c4
  have HR4 := Lib.hid r4
  clear kA k3 hm3 hm4 hk4 hz4 hd4 hg3 hown3 hloc hloc3 hglt c4 r4 S HS
  go_wp2
  obtain ⟨S, hS⟩ : ∃ S : World → Prop, ∀ u, S u ↔ Keep (fun k => T.rowv.ownBlock = some k) (u4) u := ⟨fun u => Keep (fun k => T.rowv.ownBlock = some k) (u4) u, fun _ => Iff.rfl⟩
  have HS := Lib.hid hS
  clear hS
  refine wp_region_ord 15 [(0, true), (1, true), (2, true), (3, true), (4, true), (5, true), (6, true), (7, true), (8, true), (9, true), (10, false), (11, true), (12, true), (13, false), (14, false)] S (by kernel_rfl) (by kernel_rfl) ((HS.out _).2 (Keep.refl _ _).drew) ?_
  iterate 10
    first
      | (refine wpH_passed rfl (by rfl) (fun K hK => ?_); go_simp; refine hK _ ?_; clear hK K)
      | (first
           | refine wpH_read rfl rfl (fun K hK => ?_)
           | refine wpH_readw rfl (by rfl) (fun K hK => ?_)
         apply Exists.intro
         refine ⟨fun u hu => ?_, ?_⟩
         · have hu := (HS.out u).1 hu
           obtain ⟨⟨c0, c1, c2⟩, _⟩ := tCells (hu.at HC4.out (fun e => (HA1.out.apart.2.2.2 _ e).1 rfl))
           have l1 := HCat.out u
           rw [HR.out] at c1
           clear hu
           go_simp
           exact ⟨rfl, rfl⟩
         go_simp
         refine hK _ ?_
         clear hK K)
  refine wpH_do rfl rfl (fun K hK => ?_)
  go_simp
  go_at_call 53
  refine (H3.out _).mono ?_
  rintro e u5 ⟨rfl, hb5⟩
  have k5 : Keep (fun k => T.rowv.ownBlock = some k) u4 u5 := (Keep.refl _ _).drew.trans (Keep.ofBelow (S := fun k => T.rowv.ownBlock = some k) hb5) (fun _ _ h => h)
  refine hK _ _ ((HS.out _).2 k5) ?_
  clear hK K
  iterate 2
    first
      | (refine wpH_passed rfl (by rfl) (fun K hK => ?_); go_simp; refine hK _ ?_; clear hK K)
      | (first
           | refine wpH_read rfl rfl (fun K hK => ?_)
           | refine wpH_readw rfl (by rfl) (fun K hK => ?_)
         apply Exists.intro
         refine ⟨fun u hu => ?_, ?_⟩
         · have hu := (HS.out u).1 hu
           obtain ⟨⟨c0, c1, c2⟩, _⟩ := tCells (hu.at HC4.out (fun e => (HA1.out.apart.2.2.2 _ e).1 rfl))
           have l1 := HCat.out u
           rw [HR.out] at c1
           clear hu
           go_simp
           exact ⟨rfl, rfl⟩
         go_simp
         refine hK _ ?_
         clear hK K)
  refine wpH_do rfl rfl (fun K hK => ?_)
  go_simp
  have k6 := k5.alloc (Obj.cells #[Value.int IntKind.i64 i, Value.string (fullS s)] 60)
  refine hK _ _ ((HS.out _).2 k6) ?_
  clear hK K
  refine wpH_do rfl rfl (fun K hK => ?_)
  refine wp_append_lies _ _ _ 36 (by rfl) 0 60 j0 _ 2 24 Tryz.underlying36 HJ.out Hy0.out Hy1.out Hy2.out (by rfl) (by decide) T.rowv _ _ (by exact HR.out.symm) (((Keep.ofBelow (S := fun _ => False) hb5).ownsRow (HR4.out.drew) (fun _ _ h => h)).alloc _) ⟨u5.heap.size, 0, none⟩ 1 1 [.int .i64 i, .string (fullS s)] (by rfl) (by rfl) (World.news_of_block (cs := #[.int .i64 i, .string (fullS s)]) (t := 60) (fr := (0, 0)) (heap_alloc_new u5 _)) (by simp [Value.oneCell']) (by decide) (by unfold maxLen; omega) (by omega) (Nat.zero_le _) _ rfl ?_
  intro r2 cap2 u7 hown7 hg7 hloc7 hglt7
  have k7 := k6.grown hg7 (fun k _ e => e)
  refine hK _ _ ((HS.out _).2 k7) ?_
  clear hK K
  refine wpH_nil ?_
  simp only [List.drop_succ_cons, List.drop_zero]
  have hloc7' : (Value.slice (some ⟨r2, 0, none⟩) (T.puts.length + 1) cap2).ownBlock = T.rowv.ownBlock ∨ ∃ k, (Value.slice (some ⟨r2, 0, none⟩) (T.puts.length + 1) cap2).ownBlock = some k ∧ u3.heap.size ≤ k := by
    rcases hloc7 with e | e
    · exact .inl (e ▸ rfl)
    · have s5 := hb5.size
      have s4 := HK4.out.size
      have e2 : u4.drew.heap.size = u4.heap.size := rfl
      exact .inr ⟨r2, rfl, by rw [e, World.size_alloc]; omega⟩
  obtain ⟨⟨c0, c1, c2⟩, f0, f1, f2⟩ := tCells (k7.at HC4.out (fun e => (HA1.out.apart.2.2.2 _ e).1 rfl))
  have P := Lib.hid (put_step HA1.out HIi.out (fullS_size s hs) HK3.out HO3.out HLoc.out HM4.out HK4.out k7 hown7 hloc7')
  clear k5 k6 k7 hb5 hown7 hg7 hloc7 hglt7 hloc7' S HS
  go_wp2
  go_ret
  exact ⟨rfl, _, (TxStep.still H.out HB1.out).trans P.out, rfl⟩
end Go.Proofs.YtalgheocjnajlaaGreatDoor

namespace Go.Proofs.YtalgheocjnajlaaGreatDoor
open Go.RowKit Go.MapKept
attribute [local go_sem] gives givesH
set_option maxRecDepth 100000

theorem writeErr_up (n : Nat) (i : Int) (s : ByteArray) : writeErr n i s ≠ 3 := by unfold writeErr; split <;> (try split) <;> decide
def putsOf (n : Nat) (i : Int) (s : ByteArray) : Puts := if 0 ≤ i ∧ i < n ∧ s.size ≤ 512 then [(i, fullS s)] else []
theorem txWrite_any {w : World} {bt : Nat} {T : TxS} (h : TxAt w bt T) (hlen : T.puts.length < 1000000000000) {i : Int} (s : ByteArray) (hs : s.size ≤ 9223372036854775807) :
    Calls Tryz.prog 13 #[.pointer (some ⟨bt, 0, none⟩), .int .i64 i, .string s] w fun e w' => e = .returned (.int .i64 (writeErr T.n i s)) ∧ ∃ T', TxStep bt w T w' T' ∧ T'.puts = T.puts ++ putsOf T.n i s := by
  have hn := h.log.small
  by_cases hr : 0 ≤ i ∧ i < T.n
  · by_cases h5 : s.size ≤ 512
    · have e1 : writeErr T.n i s = 0 := by unfold writeErr; rw [if_pos hr, if_neg (by omega)]
      have e2 : putsOf T.n i s = [(i, fullS s)] := by unfold putsOf; rw [if_pos ⟨hr.1, hr.2, h5⟩]
      rw [e1, e2]
      exact txWrite_ok h hlen hr s h5
    · have e1 : writeErr T.n i s = 5 := by unfold writeErr; rw [if_pos hr, if_pos (by omega)]
      have e2 : putsOf T.n i s = [] := by unfold putsOf; rw [if_neg (by omega)]
      rw [e1, e2]
      have H1 := Lib.hid (fun u (hu : TxAt u bt T) => txDead_any hu)
      have H2 := Lib.hid (fun u (hu : TxAt u bt T) => txHomes_any hu)
      have d1 : decide (i < 0) = false := by simp; omega
      have d2 : decide ((T.n : Int) ≤ i) = false := by simp; omega
      have d3 : decide ((512 : Int) < (s.size : Nat)) = true := by simp; omega
      have H := Lib.hid h
      clear h e1 e2 hr h5
      go_enter Tryz.func13, Tryz.ntmps13
      go_wp2_with (first
        | (go_at_call 52; refine (H1.out _ H.out).mono ?_; rintro e w1 ⟨rfl, rfl⟩)
        | (go_at_call 24; refine (H2.out _ H.out).mono ?_; rintro e w1 ⟨rfl, hb1⟩))
      go_ret
      exact ⟨rfl, T, TxStep.still H.out hb1, by simp⟩
  · have e1 : writeErr T.n i s = 2 := by unfold writeErr; rw [if_neg hr]
    have e2 : putsOf T.n i s = [] := by unfold putsOf; rw [if_neg (fun h => hr ⟨h.1, h.2.1⟩)]
    rw [e1, e2]
    have H1 := Lib.hid (fun u (hu : TxAt u bt T) => txDead_any hu)
    have H2 := Lib.hid (fun u (hu : TxAt u bt T) => txHomes_any hu)
    have H := Lib.hid h
    clear h e1 e2
    by_cases h0 : i < 0
    · have d1 : decide (i < 0) = true := by simpa using h0
      clear hr
      go_enter Tryz.func13, Tryz.ntmps13
      go_wp2_with (first
        | (go_at_call 52; refine (H1.out _ H.out).mono ?_; rintro e w1 ⟨rfl, rfl⟩)
        | (go_at_call 24; refine (H2.out _ H.out).mono ?_; rintro e w1 ⟨rfl, hb1⟩))
      go_ret
      exact ⟨rfl, T, TxStep.refl H.out, by simp⟩
    · have d1 : decide (i < 0) = false := by simpa using h0
      have d2 : decide ((T.n : Int) ≤ i) = true := by simp; omega
      clear hr
      go_enter Tryz.func13, Tryz.ntmps13
      go_wp2_with (first
        | (go_at_call 52; refine (H1.out _ H.out).mono ?_; rintro e w1 ⟨rfl, rfl⟩)
        | (go_at_call 24; refine (H2.out _ H.out).mono ?_; rintro e w1 ⟨rfl, hb1⟩))
      go_ret
      exact ⟨rfl, T, TxStep.still H.out hb1, by simp⟩

/-! ## Back -/
theorem ownsRow_cut {w : World} {e : TypeId} {size : Nat} {g n c m : Nat} {xs : List Value} (h : w.ownsRow 0 e size (.slice (some ⟨g, 0, none⟩) n c) n xs) (hm : m ≤ n) :
    w.ownsRow 0 e size (.slice (some ⟨g, 0, none⟩) m c) m (xs.take (m * size)) := by
  rcases h.2 with ⟨h1, _⟩ | ⟨g', cap, cur, hv, hb, hg, h1, h2, h3, h4⟩
  · cases h1
  · cases hv
    have hms : m * size ≤ n * size := Nat.mul_le_mul_right _ hm
    refine ⟨by rw [List.length_take, h.1]; omega, .inr ⟨g, c, cur, rfl, hb, hg, by omega, h2, h3, ?_⟩⟩
    rw [← h4, List.take_take, Nat.min_eq_left hms]

def TxS.cut (T : TxS) (Q : Puts) (g' : Int → Option Value) (ng' : Nat) (rowv' : Value) : TxS := { T with puts := Q, rowv := rowv', g := g', ng := ng' }
/-- what the forgetting of the last put leaves -/
theorem back_step {w : World} {bt : Nat} {T : TxS} (h : TxAt w bt T) {Q : Puts} {x : Int × ByteArray} (hp : T.puts = Q ++ [x])
    {u : World} {g' : Int → Option Value} {ng' : Nat} {rowv' : Value} (hm : IMap u T.bw g' ng') (hk : Keep (· = T.bw) w u)
    (hg' : ∀ j, j ≠ x.1 → g' j = T.g j) (hgx : posns Q x.1 = [] → g' x.1 = none)
    (hgy : posns Q x.1 ≠ [] → ∃ v, g' x.1 = some v ∧ v.ownBlock = (T.slot x.1).ownBlock ∧ w.ownsRow 0 3 1 v (posns Q x.1).length ((posns Q x.1).map (fun k => Value.int .i64 (k : Nat))))
    (hrow : w.ownsRow 0 60 2 rowv' Q.length (writeCells Q)) (hrv : rowv'.ownBlock = T.rowv.ownBlock) :
    TxStep bt w T (u.setCell ⟨bt, 1, none⟩ rowv') (T.cut Q g' ng' rowv') := by
  have nbw : ∀ k, T.rowv.ownBlock = some k → k ≠ bt ∧ k ≠ T.bw ∧ ¬ T.Fl k := h.apart.2.2.2
  have cu : u.heap[bt]? = some (.cells #[.pointer (some ⟨T.bl, 0, none⟩), T.rowv, .map (some T.bw)] 105 (0, 0)) := hk.at h.cells h.apart.1
  have kset : Keep (· = bt) u (u.setCell ⟨bt, 1, none⟩ rowv') := (Keep.refl (· = bt) u).setCell (p := ⟨bt, 1, none⟩) (fun _ => rfl) _
  have kall : Keep (fun k => k = T.bw ∨ k = bt) w (u.setCell ⟨bt, 1, none⟩ rowv') := (hk.mono (fun _ _ e => .inl e)).trans kset (fun _ _ e => .inr e)
  -- what a list of g' is
  have lst : ∀ j v, g' j = some v → ∃ v0, T.g j = some v0 ∧ v.ownBlock = v0.ownBlock := fun j v hv => by
    by_cases hj : j = x.1
    · subst hj
      by_cases hq : posns Q x.1 = []
      · rw [hgx hq] at hv; cases hv
      · obtain ⟨v2, hv2, ho, hw2⟩ := hgy hq
        rw [hv] at hv2
        cases hv2
        have hne : posns T.puts x.1 ≠ [] := by rw [hp, posns_snoc, if_pos rfl]; simp
        obtain ⟨v0, hv0, _⟩ := h.some_ x.1 hne
        exact ⟨v0, hv0, by rw [ho]; unfold TxS.slot; rw [hv0]; rfl⟩
    · exact ⟨v, by rw [← hg' j hj]; exact hv, rfl⟩
  refine ⟨⟨?_, ?_, ?_, ?_, ?_, ?_, ?_, ?_, ?_, ?_⟩, rfl, rfl, rfl, rfl, ?_, ?_⟩
  · show (u.setCell ⟨bt, 1, none⟩ rowv').heap[bt]? = some (.cells #[.pointer (some ⟨T.bl, 0, none⟩), rowv', .map (some T.bw)] 105 (0, 0))
    simp [World.setCell, Array.getElem?_modify, cu]
  · refine h.log.keep kall (fun k hf e => ?_)
    rcases e with e | e
    · exact h.apart.2.2.1 (e ▸ hf)
    · exact h.apart.2.1 (e ▸ hf)
  · refine kall.ownsRow hrow (fun k hk e => ?_)
    obtain ⟨a, b, _⟩ := nbw k (hrv ▸ hk)
    rcases e with e | e
    · exact b e
    · exact a e
  · exact hm.keep kset (fun e => h.apart.1 e.symm)
  · intro j hj
    by_cases hjx : j = x.1
    · subst hjx; exact hgx hj
    · show g' j = none
      rw [hg' j hjx]
      refine h.none_ j ?_
      rw [hp, posns_snoc, if_neg (fun e => hjx e.symm), List.append_nil]
      exact hj
  · intro j hj
    show ∃ v, g' j = some v ∧ World.ownsRow _ 0 3 1 v (posns Q j).length _
    by_cases hjx : j = x.1
    · subst hjx
      obtain ⟨v, hv, ho, hw2⟩ := hgy hj
      refine ⟨v, hv, kall.ownsRow hw2 (fun k hk e => ?_)⟩
      obtain ⟨a, b, _⟩ := h.slot_ne (ho ▸ hk)
      rcases e with e | e
      · exact b e
      · exact a e
    · have hj2 : posns T.puts j = posns Q j := by rw [hp, posns_snoc, if_neg (fun e => hjx e.symm), List.append_nil]
      obtain ⟨v, hv, ho⟩ := h.some_ j (by rw [hj2]; exact hj)
      rw [hj2] at ho
      refine ⟨v, by rw [hg' j hjx]; exact hv, kall.ownsRow ho (fun k hk e => ?_)⟩
      obtain ⟨a, b, _⟩ := h.lists j v k hv hk
      rcases e with e | e
      · exact b e
      · exact a e
  · exact ⟨h.apart.1, h.apart.2.1, h.apart.2.2.1, fun k hk => nbw k (hrv ▸ hk)⟩
  · intro j v k hv hk
    obtain ⟨v0, hv0, ho⟩ := lst j v hv
    show k ≠ bt ∧ k ≠ T.bw ∧ ¬ T.Fl k ∧ rowv'.ownBlock ≠ some k
    rw [hrv]
    exact h.lists j v0 k hv0 (ho ▸ hk)
  · intro i j v v' k hv hv' hij hk hk'
    obtain ⟨v0, hv0, ho⟩ := lst i v hv
    obtain ⟨v1, hv1, ho1⟩ := lst j v' hv'
    exact h.each i j v0 v1 k hv0 hv1 hij (ho ▸ hk) (ho1 ▸ hk')
  · intro y hy
    exact h.good y (by rw [hp]; exact List.mem_append_left _ hy)
  · refine kall.mono (fun k _ e => ?_)
    rcases e with e | e
    · exact .inr (.inl e)
    · exact .inl e
  · intro k hk
    rcases hk with e | e | e | ⟨j, v, hv, e⟩
    · exact .inl (.inl e)
    · exact .inl (.inr (.inl e))
    · exact .inl (.inr (.inr (.inl (hrv ▸ e))))
    · obtain ⟨v0, hv0, ho⟩ := lst j v hv
      exact .inl (.inr (.inr (.inr ⟨j, v0, hv0, ho ▸ e⟩)))
def rowLen (w : World) (bt : Nat) : Nat := match w.cell? ⟨bt, 1, none⟩ with
  | some (.slice _ n _) => n
  | _ => 0
theorem rowLen_of {w : World} {bt : Nat} {T : TxS} (h : TxAt w bt T) : rowLen w bt = T.puts.length := by
  obtain ⟨⟨c0, c1, c2⟩, _⟩ := tCells h.cells
  obtain ⟨a, c, hv, _⟩ := slice_form h.row
  unfold rowLen
  rw [c1, hv]

theorem writeCells_take (p : Puts) (m : Nat) : (writeCells p).take (m * 2) = writeCells (p.take m) := by
  induction p generalizing m with
  | nil => simp [writeCells]
  | cons x p ih =>
    have e : ∀ p, writeCells (x :: p) = .int .i64 x.1 :: .string x.2 :: writeCells p := fun _ => rfl
    cases m with
    | zero => simp [writeCells]
    | succ m =>
      rw [e, List.take_succ_cons, e, show (m + 1) * 2 = m * 2 + 1 + 1 by omega, List.take_succ_cons, List.take_succ_cons, ih]

/-- back to a mark: so many puts are left -/
def BackRel (bt : Nat) (w : World) (T : TxS) (tgt : Nat) (wr : World) : Prop :=
  ∃ T', TxStep bt w T wr T' ∧ ∃ k, k ≤ T.puts.length ∧ T'.puts = T.puts.take k ∧ (tgt ≤ k ∨ k = T.puts.length)

set_option maxHeartbeats 2000000 in
theorem txBack_any {w : World} {bt : Nat} {T : TxS} (h : TxAt w bt T) (hlen : T.puts.length < 1000000000000) (mark : Int) :
    Calls Tryz.prog 17 #[.pointer (some ⟨bt, 0, none⟩), .int .i64 mark] w fun e w' => e = .returned (.tuple #[]) ∧ ∃ T', TxStep bt w T w' T' ∧ T'.puts = T.puts.take mark.toNat := by
  obtain ⟨tgt, em⟩ : ∃ tgt : Nat, max mark 0 = (tgt : Int) := ⟨mark.toNat, by omega⟩
  have hmt : mark.toNat = tgt := by omega
  rw [hmt]
  clear hmt
  have H := Lib.hid h
  clear h
  go_enter Tryz.func17, Tryz.ntmps17
  go_wp2
  go_loopw [4, 5, 6] (fun a b c wr => BackRel bt w T tgt wr) (fun _ _ _ wr => rowLen wr bt)
  case atStart => exact ⟨T, TxStep.refl H.out, T.puts.length, Nat.le_refl _, by simp, .inr rfl⟩
  case round =>
    obtain ⟨T', hst, k, hk, hpk, hor⟩ := hrel
    have hkl : T'.puts.length = k := by rw [hpk, List.length_take]; omega
    have hA := hst.at_
    obtain ⟨⟨c0, c1, c2⟩, f0, f1, f2⟩ := tCells hA.cells
    by_cases hgo : tgt < k
    · obtain ⟨m, rfl⟩ : ∃ m, k = m + 1 := ⟨k - 1, by omega⟩
      have hml : m < T.puts.length := by omega
      have hQ : T'.puts = T.puts.take m ++ [T.puts[m]] := by rw [hpk, List.take_succ_eq_append_getElem hml]
      have hQl : (T.puts.take m).length = m := by rw [List.length_take]; omega
      generalize hx : T.puts[m] = x at hQ
      have hgood := hA.good x (by rw [hQ]; simp)
      have hn := hA.log.small
      have hwf : (Lit.int .i64 x.1).wf = true := keyOk (by omega) (by omega)
      have hmem : T'.puts[m]? = some (x.1, x.2) := by rw [hQ, List.getElem?_append_right (by omega)]; simp [hQl]
      obtain ⟨r, rc, hr, hr1, hr2, hrow⟩ := row_pos hA.row (by omega)
      have hrow' := hA.row
      rw [hr, hkl] at hrow'
      have cx := hrow (m * 2) _ (writeCells_at T'.puts m x.1 x.2 hmem).1
      have hcut := ownsRow_cut hrow' (show m ≤ m + 1 by omega)
      rw [writeCells_take, hpk, List.take_take, Nat.min_eq_left (by omega)] at hcut
      -- the places of the home
      have hpos : posns T'.puts x.1 = posns (T.puts.take m) x.1 ++ [m] := by rw [hQ, posns_snoc, if_pos rfl, hQl]
      have hs0 := hA.slot x.1
      obtain ⟨g, c, hg, hg1, hg2, _⟩ := row_pos hs0 (by rw [hpos]; simp)
      rw [hpos, List.length_append, List.length_singleton] at hg
      rw [hg, hpos, List.length_append, List.length_singleton] at hs0
      have hscut := ownsRow_cut hs0 (show (posns (T.puts.take m) x.1).length ≤ (posns (T.puts.take m) x.1).length + 1 by omega)
      have htk : (((posns (T.puts.take m) x.1 ++ [m]).map (fun k => Value.int .i64 (k : Nat))).take ((posns (T.puts.take m) x.1).length * 1)) = (posns (T.puts.take m) x.1).map (fun k => Value.int .i64 (k : Nat)) := by
        rw [Nat.mul_one, List.map_append, List.take_left' (by simp)]
      rw [htk] at hscut
      have l1 := hA.where_.run_lookup Tryz.underlying3 Tryz.underlying103 (zeroInts wr) hwf false
      simp only [Bool.false_eq_true, if_false] at l1
      have hslot : (T'.g x.1).getD (Value.slice none 0 0) = T'.slot x.1 := rfl
      rw [hslot, hg] at l1
      rw [hr, hkl] at c1
      rw [hpos, List.length_append, List.length_singleton] at hg1
      have hpl : (posns (T.puts.take m) x.1).length ≤ m := by have := posns_le (T.puts.take m) x.1; omega
      have e1 : decide ((tgt : Int) < (m : Int) + 1) = true := by simp; omega
      unfold maxLen at hg2 hr2
      have hrl := rowLen_of hA
      rw [hkl] at hrl
      have HST := Lib.hid hst
      have HPK := Lib.hid hpk
      have HQ := Lib.hid hQ
      have HQL := Lib.hid hQl
      have HCut := Lib.hid hcut
      have HSC := Lib.hid hscut
      have HR := Lib.hid hr
      have HG := Lib.hid hg
      have HA := Lib.hid hA
      have HRL := Lib.hid hrl
      rw [hkl] at hr1
      have hx0 : 0 ≤ x.1 := hgood.1
      generalize hq : (posns (T.puts.take m) x.1).length = q at *
      have HQQ := Lib.hid hq
      clear hq hst hpk hQ hQl hcut hscut hr hg hA hrl hrow hrow' hs0 htk hslot hpos hmem hkl hgood hx
      by_cases hq0 : 0 < q
      · have e2 : decide ((1 : Int) < (q : Int) + 1) = true := by simp; omega
        have hq1 : (0 : Int) ≤ (q : Int) := by omega
        have hq2 : (q : Int) ≤ (c : Int) := by omega
        have hqw : IntKind.i64.wrap (q : Int) = (q : Int) := wrapI (by omega) (by omega)
        have hmu : IMap wr.drew T'.bw T'.g T'.ng := HA.out.where_.congr rfl
        obtain ⟨u4, hr4, hm4, hk4, hz4, hd4⟩ := hmu.run_update Tryz.underlying3 Tryz.underlying103 hwf (.slice (some ⟨g, 0, none⟩) q c)
        have hk4' : Keep (· = T'.bw) wr u4 := ((Keep.refl _ wr).drew).trans hk4 (fun _ _ e => e)
        have c4 := hk4'.at HA.out.cells HA.out.apart.1
        rw [HR.out] at c4
        obtain ⟨⟨d0, d1, d2⟩, g0, g1, g2⟩ := tCells c4
        have hpl2 : T'.puts.length = m + 1 := by rw [HQ.out, List.length_append, HQL.out]; rfl
        rw [hpl2] at d1
        have ST := Lib.hid (back_step HA.out HQ.out (g' := putAt T'.g x.1 (.slice (some ⟨g, 0, none⟩) q c)) (rowv' := .slice (some ⟨r, 0, none⟩) m rc) hm4 hk4' (fun j hj => if_neg hj)
          (fun he => by have := HQQ.out; rw [he] at this; simp at this; omega)
          (fun _ => ⟨_, if_pos rfl, by rw [HG.out]; rfl, by have := HSC.out; rwa [HQQ.out]⟩)
          (by have := HCut.out; rwa [HQL.out]) (by rw [HR.out]; rfl))
        have HK4 := Lib.hid hk4'
        have HM1 : (0 : Int) ≤ (m : Int) := by omega
        have HM2 : (m : Int) ≤ (rc : Int) := by omega
        clear hmu hm4 hk4 hk4' hz4 hd4 c4 hpl2 hor hpl hg1
        go_wp2
        obtain ⟨S, hS⟩ : ∃ S : World → Prop, ∀ u, S u ↔ Keep (fun _ => False) (wr) u := ⟨fun u => Keep (fun _ => False) (wr) u, fun _ => Iff.rfl⟩
        have HS := Lib.hid hS
        clear hS
        refine wp_region_ord 10 [(0, true), (1, true), (2, true), (3, true), (4, true), (5, true), (6, true), (7, true), (8, true), (9, true)] S (by kernel_rfl) (by kernel_rfl) ((HS.out _).2 (Keep.refl _ _).drew) ?_
        iterate 10
          first
            | (refine wpH_passed rfl (by rfl) (fun K hK => ?_); go_simp; refine hK _ ?_; clear hK K)
            | (first
                 | refine wpH_read rfl rfl (fun K hK => ?_)
                 | refine wpH_readw rfl (by rfl) (fun K hK => ?_)
               apply Exists.intro
               refine ⟨fun u hu => ?_, ?_⟩
               · have hu := (HS.out u).1 hu
                 obtain ⟨⟨c0, c1, c2⟩, _⟩ := tCells (hu.at HA.out.cells (fun e => e))
                 clear hu
                 go_simp
                 exact ⟨rfl, rfl⟩
               go_simp
               refine hK _ ?_
               clear hK K)
        refine wpH_nil ?_
        simp only [List.drop_succ_cons, List.drop_zero]
        clear S HS
        go_wp2
        refine ⟨⟨_, HST.out.trans ST.out, m, by omega, rfl, .inl (by omega)⟩, ?_⟩
        rw [rowLen_of ST.out.at_, HRL.out]
        show (T.puts.take m).length < m + 1
        rw [HQL.out]; omega
      · have e2 : decide ((1 : Int) < (q : Int) + 1) = false := by simp; omega
        have hqe : posns (T.puts.take m) x.1 = [] := List.eq_nil_of_length_eq_zero (by have := HQQ.out; omega)
        obtain ⟨u4, hr4, hm4, hk4, hz4, hd4⟩ := HA.out.where_.run_delete (ty := 0) Tryz.underlying3 Tryz.underlying103 hwf
        have c4 := hk4.at HA.out.cells HA.out.apart.1
        rw [HR.out] at c4
        obtain ⟨⟨d0, d1, d2⟩, g0, g1, g2⟩ := tCells c4
        have hpl2 : T'.puts.length = m + 1 := by rw [HQ.out, List.length_append, HQL.out]; rfl
        rw [hpl2] at d1
        have ST := Lib.hid (back_step HA.out HQ.out (g' := dropAt T'.g x.1) (rowv' := .slice (some ⟨r, 0, none⟩) m rc) hm4 hk4 (fun j hj => if_neg hj)
          (fun _ => if_pos rfl) (fun he => absurd hqe he) (by have := HCut.out; rwa [HQL.out]) (by rw [HR.out]; rfl))
        have HK4 := Lib.hid hk4
        have HM1 : (0 : Int) ≤ (m : Int) := by omega
        have HM2 : (m : Int) ≤ (rc : Int) := by omega
        clear hm4 hk4 hz4 hd4 c4 hpl2 hor hpl hg1 hqe hq0
        go_wp2
        refine ⟨⟨_, HST.out.trans ST.out, m, by omega, rfl, .inl (by omega)⟩, ?_⟩
        rw [rowLen_of ST.out.at_, HRL.out]
        show (T.puts.take m).length < m + 1
        rw [HQL.out]; omega
    · obtain ⟨a, c, hv, _⟩ := slice_form hA.row
      rw [hv] at c1
      rw [hkl] at c1
      have e1 : decide ((tgt : Int) < (k : Int)) = false := by simp; omega
      have HST := Lib.hid hst
      have HPK := Lib.hid hpk
      clear hv hst hpk hkl hA
      go_wp2
      go_end0
      refine ⟨rfl, T', HST.out, ?_⟩
      rw [HPK.out]
      rcases hor with h1 | h1
      · rw [show tgt = k by omega]
      · rw [List.take_of_length_le (by omega), List.take_of_length_le (by omega)]

end Go.Proofs.YtalgheocjnajlaaGreatDoor

namespace Go.Proofs.YtalgheocjnajlaaGreatDoor
open Go.RowKit Go.MapKept
attribute [local go_sem] gives givesH
set_option maxRecDepth 100000

theorem posns_mem (p : Puts) (i : Int) (k : Nat) : k ∈ posns p i ↔ k < p.length ∧ p[k]?.map (·.1) = some i := by
  unfold posns
  simp
theorem TxAt.ng_met {w : World} {bt : Nat} {T : TxS} (h : TxAt w bt T) : T.ng = (metL T.puts).length := by
  obtain ⟨L, h1, h2, h3⟩ := h.where_.keyList
  rw [← h2]
  refine List.Perm.length_eq ((List.perm_ext_iff_of_nodup h1 (metL_nodup T.puts)).2 (fun i => ?_))
  rw [h3, metL_mem]
  constructor
  · intro hg
    have hp : posns T.puts i ≠ [] := fun e => hg (h.none_ i e)
    obtain ⟨k, hk⟩ := List.exists_mem_of_ne_nil _ hp
    obtain ⟨hkl, hk2⟩ := (posns_mem _ _ _).1 hk
    rw [List.getElem?_eq_getElem hkl] at hk2
    exact ⟨T.puts[k], List.getElem_mem hkl, by simpa using hk2⟩
  · rintro ⟨x, hx, rfl⟩ hg
    obtain ⟨k, hkl, hk⟩ := List.getElem_of_mem hx
    have hp : posns T.puts x.1 ≠ [] := List.ne_nil_of_mem ((posns_mem _ _ _).2 ⟨hkl, by rw [List.getElem?_eq_getElem hkl, hk]; rfl⟩)
    obtain ⟨v, hv, _⟩ := h.some_ x.1 hp
    rw [hg] at hv
    cases hv
theorem txTouched_any {w : World} {bt : Nat} {T : TxS} (h : TxAt w bt T) :
    Calls Tryz.prog 22 #[.pointer (some ⟨bt, 0, none⟩)] w fun e w' => e = .returned (.int .i64 (metL T.puts).length) ∧ w = w' := by
  obtain ⟨⟨c0, c1, c2⟩, _⟩ := tCells h.cells
  have l3 := fun ty => h.where_.run_len (ty := ty) Tryz.underlying103
  rw [← h.ng_met]
  go_enter Tryz.func22, Tryz.ntmps22
  go_wp2
  go_ret
  exact ⟨rfl, rfl⟩
theorem txDrop_any {w : World} {bt : Nat} {T : TxS} (h : TxAt w bt T) (hlen : T.puts.length < 1000000000000) :
    Calls Tryz.prog 21 #[.pointer (some ⟨bt, 0, none⟩)] w fun e w' => e = .returned (.tuple #[]) ∧ ∃ T', TxStep bt w T w' T' ∧ T'.puts = [] := by
  have H := Lib.hid (txBack_any h hlen 0)
  go_enter Tryz.func21, Tryz.ntmps21
  go_wp2_with (fail)
  refine (H.out).mono ?_
  rintro e w1 ⟨rfl, T', hst, hp⟩
  go_wp2
  go_end0
  exact ⟨rfl, T', hst, by rw [hp]; rfl⟩
theorem TxAt.own_apart {w : World} {bt : Nat} {T : TxS} (h : TxAt w bt T) {k : Nat} (hk : T.own bt k) : ¬ T.Fl k := by
  rcases hk with rfl | rfl | e | ⟨i, v, hv, e⟩
  · exact h.apart.2.1
  · exact h.apart.2.2.1
  · exact (h.apart.2.2.2 k e).2.2
  · exact (h.lists i v k hv e).2.2.1
theorem TxAt.own_lt {w : World} {bt : Nat} {T : TxS} (h : TxAt w bt T) {k : Nat} (hk : T.own bt k) : k < w.heap.size := by
  rcases hk with rfl | rfl | e | ⟨i, v, hv, e⟩
  · exact (Array.getElem?_eq_some_iff.1 h.cells).1
  · exact h.where_.lt
  · exact (h.row.lt k e).2
  · have hne : posns T.puts i ≠ [] := fun hp => by rw [h.none_ i hp] at hv; cases hv
    obtain ⟨v2, hv2, ho⟩ := h.some_ i hne
    rw [hv] at hv2
    cases hv2
    exact (ho.lt k e).2
/-- a change whose log turned -/
theorem TxAt.relog {w w' : World} {bt : Nat} {T : TxS} {bl : Nat} {L L' : LogS} (h : TxAt w bt T) (hb : T.bl = bl) (hF : T.Fl = L.foot bl) {S : Nat → Prop} (hk : Keep S w w') (hS : ∀ k, T.own bt k → ¬ S k) (hown : ∀ k, L'.foot bl k → L.foot bl k ∨ w.heap.size ≤ k)
    {f' : Int → ByteArray} (hv : LogView w' bl T.n f' (L'.foot bl)) : TxAt w' bt { T with f := f', Fl := L'.foot bl } := by
  have nf : ∀ k, T.own bt k → ¬ L'.foot bl k := fun k hk hf => by
    rcases hown k hf with e | e
    · exact h.own_apart hk (by rw [hF]; exact e)
    · have := h.own_lt hk; omega
  refine ⟨hk.at h.cells (hS _ (.inl rfl)), ?_, hk.ownsRow h.row (fun k e => hS k (.inr (.inr (.inl e)))), h.where_.keep hk (hS _ (.inr (.inl rfl))), h.none_, fun i hi => ?_, ⟨h.apart.1, nf _ (.inl rfl), nf _ (.inr (.inl rfl)), fun k e => ⟨(h.apart.2.2.2 k e).1, (h.apart.2.2.2 k e).2.1, nf k (.inr (.inr (.inl e)))⟩⟩, fun i v k hv e => ?_, h.each, h.good⟩
  · show LogView w' T.bl T.n f' (L'.foot bl)
    rw [hb]; exact hv
  · obtain ⟨v, hv, ho⟩ := h.some_ i hi
    exact ⟨v, hv, hk.ownsRow ho (fun k e => hS k (.inr (.inr (.inr ⟨i, v, hv, e⟩))))⟩
  · have := h.lists i v k hv e
    exact ⟨this.1, this.2.1, nf k (.inr (.inr (.inr ⟨i, v, hv, e⟩))), this.2.2.2⟩
theorem putsAt_row {w : World} {v : Value} {p : Puts} (h : w.ownsRow 0 60 2 v p.length (writeCells p)) : PutsAt w w.heap.size v p := by
  rcases h.2 with ⟨h1, h2⟩ | ⟨g, cap, cur, hv, hb, hg, _⟩
  · refine .inl ⟨h1, ?_⟩
    have := writeCells_length p
    rw [h2] at this
    exact List.length_eq_zero_iff.1 (by simp at this; omega)
  · refine .inr ⟨⟨g, 0, none⟩, g, 0, cap, hv, fun _ => ⟨rfl, (Array.getElem?_eq_some_iff.1 hg).1⟩, fun k x hx => ?_⟩
    obtain ⟨r, rc, hr, hr1, hr2, hrow⟩ := row_pos h (pos_of_get hx)
    rw [hv] at hr
    cases hr
    rw [Nat.zero_add]
    exact ⟨hrow (k * 2) _ (writeCells_at p k x.1 x.2 hx).1, hrow (k * 2 + 1) _ (writeCells_at p k x.1 x.2 hx).2⟩
end Go.Proofs.YtalgheocjnajlaaGreatDoor

namespace Go.Proofs.YtalgheocjnajlaaGreatDoor
open Go.RowKit Go.MapKept
attribute [local go_sem] gives givesH
set_option maxRecDepth 100000

/-- a change on a log of a law's own -/
structure OnLog (w : World) (bt : Nat) (T : TxS) (bl : Nat) (L : LogS) (homes : Nat) (W : Int → ByteArray) : Prop where
  at_ : TxAt w bt T
  blE : T.bl = bl
  nE : T.n = homes
  fE : T.f = W
  flE : T.Fl = L.foot bl
theorem OnLog.still {w w' : World} {bt : Nat} {T : TxS} {bl : Nat} {L : LogS} {homes : Nat} {W : Int → ByteArray} (h : OnLog w bt T bl L homes W) (hb : Below w.heap.size w w') : OnLog w' bt T bl L homes W := ⟨h.at_.still hb, h.blE, h.nE, h.fE, h.flE⟩
theorem OnLog.step {w w' : World} {bt : Nat} {T T' : TxS} {bl : Nat} {L : LogS} {homes : Nat} {W : Int → ByteArray} (h : OnLog w bt T bl L homes W) (hs : TxStep bt w T w' T') : OnLog w' bt T' bl L homes W := ⟨hs.at_, hs.bl.trans h.blE, hs.n.trans h.nE, hs.f.trans h.fE, hs.Fl.trans h.flE⟩
/-- the log beside a change that turned -/
theorem LogIn.txStep {B : Nat} {w w' : World} {bt : Nat} {T T' : TxS} {bl : Nat} {L : LogS} {d : Dk} {N homes ring : Nat} {W : Int → ByteArray} (h : LogIn B w bl L d N homes ring W) (ht : OnLog w bt T bl L homes W) (hs : TxStep bt w T w' T') : LogIn B w' bl L d N homes ring W :=
  h.keep hs.keep (fun k hk ho => ht.at_.own_apart ho (by rw [ht.flE]; exact hk))
/-- a change whose log took a group -/
theorem OnLog.relog {w w' : World} {bt : Nat} {T : TxS} {bl : Nat} {L L' : LogS} {homes : Nat} {W : Int → ByteArray} (h : OnLog w bt T bl L homes W) {S : Nat → Prop} (hk : Keep S w w') (hS : ∀ k, T.own bt k → ¬ S k) (hown : ∀ k, L'.foot bl k → L.foot bl k ∨ w.heap.size ≤ k) {B : Nat} {d : Dk} {N ring : Nat} {W' : Int → ByteArray} (hl : LogIn B w' bl L' d N homes ring W') :
    OnLog w' bt { T with f := W', Fl := L'.foot bl } bl L' homes W' :=
  ⟨h.at_.relog h.blE h.flE hk hS hown (by rw [h.nE]; exact hl.view), h.blE, h.nE, rfl, rfl⟩
/-- what a commit comes to -/
def TxComm (B : Nat) (w : World) (bl : Nat) (L : LogS) (N homes ring : Nat) (W : Int → ByteArray) (bt : Nat) (T : TxS) (e : Ending) (w' : World) : Prop :=
  e = .returned (.int .i64 (cErr homes ring T.puts)) ∧ ∃ L' d' T', LogIn B w' bl L' d' (N + 1) homes ring (comW homes ring T.puts W) ∧ OnLog w' bt T' bl L' homes (comW homes ring T.puts W) ∧
    T'.puts = (if cErr homes ring T.puts = 0 then [] else T.puts) ∧ Keep (fun k => L.foot bl k ∨ T.own bt k) w w' ∧ (∀ k, L'.foot bl k → L.foot bl k ∨ w.heap.size ≤ k) ∧ (∀ k, T'.own bt k → T.own bt k ∨ w.heap.size ≤ k) ∧ Below B w w'
set_option maxHeartbeats 1000000 in
theorem txCommit_any {B : Nat} {w : World} {bl : Nat} {L : LogS} {d : Dk} {N homes ring : Nat} {W : Int → ByteArray} {bt : Nat} {T : TxS} (hl : LogIn B w bl L d N homes ring W) (ht : OnLog w bt T bl L homes W) (hlen : T.puts.length ≤ 1000000) (hN : N < 4611686018427387904) (hB : B ≤ w.heap.size) (hbt : ∀ k, T.own bt k → B ≤ k) :
    Calls Tryz.prog 20 #[.pointer (some ⟨bt, 0, none⟩)] w (TxComm B w bl L N homes ring W bt T) := by
  have HD := Lib.hid (txDead_any ht.at_)
  obtain ⟨ra, rc, hr, _⟩ := slice_form ht.at_.row
  obtain ⟨o, ho⟩ : ∃ o, Obj.cells #[.slice ra T.puts.length rc] 36 = o := ⟨_, rfl⟩
  obtain ⟨hone, hb0⟩ := listsAt_one (putsAt_row ht.at_.row)
  rw [hr, ho] at hone hb0
  have hbd : Below (w.alloc o).heap.size (w.alloc o) (w.alloc o).drew := ⟨rfl, rfl, rfl, Nat.le_refl _, fun _ _ => rfl⟩
  have hb1 : Below w.heap.size w (w.alloc o).drew := hb0.trans (hbd.mono hb0.size)
  have hone1 := hone.still hbd
  have hflat : [T.puts].flatten = T.puts := by simp
  have hCo := (hl.still hb1).commitW hN (Nat.le_trans hB hb1.size) hone1 (by rw [hflat]; exact hlen) (by show (1 : Nat) ≤ _; decide) (fun x hx => by
    rw [hflat] at hx
    have := (ht.at_.good x hx).2.2
    omega)
  rw [hflat] at hCo
  have HCo := Lib.hid hCo
  have HT1 := Lib.hid (ht.still hb1)
  have HL1 := Lib.hid (hl.still hb1)
  have HT := Lib.hid ht
  have HB1 := Lib.hid hb1
  have HO := Lib.hid ho
  have HR := Lib.hid hr
  clear hr ho hone hb0 hbd hb1 hone1 hflat hCo
  go_enter Tryz.func20, Tryz.ntmps20
  go_wp2_with (go_at_call 52; refine (HD.out).mono ?_; rintro e w1 ⟨rfl, rfl⟩)
  obtain ⟨S, hS⟩ : ∃ S : World → Prop, ∀ u, S u ↔ Keep (fun _ => False) (w) u := ⟨fun u => Keep (fun _ => False) (w) u, fun _ => Iff.rfl⟩
  have HS := Lib.hid hS
  clear hS
  refine wp_region_ord 9 [(0, true), (1, true), (2, true), (3, true), (4, true), (5, true), (6, true), (7, true), (8, false)] S (by kernel_rfl) (by kernel_rfl) ((HS.out _).2 (Keep.refl _ _).drew) ?_
  iterate 8
    first
      | (refine wpH_passed rfl (by rfl) (fun K hK => ?_); go_simp; refine hK _ ?_; clear hK K)
      | (first
           | refine wpH_read rfl rfl (fun K hK => ?_)
           | refine wpH_readw rfl (by rfl) (fun K hK => ?_)
         apply Exists.intro
         refine ⟨fun u hu => ?_, ?_⟩
         · have hu := (HS.out u).1 hu
           obtain ⟨⟨c0, c1, c2⟩, _⟩ := tCells (hu.at HT.out.at_.cells (fun e => e))
           rw [HT.out.blE] at c0
           rw [HR.out] at c1
           clear hu
           go_simp
           exact ⟨rfl, rfl⟩
         go_simp
         refine hK _ ?_
         clear hK K)
  refine wpH_do rfl rfl (fun K hK => ?_)
  go_simp
  rw [HO.out]
  refine hK _ _ ((HS.out _).2 ((Keep.refl _ _).alloc _).drew) ?_
  clear hK K
  refine wpH_nil ?_
  simp only [List.drop_succ_cons, List.drop_zero]
  go_wp2_with (fail)
  refine (HCo.out).mono ?_
  rintro e w2 ⟨rfl, L2, d2, hl2, hst2, hb2⟩
  obtain ⟨ce, hce⟩ : ∃ ce, cErr homes ring T.puts = ce := ⟨_, rfl⟩
  rw [hce]
  have HCe := Lib.hid hce
  have hap : ∀ k, T.own bt k → ¬ L.foot bl k := fun k ho hf => HT.out.at_.own_apart ho (by rw [HT.out.flE]; exact hf)
  have ht2 := HT1.out.relog hst2.keep hap hst2.own hl2
  have hB2 := (HB1.out.mono hB).trans hb2
  have hk2 : Keep (L.foot bl) w w2 := (Keep.ofBelow (S := L.foot bl) HB1.out).trans hst2.keep (fun _ _ e => e)
  have hown2 : ∀ k, L2.foot bl k → L.foot bl k ∨ w.heap.size ≤ k := fun k hk => (hst2.own k hk).imp id (fun e => Nat.le_trans HB1.out.size e)
  have HL2 := Lib.hid hl2
  have HT2 := Lib.hid ht2
  have HB2 := Lib.hid hB2
  have HK2 := Lib.hid hk2
  have HOw2 := Lib.hid hown2
  clear hl2 hst2 hb2 hap ht2 hB2 hk2 hown2 hce
  by_cases c0 : ce = 0
  · subst c0
    have HDr := Lib.hid (txDrop_any HT2.out.at_ (by show T.puts.length < _; omega))
    go_wp2_with (fail)
    refine (HDr.out).mono ?_
    rintro e w3 ⟨rfl, T3, hst3, hp3⟩
    go_wp2
    go_ret
    have hb3 : Below B w2 w3 := hst3.keep.below (Nat.le_trans hB HK2.out.size) (fun i hi ho => by have := hbt i ho; omega)
    exact ⟨by rw [HCe.out]; rfl, L2, d2, T3, HL2.out.txStep HT2.out hst3, HT2.out.step hst3, by rw [HCe.out, if_pos rfl]; exact hp3,
      (HK2.out.mono (fun k _ e => .inl e)).trans hst3.keep (fun k _ e => .inr e), HOw2.out, fun k hk => (hst3.own k hk).imp id (fun e => Nat.le_trans HK2.out.size e), HB2.out.trans hb3⟩
  · have f0 : decide (ce = 0) = false := by simpa using c0
    have f0' : (ce == 0) = false := by simpa using c0
    go_wp2
    go_ret
    exact ⟨by rw [HCe.out]; rfl, L2, d2, _, HL2.out, HT2.out, by rw [HCe.out, if_neg c0], HK2.out.mono (fun k _ e => .inl e), HOw2.out, fun k hk => .inl hk, HB2.out⟩
end Go.Proofs.YtalgheocjnajlaaGreatDoor

namespace Go.Proofs.YtalgheocjnajlaaGreatDoor
open Go.RowKit Go.MapKept
attribute [local go_sem] gives givesH
set_option maxRecDepth 100000

structure TxIn (B : Nat) (w : World) (bl : Nat) (L : LogS) (d : Dk) (N homes ring : Nat) (W : Int → ByteArray) (bt : Nat) (T : TxS) : Prop where
  log : LogIn B w bl L d N homes ring W
  tx : OnLog w bt T bl L homes W
  newer : ∀ k, T.own bt k → B ≤ k
section
variable {B : Nat} {w w' : World} {bl : Nat} {L : LogS} {d : Dk} {N homes ring : Nat} {W : Int → ByteArray} {bt : Nat} {T T' : TxS}
theorem TxIn.still (h : TxIn B w bl L d N homes ring W bt T) (hb : Below w.heap.size w w') : TxIn B w' bl L d N homes ring W bt T := ⟨h.log.still hb, h.tx.still hb, h.newer⟩
theorem TxStep.newer (hs : TxStep bt w T w' T') (hn : ∀ k, T.own bt k → B ≤ k) (hB : B ≤ w.heap.size) : (∀ k, T'.own bt k → B ≤ k) ∧ Below B w w' :=
  ⟨fun k hk => (hs.own k hk).elim (hn k) (fun e => Nat.le_trans hB e), hs.keep.below hB (fun i hi ho => by have := hn i ho; omega)⟩
theorem TxIn.step (h : TxIn B w bl L d N homes ring W bt T) (hs : TxStep bt w T w' T') (hB : B ≤ w.heap.size) : TxIn B w' bl L d N homes ring W bt T' ∧ Below B w w' :=
  ⟨⟨h.log.txStep h.tx hs, h.tx.step hs, (hs.newer h.newer hB).1⟩, (hs.newer h.newer hB).2⟩
theorem LogIn.begin (h : LogIn B w bl L d N homes ring W) (hB : B ≤ w.heap.size) :
    Calls Tryz.prog 10 #[.pointer (some ⟨bl, 0, none⟩)] w fun e w' => ∃ bt T, e = .returned (.pointer (some ⟨bt, 0, none⟩)) ∧ TxIn B w' bl L d N homes ring W bt T ∧ T.puts = [] ∧ (∀ k, T.own bt k → w.heap.size ≤ k) ∧ Below w.heap.size w w' :=
  (begin_any h.view).mono fun e w' ⟨bt, T, he, hT, hat, hbt, hb⟩ => by
    have hown : ∀ k, T.own bt k → w.heap.size ≤ k := fun k hk => by
      rw [hT] at hk
      rcases hk with e | e | e | ⟨i, v, hv, _⟩
      · omega
      · exact Nat.le_of_eq e.symm
      · cases e
      · cases hv
    refine ⟨bt, T, he, ⟨h.still hb, ⟨hat, by rw [hT]; rfl, by rw [hT]; rfl, by rw [hT]; rfl, by rw [hT]; rfl⟩, fun k hk => Nat.le_trans hB (hown k hk)⟩, by rw [hT]; rfl, hown, hb⟩
theorem TxIn.write (h : TxIn B w bl L d N homes ring W bt T) (hlen : T.puts.length < 1000000000000) (hB : B ≤ w.heap.size) {i : Int} (s : ByteArray) (hs : s.size ≤ 9223372036854775807) :
    Calls Tryz.prog 13 #[.pointer (some ⟨bt, 0, none⟩), .int .i64 i, .string s] w fun e w' => e = .returned (.int .i64 (writeErr homes i s)) ∧ ∃ T', TxStep bt w T w' T' ∧ TxIn B w' bl L d N homes ring W bt T' ∧ T'.puts = T.puts ++ putsOf homes i s ∧ Below B w w' :=
  (txWrite_any h.tx.at_ hlen s hs).mono fun e w' ⟨he, T', hst, hp⟩ => by
    rw [h.tx.nE] at he hp
    exact ⟨he, T', hst, (h.step hst hB).1, hp, (h.step hst hB).2⟩
theorem TxIn.read (h : TxIn B w bl L d N homes ring W bt T) {i : Int} (hi : (Lit.int .i64 i).wf = true) :
    Calls Tryz.prog 14 #[.pointer (some ⟨bt, 0, none⟩), .int .i64 i] w fun e w' => e = .returned (homeSays homes (seen T.puts W) i) ∧ Below w.heap.size w w' := by
  have := txRead_any h.tx.at_ hi
  unfold TxS.says TxS.read at this
  rwa [h.tx.nE, h.tx.fE] at this
theorem TxIn.back (h : TxIn B w bl L d N homes ring W bt T) (hlen : T.puts.length < 1000000000000) (hB : B ≤ w.heap.size) (mark : Int) :
    Calls Tryz.prog 17 #[.pointer (some ⟨bt, 0, none⟩), .int .i64 mark] w fun e w' => e = .returned (.tuple #[]) ∧ ∃ T', TxStep bt w T w' T' ∧ TxIn B w' bl L d N homes ring W bt T' ∧ T'.puts = T.puts.take mark.toNat ∧ Below B w w' :=
  (txBack_any h.tx.at_ hlen mark).mono fun _ _ ⟨he, T', hst, hp⟩ => ⟨he, T', hst, (h.step hst hB).1, hp, (h.step hst hB).2⟩
theorem TxIn.drop (h : TxIn B w bl L d N homes ring W bt T) (hlen : T.puts.length < 1000000000000) (hB : B ≤ w.heap.size) :
    Calls Tryz.prog 21 #[.pointer (some ⟨bt, 0, none⟩)] w fun e w' => e = .returned (.tuple #[]) ∧ ∃ T', TxStep bt w T w' T' ∧ TxIn B w' bl L d N homes ring W bt T' ∧ T'.puts = [] ∧ Below B w w' :=
  (txDrop_any h.tx.at_ hlen).mono fun _ _ ⟨he, T', hst, hp⟩ => ⟨he, T', hst, (h.step hst hB).1, hp, (h.step hst hB).2⟩
theorem TxIn.mark (h : TxIn B w bl L d N homes ring W bt T) : Calls Tryz.prog 16 #[.pointer (some ⟨bt, 0, none⟩)] w fun e w' => e = .returned (.int .i64 T.puts.length) ∧ w = w' := txMark_any h.tx.at_
theorem TxIn.touched (h : TxIn B w bl L d N homes ring W bt T) : Calls Tryz.prog 22 #[.pointer (some ⟨bt, 0, none⟩)] w fun e w' => e = .returned (.int .i64 (metL T.puts).length) ∧ w = w' := txTouched_any h.tx.at_
theorem TxIn.homesM (h : TxIn B w bl L d N homes ring W bt T) : Calls Tryz.prog 24 #[.pointer (some ⟨bt, 0, none⟩)] w fun e w' => e = .returned (.int .i64 homes) ∧ Below w.heap.size w w' := h.tx.nE ▸ txHomes_any h.tx.at_
/-- a change beside what another change turned -/
theorem OnLog.keep {S : Nat → Prop} (h : OnLog w bt T bl L homes W) (hk : Keep S w w') (hn : ∀ k, T.own bt k → ¬ S k) (hf : ∀ k, L.foot bl k → ¬ S k) : OnLog w' bt T bl L homes W :=
  ⟨h.at_.keep hk (fun k hf2 => by
    rcases hf2 with e | e | e | e | e
    · exact hn k (.inl e)
    · exact hn k (.inr (.inl e))
    · exact hf k (by rw [← h.flE]; exact e)
    · exact hn k (.inr (.inr (.inl e)))
    · exact hn k (.inr (.inr (.inr e)))), h.blE, h.nE, h.fE, h.flE⟩
end
/-- a text of 512 bytes, by its bytes -/
theorem fullS_full (s : ByteArray) (h : s.size = 512) : fullS s = s := by
  unfold fullS
  rw [h]
  apply ByteArray.ext
  simp
end Go.Proofs.YtalgheocjnajlaaGreatDoor
