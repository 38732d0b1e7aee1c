/-
  CHANGES (tx): the log's answers by its view; dead, Homes, Mark, Read.
-/
import Derived.Test.YtoajdccdhjlikaaDoorTx
namespace Go.Proofs.YtoajdccdhjlikaaDoor
open Go.RowKit Go.MapKept
attribute [local go_sem] gives

/-! ## the log's answers, by its view -/
theorem LogView.still {w u : World} {bl n : Nat} {f : Int → ByteArray} {F : Nat → Prop} (h : LogView w bl n f F) (hb : Below w.heap.size w u) : LogView u bl n f F := h.keep (Keep.still hb) (fun _ _ h => h)
theorem view_down {w : World} {bl n : Nat} {f : Int → ByteArray} {F : Nat → Prop} (h : LogView w bl n f F) :
    Calls Tryd.prog 37 #[.pointer (some ⟨bl, 0, none⟩)] w fun e w' => e = .returned (.bool false) ∧ w = w' := by
  obtain ⟨L, h1, h2, h3, h4, h5, h6⟩ := h
  exact h2 ▸ logDown_any h1.cells
theorem view_homes {w : World} {bl n : Nat} {f : Int → ByteArray} {F : Nat → Prop} (h : LogView w bl n f F) :
    Calls Tryd.prog 39 #[.pointer (some ⟨bl, 0, none⟩)] w fun e w' => e = .returned (.int .i64 n) ∧ Below w.heap.size w w' := by
  obtain ⟨L, h1, h2, h3, h4, h5, h6⟩ := h
  exact h4 ▸ logHomes_any h1
/-- what reading home i of n answers: the text, and the error -/
def homeStr (n : Nat) (f : Int → ByteArray) (i : Int) : ByteArray := if 0 ≤ i ∧ i < n then f i else ⟨#[]⟩
def homeErr (n : Nat) (i : Int) : Int := if 0 ≤ i ∧ i < n then 0 else 2
theorem homeStr_in {n : Nat} {f : Int → ByteArray} {i : Int} (h : 0 ≤ i ∧ i < n) : homeStr n f i = f i := if_pos h
theorem homeErr_in {n : Nat} {i : Int} (h : 0 ≤ i ∧ i < n) : homeErr n i = 0 := if_pos h
theorem homeErr_out {n : Nat} {i : Int} (h : ¬ (0 ≤ i ∧ i < n)) : homeErr n i = 2 := if_neg h
theorem homeErr_up (n : Nat) (i : Int) : homeErr n i ≠ 3 := by unfold homeErr; split <;> decide
def homeSays (n : Nat) (f : Int → ByteArray) (i : Int) : Value := .tuple #[.string (homeStr n f i), .int .i64 (homeErr n i)]
theorem view_read {w : World} {bl n : Nat} {f : Int → ByteArray} {F : Nat → Prop} (h : LogView w bl n f F) {i : Int} (hi : (Lit.int .i64 i).wf = true) :
    Calls Tryd.prog 44 #[.pointer (some ⟨bl, 0, none⟩), .int .i64 i] w fun e w' => e = .returned (homeSays n f i) ∧ Below w.heap.size w w' := by
  obtain ⟨L, h1, h2, h3, h4, h5, h6⟩ := h
  have := logRead_any h1 h2 h3 hi
  have e : L.says i = homeSays n f i := by
    unfold LogS.says homeSays homeStr homeErr
    rw [h4, h5]
    split <;> rfl
  rwa [e] at this
theorem LogView.size {w : World} {bl n : Nat} {f : Int → ByteArray} {F : Nat → Prop} (h : LogView w bl n f F) (i : Int) : (f i).size = 512 := by
  obtain ⟨L, h1, h2, h3, h4, h5, h6⟩ := h
  rw [← h5]; exact LogS.read_size h1 i
theorem LogView.small {w : World} {bl n : Nat} {f : Int → ByteArray} {F : Nat → Prop} (h : LogView w bl n f F) : n ≤ 65536 := by
  obtain ⟨L, h1, h2, h3, h4, h5, h6⟩ := h
  have := h1.disk.size
  rw [← h4]; unfold LogS.homes; omega

/-! ## a change in memory: small words -/
theorem tCells {w : World} {b : Nat} {v0 v1 v2 : Value} {t : TypeId} (h : w.heap[b]? = some (.cells #[v0, v1, v2] t (0, 0))) :
    (w.cell? ⟨b, 0, none⟩ = some v0 ∧ w.cell? ⟨b, 1, none⟩ = some v1 ∧ w.cell? ⟨b, 2, none⟩ = some v2) ∧ w.frozen? ⟨b, 0, none⟩ = false ∧ w.frozen? ⟨b, 1, none⟩ = false ∧ w.frozen? ⟨b, 2, none⟩ = false := by
  simp [World.cell?, World.frozen?, h]
def TxS.own (T : TxS) (bt k : Nat) : Prop := k = bt ∨ k = T.bw ∨ T.rowv.ownBlock = some k ∨ ∃ i v, T.g i = some v ∧ v.ownBlock = some k
theorem TxS.own_foot {T : TxS} {bt k : Nat} (h : T.own bt k) : T.foot bt k := by
  rcases h with h | h | h | h
  · exact .inl h
  · exact .inr (.inl h)
  · exact .inr (.inr (.inr (.inl h)))
  · exact .inr (.inr (.inr (.inr h)))
theorem TxAt.still {w u : World} {bt : Nat} {T : TxS} (h : TxAt w bt T) (hb : Below w.heap.size w u) : TxAt u bt T := h.keep (Keep.still hb) (fun _ _ h => h)

theorem txDead_any {w : World} {bt : Nat} {T : TxS} (h : TxAt w bt T) :
    Calls Tryd.prog 84 #[.pointer (some ⟨bt, 0, none⟩)] w fun e w' => e = .returned (.bool false) ∧ w = w' := by
  have H := Lib.hid (view_down h.log)
  obtain ⟨⟨c0, c1, c2⟩, _⟩ := tCells h.cells
  go_enter Tryd.func84, Tryd.ntmps84
  go_wp2_with (go_at_call 37; refine (H.out).mono ?_; rintro e w1 ⟨rfl, rfl⟩)
  go_ret
  exact ⟨rfl, rfl⟩

theorem txHomes_any {w : World} {bt : Nat} {T : TxS} (h : TxAt w bt T) :
    Calls Tryd.prog 49 #[.pointer (some ⟨bt, 0, none⟩)] w fun e w' => e = .returned (.int .i64 T.n) ∧ Below w.heap.size w w' := by
  have H := Lib.hid (view_homes h.log)
  obtain ⟨⟨c0, c1, c2⟩, _⟩ := tCells h.cells
  go_enter Tryd.func49, Tryd.ntmps49
  go_wp2_with (go_at_call 39; refine (H.out).mono ?_; rintro e w1 ⟨rfl, hb⟩)
  go_ret
  exact ⟨rfl, hb⟩

theorem slice_form {w : World} {e : TypeId} {size : Nat} {v : Value} {n : Nat} {xs : List Value} (h : w.ownsRow 0 e size v n xs) : ∃ a c, v = .slice a n c ∧ n ≤ c ∧ c ≤ maxLen := by
  rcases h.2 with ⟨rfl, rfl⟩ | ⟨g, cap, cur, rfl, _, _, h1, h2, _⟩
  · exact ⟨none, 0, rfl, Nat.le_refl _, Nat.zero_le _⟩
  · exact ⟨_, cap, rfl, h1, h2⟩

theorem txMark_any {w : World} {bt : Nat} {T : TxS} (h : TxAt w bt T) :
    Calls Tryd.prog 88 #[.pointer (some ⟨bt, 0, none⟩)] w fun e w' => e = .returned (.int .i64 T.puts.length) ∧ w = w' := by
  obtain ⟨⟨c0, c1, c2⟩, _⟩ := tCells h.cells
  obtain ⟨a, c, hv, _⟩ := slice_form h.row
  rw [hv] at c1
  clear hv
  go_enter Tryd.func88, Tryd.ntmps88
  go_wp2
  go_ret
  exact ⟨rfl, rfl⟩

/-- what a home holds, as the change sees it -/
def TxS.read (T : TxS) : Int → ByteArray := seen T.puts T.f
def TxS.says (T : TxS) (i : Int) : Value := homeSays T.n T.read i

theorem row_pos {w : World} {e : TypeId} {size : Nat} {v : Value} {n : Nat} {xs : List Value} (h : w.ownsRow 0 e size v n xs) (hn : 0 < n) :
    ∃ g c, v = .slice (some ⟨g, 0, none⟩) n c ∧ n ≤ c ∧ c ≤ maxLen ∧ ∀ (j : Nat) u, xs[j]? = some u → w.cell? ⟨g, j, none⟩ = some u := by
  rcases h.2 with ⟨rfl, rfl⟩ | ⟨g, cap, cur, rfl, _, hg, h1, h2, _⟩
  · omega
  · refine ⟨g, cap, rfl, h1, h2, fun j u hu => ?_⟩
    have := h.cells (g := g) rfl j u hu
    have e : (⟨g, 0, none⟩ : Addr).add j = ⟨g, j, none⟩ := by unfold Addr.add; split <;> simp_all
    rwa [e] at this

theorem writeCells_at (p : Puts) (k : Nat) (i : Int) (s : ByteArray) (h : p[k]? = some (i, s)) : (writeCells p)[k * 2]? = some (.int .i64 i) ∧ (writeCells p)[k * 2 + 1]? = some (.string s) := by
  induction p generalizing k with
  | nil => simp at h
  | cons x p ih =>
    have e : writeCells (x :: p) = .int .i64 x.1 :: .string x.2 :: writeCells p := rfl
    rw [e]
    cases k with
    | zero =>
      simp at h
      subst h
      exact ⟨rfl, rfl⟩
    | succ k =>
      have := ih k (by simpa using h)
      rw [show (k + 1) * 2 = k * 2 + 1 + 1 by omega]
      simpa using this
theorem writeCells_length (p : Puts) : (writeCells p).length = p.length * 2 := by
  induction p with
  | nil => rfl
  | cons x p ih =>
    have e : writeCells (x :: p) = .int .i64 x.1 :: .string x.2 :: writeCells p := rfl
    rw [e]; simp [ih]; omega

theorem zeroInts (w : World) : (zeroValue 63).run Tryd.prog w = .ok (.slice none 0 0) w := by kernel_rfl

set_option maxRecDepth 100000
theorem txRead_any {w : World} {bt : Nat} {T : TxS} (h : TxAt w bt T) {i : Int} (hi : (Lit.int .i64 i).wf = true) :
    Calls Tryd.prog 86 #[.pointer (some ⟨bt, 0, none⟩), .int .i64 i] w fun e w' => e = .returned (T.says i) ∧ Below w.heap.size w w' := by
  have H1 := Lib.hid (txDead_any h)
  have H2 := Lib.hid (view_read h.log hi)
  obtain ⟨⟨c0, c1, c2⟩, _⟩ := tCells h.cells
  have l1 := h.where_.run_lookup Tryd.underlying3 Tryd.underlying100 (zeroInts w) hi false
  by_cases hp : posns T.puts i = []
  · rw [h.none_ i hp] at l1
    have hs : T.says i = homeSays T.n T.f i := by
      unfold TxS.says homeSays homeStr TxS.read
      rw [seen_none _ _ _ hp]
    rw [hs]
    unfold homeSays at *
    generalize homeStr T.n T.f i = s at *
    generalize homeErr T.n i = c at *
    simp only [Option.getD_none, Bool.false_eq_true, if_false] at l1
    clear hp hs
    go_enter Tryd.func86, Tryd.ntmps86
    go_wp2_with (first
      | (go_at_call 84; refine (H1.out).mono ?_; rintro e w1 ⟨rfl, rfl⟩)
      | (go_at_call 44; refine (H2.out).mono ?_; rintro e w1 ⟨rfl, hb⟩))
    go_ret2
    exact ⟨rfl, hb⟩
  · obtain ⟨v, hv, ho⟩ := h.some_ i hp
    rw [hv] at l1
    simp only [Option.getD_some, Bool.false_eq_true, if_false] at l1
    obtain ⟨l, k, hlk⟩ : ∃ l k, posns T.puts i = l ++ [k] := ⟨_, _, (List.dropLast_concat_getLast hp).symm⟩
    obtain ⟨hk, hpk⟩ := seen_last T.puts T.f i l k hlk
    obtain ⟨g, c, rfl, hc1, hc2, hcell⟩ := row_pos ho (by rw [hlk]; simp)
    obtain ⟨r, rc, hr, hr1, hr2, hrow⟩ := row_pos h.row (by omega)
    have ha := hcell l.length (.int .i64 (k : Nat)) (by rw [hlk]; simp)
    have hb := hrow (k * 2 + 1) _ (writeCells_at T.puts k i _ hpk).2
    have hg := h.good _ (List.mem_of_getElem? hpk)
    have hs : T.says i = .tuple #[.string (T.read i), .int .i64 0] := by
      unfold TxS.says homeSays
      rw [homeStr_in ⟨hg.1, hg.2.1⟩, homeErr_in ⟨hg.1, hg.2.1⟩]
    rw [hs]
    have hb' : w.cell? ⟨r, k * 2 + 1, none⟩ = some (.string (T.read i)) := hb
    rw [hr] at c1
    have hln : (posns T.puts i).length = l.length + 1 := by rw [hlk]; simp
    rw [hln] at l1 hc1
    unfold maxLen at hc2 hr2
    have hk0 : (0 : Int) ≤ (k : Int) := by omega
    have hk1 : (k : Int) < (T.puts.length : Int) := by omega
    clear hb hrow hcell ho hlk hv hpk hs hg hr hln
    generalize T.read i = s at *
    generalize l.length = m at *
    generalize T.puts.length = q at *
    go_enter Tryd.func86, Tryd.ntmps86
    go_wp2_with (first
      | (go_at_call 84; refine (H1.out).mono ?_; rintro e w1 ⟨rfl, rfl⟩))
    go_quiet (fail)
    go_wp2
    go_ret2
    exact ⟨rfl, ⟨rfl, rfl, rfl, Nat.le_refl _, fun _ _ => rfl⟩⟩

end Go.Proofs.YtoajdccdhjlikaaDoor
