/-
  THE PLAIN LAW of seals: what the float functions come to on turned sums of texts; and the contracts of Of, Join, Cut in terms of lists of bytes.
-/
import Derived.Test.YtbjlgcliplalcaaGreatDoorCut
namespace Go.Proofs.YtbjlgcliplalcaaGreatDoor
set_option maxRecDepth 100000
open Go.RowKit
open Go.Op (negFloat)
open flt

/-- the turned sum -/
def gs (l : List Nat) : Int × Int := l.foldl (fun (z : Int × Int) (c : Nat) => (-z.2 + (c : Int), z.1)) (0, 0)
/-- turned so many times -/
def rot : Nat → Int × Int → Int × Int
  | 0, z => z
  | n + 1, z => rot n (-z.2, z.1)
theorem rot_succ (n : Nat) (z : Int × Int) : rot (n + 1) z = (-(rot n z).2, (rot n z).1) := by
  induction n generalizing z with
  | zero => rfl
  | succ n ih =>
    show rot (n + 1) (-z.2, z.1) = _
    rw [ih]; rfl
theorem rot_add (m n : Nat) (z : Int × Int) : rot (m + n) z = rot m (rot n z) := by
  induction m with
  | zero => simp [rot]
  | succ m ih => rw [Nat.succ_add, rot_succ, rot_succ, ih]
theorem rot_four (z : Int × Int) : rot 4 z = z := by
  simp [rot]
theorem rot_mul (k : Nat) (z : Int × Int) : rot (4 * k) z = z := by
  induction k with
  | zero => rfl
  | succ k ih => rw [Nat.mul_succ, rot_add, rot_four, ih]
theorem rot_mod (n : Nat) (z : Int × Int) : rot (n % 4) z = rot n z := by
  have h : n = n % 4 + 4 * (n / 4) := by omega
  conv => rhs; rw [h, rot_add, rot_mul]
theorem rot_plus (n : Nat) (x y : Int × Int) : rot n (x.1 + y.1, x.2 + y.2) = ((rot n x).1 + (rot n y).1, (rot n x).2 + (rot n y).2) := by
  induction n with
  | zero => rfl
  | succ n ih =>
    rw [rot_succ, rot_succ, rot_succ, ih]
    ext <;> simp <;> omega
theorem gs_snoc (l : List Nat) (c : Nat) : gs (l ++ [c]) = (-(gs l).2 + (c : Int), (gs l).1) := by simp [gs, List.foldl_append]
theorem snocInd {α : Type} {P : List α → Prop} (h0 : P []) (h1 : ∀ l c, P l → P (l ++ [c])) : ∀ l, P l := by
  have h : ∀ r : List α, P r.reverse := by
    intro r
    induction r with
    | nil => exact h0
    | cons c r ih => rw [List.reverse_cons]; exact h1 _ _ ih
  intro l
  have := h l.reverse
  rwa [List.reverse_reverse] at this
theorem gs_append (a b : List Nat) : gs (a ++ b) = ((rot b.length (gs a)).1 + (gs b).1, (rot b.length (gs a)).2 + (gs b).2) := by
  refine snocInd (P := fun b => gs (a ++ b) = ((rot b.length (gs a)).1 + (gs b).1, (rot b.length (gs a)).2 + (gs b).2)) ?_ ?_ b
  · simp [gs, rot]
  · intro b c ih
    rw [← List.append_assoc, gs_snoc, ih, gs_snoc, List.length_append, List.length_singleton, rot_succ]
    ext <;> simp <;> omega
theorem gs_bd (l : List Nat) : (∀ c ∈ l, c < 256) → -(255 * (l.length : Int)) ≤ (gs l).1 ∧ (gs l).1 ≤ 255 * (l.length : Int) ∧ -(255 * (l.length : Int)) ≤ (gs l).2 ∧ (gs l).2 ≤ 255 * (l.length : Int) := by
  refine snocInd (P := fun l => (∀ c ∈ l, c < 256) → -(255 * (l.length : Int)) ≤ (gs l).1 ∧ (gs l).1 ≤ 255 * (l.length : Int) ∧ -(255 * (l.length : Int)) ≤ (gs l).2 ∧ (gs l).2 ≤ 255 * (l.length : Int)) ?_ ?_ l
  · simp [gs]
  · intro l c ih h
    have h1 := ih fun x hx => h x (by simp [hx])
    have h2 := h c (by simp)
    rw [gs_snoc, List.length_append, List.length_singleton]
    simp only
    omega

theorem fadd_rep {x y : Nat} {a b : Int} (hx : Rep x a) (hy : Rep y b) (h : (a + b).natAbs ≤ 9007199254740992) : Rep (fadd x y) (a + b) := by
  obtain ⟨r, h1, h2⟩ := rep_add hx hy h
  rw [fadd, h1]; exact h2
theorem fsub_rep {x y : Nat} {a b : Int} (hx : Rep x a) (hy : Rep y b) (h : (a - b).natAbs ≤ 9007199254740992) : Rep (fsub x y) (a - b) := by
  obtain ⟨r, h1, h2⟩ := rep_sub hx hy h
  rw [fsub, h1]; exact h2
theorem sumB_rep (l : List Nat) : (∀ c ∈ l, c < 256) → l.length ≤ 1099511627776 → Rep (sumB l).1 (gs l).1 ∧ Rep (sumB l).2 (gs l).2 := by
  refine snocInd (P := fun l => (∀ c ∈ l, c < 256) → l.length ≤ 1099511627776 → Rep (sumB l).1 (gs l).1 ∧ Rep (sumB l).2 (gs l).2) ?_ ?_ l
  · intro _ _; exact ⟨rep_zero, rep_zero⟩
  · intro l c ih h hl
    rw [List.length_append, List.length_singleton] at hl
    have h' : ∀ x ∈ l, x < 256 := fun x hx => h x (by simp [hx])
    obtain ⟨h1, h2⟩ := ih h' (by omega)
    have h3 := h c (by simp)
    obtain ⟨b1, b2, b3, b4⟩ := gs_bd l h'
    rw [sumB_snoc, gs_snoc]
    refine ⟨fadd_rep (rep_neg h2) (rep_int _ (by omega)) (by omega), ?_⟩
    have := fadd_rep h1 rep_zero (by omega)
    rwa [Int.add_zero] at this
theorem turnSum_rep (l : List Nat) (h : ∀ c ∈ l, c < 256) (hl : l.length ≤ 1099511627776) : wholeF (turnSumF l).1 = (gs l).1 ∧ wholeF (turnSumF l).2 = (gs l).2 := by
  obtain ⟨h1, h2⟩ := sumB_rep l h hl
  obtain ⟨b1, b2, b3, b4⟩ := gs_bd l h
  have g1 := fadd_rep h1 rep_zero (by omega)
  have g2 := fadd_rep h2 rep_zero (by omega)
  rw [Int.add_zero] at g1 g2
  exact ⟨wholeF_rep g1 (by omega) (by omega), wholeF_rep g2 (by omega) (by omega)⟩

theorem manyF_rep (n : Nat) (z : Nat × Nat) (x : Int × Int) (h1 : Rep z.1 x.1) (h2 : Rep z.2 x.2) : Rep (manyF n z).1 (rot n x).1 ∧ Rep (manyF n z).2 (rot n x).2 := by
  induction n generalizing z x with
  | zero => exact ⟨h1, h2⟩
  | succ n ih => exact ih _ _ (rep_neg h2) h1
theorem rot_bd (n : Nat) (x : Int × Int) (B : Int) (h : -B ≤ x.1 ∧ x.1 ≤ B ∧ -B ≤ x.2 ∧ x.2 ≤ B) : -B ≤ (rot n x).1 ∧ (rot n x).1 ≤ B ∧ -B ≤ (rot n x).2 ∧ (rot n x).2 ≤ B := by
  induction n generalizing x with
  | zero => exact h
  | succ n ih => exact ih _ (by simp only; omega)
theorem sumF_rep (a : Int × Int) (h1 : a.1.natAbs ≤ 9007199254740992) (h2 : a.2.natAbs ≤ 9007199254740992) : Rep (sumF a.1 a.2).1 a.1 ∧ Rep (sumF a.1 a.2).2 a.2 := ⟨rep_int _ h1, rep_int _ h2⟩

theorem joinF_rep (la lb : List Nat) (ha : ∀ c ∈ la, c < 256) (hb : ∀ c ∈ lb, c < 256) (hla : la.length ≤ 1099511627776) (hlb : lb.length ≤ 1099511627776) :
    wholeF (joinF (sumF (gs la).1 (gs la).2) (sumF (gs lb).1 (gs lb).2) (lb.length : Int)).1 = (gs (la ++ lb)).1 ∧
    wholeF (joinF (sumF (gs la).1 (gs la).2) (sumF (gs lb).1 (gs lb).2) (lb.length : Int)).2 = (gs (la ++ lb)).2 := by
  obtain ⟨a1, a2, a3, a4⟩ := gs_bd la ha
  obtain ⟨b1, b2, b3, b4⟩ := gs_bd lb hb
  obtain ⟨s1, s2⟩ := sumF_rep (gs la) (by omega) (by omega)
  obtain ⟨t1, t2⟩ := sumF_rep (gs lb) (by omega) (by omega)
  have en : ((lb.length : Int) % 4).toNat = lb.length % 4 := by omega
  unfold joinF
  rw [en]
  obtain ⟨m1, m2⟩ := manyF_rep (lb.length % 4) _ _ s1 s2
  rw [rot_mod] at m1 m2
  obtain ⟨r1, r2, r3, r4⟩ := rot_bd lb.length (gs la) (255 * (la.length : Int)) ⟨a1, a2, a3, a4⟩
  have g1 := fadd_rep (fadd_rep m1 t1 (by omega)) rep_zero (by omega)
  have g2 := fadd_rep (fadd_rep m2 t2 (by omega)) rep_zero (by omega)
  rw [Int.add_zero] at g1 g2
  rw [gs_append]
  exact ⟨wholeF_rep g1 (by omega) (by omega), wholeF_rep g2 (by omega) (by omega)⟩
theorem lessF_rep (la lb : List Nat) (ha : ∀ c ∈ la, c < 256) (hb : ∀ c ∈ lb, c < 256) (hla : la.length ≤ 1099511627776) (hlb : lb.length ≤ 1099511627776) :
    wholeF (lessF (sumF (gs (la ++ lb)).1 (gs (la ++ lb)).2) (sumF (gs lb).1 (gs lb).2) (lb.length : Int)).1 = (gs la).1 ∧
    wholeF (lessF (sumF (gs (la ++ lb)).1 (gs (la ++ lb)).2) (sumF (gs lb).1 (gs lb).2) (lb.length : Int)).2 = (gs la).2 := by
  obtain ⟨a1, a2, a3, a4⟩ := gs_bd la ha
  obtain ⟨b1, b2, b3, b4⟩ := gs_bd lb hb
  obtain ⟨c1, c2, c3, c4⟩ := gs_bd (la ++ lb) (fun c hc => by rcases List.mem_append.1 hc with h | h; exact ha c h; exact hb c h)
  rw [List.length_append] at c1 c2 c3 c4
  obtain ⟨s1, s2⟩ := sumF_rep (gs (la ++ lb)) (by omega) (by omega)
  obtain ⟨t1, t2⟩ := sumF_rep (gs lb) (by omega) (by omega)
  have en : (wrap64 (-(lb.length : Int)) % 4).toNat = (4 - lb.length % 4) % 4 := by
    rw [IntWalk.wrap64_in _ (by omega)]; omega
  unfold lessF
  rw [en]
  have d1 := fsub_rep s1 t1 (by omega)
  have d2 := fsub_rep s2 t2 (by omega)
  obtain ⟨m1, m2⟩ := manyF_rep ((4 - lb.length % 4) % 4) (fsub (sumF (gs (la ++ lb)).1 (gs (la ++ lb)).2).1 (sumF (gs lb).1 (gs lb).2).1, fsub (sumF (gs (la ++ lb)).1 (gs (la ++ lb)).2).2 (sumF (gs lb).1 (gs lb).2).2) ((gs (la ++ lb)).1 - (gs lb).1, (gs (la ++ lb)).2 - (gs lb).2) d1 d2
  have er : rot ((4 - lb.length % 4) % 4) ((gs (la ++ lb)).1 - (gs lb).1, (gs (la ++ lb)).2 - (gs lb).2) = gs la := by
    rw [gs_append]
    simp only [Int.add_sub_cancel]
    show rot ((4 - lb.length % 4) % 4) (rot lb.length (gs la)) = gs la
    rw [← rot_add, ← rot_mod]
    rw [show ((4 - lb.length % 4) % 4 + lb.length) % 4 = 0 by omega]
    rfl
  rw [er] at m1 m2
  have g1 := fadd_rep m1 rep_zero (by omega)
  have g2 := fadd_rep m2 rep_zero (by omega)
  rw [Int.add_zero] at g1 g2
  exact ⟨wholeF_rep g1 (by omega) (by omega), wholeF_rep g2 (by omega) (by omega)⟩

/-- the reference's sum is the turned sum -/
theorem ipow_succ (m : Nat) : ipow ((m : Int) + 1) = (-(ipow m).2, (ipow m).1) := by
  have h : (m : Int) % 4 = 0 ∨ (m : Int) % 4 = 1 ∨ (m : Int) % 4 = 2 ∨ (m : Int) % 4 = 3 := by omega
  unfold ipow
  rcases h with h | h | h | h
  · rw [h, show ((m : Int) + 1) % 4 = 1 by omega]; decide
  · rw [h, show ((m : Int) + 1) % 4 = 2 by omega]; decide
  · rw [h, show ((m : Int) + 1) % 4 = 3 by omega]; decide
  · rw [h, show ((m : Int) + 1) % 4 = 0 by omega]; decide
theorem rot_byte (m : Nat) (c : Int) : rot m (c, 0) = (c * (ipow m).1, c * (ipow m).2) := by
  induction m with
  | zero => simp [rot, ipow]
  | succ m ih =>
    rw [rot_succ, ih, Int.natCast_succ, ipow_succ]
    ext
    · simp [Int.mul_neg]
    · simp
theorem rs_rot (l : List Nat) (n k : Nat) (hk : k ≤ n) (hn : n = l.length) : rs l n k = rot (n - k) (gs (l.take k)) := by
  induction k with
  | zero =>
    have : rot n (0, 0) = (0, 0) := by
      clear hk hn
      induction n with
      | zero => rfl
      | succ n ih => rw [rot_succ, ih]; rfl
    simp [rs, gs, this]
  | succ k ih =>
    have hlt : k < l.length := by omega
    rw [rs, ih (by omega), List.take_succ_eq_append_getElem hlt, gs_snoc]
    have e1 : n - k = (n - (k + 1)) + 1 := by omega
    have e2 : (n : Int) - 1 - k = ((n - (k + 1) : Nat) : Int) := by omega
    have e3 : l.getD k 0 = l[k] := by rw [List.getD_eq_getElem?_getD, List.getElem?_eq_getElem hlt]; rfl
    rw [e2, e3, e1]
    have h := rot_plus (n - (k + 1)) (-(gs (l.take k)).2, (gs (l.take k)).1) ((l[k] : Nat), 0)
    rw [rot_byte, Int.add_zero] at h
    rw [h]
    rfl
theorem rs_gs (l : List Nat) : rs l l.length l.length = gs l := by
  rw [rs_rot l _ _ (Nat.le_refl _) rfl, Nat.sub_self, List.take_length]
  rfl

/-- the seal of a list of bytes -/
def sealL (l : List Nat) : Value := sealV (gs l).1 (gs l).2 (crc.check l : Nat) (l.length : Nat)

theorem of_seal (s : ByteArray) (hs : s.size ≤ 1099511627776) (w : World) :
    Calls Tryz.prog 7 #[.string s] w fun e w' => e = .returned (sealL (bl s)) ∧ Below w.heap.size w w' := by
  obtain ⟨h1, h2⟩ := turnSum_rep (bl s) (bl_lt s) (by rw [bl_length]; exact hs)
  have := of_any s (by unfold maxLen; omega) w
  rw [h1, h2, ← bl_length] at this
  exact this
theorem refOf_seal (s : ByteArray) (hs : s.size ≤ 1099511627776) (w : World) :
    Calls Tryz.prog 8 #[.string s] w fun e w' => e = .returned (sealL (bl s)) ∧ Below w.heap.size w w' := by
  have := refOf_any s hs w
  rw [← bl_length, rs_gs] at this
  exact this
theorem join_seal (a b : List Nat) (ha : ∀ c ∈ a, c < 256) (hb : ∀ c ∈ b, c < 256) (hla : a.length ≤ 1099511627776) (hlb : b.length ≤ 1099511627776) (w : World) :
    Calls Tryz.prog 9 #[sealL a, sealL b] w fun e w' => e = .returned (sealL (a ++ b)) ∧ Below w.heap.size w w' := by
  obtain ⟨a1, a2, a3, a4⟩ := gs_bd a ha
  obtain ⟨b1, b2, b3, b4⟩ := gs_bd b hb
  have ca := crc.check_lt a ha
  have cb := crc.check_lt b hb
  have h := join_any (gs a).1 (gs a).2 (crc.check a : Nat) (a.length : Nat) (gs b).1 (gs b).2 (crc.check b : Nat) (b.length : Nat) w (by omega) (by omega) (by omega) (by omega) (by omega) (by omega) (by omega)
  obtain ⟨j1, j2⟩ := joinF_rep a b ha hb hla hlb
  have ew : IntKind.i64.wrap ((a.length : Int) + (b.length : Int)) = (((a ++ b).length : Nat) : Int) := by
    rw [IntWalk.i64_in _ (by omega), List.length_append]; omega
  have ec : crc.times (crc.check a) (powN (b.length : Nat)) ^^^ crc.check b = crc.check (a ++ b) := by
    rw [crc.check_append, powN, Int.toNat_natCast, crc.times_comm _ _ ca (crc.it_lt _ _ crc.one_lt), crc.it_times _ _ ca]
  rw [Int.toNat_natCast, Int.toNat_natCast, ec, ew, j1, j2] at h
  exact h
theorem cut_seal (a b : List Nat) (ha : ∀ c ∈ a, c < 256) (hb : ∀ c ∈ b, c < 256) (hla : a.length ≤ 1099511627776) (hlb : b.length ≤ 1099511627776) (w : World) :
    Calls Tryz.prog 10 #[sealL (a ++ b), sealL b] w fun e w' => e = .returned (sealL a) ∧ Below w.heap.size w w' := by
  have hab : ∀ c ∈ a ++ b, c < 256 := fun c hc => by rcases List.mem_append.1 hc with h | h; exact ha c h; exact hb c h
  obtain ⟨a1, a2, a3, a4⟩ := gs_bd (a ++ b) hab
  obtain ⟨b1, b2, b3, b4⟩ := gs_bd b hb
  have hlab : (a ++ b).length = a.length + b.length := List.length_append
  have ca := crc.check_lt (a ++ b) hab
  have cb := crc.check_lt b hb
  have h := cut_any (gs (a ++ b)).1 (gs (a ++ b)).2 (crc.check (a ++ b) : Nat) ((a ++ b).length : Nat) (gs b).1 (gs b).2 (crc.check b : Nat) (b.length : Nat) w (by omega) (by omega) (by omega) (by omega) (by omega) (by omega) (by omega)
  obtain ⟨j1, j2⟩ := lessF_rep a b ha hb hla hlb
  have ew : IntKind.i64.wrap (((a ++ b).length : Int) - (b.length : Int)) = ((a.length : Nat) : Int) := by
    rw [IntWalk.i64_in _ (by omega)]; omega
  have hx : crc.check (a ++ b) ^^^ crc.check b < 4294967296 := Nat.xor_lt_two_pow (n := 32) ca cb
  obtain ⟨k, hk⟩ := backN_eq b.length
  have ec : crc.times (crc.check (a ++ b) ^^^ crc.check b) (crc.it (backN b.length) crc.one) = crc.check a := by
    rw [crc.times_comm _ _ hx (crc.it_lt _ _ crc.one_lt), crc.it_times _ _ hx, crc.check_cut a b _ k hk ha]
  rw [Int.toNat_natCast, Int.toNat_natCast, Int.toNat_natCast, ec, ew, j1, j2] at h
  exact h
end Go.Proofs.YtbjlgcliplalcaaGreatDoor
