/-
  maps.Copy of texts by numbers: in whatever order the entries come.
-/
import Derived.Test.YtalgheocjnajlaaGreatDoorDk1
import Derived.Maps.RangeWalk
import Derived.Maps.OwnSet
namespace Go.Proofs.YtalgheocjnajlaaGreatDoor
open Go.RowKit Go.MapKept
open Go.Maps (Keyed)
attribute [local go_sem] gives givesH
set_option maxRecDepth 100000

/-- an element reads as itself -/
def heldR (v : Value) : Option (DataW Value × List MemPlace) := some (.held v, [])
theorem key_inv {P : Program} {k : TypeId} (hk : P.underlying k = some (.int .i64)) {key : Value} {kl : Lit} (h : keyOf P k key = some kl) : ∃ x : Int, key = .int .i64 x ∧ kl = .int .i64 x ∧ (Lit.int .i64 x).wf = true := by
  cases key <;> simp [keyOf, hk, mapKey] at h
  rename_i q a
  obtain ⟨⟨rfl, hw⟩, rfl⟩ := h
  exact ⟨a, rfl, rfl, hw⟩
/-- a map of numbers, in the kit's words -/
theorem IMap.owns {P : Program} {k e t : TypeId} {w : World} {b n : Nat} {g : Int → Option Value} {z : Value} (h : IMap w b g n) (hk : P.underlying k = some (.int .i64)) (ht : P.underlying t = some (.map k e)) (hz : (zeroValue e).run P w = .ok z w) (hn : n ≤ maxLen) :
    ∃ D : DataW Value, w.ownsMap P k heldR b n D ∧ ∀ i : Int, (Lit.int .i64 i).wf = true → Maps.has D (.int .i64 i) = (g i).isSome ∧ ∀ v, g i = some v → ∀ zd, D.atKey (.int .i64 i) zd = .held v := by
  obtain ⟨es, clock, hb, hs, hnn, hkeys, hg⟩ := h
  have K : Keyed P k := Maps.int_keyed hk
  have hreads : ∀ x ∈ es.toList, ∃ y, WideElems.rd P k heldR x = some y := fun x hx => by
    obtain ⟨i, h1, h2⟩ := hkeys x hx
    exact ⟨(.int .i64 i, .held x.val), by simp [WideElems.rd, h1, keyOf_i64 hk h2, heldR]⟩
  have F : WideElems.Fit P k heldR es clock := ⟨by omega, hs, hreads⟩
  refine ⟨_, ⟨es, clock, hb, F, by omega, rfl⟩, fun i hi => ?_⟩
  rcases Maps.fit_look true K ht hz hb F (keyOf_i64 hk hi) with ⟨_, h1, h2⟩ | ⟨e0, y, h0, h1, _, h3, h4, _⟩
  · have hn : g i = none := by
      cases hgi : g i with
      | none => rfl
      | some v => obtain ⟨x, hx, hxk, _⟩ := (hg i v).1 hgi; exact absurd hxk (h1 x hx)
    rw [hn]
    exact ⟨Maps.has_false_of_atKey h2, fun v hv => by cases hv⟩
  · have hn : g i = some e0.val := (hg i _).2 ⟨e0, h0, h1, rfl⟩
    rw [hn]
    refine ⟨Maps.has_true_of_atKey h4, fun v hv zd => ?_⟩
    cases hv
    rw [h4 zd]
    unfold heldR at h3
    cases h3
    rfl
theorem IMap.wf {w : World} {b n : Nat} {g : Int → Option Value} (h : IMap w b g n) {i : Int} (hi : g i ≠ none) : (Lit.int .i64 i).wf = true := by
  obtain ⟨es, clock, hb, hs, hnn, hkeys, hg⟩ := h
  obtain ⟨v, hv⟩ := Option.ne_none_iff_exists'.1 hi
  obtain ⟨x, hx, hxk, _⟩ := (hg i v).1 hv
  obtain ⟨j, hj, hw⟩ := hkeys x hx
  rw [hxk] at hj
  cases hj
  exact hw
theorem Keep.grownBy {w w' : World} {b : Nat} (h : Keep (· = b) w w') : w.grownBy w' (some b) := ⟨h.os, h.tape, h.output, h.size, fun k hk hne => h.block k hk (fun e => hne (by rw [e]))⟩
set_option maxHeartbeats 2000000 in
theorem copy_any {w : World} {bd bs nd ns : Nat} {gd gs : Int → Option ByteArray} (hd : IMap w bd (strs gd) nd) (hs : IMap w bs (strs gs) ns) (hne : bd ≠ bs) (hns : ns ≤ maxLen) :
    Calls Tryz.prog 95 #[.map (some bd), .map (some bs)] w fun e w' => e = .returned (.tuple #[]) ∧
      ∃ nd', IMap w' bd (strs (fun i => (gs i).or (gd i))) nd' ∧ Keep (· = bd) w w' := by
  have K : Keyed Tryz.prog 3 := Maps.int_keyed Tryz.underlying3
  obtain ⟨D, hown, hD⟩ := hs.owns Tryz.underlying3 Tryz.underlying94 (zeroStr w) hns
  have HD := Lib.hid hD
  have Hd := Lib.hid hd
  have hbs := hs.lt
  have hbd := hd.lt
  clear hD hd
  go_enter Tryz.func95, Tryz.ntmps95
  go_wp2_with (first
    | (at_range; refine wpList_range_own _ rfl _ 94 rfl 3 9 K Tryz.underlying94 heldR bs ns _ rfl hown ?_; intro w0 hrg0 hg0 hs0)
    | go_in)
  have hK0 : Keep (· = bd) w w0 := Keep.ofBelow ⟨hg0.os, hg0.tape, hg0.output, hg0.size, fun k hk => hg0.block k hk (by simp)⟩
  have hd0 : IMap w0 bd (strs gd) nd := Hd.out.congr (hg0.block bd hbd (by simp))
  have HK0 := Lib.hid hK0
  have Hd0 := Lib.hid hd0
  have hst : ∀ i : Int, gd i = if (gs i).isSome && !(Maps.has D (.int .i64 i)) then gs i else gd i := fun i => by
    cases hgi : gs i with
    | none => rfl
    | some t =>
      have hw := hs.wf (i := i) (by unfold strs; rw [hgi]; simp)
      have := (HD.out i hw).1
      rw [this]
      unfold strs
      rw [hgi]
      rfl
  have HSt := Lib.hid hst
  have HS := Lib.hid hs
  clear hst hs hK0 hd0 hown
  go_frame
  go_loopw [8] (fun _ wr => ∃ (left : Lit → Bool) (cnt nd' : Nat) (g' : Int → Option ByteArray), wr.ranges Tryz.prog 3 heldR bs w.heap.size ns D left cnt ∧ IMap wr bd (strs g') nd' ∧ (∀ i : Int, g' i = if (gs i).isSome && !left (.int .i64 i) then gs i else gd i) ∧ Keep (· = bd) w wr)
    (fun _ wr => wr.rangeLeft bs w.heap.size)
  case atStart => exact ⟨_, _, nd, gd, hrg0, Hd0.out, HSt.out, HK0.out⟩
  case round =>
    obtain ⟨left, cnt, nd', g', hrg, hm, hg', hk⟩ := hrel
    have HRg := Lib.hid hrg
    have HM := Lib.hid hm
    have HG := Lib.hid hg'
    have HK := Lib.hid hk
    clear hm hg' hk
    go_wp2_with (first
      | (at_next; refine wpList_next_ranges _ rfl _ rfl 3 K heldR id id (fun key _ _ => ⟨key, rfl⟩) (fun v _ _ => ⟨v, rfl⟩) bs w.heap.size ns _ _ _ rfl hrg ?_ ?_)
      | go_in)
    · intro hc0 hl0
      have HL0 := Lib.hid hl0
      clear hl0 hrg
      go_wp2
      go_end0
      refine ⟨rfl, nd', ?_, HK.out⟩
      have e : g' = fun i => (gs i).or (gd i) := by
        funext i
        rw [HG.out i, HL0.out]
        cases gs i <;> rfl
      rw [← e]
      exact HM.out
    · intro x c kl y yp w1 cnt1 hkey hlx hv hat hrg1 hlt hg1 hs1 hen
      obtain ⟨x', ex, rfl, hw⟩ := key_inv Tryz.underlying3 hkey
      obtain rfl : x = .int .i64 x' := ex
      have hhas := Maps.has_true_of_atKey hat
      obtain ⟨hD1, hD2⟩ := HD.out x' hw
      rw [hhas] at hD1
      obtain ⟨t, ht⟩ : ∃ t, gs x' = some t := by
        unfold strs at hD1
        cases hgx : gs x' with
        | none => rw [hgx] at hD1; cases hD1
        | some t => exact ⟨t, rfl⟩
      have hct : c = .string t := by
        have h1 := hD2 (.string t) (by unfold strs; rw [ht]; rfl) .nil
        rw [hat] at h1
        unfold heldR at hv
        cases hv
        simpa using h1
      subst hct
      have hm1 : IMap w1 bd (strs g') nd' := HM.out.congr (hg1.block bd HM.out.lt (fun e => by have := Option.some.inj e; omega))
      obtain ⟨w2, hr2, hm2, hk2, _, _⟩ := hm1.run_update Tryz.underlying3 Tryz.underlying94 hw (.string t)
      have hput : putAt (strs g') x' (.string t) = strs (fun i => if i = x' then some t else g' i) := by
        funext i
        unfold putAt strs
        by_cases hi : i = x' <;> simp [hi]
      rw [hput] at hm2
      have hrg2 := hrg1.kept hk2.grownBy (fun e => hne (Option.some.inj e).symm) (fun e => by have := Option.some.inj e; omega)
      have hg2 : ∀ i : Int, (fun i => if i = x' then some t else g' i) i = if (gs i).isSome && !((fun z => left z && !z.sameKey (.int .i64 x')) (.int .i64 i)) then gs i else gd i := fun i => by
        by_cases hi : i = x'
        · subst hi
          simp [ht, Lit.sameKey]
        · simp [hi, HG.out i, Lit.sameKey]
      have hk1 : Keep (fun k => k = bd ∨ k = w.heap.size) w w1 := (HK.out.mono (fun _ _ e => .inl e)).trans (S' := fun k => some k = some w.heap.size) ⟨hg1.os, hg1.tape, hg1.output, hg1.size, fun k hk hn => hg1.block k hk hn⟩ (fun i hi e => by have := Option.some.inj e; omega)
      have hk3 : Keep (· = bd) w w2 := (hk1.trans hk2 (S' := (· = bd)) (fun _ _ e => .inl e)).mono (fun k hk e => e.resolve_right (by omega))
      have HRg2 := Lib.hid hrg2
      have HM2 := Lib.hid hm2
      have HG2 := Lib.hid hg2
      have HK3 := Lib.hid hk3
      have HRg := Lib.hid hrg
      have HLt := Lib.hid hlt
      clear hhas hD1 hD2 ht hm1 hm2 hput hrg2 hg2 hk1 hk3 hat hrg1 hrg hg1 hs1 hlt hkey hv hk2 hlx
      go_wp2
      go_roundw
      case rel => exact ⟨_, cnt1, _, _, HRg2.out, HM2.out, HG2.out, HK3.out⟩
      case measure => rw [HRg2.out.left_eq, HRg.out.left_eq]; exact HLt.out
end Go.Proofs.YtalgheocjnajlaaGreatDoor
