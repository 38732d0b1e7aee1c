/-
  slices.Sorted(maps.Keys(m)) at a map[int]string.
-/
import Derived.Test.YtalgheocjnajlaaGreatDoorIter
import Derived.Test.YtalgheocjnajlaaGreatDoorShelf2
import Derived.Test.YtalgheocjnajlaaGreatDoorCopy
import Derived.Lib.SlKeysI
namespace Go.Proofs.YtalgheocjnajlaaGreatDoor
open Go.RowKit Go.MapKept Go.Maps Go.Sort
set_option maxRecDepth 100000

theorem IMap.keyList {w : World} {b n : Nat} {g : Int → Option Value} (h : IMap w b g n) : ∃ L : List Int, L.Nodup ∧ L.length = n ∧ ∀ i, i ∈ L ↔ g i ≠ none := by
  obtain ⟨es, clock, hb, hs, hnn, hkeys, hg⟩ := h
  let kf : MapEntry → Int := fun x => match x.key with | .int _ z => z | _ => 0
  refine ⟨es.toList.map kf, ?_, by simpa using hnn, fun i => ?_⟩
  · rw [List.Nodup, List.pairwise_map]
    refine ((stamped_iff _ _).1 hs).2.2.imp_of_mem (fun {x y} hx hy hne => ?_)
    obtain ⟨i, h1, _⟩ := hkeys x hx
    obtain ⟨j, h2, _⟩ := hkeys y hy
    intro e
    apply hne
    have e2 : i = j := by simpa [kf, h1, h2] using e
    rw [h1, h2, e2]
  · rw [List.mem_map, Option.ne_none_iff_exists']
    constructor
    · rintro ⟨x, hx, rfl⟩
      obtain ⟨j, h1, _⟩ := hkeys x hx
      have e : kf x = j := by simp [kf, h1]
      rw [e]
      exact ⟨x.val, (hg j _).2 ⟨x, hx, h1, rfl⟩⟩
    · rintro ⟨v, hv⟩
      obtain ⟨x, hx, hk, _⟩ := (hg i v).1 hv
      exact ⟨x, hx, by simp [kf, hk]⟩
/-- the keys, the least first -/
structure KeysOf (g : Int → Option ByteArray) (ks : List Int) : Prop where
  sorted : ks.Pairwise (· < ·)
  mem : ∀ i, i ∈ ks ↔ g i ≠ none
theorem has_intKeys {H : Type} {P : Program} {k : TypeId} {R : Value → Option (DataW H × List MemPlace)} {w : World} {b n : Nat} {D : DataW H} (hown : w.ownsMap P k R b n D) (hk : P.underlying k = some (.int .i64)) (x : Int) (h : Maps.has D (.int .i64 x) = true) : (Lit.int .i64 x).wf = true := by
  refine intKeys_wf hown hk x ?_
  obtain ⟨es, rfl, hko⟩ := hown.keysOf
  rw [has_eq, List.any_eq_true] at h
  obtain ⟨p, hp, hs⟩ := h
  obtain ⟨v, hv⟩ := hko p hp
  obtain ⟨y, _, hy, hl⟩ := Maps.keyOf_i64 hk hv
  rw [hy] at hs
  refine List.mem_map.2 ⟨p, hp, ?_⟩
  rw [hy]
  exact (by simpa [Lit.sameKey] using hs : y = x)
theorem sorts_any (m : Nat) : AnyZI.SortsIn Tryz.prog Tryz.sorted109_ren Fence.wide m :=
  ⟨fun blk off cap ss W hH hblk hsz => callsIn_wide.2 (Tryz.slices_Sort_int blk off cap ss W hH hblk hsz), fun p cap W => callsIn_wide.2 (Tryz.slices_Sort_int_none p cap W)⟩
theorem keys_any (mb : Option Nat) (w : World) : Calls Tryz.prog 110 #[.map mb] w fun e w' => e = .returned (.func (.func 122) #[] #[.pointer (some ⟨w.heap.size, 0, none⟩)]) ∧ w' = w.alloc (.cells #[.map mb] 94) :=
  (callsIn_wide (n := 5)).1 (AnyZI.keys_in Tryz.keys110 Fence.wide 5 trivial rfl mb w)
theorem sort_strict {L : List Int} (hn : L.Nodup) : (L.mergeSort (fun x y => decide (x ≤ y))).Pairwise (· < ·) := by
  have tr : ∀ a b c : Int, decide (a ≤ b) = true → decide (b ≤ c) = true → decide (a ≤ c) = true := fun a b c h1 h2 => by simp only [decide_eq_true_eq] at *; omega
  have tot : ∀ a b : Int, (decide (a ≤ b) || decide (b ≤ a)) = true := fun a b => by simp only [Bool.or_eq_true, decide_eq_true_eq]; omega
  have h1 := List.pairwise_mergeSort tr tot L
  have h2 : (L.mergeSort (fun x y => decide (x ≤ y))).Nodup := (List.mergeSort_perm L _).nodup_iff.2 hn
  exact List.Pairwise.imp₂ (fun a b h1 h2 => by simp only [decide_eq_true_eq] at h1; omega) h1 h2
set_option maxHeartbeats 1000000 in
theorem sorted_any {w : World} {b n : Nat} {g : Int → Option ByteArray} (h : IMap w b (strs g) n) (hn : n ≤ 65536) :
    Calls Tryz.prog 109 #[.func (.func 122) #[] #[.pointer (some ⟨w.heap.size, 0, none⟩)]] (w.alloc (.cells #[.map (some b)] 94)) fun e w' =>
      ∃ v ks, e = .returned v ∧ KeysOf g ks ∧ ks.length = n ∧ w'.ownsRow w.heap.size 3 1 v n (ks.map fun i => .int .i64 i) ∧ Below w.heap.size w w' := by
  have K : Keyed Tryz.prog 3 := Maps.int_keyed Tryz.underlying3
  have h2 := h.keep ((Keep.refl (fun _ => False) w).alloc (.cells #[.map (some b)] 94)) (fun e => e)
  obtain ⟨D, hown, hD⟩ := h2.owns Tryz.underlying3 Tryz.underlying94 (zeroStr _) (by unfold maxLen; omega)
  obtain ⟨L, hL, hLn, hLm⟩ := h.keyList
  have hcol : CollectedI D (fun _ => false) L := ⟨hL, fun x => by
    rw [hLm]
    constructor
    · intro hx
      have hw := h.wf hx
      rw [(hD x hw).1]
      exact ⟨by cases hg : strs g x with | none => exact absurd hg hx | some _ => rfl, rfl⟩
    · rintro ⟨hx, _⟩
      have hw := has_intKeys hown Tryz.underlying3 x hx
      rw [(hD x hw).1] at hx
      intro e
      rw [e] at hx
      cases hx⟩
  have hperm := hcol.perm hown K Tryz.underlying3 (fun _ => rfl)
  have hsz : Maps.size D = n := by
    obtain ⟨es, rfl, _⟩ := hown.keysOf
    have := hperm.length_eq
    rw [hLn] at this
    show es.length = n
    rw [this]
    simp [intKeys]
  have hseq : SeqGives Fence.wide 2 Tryz.prog 122 #[.pointer (some ⟨w.heap.size, 0, none⟩)] encZ (fun ss => ss.Perm (intKeys D)) (Maps.size D) (w.alloc (.cells #[.map (some b)] 94)) :=
    AnyZI.keys_gives (ρ := Tryz.keys110_ren) { Tryz.keys110 with } Fence.wide _ trivial rfl (by omega) w.heap.size b n D _ (by simp) (by simp) hown
  have cS := AnyZI.sorted_in Tryz.sorted109 Fence.wide 5 trivial trivial trivial trivial rfl (by omega) (sorts_any _) (enters_of Tryz.func121 (by kernel_rfl) rfl) 122 #[.pointer (some ⟨w.heap.size, 0, none⟩)] trivial (enters_of Tryz.func122 (by kernel_rfl) rfl) _ _ (by rw [hsz]; unfold maxLen; omega) (by rw [hsz]; omega) _ hseq
  refine ((callsIn_wide (n := 5)).1 cS).mono fun e w' ⟨v, ss, he, hp, hrow, _, hb⟩ => ?_
  have hp2 : ss.Perm L := hp.trans hperm.symm
  have hlen : (ss.mergeSort (fun x y => decide (x ≤ y))).length = n := by rw [List.length_mergeSort, hp2.length_eq, hLn]
  refine ⟨v, ss.mergeSort (fun x y => decide (x ≤ y)), he, ⟨sort_strict (hp2.nodup_iff.2 hL), fun i => ?_⟩, hlen, ?_, ((Below.refl _ w).alloc (Nat.le_refl _) _).trans (hb.mono (by simp))⟩
  · rw [List.mem_mergeSort, hp2.mem_iff, hLm]
    unfold strs
    cases g i <;> simp
  · rw [hp2.length_eq, hLn] at hrow
    exact ownsRow_base_a hrow (by simp)
end Go.Proofs.YtalgheocjnajlaaGreatDoor
