/-
  THE LAWS of layer 5: Small.
-/
import Derived.Test.YtnfdplhcpiknpaaDoorActs5
import Derived.Test.YtnfdplhcpiknpaaDoorAwk5
namespace Go.Proofs.YtnfdplhcpiknpaaDoor
open Go.RowKit Go.MapKept
attribute [local go_sem] gives givesH
set_option maxRecDepth 100000

def totalA (A : List ActP) : Nat := (A.map (fun x => x.lists.flatten.length)).sum
def SmallAct (x : ActP) : Prop := x.lists.length ≤ 10 ∧ x.keep.length ≤ 200 ∧ x.again.length ≤ 200
def SmallA (A : List ActP) : Prop := A.length ≤ 40 ∧ (∀ x ∈ A, SmallAct x) ∧ totalA A ≤ 200
theorem totalA_snoc (A : List ActP) (x : ActP) : totalA (A ++ [x]) = totalA A + x.lists.flatten.length := by unfold totalA; simp
theorem BoolsAt.form {w : World} {B : Nat} {v : Value} {l : List Bool} (h : BoolsAt w B v l) : ∃ a c, v = .slice a l.length c := by
  obtain ⟨a, b, off, cap, h1, _⟩ := h
  exact ⟨a, cap, h1⟩
theorem ListsAt.form {w : World} {B : Nat} {v : Value} {l : List Puts} (h : ListsAt w B v l) : ∃ a c b off, ∃ vs : Nat → Value, v = .slice a l.length c ∧ (0 < l.length → a = some ⟨b, off, none⟩ ∧ b < B) ∧ ∀ (k : Nat) p, l[k]? = some p → w.cell? ⟨b, off + k, none⟩ = some (vs k) ∧ PutsAt w B (vs k) p := by
  rcases h with ⟨h1, h2⟩ | ⟨ad, b, off, cap, vs, h1, hb, hc⟩
  · subst h2
    exact ⟨none, 0, 0, 0, fun _ => undef, h1, fun h0 => absurd h0 (by simp), fun k p hp => by simp at hp⟩
  · exact ⟨some ad, cap, b, off, vs, h1, fun h0 => ⟨by rw [(hb h0).1], (hb h0).2⟩, hc⟩
theorem PutsAt.form {w : World} {B : Nat} {v : Value} {l : Puts} (h : PutsAt w B v l) : ∃ a c b off, v = .slice a l.length c ∧ (0 < l.length → a = some ⟨b, off, none⟩ ∧ b < B) ∧ ∀ (k : Nat) x, l[k]? = some x → w.cell? ⟨b, off + k * 2, none⟩ = some (.int .i64 x.1) ∧ w.cell? ⟨b, off + k * 2 + 1, none⟩ = some (.string x.2) := by
  rcases h with ⟨h1, h2⟩ | ⟨ad, b, off, cap, h1, hb, hc⟩
  · subst h2
    exact ⟨none, 0, 0, 0, h1, fun h0 => absurd h0 (by simp), fun k p hp => by simp at hp⟩
  · exact ⟨some ad, cap, b, off, h1, fun h0 => ⟨by rw [(hb h0).1], (hb h0).2⟩, hc⟩
set_option maxHeartbeats 4000000 in
theorem small_any {w : World} {v : Value} {A : List ActP} (h : ActsAt w w.heap.size v A) :
    Calls Tryd.prog 9 #[v] w fun e w' => ∃ b, e = .returned (.bool b) ∧ (b = true → SmallA A) ∧ Below w.heap.size w w' := by
  obtain ⟨a, b, off, cap, vl, vk, va, rfl, hm, ha, hc⟩ := h
  obtain ⟨m, hmm⟩ : ∃ m, A.length = m := ⟨_, rfl⟩
  rw [hmm] at hm ha ⊢
  have HM := Lib.hid hmm
  have HC := Lib.hid hc
  have HA := Lib.hid ha
  have hm63 : (m : Int) ≤ 9223372036854775807 := by unfold maxLen at hm; omega
  by_cases h40 : 40 < m
  · have d0 : decide ((40 : Int) < (m : Int)) = true := by simp; omega
    have d0' : decide (40 < m) = true := by simpa using h40
    clear hmm hc ha
    go_enter Tryd.func9, Tryd.ntmps9
    go_wp2
    go_ret
    first | exact ⟨false, rfl, fun h => (by cases h), Below.refl _ _⟩ | exact .inl ⟨rfl, Below.refl _ _⟩
  · have d0 : decide ((40 : Int) < (m : Int)) = false := by simp; omega
    have d0' : decide (40 < m) = false := by simpa using h40
    clear hmm hc ha
    go_enter Tryd.func9, Tryd.ntmps9
    go_wp2
    go_loopw [3, 15] (fun nv i wr => ∃ k : Nat, k ≤ m ∧ i = .int .i64 k ∧ nv = .int .i64 (totalA (A.take k) : Nat) ∧ totalA (A.take k) ≤ 200 ∧ (∀ x ∈ A.take k, SmallAct x) ∧ Below w.heap.size w wr) (fun _ i _ => m - (intOf i).toNat)
    case atStart => exact ⟨0, by omega, rfl, rfl, by simp [totalA], fun x hx => (by simp at hx), Below.refl _ _⟩
    case round =>
      obtain ⟨k, hk, rfl, rfl, htot, hsm, hbel⟩ := hrel
      have HSm := Lib.hid hsm
      have HB := Lib.hid hbel
      clear hsm hbel
      by_cases hlt : k < m
      · have g1 : decide ((k : Int) < (m : Int)) = true := by simp; omega
        have g1' : decide (k < m) = true := by simpa using hlt
        obtain ⟨rfl, hb⟩ := HA.out (by omega)
        obtain ⟨x, hx⟩ : ∃ x, A[k]? = some x := ⟨_, List.getElem?_eq_getElem (by rw [HM.out]; exact hlt)⟩
        obtain ⟨q0, q1, q2, q3, q4, hl, hkp, hag, hsz, _, _⟩ := HC.out k x hx
        obtain ⟨la, lc, lb, lo, vs, hlv, hla, hlc⟩ := hl.form
        obtain ⟨ka, kc, hkv⟩ := hkp.form
        obtain ⟨ga, gc, hgv⟩ := hag.form
        rw [← HB.out.cell (p := ⟨b, off + k * 5, none⟩) hb] at q0
        rw [← HB.out.cell (p := ⟨b, off + k * 5 + 1, none⟩) hb] at q1
        rw [← HB.out.cell (p := ⟨b, off + k * 5 + 2, none⟩) hb, hlv] at q2
        rw [← HB.out.cell (p := ⟨b, off + k * 5 + 3, none⟩) hb, hkv] at q3
        rw [← HB.out.cell (p := ⟨b, off + k * 5 + 4, none⟩) hb, hgv] at q4
        have htk : A.take (k + 1) = A.take k ++ [x] := by rw [List.take_add_one, hx]; rfl
        have HTk := Lib.hid htk
        have HLa := Lib.hid hla
        have HLc := Lib.hid hlc
        have HSz := Lib.hid hsz
        have hk0 : (0 : Int) ≤ (k : Int) := by omega
        have hk1 : (k : Int) < (m : Int) := by omega
        obtain ⟨ll, hll⟩ : ∃ ll, x.lists.length = ll := ⟨_, rfl⟩
        obtain ⟨kl, hkl⟩ : ∃ kl, x.keep.length = kl := ⟨_, rfl⟩
        obtain ⟨gl, hgl⟩ : ∃ gl, x.again.length = gl := ⟨_, rfl⟩
        rw [hll] at q2
        rw [hkl] at q3
        rw [hgl] at q4
        rw [hll] at HLa
        have HLl := Lib.hid hll
        have HKl := Lib.hid hkl
        have HGl := Lib.hid hgl
        have hbx : Below w.heap.size w (wr.alloc (.cells #[.int .i64 x.what, .int .i64 x.n, .slice la ll lc, .slice ka kl kc, .slice ga gl gc] 40)) := HB.out.alloc HB.out.size _
        have HBx := Lib.hid hbx
        clear hx hl hkp hag hsz hlv hla hlc hkv hgv htk hll hkl hgl hbx
        by_cases c1 : 10 < ll
        · have d1 : decide ((10 : Int) < (ll : Int)) = true := by simp; omega
          have d1' : decide (10 < ll) = true := by simpa using c1
          go_wp2
          go_ret
          first | exact ⟨false, rfl, fun h => (by cases h), HBx.out⟩ | exact .inl ⟨rfl, HBx.out⟩
        have d1 : decide ((10 : Int) < (ll : Int)) = false := by simp; omega
        have d1' : decide (10 < ll) = false := by simpa using c1
        by_cases c2 : 200 < kl
        · have d2 : decide ((200 : Int) < (kl : Int)) = true := by simp; omega
          have d2' : decide (200 < kl) = true := by simpa using c2
          go_wp2
          go_ret
          first | exact ⟨false, rfl, fun h => (by cases h), HBx.out⟩ | exact .inl ⟨rfl, HBx.out⟩
        have d2 : decide ((200 : Int) < (kl : Int)) = false := by simp; omega
        have d2' : decide (200 < kl) = false := by simpa using c2
        by_cases c3 : 200 < gl
        · have d3 : decide ((200 : Int) < (gl : Int)) = true := by simp; omega
          have d3' : decide (200 < gl) = true := by simpa using c3
          go_wp2
          go_ret
          first | exact ⟨false, rfl, fun h => (by cases h), HBx.out⟩ | exact .inl ⟨rfl, HBx.out⟩
        have d3 : decide ((200 : Int) < (gl : Int)) = false := by simp; omega
        have d3' : decide (200 < gl) = false := by simpa using c3
        obtain ⟨n0, hn0⟩ : ∃ n0, totalA (A.take k) = n0 := ⟨_, rfl⟩
        rw [hn0] at htot ⊢
        have HN0 := Lib.hid hn0
        clear hn0
        go_wp2
        go_loopw [3, 38] (fun nv j wr2 => ∃ t : Nat, t ≤ ll ∧ j = .int .i64 t ∧ nv = .int .i64 ((n0 + (x.lists.take t).flatten.length : Nat)) ∧ n0 + (x.lists.take t).flatten.length ≤ 200 ∧ Below w.heap.size w wr2) (fun _ j _ => ll - (intOf j).toNat)
        case atStart => exact ⟨0, by omega, rfl, by simp, by simpa using htot, HBx.out⟩
        case round =>
          obtain ⟨t, ht, rfl, rfl, htot2, hbel2⟩ := hrel
          have HB2 := Lib.hid hbel2
          clear hbel2
          by_cases hlt2 : t < ll
          · have g2 : decide ((t : Int) < (ll : Int)) = true := by simp; omega
            have g2' : decide (t < ll) = true := by simpa using hlt2
            obtain ⟨rfl, hlb⟩ := HLa.out (by omega)
            obtain ⟨p, hp⟩ : ∃ p, x.lists[t]? = some p := ⟨_, List.getElem?_eq_getElem (by rw [HLl.out]; exact hlt2)⟩
            obtain ⟨r0, hpa⟩ := HLc.out t p hp
            obtain ⟨pa, pc, pb, po, hpv, hpp, hpc⟩ := hpa.form
            rw [← HB2.out.cell (p := ⟨lb, lo + t, none⟩) hlb, hpv] at r0
            have hfl : (x.lists.take (t + 1)).flatten.length = (x.lists.take t).flatten.length + p.length := by rw [take_flat x.lists t p hp, List.length_append]
            have hps := (HSz.out.2 p (List.mem_of_getElem? hp)).1
            obtain ⟨pl, hpl⟩ : ∃ pl, p.length = pl := ⟨_, rfl⟩
            rw [hpl] at r0 hfl hps hpp
            obtain ⟨n1, hn1⟩ : ∃ n1, n0 + (x.lists.take t).flatten.length = n1 := ⟨_, rfl⟩
            obtain ⟨n2, hn2⟩ : ∃ n2, n1 + pl = n2 := ⟨_, rfl⟩
            have hfl2 : n0 + (x.lists.take (t + 1)).flatten.length = n2 := by omega
            rw [hn1] at htot2 ⊢
            have HFl := Lib.hid hfl2
            have HPp := Lib.hid hpp
            have HPc := Lib.hid hpc
            have HPl := Lib.hid hpl
            have e1 : (n1 : Int) + (pl : Int) = (n2 : Int) := by omega
            have w1 : IntKind.i64.wrap (n2 : Int) = (n2 : Int) := wrapI (by omega) (by omega)
            have ht0 : (0 : Int) ≤ (t : Int) := by omega
            have ht1 : (t : Int) < (ll : Int) := by omega
            clear hp hpa hpv hpp hpc hfl hpl hn1 hfl2
            by_cases c4 : 200 < n2
            · have d4 : decide ((200 : Int) < (n2 : Int)) = true := by simp; omega
              have d4' : decide (200 < n2) = true := by simpa using c4
              go_wp2
              go_ret
              first | exact ⟨false, rfl, fun h => (by cases h), HB2.out⟩ | exact .inl ⟨rfl, HB2.out⟩
            have d4 : decide ((200 : Int) < (n2 : Int)) = false := by simp; omega
            have d4' : decide (200 < n2) = false := by simpa using c4
            go_wp2
            go_loopw [50] (fun j wr3 => ∃ s : Nat, s ≤ pl ∧ j = .int .i64 s ∧ Below w.heap.size w wr3) (fun j _ => pl - (intOf j).toNat)
            case atStart => exact ⟨0, by omega, rfl, HB2.out⟩
            case round =>
              obtain ⟨s, hs, rfl, hbel3⟩ := hrel
              have HB3 := Lib.hid hbel3
              clear hbel3
              by_cases hlt3 : s < pl
              · have g3 : decide ((s : Int) < (pl : Int)) = true := by simp; omega
                have g3' : decide (s < pl) = true := by simpa using hlt3
                obtain ⟨rfl, hpb⟩ := HPp.out (by omega)
                obtain ⟨y, hy⟩ : ∃ y, p[s]? = some y := ⟨_, List.getElem?_eq_getElem (by rw [HPl.out]; exact hlt3)⟩
                obtain ⟨u0, u1⟩ := HPc.out s y hy
                rw [← HB3.out.cell (p := ⟨pb, po + s * 2, none⟩) hpb] at u0
                rw [← HB3.out.cell (p := ⟨pb, po + s * 2 + 1, none⟩) hpb] at u1
                have hs0 : (0 : Int) ≤ (s : Int) := by omega
                have hs1 : (s : Int) < (pl : Int) := by omega
                have HB4 := Lib.hid (HB3.out.alloc HB3.out.size (.cells #[.int .i64 y.1, .string y.2] 47))
                clear hy
                by_cases c5 : 600 < y.2.size
                · have d5 : decide ((600 : Int) < (y.2.size : Int)) = true := by simp; omega
                  have d5' : decide (600 < y.2.size) = true := by simpa using c5
                  go_wp2
                  go_ret
                  first | exact ⟨false, rfl, fun h => (by cases h), HB4.out⟩ | exact .inl ⟨rfl, HB4.out⟩
                have d5 : decide ((600 : Int) < (y.2.size : Int)) = false := by simp; omega
                have d5' : decide (600 < y.2.size) = false := by simpa using c5
                go_wp2
                go_roundw
                case rel => exact ⟨s + 1, by omega, rfl, HB4.out⟩
                case measure => simp [intOf]; omega
              · have g3 : decide ((s : Int) < (pl : Int)) = false := by simp; omega
                have g3' : decide (s < pl) = false := by simpa using hlt3
                go_wp2
                go_roundw
                case rel => exact ⟨t + 1, by omega, rfl, by rw [HFl.out], by rw [HFl.out]; omega, HB3.out⟩
                case measure => simp [intOf]; omega
          · have g2 : decide ((t : Int) < (ll : Int)) = false := by simp; omega
            have g2' : decide (t < ll) = false := by simpa using hlt2
            have htf : n0 + (x.lists.take t).flatten.length = totalA (A.take (k + 1)) := by
              rw [HTk.out, totalA_snoc, HN0.out, List.take_of_length_le (by rw [HLl.out]; omega)]
            rw [htf] at htot2 ⊢
            have HTot := Lib.hid htot2
            have HSm2 : Hid (∀ y ∈ A.take (k + 1), SmallAct y) := Lib.hid (fun y hy => by
              rw [HTk.out] at hy
              rcases List.mem_append.1 hy with hy | hy
              · exact HSm.out y hy
              · obtain rfl : y = x := by simpa using hy
                exact ⟨by rw [HLl.out]; omega, by rw [HKl.out]; omega, by rw [HGl.out]; omega⟩)
            clear htf htot2
            go_wp2
            go_roundw
            case rel => exact ⟨k + 1, by omega, rfl, rfl, HTot.out, HSm2.out, HB2.out⟩
            case measure => simp [intOf]; omega
      · have g1 : decide ((k : Int) < (m : Int)) = false := by simp; omega
        have g1' : decide (k < m) = false := by simpa using hlt
        have hfull : A.take k = A := List.take_of_length_le (by rw [HM.out]; omega)
        go_wp2
        go_ret
        first
          | refine ⟨true, rfl, fun _ => ⟨by rw [HM.out]; omega, ?_, ?_⟩, HB.out⟩
          | refine .inr ⟨rfl, ⟨by rw [HM.out]; omega, ?_, ?_⟩, HB.out⟩
        · intro x hx
          exact HSm.out x (by rw [hfull]; exact hx)
        · rw [hfull] at htot
          exact htot
end Go.Proofs.YtnfdplhcpiknpaaDoor
