/-
  RoomFills, walked.
-/
import Derived.Test.YtflndioogoehgaaDoorAwake7b
namespace Go.Proofs.YtflndioogoehgaaDoor
open Go.RowKit Go.MapKept
set_option maxRecDepth 100000

theorem room_map_step {br bf c : Nat} {w w' : World} {R R' : RoomS} {g : Int → Option Value} (hs : RoomStep br w R w' R') (hn : ¬ R.foot br bf) (hm : IMap w bf g c) : ¬ R'.foot br bf ∧ IMap w' bf g c := by
  refine ⟨fun hf => ?_, hm.keep hs.tx.keep (fun e => hn (.inr (TxS.own_foot e)))⟩
  rcases hf with hf | hf
  · exact hn (.inl hf)
  · rw [hs.bt] at hf
    rcases hs.tx.foot hf with e | e
    · exact hn (.inr e)
    · have := hm.lt; omega
/-- a room of n pages, so taken -/
def Full (w0 w : World) (br n : Nat) (has : Nat → Bool) (c : Nat) : Prop :=
  ∃ R, RoomOn w0 w br R ∧ R.pages = n ∧ R.maps = 1 ∧ (∀ q, q < 4096 → R.has q = has q) ∧ R.T.puts.length ≤ c
/-- the pages that were given back, in the room and in the map -/
def Back (w0 w : World) (br bf n : Nat) (has freed : Nat → Bool) (c : Nat) : Prop :=
  ∃ R g, RoomOn w0 w br R ∧ R.pages = n ∧ R.maps = 1 ∧ (∀ q, q < 4096 → R.has q = has q) ∧ R.T.puts.length ≤ c ∧ ¬ R.foot br bf ∧ w0.heap.size ≤ bf ∧ IMap w bf g (cnt freed n) ∧
    ∀ i : Int, g i = if 0 ≤ i ∧ i < n ∧ freed i.toNat = true then some (.bool true) else none
theorem RoomS.used_1 {R : RoomS} (hm : R.maps = 1) {has : Nat → Bool} (h : ∀ q, q < 4096 → R.has q = has q) : R.used = cnt has 4096 := by
  unfold RoomS.used; rw [hm]; exact cnt_congr h
theorem zeroBool (w : World) : (zeroValue 4).run Tryd.prog w = .ok (.bool false) w := by kernel_rfl
theorem cnt_split (f : Nat → Bool) (n N : Nat) (h : n ≤ N) : cnt (fun q => decide (q < n) && !f q) N = n - cnt f n := by
  have h1 : cnt (fun q => decide (q < n) && !f q) N = cnt (fun q => !f q) n := by
    obtain ⟨m, rfl⟩ : ∃ m, N = n + m := ⟨N - n, by omega⟩
    rw [cnt_add]
    have h2 : (List.range m).filter (fun j => decide (n + j < n) && !f (n + j)) = [] := by
      rw [List.filter_eq_nil_iff]
      intro j _
      simp
      omega
    rw [h2]
    exact cnt_congr (fun q hq => by simp [hq])
  rw [h1]
  clear h1 h N
  induction n with
  | zero => rfl
  | succ n ih =>
    have := cnt_le f n
    rw [cnt_succ, cnt_succ, ih]
    cases f n <;> simp <;> omega
theorem cnt_turn (f : Nat → Bool) (p n : Nat) (hp : p < n) (h0 : f p = false) : cnt (fun q => decide (q = p) || f q) n = cnt f n + 1 := by
  induction n with
  | zero => omega
  | succ n ih =>
    rw [cnt_succ, cnt_succ]
    by_cases hpn : p < n
    · rw [ih hpn]
      have : ¬ n = p := by omega
      simp [this]; omega
    · obtain rfl : p = n := by omega
      have e : cnt (fun q => decide (q = p) || f q) p = cnt f p := cnt_congr (fun q hq => by simp; omega)
      rw [e, h0]
      simp

theorem RoomAt.foot_lt {w : World} {br : Nat} {R : RoomS} (h : RoomAt w br R) {k : Nat} (hk : R.foot br k) : k < w.heap.size := by
  rcases hk with rfl | hk
  · exact (Array.getElem?_eq_some_iff.1 h.cells).1
  · exact h.tx.foot_lt hk
theorem RoomOn.keep {w0 w w' : World} {br bf : Nat} {R : RoomS} (h : RoomOn w0 w br R) (hk : Keep (· = bf) w w') (hn : ¬ R.foot br bf) (hb : w0.heap.size ≤ bf) : RoomOn w0 w' br R :=
  ⟨h.at_.keep hk (fun k hf e => hn (e ▸ hf)), h.below.trans (hk.below h.below.size (fun i hi e => by omega)), h.own⟩
theorem Back.start {w0 w : World} {br n : Nat} {has : Nat → Bool} {c : Nat} {R : RoomS} (h1 : RoomOn w0 w br R) (h2 : R.pages = n) (h3 : R.maps = 1) (h4 : ∀ q, q < 4096 → R.has q = has q) (h5 : R.T.puts.length ≤ c) :
    Back w0 (w.alloc (.map #[] 0)) br w.heap.size n has (fun _ => false) c := by
  refine ⟨R, fun _ => none, h1.still ((Below.refl _ _).alloc (Nat.le_refl _) _), h2, h3, h4, h5, fun hf => ?_, h1.below.size, ?_, fun i => by simp⟩
  · have := h1.at_.foot_lt hf; omega
  · rw [cnt_none]; exact IMap_made w
theorem Back.still {w0 w u : World} {br bf n : Nat} {has freed : Nat → Bool} {c c' : Nat} (h : Back w0 w br bf n has freed c) (hb : Below w.heap.size w u) (hc : c ≤ c') : Back w0 u br bf n has freed c' := by
  obtain ⟨R, g, h1, h2, h3, h4, h5, h6, h7, h8, h9⟩ := h
  exact ⟨R, g, h1.still hb, h2, h3, h4, by omega, h6, h7, h8.keep (Keep.still hb) (fun h => h), h9⟩
theorem Back.below {w0 w : World} {br bf n : Nat} {has freed : Nat → Bool} {c : Nat} (h : Back w0 w br bf n has freed c) : Below w0.heap.size w0 w := by
  obtain ⟨R, g, h1, _⟩ := h
  exact h1.below
/-- Free of what is no page, or not taken -/
theorem Back.free_bad {w0 w : World} {br bf n : Nat} {has freed : Nat → Bool} {c : Nat} (h : Back w0 w br bf n has freed c) (hn : n ≤ 4096) (i : Int) (x : Int) (hx : x ≠ 0)
    (hi : (if 0 ≤ i ∧ i < n then (if has i.toNat then 0 else 6) else 2 : Int) = x) :
    Calls Tryd.prog 21 #[.pointer (some ⟨br, 0, none⟩), .int .i64 i] w fun e w' => e = .returned (.int .i64 x) ∧ Back w0 w' br bf n has freed (c + 1) := by
  have hB := h
  obtain ⟨R, g, h1, h2, h3, h4, h5, h6, h7, h8, h9⟩ := h
  have he : R.err i = x := by
    unfold RoomS.err
    rw [h2]
    by_cases hin : 0 ≤ i ∧ i < n
    · rw [if_pos hin] at hi ⊢
      rw [h4 i.toNat (by omega)]; exact hi
    · rw [if_neg hin] at hi ⊢; exact hi
  exact (Proofs.YtflndioogoehgaaDoor.free_bad h1.at_ i (by rw [he]; exact hx)).mono fun e w' ⟨he2, hb⟩ => ⟨by rw [he2, he], hB.still hb (by omega)⟩
/-- Free of a page that is taken -/
theorem Back.free_ok {w0 w : World} {br bf n : Nat} {has freed : Nat → Bool} {c : Nat} (h : Back w0 w br bf n has freed c) (hc : c < 100000) (hn : n ≤ 4096) (p : Nat) (hp : p < n) (hh : has p = true) :
    Calls Tryd.prog 21 #[.pointer (some ⟨br, 0, none⟩), .int .i64 p] w fun e w' => e = .returned (.int .i64 0) ∧ Back w0 w' br bf n (fun q => !decide (q = p) && has q) freed (c + 1) := by
  obtain ⟨R, g, h1, h2, h3, h4, h5, h6, h7, h8, h9⟩ := h
  refine (Proofs.YtflndioogoehgaaDoor.free_ok h1.at_ (by omega) p (by omega) (by rw [h4 p (by omega)]; exact hh)).mono fun e w' ⟨he, R', hs, hf⟩ => ⟨he, ?_⟩
  obtain ⟨g1, g2⟩ := h1.step hs
  obtain ⟨m1, m2⟩ := room_map_step hs h6 h8
  obtain ⟨ex, p1, p2⟩ := hf.puts
  exact ⟨R', g, g1, g2.pages.trans h2, g2.maps.trans h3, fun q hq => by rw [hf.has q (by rw [h3]; omega), h4 q hq], by rw [p1, List.length_append]; omega, m1, h7, m2, h9⟩
/-- the map's answer -/
theorem Back.look {w0 w : World} {br bf n : Nat} {has freed : Nat → Bool} {c : Nat} (h : Back w0 w br bf n has freed c) {i : Int} (hi : (Lit.int .i64 i).wf = true) (x : Bool) (hx : decide (0 ≤ i ∧ i < n ∧ freed i.toNat = true) = x) :
    (Instr.lookup 38 (.map (some bf)) (.int .i64 i) false).run Tryd.prog w = .ok (.bool x) w := by
  obtain ⟨R, g, h1, h2, h3, h4, h5, h6, h7, h8, h9⟩ := h
  have := h8.run_lookup Tryd.underlying3 Tryd.underlying38 (zeroBool w) hi false
  rw [this, h9]
  subst hx
  by_cases hin : 0 ≤ i ∧ i < n ∧ freed i.toNat = true
  · simp [hin]
  · simp [hin]
theorem Back.len {w0 w : World} {br bf n : Nat} {has freed : Nat → Bool} {c : Nat} (h : Back w0 w br bf n has freed c) (ty : TypeId) :
    (Builtin.len_ #[38] ty #[.map (some bf)]).run Tryd.prog w = .ok (.int .i64 (cnt freed n)) w := by
  obtain ⟨R, g, h1, h2, h3, h4, h5, h6, h7, h8, h9⟩ := h
  exact h8.run_len Tryd.underlying38
theorem Back.put {w0 w : World} {br bf n : Nat} {has freed : Nat → Bool} {c : Nat} (h : Back w0 w br bf n has freed c) (p : Nat) (hp : p < n) (hpw : (Lit.int .i64 (p : Int)).wf = true) (hf : freed p = false) :
    ∃ w', (Instr.mapUpdate 38 (.map (some bf)) (.int .i64 p) (.bool true)).run Tryd.prog w = .ok () w' ∧ Back w0 w' br bf n has (fun q => decide (q = p) || freed q) c := by
  obtain ⟨R, g, h1, h2, h3, h4, h5, h6, h7, h8, h9⟩ := h
  obtain ⟨w', hr, hm, hk, _, _⟩ := h8.run_update Tryd.underlying3 Tryd.underlying38 hpw (.bool true)
  have hgp : g p = none := by rw [h9, if_neg (by simp [hf])]
  rw [hgp] at hm
  refine ⟨w', hr, R, putAt g p (.bool true), h1.keep hk h6 h7, h2, h3, h4, h5, h6, h7, ?_, fun i => ?_⟩
  · rw [cnt_turn freed p n hp hf]; exact hm
  · unfold putAt
    by_cases hip : i = p
    · subst hip; rw [if_pos rfl, if_pos (by simp; omega)]
    · rw [if_neg hip, h9]
      by_cases h0 : 0 ≤ i
      · have : ¬ i.toNat = p := by omega
        simp [this]
      · rw [if_neg (by omega), if_neg (by omega)]
theorem Back.used {w0 w : World} {br bf n : Nat} {has freed : Nat → Bool} {c : Nat} (h : Back w0 w br bf n has freed c) :
    Calls Tryd.prog 22 #[.pointer (some ⟨br, 0, none⟩)] w fun e w' => e = .returned (.tuple #[.int .i64 (cnt has 4096), .int .i64 0]) ∧ Back w0 w' br bf n has freed c := by
  have hB := h
  obtain ⟨R, g, h1, h2, h3, h4, h5, h6, h7, h8, h9⟩ := h
  refine (used_any h1.at_).mono fun e w' ⟨he, hb⟩ => ⟨by rw [he, RoomS.used_1 h3 h4], hB.still hb (Nat.le_refl _)⟩
theorem Back.alloc {w0 w : World} {br bf n : Nat} {has freed : Nat → Bool} {c : Nat} (h : Back w0 w br bf n has freed c) (hc : c < 100000) (hn : n ≤ 4096) (p : Nat) (hp : p < n) (h0 : has p = false) (hq : ∀ q, q < p → has q = true) :
    Calls Tryd.prog 20 #[.pointer (some ⟨br, 0, none⟩)] w fun e w' => e = .returned (.tuple #[.int .i64 p, .int .i64 0]) ∧ Back w0 w' br bf n (fun q => decide (q = p) || has q) freed (c + 2) := by
  obtain ⟨R, g, h1, h2, h3, h4, h5, h6, h7, h8, h9⟩ := h
  refine (alloc_ok h1.at_ (by omega) p (by omega) (by rw [h4 p (by omega)]; exact h0) (fun q hqp => by rw [h4 q (by omega)]; exact hq q hqp)).mono fun e w' ⟨he, R', hs, ha⟩ => ⟨he, ?_⟩
  obtain ⟨g1, g2⟩ := h1.step hs
  obtain ⟨m1, m2⟩ := room_map_step hs h6 h8
  obtain ⟨ex, p1, p2⟩ := ha.puts
  exact ⟨R', g, g1, g2.pages.trans h2, g2.maps.trans h3, fun q hq => by rw [ha.has q (by rw [h3]; omega), h4 q hq], by rw [p1, List.length_append]; omega, m1, h7, m2, h9⟩
theorem Back.congr {w0 w : World} {br bf n : Nat} {has has' freed freed' : Nat → Bool} {c c' : Nat} (h : Back w0 w br bf n has freed c) (hh : ∀ q, has q = has' q) (hf : ∀ q, freed q = freed' q) (hc : c ≤ c') : Back w0 w br bf n has' freed' c' := by
  obtain rfl : has = has' := funext hh
  obtain rfl : freed = freed' := funext hf
  obtain ⟨R, g, h1, h2, h3, h4, h5, r⟩ := h
  exact ⟨R, g, h1, h2, h3, h4, by omega, r⟩

set_option maxHeartbeats 4000000 in
theorem fills_walk (homes : Int) (a : Option Addr) (b off len cap : Nat) (zs : List Int) (w : World) (hlen : len ≤ 9223372036854775807) (ha : 0 < len → a = some ⟨b, off, none⟩ ∧ b < w.heap.size)
    (hc : ∀ k, k < len → w.cell? ⟨b, off + k, none⟩ = some (.int .i64 (zs.getD k 0))) (hz : ∀ k, k < len → (Lit.int .i64 (zs.getD k 0)).wf = true) :
    Calls Tryd.prog 4 #[.int .i64 homes, .slice a len cap] w fun e w' => e = .returned (.bool true) ∧ Below w.heap.size w w' := by
  have HA := Lib.hid (awake7_any w)
  by_cases h4 : homes < 4
  · have e1 : decide (homes < 4) = true := by simpa using h4
    clear hc ha hz
    go_enter Tryd.func4, Tryd.ntmps4
    go_wp2_with (first
      | (go_at_call 13; refine (HA.out).mono ?_; rintro e w1 ⟨rfl, hb1⟩))
    go_ret
    exact ⟨rfl, hb1⟩
  · have e1 : decide (homes < 4) = false := by simpa using h4
    by_cases h60 : 60 < homes
    · have e2 : decide (60 < homes) = true := by simpa using h60
      clear hc ha hz
      go_enter Tryd.func4, Tryd.ntmps4
      go_wp2_with (first
        | (go_at_call 13; refine (HA.out).mono ?_; rintro e w1 ⟨rfl, hb1⟩))
      go_ret
      exact ⟨rfl, hb1⟩
    · have e2 : decide (60 < homes) = false := by simpa using h60
      by_cases h100 : 100 < len
      · have e3 : decide ((100 : Int) < (len : Int)) = true := by simp; omega
        clear hc ha hz
        go_enter Tryd.func4, Tryd.ntmps4
        go_wp2_with (first
          | (go_at_call 13; refine (HA.out).mono ?_; rintro e w1 ⟨rfl, hb1⟩))
        go_ret
        exact ⟨rfl, hb1⟩
      · have e3 : decide ((100 : Int) < (len : Int)) = false := by simp; omega
        obtain ⟨hm, rfl⟩ : ∃ hm : Nat, homes = hm := ⟨homes.toNat, by omega⟩
        have HW := Lib.hid (fun u => wide_view hm (by omega) (by omega) u)
        have hpg : (pagesOf hm).toNat = hm - 2 := by unfold pagesOf; rw [if_neg (by omega)]; omega
        obtain ⟨n, hn⟩ : ∃ n, n = hm - 2 := ⟨_, rfl⟩
        have hn60 : n ≤ 58 := by omega
        have HPG := Lib.hid hpg
        have HN := Lib.hid hn
        have HC := Lib.hid hc
        have HZ := Lib.hid hz
        have HAa := Lib.hid ha
        have hm1 : 1 ≤ hm := by omega
        have hm4 : 4 ≤ hm := by omega
        have hl100 : len ≤ 100 := by omega
        clear hc hz ha hpg hn h4 h60 h100
        go_enter Tryd.func4, Tryd.ntmps4
        go_wp2_with (first
          | (go_at_call 13; refine (HA.out).mono ?_; rintro e w1 ⟨rfl, hb1⟩
             have HB1 := Lib.hid hb1
             clear hb1)
          | (go_at_call 16; refine (HW.out _).mono ?_; rintro e w2 ⟨bd, bl, rfl, hv, hb2⟩
             have HV := Lib.hid (begin_fresh hv)
             have HB2 := Lib.hid (HB1.out.trans (hb2.mono HB1.out.size))
             clear hv hb2)
          | (go_at_call 18; refine (HV.out).mono ?_; rintro e w3 ⟨bt, T, rfl, hT, hA, ho, hb3⟩
             have HO := Lib.hid (of_fresh hA hm1 hT)
             have HB3 := Lib.hid (HB2.out.trans (hb3.mono HB2.out.size))
             have HOw := Lib.hid ho
             clear hT hA ho hb3)
          | (go_at_call 17; refine (HO.out).mono ?_; rintro e w4 ⟨br, R0, rfl, hA, hF, ho, hb4⟩
             have H0 : RoomOn w w4 br R0 := ⟨hA, HB3.out.trans (hb4.mono HB3.out.size), fun k hk => Nat.le_trans HB2.out.size (HOw.out k (ho k hk))⟩
             have hpg0 : R0.pages = n := by rw [hF.pages, HPG.out, HN.out]
             have hmp0 : R0.maps = 1 := by have h1 := hA.fit.1; rw [hpg0] at h1; have := HN.out; omega
             have HP := Lib.hid (roomPagesM_any hA)
             rw [hpg0] at HP
             have HF0 : Full w w4 br n (fun _ => false) 0 := ⟨R0, H0, hpg0, hmp0, fun q _ => hF.has q, by rw [hF.puts]; exact Nat.le_refl _⟩
             have HFu := Lib.hid HF0
             clear hA hF ho hb4 H0 hpg0 hmp0 HF0)
          | (go_at_call 19; refine (HP.out).mono ?_; rintro e w5 ⟨rfl, rfl⟩))
        go_loopw [47] (fun i wr => ∃ k : Nat, k ≤ n ∧ i = .int .i64 k ∧ Full w wr br n (fun q => decide (q < k)) (2 * k)) (fun i _ => n - (intOf i).toNat)
        case atStart =>
          refine ⟨0, by omega, rfl, ?_⟩
          obtain ⟨R, h1, h2, h3, h4, h5⟩ := HFu.out
          exact ⟨R, h1, h2, h3, fun q hq => by rw [h4 q hq]; simp, h5⟩
        case round =>
          obtain ⟨k, hk, rfl, hfull⟩ := hrel
          obtain ⟨R, h1, h2, h3, h4, h5⟩ := hfull
          by_cases hlt : k < n
          · have f1 : decide ((k : Int) < (n : Int)) = true := by simp; omega
            have f2 : ((k : Int) != (k : Int)) = false := by simp
            have HAl := Lib.hid (on_alloc h1 (by omega) k (by omega) (by rw [h4 k (by omega)]; simp) (fun q hq => by rw [h4 q (by omega)]; simp [hq]))
            have H2 := Lib.hid h2
            have H3 := Lib.hid h3
            have H4 := Lib.hid h4
            have H5 := Lib.hid h5
            clear h1 h2 h3 h4 h5
            go_wp2_with (fail)
            refine (HAl.out).mono ?_
            rintro e w6 ⟨rfl, R', g1, g2, g3⟩
            have hnext : Full w w6 br n (fun q => decide (q < k + 1)) (2 * (k + 1)) := by
              obtain ⟨ex, p1, p2⟩ := g3.puts
              refine ⟨R', g1, g2.pages.trans H2.out, g2.maps.trans H3.out, fun q hq => ?_, by rw [p1, List.length_append]; have := H5.out; omega⟩
              rw [g3.has q (by rw [H3.out]; omega), H4.out q hq]
              by_cases hqk : q = k
              · subst hqk; simp
              · simp [hqk]; omega
            have HNx := Lib.hid hnext
            clear g1 g2 g3 hnext
            go_wp2
            go_roundw
            case rel => exact ⟨k + 1, by omega, by go_num, HNx.out⟩
            case measure => simp [intOf]; omega
          · obtain rfl : n = k := by omega
            have HAl := Lib.hid (on_full h1 (fun q hq => by rw [h4 q (by omega)]; simp; omega))
            have H2 := Lib.hid h2
            have H3 := Lib.hid h3
            have H4 := Lib.hid h4
            have H5 := Lib.hid h5
            clear h1 h2 h3 h4 h5
            have hmm := @run_makeMap Tryd.prog
            go_wp2_with (fail)
            refine (HAl.out).mono ?_
            rintro e w6 ⟨rfl, g1⟩
            have G1 := Lib.hid g1
            clear g1
            have hB0 := Back.start (n := n) (has := fun q => decide (q < n) && !(fun _ => false) q) (c := 200) G1.out H2.out H3.out (fun q hq => by rw [H4.out q hq]; simp) (by have := H5.out; omega)
            have HB0 := Lib.hid hB0
            clear hB0
            go_wp2
            go_loopw [77] (fun i wr => ∃ (k : Nat) (freed : Nat → Bool), k ≤ len ∧ i = .int .i64 k ∧ Back w wr br w6.heap.size n (fun q => decide (q < n) && !freed q) freed (200 + k)) (fun i _ => len - (intOf i).toNat)
            case atStart => exact ⟨0, fun _ => false, by omega, rfl, HB0.out⟩
            case round =>
              obtain ⟨k, freed, hk, rfl, hback⟩ := hrel
              have HBk := Lib.hid hback
              clear hback
              by_cases hkl : k < len
              · have g1 : decide ((k : Int) < (len : Int)) = true := by simp; omega
                obtain ⟨rfl, hbw⟩ := HAa.out (by omega)
                have hcell := HBk.out.below.cell (p := ⟨b, off + k, none⟩) hbw
                rw [HC.out k hkl] at hcell
                have hzw := HZ.out k hkl
                generalize zs.getD k 0 = z at *
                have hk0 : (0 : Int) ≤ (k : Int) := by omega
                have hk1 : (k : Int) < (len : Int) := by omega
                by_cases hin : 0 ≤ z ∧ z < n
                · obtain ⟨p, rfl⟩ : ∃ p : Nat, z = p := ⟨z.toNat, by omega⟩
                  have hp : p < n := by omega
                  have t1 : decide ((p : Int) < 0) = false := by simp
                  have t2 : decide ((n : Int) ≤ (p : Int)) = false := by simp; omega
                  by_cases hfr : freed p = true
                  · have HFB := Lib.hid (HBk.out.free_bad (by omega) (p : Int) 6 (by decide) (by rw [if_pos hin]; simp [hfr]))
                    have HL := Lib.hid (fun u (hu : Back w u br w6.heap.size n (fun q => decide (q < n) && !freed q) freed (200 + k + 1)) => hu.look hzw true (by simp [hfr]; omega))
                    clear hin hfr
                    go_wp2_with (fail)
                    refine (HFB.out).mono ?_
                    rintro e w7 ⟨rfl, hB7⟩
                    have l7 := HL.out w7 hB7
                    have HB7 := Lib.hid hB7
                    clear hB7
                    go_wp2
                    go_roundw
                    case rel => exact ⟨k + 1, freed, by omega, by go_num, HB7.out⟩
                    case measure => simp [intOf]; omega
                  · have hfr' : freed p = false := by simpa using hfr
                    have HFB := Lib.hid (HBk.out.free_ok (by omega) (by omega) p hp (by simp [hp, hfr']))
                    have HL := Lib.hid (fun u has (hu : Back w u br w6.heap.size n has freed (200 + k + 1)) => hu.look hzw false (by simp [hfr']))
                    have HPt := Lib.hid (fun u has (hu : Back w u br w6.heap.size n has freed (200 + k + 1)) => hu.put p hp hzw hfr')
                    have HFr := Lib.hid hfr'
                    clear hin hfr hfr'
                    go_wp2_with (fail)
                    refine (HFB.out).mono ?_
                    rintro e w7 ⟨rfl, hB7⟩
                    have l7 := HL.out w7 _ hB7
                    obtain ⟨w8, hr8, hB8⟩ := HPt.out w7 _ hB7
                    have HB8 := Lib.hid hB8
                    clear hB7 hB8
                    go_wp2
                    go_roundw
                    case rel =>
                      refine ⟨k + 1, fun q => decide (q = p) || freed q, by omega, by go_num, HB8.out.congr (fun q => ?_) (fun _ => rfl) (Nat.le_refl _)⟩
                      by_cases hqp : q = p <;> simp [hqp]
                    case measure => simp [intOf]; omega
                · have HFB := Lib.hid (HBk.out.free_bad (by omega) z 2 (by decide) (if_neg hin))
                  by_cases hz0 : z < 0
                  · have t1 : decide (z < 0) = true := by simpa using hz0
                    clear hin
                    go_wp2_with (fail)
                    refine (HFB.out).mono ?_
                    rintro e w7 ⟨rfl, hB7⟩
                    have HB7 := Lib.hid hB7
                    clear hB7
                    go_wp2
                    go_roundw
                    case rel => exact ⟨k + 1, freed, by omega, by go_num, HB7.out⟩
                    case measure => simp [intOf]; omega
                  · have t1 : decide (z < 0) = false := by simpa using hz0
                    have t2 : decide ((n : Int) ≤ z) = true := by simp; omega
                    clear hin
                    go_wp2_with (fail)
                    refine (HFB.out).mono ?_
                    rintro e w7 ⟨rfl, hB7⟩
                    have HB7 := Lib.hid hB7
                    clear hB7
                    go_wp2
                    go_roundw
                    case rel => exact ⟨k + 1, freed, by omega, by go_num, HB7.out⟩
                    case measure => simp [intOf]; omega
              · obtain rfl : len = k := by omega
                have g1 : decide ((len : Int) < (len : Int)) = false := by simp
                have HU := Lib.hid (HBk.out.used)
                have hcn := cnt_le freed n
                have hcs := cnt_split freed n 4096 (by omega)
                generalize hcc : cnt freed n = cc at *
                have hcnt : cnt (fun q => decide (q < n) && !freed q) 4096 = n - cc := hcs
                rw [hcnt] at HU
                have t3 : (((n - cc : Nat) : Int) != (n : Int) - (cc : Int)) = false := by simp; omega
                have hccn : (cc : Int) ≤ (n : Int) := by omega
                have hnb : (n : Int) ≤ 58 := by omega
                have HLn := Lib.hid (fun u (hu : Back w u br w6.heap.size n (fun q => decide (q < n) && !freed q) freed (200 + len)) ty => (by have := hu.len ty; rwa [hcc] at this : (Builtin.len_ #[38] ty #[.map (some w6.heap.size)]).run Tryd.prog u = .ok (.int .i64 cc) u))
                have HCC := Lib.hid hcc
                clear hcc hcs hcnt
                go_wp2_with (fail)
                refine (HU.out).mono ?_
                rintro e w7 ⟨rfl, hB7⟩
                have l7 := HLn.out w7 hB7
                have HB7 := Lib.hid hB7
                clear hB7
                go_wp2
                go_loopw [121] (fun i wr => ∃ k : Nat, k ≤ n ∧ i = .int .i64 k ∧ Back w wr br w6.heap.size n (fun q => decide (q < n) && (!freed q || decide (q < k))) freed (400 + 2 * k)) (fun i _ => n - (intOf i).toNat)
                case atStart => exact ⟨0, by omega, rfl, HB7.out.congr (fun q => by simp) (fun _ => rfl) (by omega)⟩
                case round =>
                  obtain ⟨k, hk, rfl, hback⟩ := hrel
                  have HBk := Lib.hid hback
                  clear hback
                  by_cases hkl : k < n
                  · have g2 : decide ((k : Int) < (n : Int)) = true := by simp; omega
                    have hkw : (Lit.int .i64 (k : Int)).wf = true := keyOk (by omega) (by omega)
                    by_cases hfr : freed k = true
                    · have l8 := HBk.out.look hkw true (by simp [hfr]; omega)
                      have f2 : ((k : Int) != (k : Int)) = false := by simp
                      have HAl := Lib.hid (HBk.out.alloc (by omega) (by omega) k hkl (by simp [hfr]) (fun q hq => by simp; omega))
                      have HFr := Lib.hid hfr
                      clear hfr
                      go_wp2_with (fail)
                      refine (HAl.out).mono ?_
                      rintro e w8 ⟨rfl, hB8⟩
                      have HB8 := Lib.hid hB8
                      clear hB8
                      go_wp2
                      go_roundw
                      case rel =>
                        refine ⟨k + 1, by omega, by go_num, HB8.out.congr (fun q => ?_) (fun _ => rfl) (by omega)⟩
                        by_cases hqk : q = k
                        · subst hqk; simp [hkl]
                        · have e5 : decide (q < k + 1) = decide (q < k) := by simp; omega
                          simp [hqk, e5]
                      case measure => simp [intOf]; omega
                    · have hfr' : freed k = false := by simpa using hfr
                      have l8 := HBk.out.look hkw false (by simp [hfr'])
                      have HFr := Lib.hid hfr'
                      clear hfr hfr'
                      go_wp2
                      go_roundw
                      case rel =>
                        refine ⟨k + 1, by omega, by go_num, HBk.out.congr (fun q => ?_) (fun _ => rfl) (by omega)⟩
                        by_cases hqk : q = k
                        · subst hqk; simp [HFr.out]
                        · have e5 : decide (q < k + 1) = decide (q < k) := by simp; omega
                          simp [e5]
                      case measure => simp [intOf]; omega
                  · obtain rfl : n = k := by omega
                    have g2 : decide ((n : Int) < (n : Int)) = false := by simp
                    go_wp2
                    go_ret
                    exact ⟨rfl, HBk.out.below⟩
end Go.Proofs.YtflndioogoehgaaDoor
