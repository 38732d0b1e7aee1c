/-
  BLOBS (blob): put, Put: what is stored.
-/
import Derived.Test.YtoajdccdhjlikaaDoorBlob1
import Derived.Test.YtoajdccdhjlikaaDoorBuild
namespace Go.Proofs.YtoajdccdhjlikaaDoor
open Go.RowKit Go.MapKept
attribute [local go_sem] gives givesH
set_option maxRecDepth 100000

/-- other blocks turn: the room is as it was -/
theorem RoomStep.foreign {br : Nat} {w w1 w2 : World} {R R1 : RoomS} (h : RoomStep br w R w1 R1) {S : Nat → Prop} (hk : Keep S w1 w2) (hS : ∀ k, S k → w.heap.size ≤ k ∧ ¬ R1.foot br k) : RoomStep br w R w2 R1 := by
  refine ⟨h.at_.keep hk (fun k hf hs => (hS k hs).2 hf), h.bt, h.maps, h.pages, ?_⟩
  have h1 := h.tx
  refine ⟨(h.at_.keep hk (fun k hf hs => (hS k hs).2 hf)).tx |> fun x => by rw [← h.bt]; exact x, h1.bl, h1.n, h1.f, h1.Fl, h1.keep.trans hk (fun i hi hs => by have := (hS i hs).1; omega), h1.own⟩
/-- a block that is none of the room's stays so -/
theorem RoomStep.apart_ {br : Nat} {w w' : World} {R R' : RoomS} (h : RoomStep br w R w' R') {k : Nat} (hk : k < w.heap.size) (hn : ¬ R.foot br k) : ¬ R'.foot br k := by
  intro hf
  rcases hf with hf | hf
  · exact hn (.inl hf)
  · rw [h.bt] at hf
    rcases h.tx.foot hf with e | e
    · exact hn (.inr e)
    · omega
theorem RoomStep.keep {br : Nat} {w w' : World} {R R' : RoomS} (h : RoomStep br w R w' R') : Keep (R.foot br) w w' := h.tx.keep.mono (fun _ _ e => .inr (TxS.own_foot e))
theorem room_foot_lt {w : World} {br : Nat} {R : RoomS} (h : RoomAt w br R) {k : Nat} (hk : R.foot br k) : k < w.heap.size := by
  rcases hk with rfl | hk
  · exact (Array.getElem?_eq_some_iff.1 h.cells).1
  · exact h.tx.foot_lt hk
theorem row_zero {w : World} {B : Nat} {e : TypeId} {size : Nat} {v : Value} {n : Nat} {xs : List Value} (h : w.ownsRow B e size v n xs) : w.ownsRow 0 e size v n xs :=
  ⟨h.1, h.2.imp id (fun ⟨g, cap, cur, hv, _, r⟩ => ⟨g, cap, cur, hv, Nat.zero_le _, r⟩)⟩
theorem RoomStep.size {br : Nat} {w w' : World} {R R' : RoomS} (h : RoomStep br w R w' R') : w.heap.size ≤ w'.heap.size := h.tx.keep.size

/-- R' is R, these pages taken -/
structure Took (R R' : RoomS) (ps : List Nat) : Prop where
  nodup : ps.Nodup
  new : ∀ p ∈ ps, p < R.pages ∧ R.has p = false
  has : ∀ q, q < R.maps * 4096 → R'.has q = (decide (q ∈ ps) || R.has q)
  text : ∀ q, q < R.pages → q ∉ ps → R'.text q = R.text q
  zero : R'.home 0 = R.home 0
theorem Took.nil (R : RoomS) : Took R R [] := ⟨List.nodup_nil, fun p hp => (by cases hp), fun q _ => by simp, fun q _ _ => rfl, rfl⟩
theorem RoomAt.pages_le {w : World} {br : Nat} {R : RoomS} (h : RoomAt w br R) : R.pages ≤ R.maps * 4096 := by have := h.fit.1; omega
theorem Took.alloc {R R1 R2 : RoomS} {ps : List Nat} {p : Nat} (h : Took R R1 ps) (hm : R1.maps = R.maps) (hg : R1.pages = R.pages) (hle : R.pages ≤ R.maps * 4096) (hp : p < R.pages) (h0 : R1.has p = false) (ha : Alloced R1 R2 p) : Took R R2 (ps ++ [p]) := by
  have h1 := h.has p (by omega)
  rw [h0] at h1
  have hnp : p ∉ ps := fun e => by rw [decide_eq_true e] at h1; cases h1
  have hp0 : R.has p = false := by
    rw [decide_eq_false hnp, Bool.false_or] at h1
    exact h1.symm
  refine ⟨?_, fun q hq => ?_, fun q hq => ?_, fun q hq hn => ?_, ha.zero.trans h.zero⟩
  · refine List.nodup_append.2 ⟨h.nodup, by simp, fun x hx y hy e => ?_⟩
    have hyp : y = p := by simpa using hy
    exact hnp (by rw [← hyp, ← e]; exact hx)
  · rcases List.mem_append.1 hq with hq | hq
    · exact h.new q hq
    · obtain rfl : q = p := by simpa using hq
      exact ⟨hp, hp0⟩
  · rw [ha.has q (by rw [hm]; exact hq), h.has q hq]
    by_cases e : q = p <;> simp [e, List.mem_append]
  · rw [ha.text q (by omega), if_neg (fun e => hn (by simp [e])), h.text q hq (fun e => hn (List.mem_append_left _ e))]
theorem Took.wrote {R R1 R2 : RoomS} {ps : List Nat} {p : Nat} {s : ByteArray} (h : Took R R1 ps) (hm : R1.maps = R.maps) (hg : R1.pages = R.pages) (hp : p ∈ ps) (ha : Wrote R1 R2 p s) : Took R R2 ps := by
  refine ⟨h.nodup, h.new, fun q hq => ?_, fun q hq hn => ?_, ha.zero.trans h.zero⟩
  · rw [ha.has q (by rw [hm]; exact hq), h.has q hq]
  · rw [ha.text q (by omega), if_neg (show ¬ q = p from fun e => hn (e ▸ hp)), h.text q hq hn]
theorem Took.count {R R1 : RoomS} {ps : List Nat} (h : Took R R1 ps) (hle : R.pages ≤ R.maps * 4096) : cnt R1.has R.pages = cnt R.has R.pages + ps.length := by
  rw [← cnt_mem ps R.has R.pages h.nodup (fun p hp => (h.new p hp).1) (fun p hp => (h.new p hp).2)]
  exact cnt_congr (fun q hq => h.has q (by omega))
theorem cnt_all (f : Nat → Bool) (n : Nat) (h : ∀ q, q < n → f q = true) : cnt f n = n := by
  induction n with
  | zero => rfl
  | succ n ih => rw [cnt_succ, ih (fun q hq => h q (by omega)), h n (by omega)]; rfl
theorem least_free {f : Nat → Bool} {n : Nat} (h : ¬ ∀ q, q < n → f q = true) : ∃ p, p < n ∧ f p = false ∧ ∀ q, q < p → f q = true := by
  have hex : ∃ q, q < n ∧ f q = false := by
    refine Classical.byContradiction (fun hno => h (fun q hq => ?_))
    cases hc : f q with
    | true => rfl
    | false => exact absurd ⟨q, hq, hc⟩ hno
  obtain ⟨q, hq, hq0⟩ := hex
  induction q using Nat.strongRecOn with
  | _ q ih =>
    by_cases hb : ∃ i, i < q ∧ f i = false
    · obtain ⟨i, hi, hi0⟩ := hb
      exact ih i hi (by omega) hi0
    · refine ⟨q, hq, hq0, fun i hi => ?_⟩
      cases hc : f i with
      | true => rfl
      | false => exact absurd ⟨i, hi, hc⟩ hb
/-- a number more in a row of the call's own, beside a room -/
theorem Took.snoc {br : Nat} {w w2 w3 : World} {R R2 : RoomS} {v v' : Value} {n : Nat} {xs : List Value} {o : Obj} (hst : RoomStep br w R w2 R2) (hrow : w2.ownsRow w.heap.size 3 1 v n xs) (hap : ∀ g, v.ownBlock = some g → ¬ R2.foot br g)
    (hg : (w2.alloc o).grownBy w3 v.ownBlock) (hloc : v'.ownBlock = v.ownBlock ∨ v'.ownBlock = some (w2.alloc o).heap.size) : RoomStep br w R w3 R2 ∧ ∀ g, v'.ownBlock = some g → ¬ R2.foot br g := by
  have hk : Keep (fun k => v.ownBlock = some k) w2 w3 := ((Keep.refl _ w2).alloc o).grown hg (fun k _ e => e)
  refine ⟨hst.foreign hk (fun k e => ⟨(hrow.lt k e).1, hap k e⟩), fun g hgv => ?_⟩
  rcases hloc with e | e
  · exact hap g (e ▸ hgv)
  · rw [e] at hgv
    have hgg : (w2.alloc o).heap.size = g := Option.some.inj hgv
    intro hf
    have := room_foot_lt hst.at_ hf
    rw [World.size_alloc] at hgg
    omega
def numV (ps : List Nat) : List Value := ps.map (fun k => Value.int .i64 (k : Nat))
/-- ps has been taken; v holds it -/
def Taking (br : Nat) (w : World) (R : RoomS) (v : Value) (ps : List Nat) (c : Nat) (wr : World) : Prop :=
  ∃ R1, RoomStep br w R wr R1 ∧ Took R R1 ps ∧ wr.ownsRow w.heap.size 3 1 v ps.length (numV ps) ∧ (∀ g, v.ownBlock = some g → ¬ R1.foot br g) ∧ ∃ a, R1.T.puts = R.T.puts ++ a ∧ a.length ≤ c
/-- Write of a text that fits -/
theorem write_fit {w : World} {br : Nat} {R : RoomS} (h : RoomAt w br R) (hlen : R.T.puts.length < 1000000000000) (p : Nat) (hp : p < R.pages) (h1 : R.has p = true) (s : ByteArray) (hs : s.size ≤ 512) :
    Calls Tryd.prog 17 #[.pointer (some ⟨br, 0, none⟩), .int .i64 p, .string s] w fun e w' => e = .returned (.int .i64 0) ∧ ∃ R', RoomStep br w R w' R' ∧ Wrote R R' p (fullS s) :=
  (write_ok h hlen p hp h1 s (by omega)).mono fun _ _ ⟨he, R', hst, ha⟩ => by
    rw [if_neg (by omega)] at he
    exact ⟨he, R', hst, ha.elim (fun h => by omega) (fun h => h.2)⟩
theorem Wrote.texts {R R1 R2 : RoomS} {ps : List Nat} {k : Nat} {s t : ByteArray} (ht : Took R R1 ps) (hg : R1.pages = R.pages) (hk : k < ps.length) (hw : Wrote R1 R2 (ps.getD k 0) t) (h0 : t = fullS (pageS (nextOf ps k) (chunkB s k)))
    (h1 : ∀ j, j < k → R1.text (ps.getD j 0) = fullS (pageS (nextOf ps j) (chunkB s j))) : ∀ j, j < k + 1 → R2.text (ps.getD j 0) = fullS (pageS (nextOf ps j) (chunkB s j)) := by
  intro j hj
  have hjl : j < ps.length := by omega
  have hp := (ht.new _ (getD_mem hjl)).1
  rw [hw.text _ (by omega)]
  by_cases e : j = k
  · subst e; rw [if_pos rfl, h0]
  · rw [if_neg (fun e2 => e (getD_inj ht.nodup hjl hk e2))]
    exact h1 j (by omega)
theorem Took.taken {R R1 : RoomS} {ps : List Nat} (h : Took R R1 ps) (hle : R.pages ≤ R.maps * 4096) {p : Nat} (hp : p ∈ ps) : R1.has p = true := by
  rw [h.has p (by have := (h.new p hp).1; omega), decide_eq_true hp]; rfl
/-- so many pages are written -/
def Filling (br : Nat) (w : World) (R : RoomS) (v : Value) (ps : List Nat) (n : Nat) (s : ByteArray) (k : Nat) (wr : World) : Prop :=
  ∃ R1, RoomStep br w R wr R1 ∧ Took R R1 ps ∧ wr.ownsRow w.heap.size 3 1 v n (numV ps) ∧ (∀ g, v.ownBlock = some g → ¬ R1.foot br g) ∧
    (∀ j, j < k → R1.text (ps.getD j 0) = fullS (pageS (nextOf ps j) (chunkB s j))) ∧ ∃ a, R1.T.puts = R.T.puts ++ a ∧ a.length ≤ 2 * n + k
theorem row_posB {w : World} {B : Nat} {e : TypeId} {size : Nat} {v : Value} {n : Nat} {xs : List Value} (h : w.ownsRow B e size v n xs) (hn : 0 < n) :
    ∃ g c, v = .slice (some ⟨g, 0, none⟩) n c ∧ n ≤ c ∧ c ≤ maxLen ∧ B ≤ g := by
  rcases h.2 with ⟨rfl, rfl⟩ | ⟨g, cap, cur, rfl, hb, hg, h1, h2, _⟩
  · omega
  · exact ⟨g, cap, rfl, h1, h2, hb⟩
theorem row_cells {w : World} {B : Nat} {e : TypeId} {size g n c : Nat} {xs : List Value} (h : w.ownsRow B e size (.slice (some ⟨g, 0, none⟩) n c) n xs) (j : Nat) (u : Value) (hu : xs[j]? = some u) : w.cell? ⟨g, j, none⟩ = some u := by
  have := h.cells (g := g) rfl j u hu
  rwa [show (⟨g, 0, none⟩ : Addr).add j = ⟨g, j, none⟩ by unfold Addr.add; split <;> simp_all] at this
theorem numV_at (ps : List Nat) (j : Nat) (h : j < ps.length) : (numV ps)[j]? = some (.int .i64 (ps.getD j 0 : Nat)) := by
  unfold numV
  rw [List.getElem?_map, List.getElem?_eq_getElem h, List.getD_eq_getElem?_getD, List.getElem?_eq_getElem h]
  rfl
/-- what put comes to -/
def PutPost (br : Nat) (w : World) (R : RoomS) (s : ByteArray) (e : Ending) (w' : World) : Prop :=
  (∃ R' ps, e = .returned (.tuple #[.int .i64 (ps.getD 0 0 : Nat), .int .i64 0]) ∧ RoomStep br w R w' R' ∧ Took R R' ps ∧ BlobIn R' s ps ∧ ∃ a, R'.T.puts = R.T.puts ++ a ∧ a.length ≤ 3 * pagesB s.size) ∨
  (∃ R', e = .returned (.tuple #[.int .i64 0, .int .i64 4]) ∧ RoomStep br w R w' R' ∧ R.pages < cnt R.has R.pages + pagesB s.size ∧ ∃ a, R'.T.puts = R.T.puts ++ a ∧ a.length ≤ 3 * pagesB s.size)

set_option maxHeartbeats 4000000 in
theorem put_any {w : World} {br : Nat} {R : RoomS} (h : RoomAt w br R) (hlen : R.T.puts.length < 100000000000) (s : ByteArray) (hs : s.size ≤ 131072) :
    Calls Tryd.prog 62 #[.pointer (some ⟨br, 0, none⟩), .string s] w (PutPost br w R s) := by
  have HPg := Lib.hid (fun w => blobPages_any s.size (by omega) w)
  have hn := pagesB_le s.size hs
  obtain ⟨n, hnn⟩ : ∃ n, pagesB s.size = n := ⟨_, rfl⟩
  rw [hnn] at HPg hn
  have HN := Lib.hid hnn
  have HR := Lib.hid h
  have hple := h.pages_le
  obtain ⟨i0, hi0, hz0, hz1, hz2⟩ := info_parts infoInt
  have HI := Lib.hid hi0
  have Hz0 := Lib.hid hz0
  have Hz1 := Lib.hid hz1
  have Hz2 := Lib.hid hz2
  clear h hnn hi0 hz0 hz1 hz2
  go_enter Tryd.func62, Tryd.ntmps62
  go_wp2_with (first
    | (go_at_call 23; refine (HPg.out _).mono ?_; rintro e w1 ⟨rfl, rfl⟩))
  go_loopw [6, 7, 8, 17] (fun v _ _ i wr => ∃ ps : List Nat, ps.length ≤ n ∧ i = .int .i64 ps.length ∧ Taking br w R v ps (2 * ps.length) wr) (fun _ _ _ i _ => n - (intOf i).toNat)
  case atStart => exact ⟨[], by simp, rfl, R, RoomStep.refl HR.out, Took.nil R, World.ownsRow_nil _ _ _ _, fun g hg => (by cases hg), [], by simp, by simp⟩
  case round =>
    obtain ⟨ps, hpl, rfl, R1, hst, htook, hrow, hap, a, ha, hal⟩ := hrel
    by_cases hlt : ps.length < n
    · have g1 : decide ((ps.length : Int) < (n : Int)) = true := by simp; omega
      have hA := hst.at_
      have hcount := htook.count hple
      have hm1 := hst.maps
      have hg1 := hst.pages
      by_cases hall : ∀ q, q < R1.pages → R1.has q = true
      · have HF := Lib.hid (alloc_full hA hall)
        have hc := cnt_all R1.has R1.pages hall
        rw [hg1] at hc
        have HST := Lib.hid hst
        have HC : R.pages < cnt R.has R.pages + n := by omega
        have HCC := Lib.hid HC
        have HAl := Lib.hid ha
        clear hall hc hcount hA hst htook hrow hap ha HC hm1 hg1
        go_wp2_with (go_at_call 16; refine (HF.out).mono ?_; rintro e w2 ⟨rfl, hb2⟩)
        go_ret2
        refine .inr ⟨R1, rfl, HST.out.trans (RoomStep.still HST.out.at_ hb2), by rw [HN.out]; exact HCC.out, a, HAl.out, ?_⟩
        rw [HN.out]; omega
      · obtain ⟨p, hp, hp0, hp1⟩ := least_free hall
        have HF := Lib.hid (alloc_ok hA (by rw [ha, List.length_append]; omega) p hp hp0 hp1)
        have HST := Lib.hid hst
        have HTo := Lib.hid htook
        have HRow := Lib.hid hrow
        have HAp := Lib.hid hap
        have HAl := Lib.hid ha
        have HP0 := Lib.hid hp0
        have HM1 := Lib.hid hm1
        have HG1 := Lib.hid hg1
        clear hall hp0 hp1 hcount hA hst htook hrow hap ha hm1 hg1
        go_wp2_with (first
          | (go_at_call 16; refine (HF.out).mono ?_; rintro e w2 ⟨rfl, R2, hst2, hall2⟩
             have hst3 := HST.out.trans hst2
             have hrow2 := hst2.keep.ownsRow HRow.out HAp.out
             have hap2 : ∀ g, u6.ownBlock = some g → ¬ R2.foot br g := fun g hg => hst2.apart_ (HRow.out.lt g hg).2 (HAp.out g hg)
             have HST3 := Lib.hid hst3
             have HRow2 := Lib.hid hrow2
             have HAp2 := Lib.hid hap2
             have HAll2 := Lib.hid hall2
             clear hst2 hall2 hst3 hrow2 hap2)
          | (at_builtin
             refine wpList_append_own_at _ (by rfl) _ _ 63 (by rfl) w.heap.size 3 i0 (.int .i64 0) 1 8 Tryd.underlying63 HI.out Hz0.out Hz1.out Hz2.out (by rfl) (by decide) u6 _ _ (by rfl) (HRow2.out.alloc _) ⟨w2.heap.size, 0, none⟩ 1 1 [.int .i64 (p : Nat)] (by rfl) (by rfl) (cell_one_new _ _ _) (ints_oneCell .i64 [(p : Int)]) (by unfold maxLen; omega) (by omega) ?_ ?_
             · have := HST3.out.size; simp; omega
             intro v' w3 hown3 hg3 hnil hloc
             have hk := Took.snoc HST3.out HRow2.out HAp2.out hg3 hloc
             have HK := Lib.hid hk
             have HO3 := Lib.hid hown3
             clear hown3 hg3 hnil hloc hk))
        go_roundw
        case rel =>
          have e1 : (ps ++ [p]).length = ps.length + 1 := by simp
          refine ⟨ps ++ [p], by omega, by rw [e1]; go_num, R2, HK.out.1, HTo.out.alloc HM1.out HG1.out hple (by have := HG1.out; omega) HP0.out HAll2.out, ?_, HK.out.2, ?_⟩
          · have := HO3.out
            rw [e1]
            unfold numV at this ⊢
            rw [List.map_append]
            exact this
          · obtain ⟨x, hx1, hx2⟩ := HAll2.out.puts
            refine ⟨a ++ x, by rw [hx1, HAl.out, List.append_assoc], ?_⟩
            rw [List.length_append, e1]
            omega
        case measure => simp [intOf]; omega
    · have hpn : ps.length = n := by omega
      have g1 : decide (ps.length < n) = false := by simp; omega
      have hn1 : 1 ≤ n := by rw [← HN.out]; exact pagesB_pos _
      have hsm := HR.out.tx.log.small
      have hfit := HR.out.fit
      rw [hpn] at hrow
      obtain ⟨gb, c, rfl, hc1, hc2, hgB⟩ := row_posB hrow (by omega)
      have hfill : Filling br w R (.slice (some ⟨gb, 0, none⟩) n c) ps n s 0 wr := ⟨R1, hst, htook, hrow, hap, fun j hj => by omega, a, ha, by omega⟩
      have HFill := Lib.hid hfill
      have HPN := Lib.hid hpn
      have hcov := pagesB_covers s.size
      have hleast := pagesB_least s.size
      rw [HN.out] at hcov hleast
      have HLeast := Lib.hid hleast
      have hpg : R.pages ≤ 65536 := by omega
      clear hst htook hrow hap ha hal hpl hfill hpn hleast hfit hsm
      have hn0 : (0 : Int) < (n : Int) := by omega
      unfold maxLen at hc2
      have HRest := Lib.hid (restB_zero s)
      go_wp2
      go_loopw [1, 34] (fun sv i wr2 => ∃ k : Nat, k ≤ n ∧ i = .int .i64 k ∧ sv = .string (restB s k) ∧ Filling br w R (.slice (some ⟨gb, 0, none⟩) n c) ps n s k wr2) (fun _ i _ => n - (intOf i).toNat)
      case atStart => exact ⟨0, by omega, rfl, by rw [HRest.out], HFill.out⟩
      case round =>
        obtain ⟨k, hk, rfl, rfl, R1, hst, htook, hrow, hap, htext, a, ha, hal⟩ := hrel
        by_cases hlt : k < n
        · have g2 : decide ((k : Int) < (n : Int)) = true := by simp; omega
          have hkl : k < ps.length := by rw [HPN.out]; exact hlt
          have q1 := row_cells hrow k _ (numV_at ps k hkl)
          have hpk := htook.new _ (getD_mem hkl)
          have hmem := getD_mem hkl
          have hk6 : 506 * k ≤ s.size := by
            by_cases h0 : k = 0
            · omega
            · have := HLeast.out (k - 1) (by omega); omega
          obtain ⟨nx, hnx, hnx2⟩ : ∃ nx, nextOf ps k = nx ∧ ((k + 1 < n ∧ ∃ np, nx = np + 1 ∧ np ≤ 65536 ∧ wr.cell? ⟨gb, k + 1, none⟩ = some (.int .i64 np)) ∨ (¬ k + 1 < n ∧ nx = 0)) := by
            refine ⟨_, rfl, ?_⟩
            unfold nextOf
            rw [HPN.out]
            by_cases h1 : k + 1 < n
            · rw [if_pos h1]
              have h2 : k + 1 < ps.length := by rw [HPN.out]; exact h1
              have h3 := (htook.new _ (getD_mem h2)).1
              exact .inl ⟨h1, _, rfl, by omega, row_cells hrow (k + 1) _ (numV_at ps (k + 1) h2)⟩
            · rw [if_neg h1]
              exact .inr ⟨h1, rfl⟩
          have hpg1 := hst.pages
          have hR1 := hst.at_
          have hlen1 : R1.T.puts.length < 1000000000000 := by rw [ha, List.length_append]; omega
          have htk := htook.taken hple hmem
          have hck := chunkB_size s k
          have htz := restB_size s k
          obtain ⟨m, hm⟩ : ∃ m, m = min 506 (s.size - 506 * k) := ⟨_, rfl⟩
          have he1 := restB_take s k m hk6 hm
          have he2 := restB_drop s k m hm
          have hnx3 : nx < 4294967296 := by
            rcases hnx2 with ⟨_, np, h1, h2, _⟩ | ⟨_, h1⟩ <;> omega
          have HPage := Lib.hid (fun u => page_any nx hnx3 (chunkB s k) (by omega) u)
          have HWr := Lib.hid (fun u (hu : RoomAt u br R1) => write_fit hu hlen1 (ps.getD k 0) (by rw [hpg1]; exact hpk.1) htk (pageS nx (chunkB s k)) (by rw [pageS_size]; omega))
          have HTexts := Lib.hid (fun R2 (hw : Wrote R1 R2 (ps.getD k 0) (fullS (pageS nx (chunkB s k)))) => hw.texts htook hpg1 hkl (by rw [hnx]) htext)
          have hmt : m ≤ (restB s k).size := by omega
          have hmI : (m : Int) ≤ ((restB s k).size : Nat) := by omega
          have hmin : min (((restB s k).size : Nat) : Int) 506 = (m : Int) := by omega
          have HST := Lib.hid hst
          have HTo := Lib.hid htook
          have HRow := Lib.hid hrow
          have HAp := Lib.hid hap
          have HAl := Lib.hid ha
          have HMem := Lib.hid hmem
          have HG1 := Lib.hid hpg1
          have HM1 := Lib.hid hst.maps
          have HR1 := Lib.hid hR1
          have HTZ := Lib.hid htz
          have htzb : (restB s k).size ≤ 9223372036854775807 := by omega
          generalize ps.getD k 0 = pk at *
          generalize chunkB s k = ck at *
          generalize restB s k = t at *
          generalize ht1 : restB s (k + 1) = t1 at *
          have HT1 := Lib.hid ht1
          clear ht1
          have hk0 : (0 : Int) ≤ (k : Int) := by omega
          have hk1 : (k : Int) < (n : Int) := by omega
          have hk2 : (k : Int) < (c : Int) := by omega
          have hkb : (k : Int) ≤ 1000 := by omega
          clear hst htook hrow hap htext ha hpk hmem hpg1 hR1 hlen1 htk hck htz hm hk6 hnx hnx3
          rcases hnx2 with ⟨hk3, np, rfl, hnp, q2⟩ | ⟨hk3, rfl⟩
          · have g3 : decide ((k : Int) + 1 < (n : Int)) = true := by simp; omega
            have e3 : (k : Int) + 1 = ((k + 1 : Nat) : Int) := by omega
            have e4 : ((k : Int) + 1).toNat = k + 1 := by omega
            have hk4 : (k : Int) + 1 < (n : Int) := by omega
            have hk5 : (0 : Int) ≤ (k : Int) + 1 := by omega
            have hnpi : (np : Int) ≤ 65536 := by omega
            clear e3
            go_wp2_with (first
              | (go_at_call 89; refine (HPage.out _).mono ?_; rintro e w4 ⟨rfl, hb4⟩)
              | (go_at_call 17; refine (HWr.out _ (HR1.out.still hb4)).mono ?_; rintro e w5 ⟨rfl, R2, hst2, hw2⟩))
            have hst5 := (RoomStep.still HR1.out hb4).trans hst2
            refine ⟨⟨k + 1, by omega, by go_num, by rw [HT1.out], R2, HST.out.trans hst5, HTo.out.wrote HM1.out HG1.out HMem.out hw2, hst5.keep.ownsRow HRow.out HAp.out, fun g hg => hst5.apart_ (HRow.out.lt g hg).2 (HAp.out g hg), HTexts.out R2 hw2, ?_⟩, by simp only [intOf]; omega⟩
            obtain ⟨x, hx1, hx2⟩ := hw2.puts
            exact ⟨a ++ x, by rw [hx1, HAl.out, List.append_assoc], by rw [List.length_append]; omega⟩
          · have g3 : decide ((k : Int) + 1 < (n : Int)) = false := by simp; omega
            go_wp2_with (first
              | (go_at_call 89; refine (HPage.out _).mono ?_; rintro e w4 ⟨rfl, hb4⟩)
              | (go_at_call 17; refine (HWr.out _ (HR1.out.still hb4)).mono ?_; rintro e w5 ⟨rfl, R2, hst2, hw2⟩))
            have hst5 := (RoomStep.still HR1.out hb4).trans hst2
            refine ⟨⟨k + 1, by omega, by go_num, by rw [HT1.out], R2, HST.out.trans hst5, HTo.out.wrote HM1.out HG1.out HMem.out hw2, hst5.keep.ownsRow HRow.out HAp.out, fun g hg => hst5.apart_ (HRow.out.lt g hg).2 (HAp.out g hg), HTexts.out R2 hw2, ?_⟩, by simp only [intOf]; omega⟩
            obtain ⟨x, hx1, hx2⟩ := hw2.puts
            exact ⟨a ++ x, by rw [hx1, HAl.out, List.append_assoc], by rw [List.length_append]; omega⟩
        · obtain rfl : k = n := by omega
          have hl0 : 0 < ps.length := by rw [HPN.out]; omega
          have q1 := row_cells hrow 0 _ (numV_at ps 0 hl0)
          have g2 : decide ((k : Int) < (k : Int)) = false := by simp
          have hb : BlobIn R1 s ps := ⟨by rw [HPN.out, HN.out], htook.nodup, fun p hp => ⟨by rw [hst.pages]; exact (htook.new p hp).1, htook.taken hple hp⟩, fun i hi => htext i (by rw [← HPN.out]; exact hi)⟩
          have HB := Lib.hid hb
          have HST := Lib.hid hst
          have HTo := Lib.hid htook
          have HAl := Lib.hid ha
          have hkb : (k : Int) ≤ 1000 := by omega
          clear hst htook hrow hap htext ha hb hl0
          generalize hpk : ps.getD 0 0 = pk at *
          have HPK := Lib.hid hpk
          clear hpk
          go_wp2
          go_ret2
          refine .inl ⟨R1, ps, by rw [HPK.out]; rfl, HST.out, HTo.out, HB.out, a, HAl.out, ?_⟩
          rw [HN.out]; omega
end Go.Proofs.YtoajdccdhjlikaaDoor
