/-
  THE LAWS of layer 6: TxMarks: the closure that puts a list.
-/
import Derived.Test.YtnfdplhcpiknpaaGreatDoorLaw6
namespace Go.Proofs.YtnfdplhcpiknpaaGreatDoor
open Go.RowKit Go.MapKept
attribute [local go_sem] gives givesH
set_option maxRecDepth 100000

theorem PutsAt.form {w : World} {B : Nat} {v : Value} {l : Puts} (h : PutsAt w B v l) : ∃ a c b off, v = .slice a l.length c ∧ (0 < l.length → a = some ⟨b, off, none⟩ ∧ b < B) ∧ ∀ (k : Nat) x, l[k]? = some x → w.cell? ⟨b, off + k * 2, none⟩ = some (.int .i64 x.1) ∧ w.cell? ⟨b, off + k * 2 + 1, none⟩ = some (.string x.2) := by
  rcases h with ⟨h1, h2⟩ | ⟨ad, b, off, cap, h1, hb, hc⟩
  · subst h2
    exact ⟨none, 0, 0, 0, h1, fun h0 => absurd h0 (by simp), fun k p hp => by simp at hp⟩
  · exact ⟨some ad, cap, b, off, h1, fun h0 => ⟨by rw [(hb h0).1], (hb h0).2⟩, hc⟩
/-- what a list of puts leaves of itself -/
def putsAll (n : Nat) (p : Puts) : Puts := p.flatMap (fun x => putsOf n x.1 x.2)
theorem putsAll_take {n : Nat} {p : Puts} {k : Nat} {x : Int × ByteArray} (h : p[k]? = some x) : putsAll n (p.take (k + 1)) = putsAll n (p.take k) ++ putsOf n x.1 x.2 := by
  unfold putsAll
  rw [List.take_add_one, h, List.flatMap_append]
  simp
theorem putsOf_len (n : Nat) (i : Int) (s : ByteArray) : (putsOf n i s).length ≤ 1 := by unfold putsOf; split <;> simp
theorem putsAll_len (n : Nat) (p : Puts) : (putsAll n p).length ≤ p.length := by
  unfold putsAll
  induction p with
  | nil => simp
  | cons x p ih =>
    rw [List.flatMap_cons, List.length_append, List.length_cons]
    have := putsOf_len n x.1 x.2
    omega
/-- a change turned, of a law's own -/
structure TxGo (B : Nat) (w w' : World) (bl : Nat) (L : LogS) (d : Dk) (N homes ring : Nat) (W : Int → ByteArray) (bt : Nat) (T T' : TxS) (q : Puts) : Prop where
  step : TxStep bt w T w' T'
  at_ : TxIn B w' bl L d N homes ring W bt T'
  puts : T'.puts = T.puts ++ q
  below : Below B w w'
set_option maxHeartbeats 2000000 in
theorem putList_any {B : Nat} {w : World} {bl : Nat} {L : LogS} {d : Dk} {N ring : Nat} {W : Int → ByteArray} {bt cb : Nat} {T : TxS} (h : TxIn B w bl L d N 20 ring W bt T) (hlen : T.puts.length ≤ 1000) (hB : B ≤ w.heap.size) (hc : w.cell? ⟨cb, 0, none⟩ = some (.pointer (some ⟨bt, 0, none⟩))) (hcn : ¬ T.own bt cb) (hcl : cb < w.heap.size) {v : Value} {p : Puts} (hp : PutsAt w B v p) (hpl : p.length ≤ 20) (hsz : ∀ x ∈ p, x.2.size ≤ 9223372036854775807) :
    Calls Tryz.prog 27 #[v, .pointer (some ⟨cb, 0, none⟩)] w fun e w' => e = .returned (.bool true) ∧ ∃ T', TxGo B w w' bl L d N 20 ring W bt T T' (putsAll 20 p) := by
  obtain ⟨pa, pc, pb, po, hv, hpp, hpc⟩ := hp.form
  subst hv
  obtain ⟨pl, hpl2⟩ : ∃ pl, p.length = pl := ⟨_, rfl⟩
  rw [hpl2] at hpp hpl ⊢
  have HPp := Lib.hid hpp
  have HPc := Lib.hid hpc
  have HPl := Lib.hid hpl2
  have HSz := Lib.hid hsz
  have H := Lib.hid h
  have HC := Lib.hid hc
  clear hpp hpc hpl2 hsz h hc hp
  go_enter Tryz.func27, Tryz.ntmps27
  go_wp2
  go_loopw [9] (fun i wr => ∃ k : Nat, k ≤ pl ∧ i = .int .i64 k ∧ ∃ T', TxGo B w wr bl L d N 20 ring W bt T T' (putsAll 20 (p.take k))) (fun i _ => pl - (intOf i).toNat)
  case atStart => exact ⟨0, by omega, rfl, T, TxStep.refl H.out.tx.at_, H.out, by simp [putsAll], Below.refl _ _⟩
  case round =>
    obtain ⟨k, hk, rfl, Tk, hgo⟩ := hrel
    have HG := Lib.hid hgo
    have hcr : wr.cell? ⟨cb, 0, none⟩ = some (.pointer (some ⟨bt, 0, none⟩)) := by rw [hgo.step.keep.cell (p := ⟨cb, 0, none⟩) hcl hcn]; exact HC.out
    clear hgo
    by_cases hlt : k < pl
    · have g1 : decide ((k : Int) < (pl : Int)) = true := by simp; omega
      have g1' : decide (k < pl) = true := by simpa using hlt
      obtain ⟨rfl, hb⟩ := HPp.out (by omega)
      obtain ⟨x, hx⟩ : ∃ x, p[k]? = some x := ⟨_, List.getElem?_eq_getElem (by rw [HPl.out]; exact hlt)⟩
      obtain ⟨q0, q1⟩ := HPc.out k x hx
      have hxs := HSz.out x (List.mem_of_getElem? hx)
      rw [← HG.out.below.cell (p := ⟨pb, po + k * 2, none⟩) hb] at q0
      rw [← HG.out.below.cell (p := ⟨pb, po + k * 2 + 1, none⟩) hb] at q1
      have hk0 : (0 : Int) ≤ (k : Int) := by omega
      have hk1 : (k : Int) < (pl : Int) := by omega
      have htk := putsAll_take (n := 20) hx
      obtain ⟨xi, xs⟩ := x
      simp only at q0 q1 hxs htk
      have HTk := Lib.hid htk
      have hbx : Below wr.heap.size wr (wr.alloc (Obj.cells #[.int .i64 xi, .string xs] 60)) := (Below.refl _ _).alloc (Nat.le_refl _) _
      have hsx : wr.heap.size < (wr.alloc (Obj.cells #[.int .i64 xi, .string xs] 60)).heap.size := by simp
      have hxb0 : (wr.alloc (Obj.cells #[.int .i64 xi, .string xs] 60)).cell? ⟨wr.heap.size, 0, none⟩ = some (.int .i64 xi) := Lib.cell_of_heap (heap_alloc_new wr _) 0
      have hxb1 : (wr.alloc (Obj.cells #[.int .i64 xi, .string xs] 60)).cell? ⟨wr.heap.size, 1, none⟩ = some (.string xs) := Lib.cell_of_heap (heap_alloc_new wr _) 1
      have hcx : (wr.alloc (Obj.cells #[.int .i64 xi, .string xs] 60)).cell? ⟨cb, 0, none⟩ = some (.pointer (some ⟨bt, 0, none⟩)) := by rw [hbx.cell (p := ⟨cb, 0, none⟩) (Nat.lt_of_lt_of_le hcl HG.out.step.keep.size)]; exact hcr
      have hlen2 : Tk.puts.length ≤ 1020 := by
        rw [HG.out.puts, List.length_append]
        have h1 := putsAll_len 20 (p.take k)
        rw [List.length_take] at h1
        omega
      have hno : ¬ Tk.own bt wr.heap.size := fun ho => by have := HG.out.at_.tx.at_.own_lt ho; omega
      have HNo := Lib.hid hno
      have hw := (HG.out.at_.still hbx).write (by omega) (Nat.le_trans (Nat.le_trans hB HG.out.step.keep.size) hbx.size) (i := xi) xs hxs
      have HW := Lib.hid hw
      have HX0 := Lib.hid hxb0
      have HX1 := Lib.hid hxb1
      have HSx := Lib.hid hsx
      have HBx := Lib.hid hbx
      clear hx htk hlen2 hno hw hbx hxb0 hxb1 hsx
      by_cases x1 : xi < 0
      · have f1 : decide (0 ≤ xi) = false := by simp; omega
        rw [show writeErr 20 xi xs = 2 from if_neg (by omega)] at HW
        go_wp2_with (fail)
        refine (HW.out).mono ?_
        rintro e w7 ⟨rfl, T7, hst7, ht7, hp7, hb7⟩
        have b0 : w7.cell? ⟨wr.heap.size, 0, none⟩ = some (.int .i64 xi) := by rw [hst7.keep.cell (p := ⟨wr.heap.size, 0, none⟩) HSx.out HNo.out]; exact HX0.out
        have b1 : w7.cell? ⟨wr.heap.size, 1, none⟩ = some (.string xs) := by rw [hst7.keep.cell (p := ⟨wr.heap.size, 1, none⟩) HSx.out HNo.out]; exact HX1.out
        have hgo : TxGo B w w7 bl L d N 20 ring W bt T T7 (putsAll 20 (p.take (k + 1))) :=
          ⟨HG.out.step.trans ((TxStep.still HG.out.at_.tx.at_ HBx.out).trans hst7), ht7, by rw [hp7, HG.out.puts, HTk.out, List.append_assoc], HG.out.below.trans ((HBx.out.mono (Nat.le_trans hB HG.out.step.keep.size)).trans hb7)⟩
        have HGo := Lib.hid hgo
        clear hst7 ht7 hp7 hb7 hgo
        go_wp2
        go_roundw
        case rel => exact ⟨k + 1, by omega, rfl, T7, HGo.out⟩
        case measure => simp [intOf]; omega
      have f1 : decide (0 ≤ xi) = true := by simp; omega
      by_cases x2 : 20 ≤ xi
      · have f2 : decide (xi < 20) = false := by simp; omega
        rw [show writeErr 20 xi xs = 2 from if_neg (by omega)] at HW
        go_wp2_with (fail)
        refine (HW.out).mono ?_
        rintro e w7 ⟨rfl, T7, hst7, ht7, hp7, hb7⟩
        have b0 : w7.cell? ⟨wr.heap.size, 0, none⟩ = some (.int .i64 xi) := by rw [hst7.keep.cell (p := ⟨wr.heap.size, 0, none⟩) HSx.out HNo.out]; exact HX0.out
        have b1 : w7.cell? ⟨wr.heap.size, 1, none⟩ = some (.string xs) := by rw [hst7.keep.cell (p := ⟨wr.heap.size, 1, none⟩) HSx.out HNo.out]; exact HX1.out
        have hgo : TxGo B w w7 bl L d N 20 ring W bt T T7 (putsAll 20 (p.take (k + 1))) :=
          ⟨HG.out.step.trans ((TxStep.still HG.out.at_.tx.at_ HBx.out).trans hst7), ht7, by rw [hp7, HG.out.puts, HTk.out, List.append_assoc], HG.out.below.trans ((HBx.out.mono (Nat.le_trans hB HG.out.step.keep.size)).trans hb7)⟩
        have HGo := Lib.hid hgo
        clear hst7 ht7 hp7 hb7 hgo
        go_wp2
        go_roundw
        case rel => exact ⟨k + 1, by omega, rfl, T7, HGo.out⟩
        case measure => simp [intOf]; omega
      have f2 : decide (xi < 20) = true := by simp; omega
      by_cases x3 : 512 < xs.size
      · have f3 : decide ((xs.size : Int) ≤ 512) = false := by simp; omega
        have f3' : decide (xs.size ≤ 512) = false := by simp; omega
        rw [show writeErr 20 xi xs = 5 from by unfold writeErr; rw [if_pos (by omega), if_pos x3]] at HW
        go_wp2_with (fail)
        refine (HW.out).mono ?_
        rintro e w7 ⟨rfl, T7, hst7, ht7, hp7, hb7⟩
        have b0 : w7.cell? ⟨wr.heap.size, 0, none⟩ = some (.int .i64 xi) := by rw [hst7.keep.cell (p := ⟨wr.heap.size, 0, none⟩) HSx.out HNo.out]; exact HX0.out
        have b1 : w7.cell? ⟨wr.heap.size, 1, none⟩ = some (.string xs) := by rw [hst7.keep.cell (p := ⟨wr.heap.size, 1, none⟩) HSx.out HNo.out]; exact HX1.out
        have hgo : TxGo B w w7 bl L d N 20 ring W bt T T7 (putsAll 20 (p.take (k + 1))) :=
          ⟨HG.out.step.trans ((TxStep.still HG.out.at_.tx.at_ HBx.out).trans hst7), ht7, by rw [hp7, HG.out.puts, HTk.out, List.append_assoc], HG.out.below.trans ((HBx.out.mono (Nat.le_trans hB HG.out.step.keep.size)).trans hb7)⟩
        have HGo := Lib.hid hgo
        clear hst7 ht7 hp7 hb7 hgo
        go_wp2
        go_roundw
        case rel => exact ⟨k + 1, by omega, rfl, T7, HGo.out⟩
        case measure => simp [intOf]; omega
      · have f3 : decide ((xs.size : Int) ≤ 512) = true := by simp; omega
        have f3' : decide (xs.size ≤ 512) = true := by simp; omega
        rw [show writeErr 20 xi xs = 0 from by unfold writeErr; rw [if_pos (by omega), if_neg x3]] at HW
        go_wp2_with (fail)
        refine (HW.out).mono ?_
        rintro e w7 ⟨rfl, T7, hst7, ht7, hp7, hb7⟩
        have b0 : w7.cell? ⟨wr.heap.size, 0, none⟩ = some (.int .i64 xi) := by rw [hst7.keep.cell (p := ⟨wr.heap.size, 0, none⟩) HSx.out HNo.out]; exact HX0.out
        have b1 : w7.cell? ⟨wr.heap.size, 1, none⟩ = some (.string xs) := by rw [hst7.keep.cell (p := ⟨wr.heap.size, 1, none⟩) HSx.out HNo.out]; exact HX1.out
        have hgo : TxGo B w w7 bl L d N 20 ring W bt T T7 (putsAll 20 (p.take (k + 1))) :=
          ⟨HG.out.step.trans ((TxStep.still HG.out.at_.tx.at_ HBx.out).trans hst7), ht7, by rw [hp7, HG.out.puts, HTk.out, List.append_assoc], HG.out.below.trans ((HBx.out.mono (Nat.le_trans hB HG.out.step.keep.size)).trans hb7)⟩
        have HGo := Lib.hid hgo
        clear hst7 ht7 hp7 hb7 hgo
        go_wp2
        go_roundw
        case rel => exact ⟨k + 1, by omega, rfl, T7, HGo.out⟩
        case measure => simp [intOf]; omega
    · have g1 : decide ((k : Int) < (pl : Int)) = false := by simp; omega
      have g1' : decide (k < pl) = false := by simpa using hlt
      have hkp : p.take k = p := List.take_of_length_le (by rw [HPl.out]; omega)
      have HKp := Lib.hid hkp
      clear hkp
      go_wp2
      go_ret
      have hg := HG.out
      rw [HKp.out] at hg
      exact ⟨rfl, Tk, hg⟩
end Go.Proofs.YtnfdplhcpiknpaaGreatDoor
