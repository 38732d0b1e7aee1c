/-
  Wide: a log of noughts; what is known of a log that is up (LogView).
-/
import Derived.Test.YtoajdccdhjlikaaDoorOpen
namespace Go.Proofs.YtoajdccdhjlikaaDoor
open Go.RowKit Go.MapKept

/-- a log that is up, of n homes, that hold f; F: its blocks -/
def LogView (w : World) (bl : Nat) (n : Nat) (f : Int → ByteArray) (F : Nat → Prop) : Prop :=
  ∃ L : LogS, LogAt w bl L ∧ L.down = false ∧ L.D.down = false ∧ L.homes = n ∧ (∀ i, L.read i = f i) ∧ (∀ k, L.foot bl k → F k) ∧ ∀ k, F k → k < w.heap.size
theorem LogView.keep {w w' : World} {bl n : Nat} {f : Int → ByteArray} {F : Nat → Prop} (h : LogView w bl n f F) {S : Nat → Prop} (hk : Keep S w w') (hn : ∀ k, F k → ¬ S k) : LogView w' bl n f F := by
  obtain ⟨L, h1, h2, h3, h4, h5, h6⟩ := h
  exact ⟨L, h1.keep hk (fun k hf => hn k (h6.1 k hf)), h2, h3, h4, h5, h6.1, fun k hf => Nat.lt_of_lt_of_le (h6.2 k hf) hk.size⟩

theorem LogView.lt {w : World} {bl n : Nat} {f : Int → ByteArray} {F : Nat → Prop} (h : LogView w bl n f F) {k : Nat} (hk : F k) : k < w.heap.size := by
  obtain ⟨L, h1, h2, h3, h4, h5, h6⟩ := h
  exact h6.2 k hk

theorem fresh_read (n a b : Nat) (i : Int) : (freshDisk n a b).read i = zeros 512 := by
  unfold DiskS.read freshDisk
  rfl

set_option maxRecDepth 100000
set_option maxHeartbeats 300000 in
theorem wide_any (n : Nat) (h1 : 4 ≤ n) (h2 : n ≤ 65335) (w : World) :
    Calls Tryd.prog 13 #[.int .i64 n] w fun e w' => ∃ bd bl, e = .returned (.tuple #[.pointer (some ⟨bd, 0, none⟩), .pointer (some ⟨bl, 0, none⟩)]) ∧
      LogView w' bl n (fun _ => zeros 512) (fun k => w.heap.size ≤ k ∧ k < w'.heap.size) ∧ Below w.heap.size w w' := by
  have hd := diskNew_any (201 + n) (by omega) (by omega) w
  have e1 : ((201 : Int) + (n : Int)) = ((201 + n : Nat) : Int) := by omega
  have e2 : IntKind.i64.wrap ((201 + n : Nat) : Int) = ((201 + n : Nat) : Int) := wrapI (by omega) (by omega)
  have e3 : max (n : Int) 4 = n := by omega
  have H1 := Lib.hid hd
  clear hd
  have ho : ∀ bd u D, D = freshDisk (201 + n) w.heap.size (w.heap.size + 1) → DiskAt u bd D → Calls Tryd.prog 36 #[.pointer (some ⟨bd, 0, none⟩), .int .i64 200] u fun e w' => ∃ bl L, e = .returned (.tuple #[.pointer (some ⟨bl, 0, none⟩), .int .i64 0]) ∧
      L = freshLog bd D 200 u.heap.size ∧ LogAt w' bl L ∧ bl = u.heap.size + 1 ∧ Below u.heap.size u w' := fun bd u D hD hu =>
    open_zeros hu (by rw [hD]; rfl) (fun i => by rw [hD]; exact fresh_read _ _ _ i) 200 (by omega) (by omega) (by rw [hD]; show 200 + 2 ≤ 201 + n; omega)
  have H2 := Lib.hid ho
  clear ho
  have hn4 : (4 : Int) ≤ n := by omega
  generalize hzz : zeros 512 = z at *
  have hmn : 201 + n = 201 + n := rfl
  generalize hm : 201 + n = m at *
  clear hmn
  have HM := Lib.hid hm
  clear hm
  go_enter Tryd.func13, Tryd.ntmps13
  go_wp2_with (first
    | (go_at_call 35; refine (H1.out).mono ?_; rintro e w1 ⟨bd, D, rfl, hD, hDA, hbd, hb1⟩
       have HD := Lib.hid hD
       have HA := Lib.hid hDA
       have HB := Lib.hid hb1
       have HS := Lib.hid hbd
       clear hD hDA hb1 hbd)
    | (go_at_call 36; refine (H2.out _ _ _ HD.out HA.out).mono ?_; rintro e w2 ⟨bl, L, rfl, hL, hLA, hbl, hb2⟩))
  go_ret2
  have hb := HB.out.trans (hb2.mono HB.out.size)
  have hbs := HB.out.size
  have hbs2 := hb2.size
  refine ⟨bd, w1.heap.size + 1, rfl, ⟨L, ?_, ?_, ?_, ?_, ?_, ?_, fun k hk => hk.2⟩, hb⟩
  · rw [← hbl]; exact hLA
  · rw [hL]; rfl
  · rw [hL, HD.out]; rfl
  · rw [hL, HD.out]
    show m - 1 - 200 = n
    have := HM.out; omega
  · intro i
    rw [hL, HD.out, ← hzz]
    exact fresh_read m w.heap.size (w.heap.size + 1) (1 + (200 : Nat) + i)
  · intro k hk
    have hlt := hLA.foot_lt (hbl ▸ hk)
    refine ⟨?_, hlt⟩
    rw [hL, HD.out] at hk
    rcases hk with rfl | rfl | rfl | rfl | rfl | hk
    · omega
    · exact hbs
    · have := HS.out
      omega
    · exact Nat.le_refl _
    · show w.heap.size ≤ w.heap.size + 1
      omega
    · cases hk

end Go.Proofs.YtoajdccdhjlikaaDoor
