/-
  A LOG that is all of one's own: a new disk, the log on it, openings, falls.
-/
import Derived.Test.YtalgheocjnajlaaGreatDoorOpn
import Derived.Test.YtalgheocjnajlaaGreatDoorCom
namespace Go.Proofs.YtalgheocjnajlaaGreatDoor
open Go.RowKit Go.MapKept
attribute [local go_sem] gives givesH
set_option maxRecDepth 100000

def dFresh (n : Nat) : Dk := ⟨n, fun _ => zeros 512, [], 0, false, false⟩
theorem dFresh_of (n bf bn : Nat) : DkOf (freshDisk n bf bn) (dFresh n) := ⟨rfl, fun _ => rfl, fun _ => rfl, rfl, fun h => (by cases h), rfl, rfl, fun x hx => (by cases hx)⟩
theorem dFresh_bears (n ring homes : Nat) (h : 0 < ring) : Bears (dFresh n).firm ring homes 0 (fun _ => zeros 512) := ⟨0, 0, [], Dur.fresh ring homes h, Nat.le_refl _, fun _ _ => rfl⟩
theorem toList_ne {s t : ByteArray} (h : s ≠ t) : (s.toList == t.toList) = false := by
  rw [beq_eq_false_iff_ne, ByteArray.toList_eq, ByteArray.toList_eq]
  exact fun e => h (ByteArray.ext (Array.ext' e))
/-- a list of texts in memory -/
abbrev TextsAt (w : World) (B : Nat) (v : Value) (ws : List ByteArray) : Prop := w.ownsRow B 9 1 v ws.length (ws.map .string)
/-- all of the log's blocks are newer than B -/
def Newer (L : LogS) (bl B : Nat) : Prop := ∀ k, L.foot bl k → B ≤ k
theorem LogStep.newer {bl : Nat} {w w' : World} {L L' : LogS} {B : Nat} (h : LogStep bl w L w' L') (hn : Newer L bl B) (hB : B ≤ w.heap.size) : Newer L' bl B ∧ Below B w w' :=
  ⟨fun k hk => (h.own k hk).elim (hn k) (fun e => Nat.le_trans hB e), h.keep.below hB (fun i hi hf => by have := hn i hf; omega)⟩
/-- a new disk, and the log on it -/
structure Fresh5 (w w' : World) (bd : Nat) (D : DiskS) (n : Nat) : Prop where
  at_ : DiskAt w' bd D
  dk : DkOf D (dFresh n)
  size : D.size = n
  newer : ∀ k, D.foot bd k → w.heap.size ≤ k
  below : Below w.heap.size w w'
theorem new5_any (n : Nat) (h1 : 1 ≤ n) (h2 : n ≤ 65536) (w : World) :
    Calls Tryz.prog 8 #[.int .i64 n] w fun e w' => ∃ bd D, e = .returned (.tuple #[.pointer (some ⟨bd, 0, none⟩), .int .i64 0]) ∧ Fresh5 w w' bd D n :=
  (diskNew_any n h1 h2 w).mono fun e w' ⟨bd, D, he, hD, hat, hbd, hb⟩ => by
    subst hD hbd
    refine ⟨_, _, he, hat, dFresh_of _ _ _, rfl, fun k hk => ?_, hb⟩
    rcases hk with e | e | e | e
    · omega
    · exact Nat.le_of_eq e.symm
    · have e2 : k = w.heap.size + 1 := e
      omega
    · cases e
/-- what an opening leaves -/
structure Open5 (w w' : World) (bd : Nat) (D : DiskS) (d : Dk) (ring N : Nat) (W : Int → ByteArray) (bl : Nat) (L : LogS) : Prop where
  up : LogUp w' bl L d N W
  disk : L.D = D
  bdE : L.bd = bd
  ringE : L.ring = ring
  own : ∀ k, L.foot bl k → D.foot bd k ∨ w.heap.size ≤ k
  keep : Keep (D.foot bd) w w'
theorem open5_any {w : World} {bd : Nat} {D : DiskS} {d : Dk} {homes N : Nat} {W : Int → ByteArray} (h : DiskAt w bd D) (hd : DkOf D d) (hup : d.down = false) (hcl : d.writes = []) (ring : Nat) (h1 : 4 ≤ ring) (h2 : ring ≤ 4096) (h3 : D.size = ring + 1 + homes) (h4 : 1 ≤ homes) (hN : N < 4611686018427387904)
    (hb : Bears d.firm ring homes N W) :
    Calls Tryz.prog 9 #[.pointer (some ⟨bd, 0, none⟩), .int .i64 ring] w fun e w' => ∃ bl L, e = .returned (.tuple #[.pointer (some ⟨bl, 0, none⟩), .int .i64 0]) ∧ Open5 w w' bd D d ring N W bl L :=
  (open_any h hd hup hcl ring h1 h2 h3 h4 hN hb).mono fun e w' ⟨bl, L, he, hu, hD, hbd, hr, hbl, hbo, hk⟩ => by
    refine ⟨bl, L, he, hu, hD, hbd, hr, fun k hk => ?_, hk⟩
    rcases hk with e | e | e
    · exact .inr (e ▸ hbl)
    · exact .inr (e ▸ hbo)
    · rw [hD, hbd] at e
      exact .inl e
theorem Open5.newer {w w' : World} {bd : Nat} {D : DiskS} {d : Dk} {ring N : Nat} {W : Int → ByteArray} {bl : Nat} {L : LogS} {B : Nat} (h : Open5 w w' bd D d ring N W bl L) (hn : ∀ k, D.foot bd k → B ≤ k) (hB : B ≤ w.heap.size) : Newer L bl B ∧ Below B w w' :=
  ⟨fun k hk => (h.own k hk).elim (hn k) (fun e => Nat.le_trans hB e), h.keep.below hB (fun i hi hf => by have := hn i hf; omega)⟩
theorem Open5.homes {w w' : World} {bd : Nat} {D : DiskS} {d : Dk} {ring N : Nat} {W : Int → ByteArray} {bl : Nat} {L : LogS} (h : Open5 w w' bd D d ring N W bl L) : L.homes = D.size - 1 - ring := by
  unfold LogS.homes; rw [h.disk, h.ringE]
theorem fall_bears {d : Dk} {ring homes N : Nat} {P : (Int → ByteArray) → Prop} (h : FallsTo d ring homes N P) (keep : List Bool) : ∃ W, P W ∧ Bears (d.fall keep).firm ring homes N W := h keep

end Go.Proofs.YtalgheocjnajlaaGreatDoor

