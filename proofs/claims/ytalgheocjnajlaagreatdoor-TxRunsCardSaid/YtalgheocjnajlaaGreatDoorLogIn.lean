/-
  A LOG of a law's own, on a disk without limit; a list of texts beside it.
-/
import Derived.Test.YtalgheocjnajlaaGreatDoorRef5
namespace Go.Proofs.YtalgheocjnajlaaGreatDoor
open Go.RowKit Go.MapKept
attribute [local go_sem] gives givesH
set_option maxRecDepth 100000

/-- a log of a law's own, on a disk without limit -/
structure LogIn (B : Nat) (w : World) (bl : Nat) (L : LogS) (d : Dk) (N homes ring : Nat) (W : Int → ByteArray) : Prop where
  up : LogUp w bl L d N W
  homes : L.homes = homes
  ring : L.ring = ring
  newer : Newer L bl B
  free : d.bound = false
/-- a list of texts of a law's own -/
structure Txt (B : Nat) (w : World) (bl : Nat) (L : LogS) (v : Value) (ws : List ByteArray) : Prop where
  row : TextsAt w B v ws
  apart : ∀ q, v.ownBlock = some q → ¬ L.foot bl q
section
variable {B : Nat} {w w' : World} {bl : Nat} {L L' : LogS} {d : Dk} {N homes ring : Nat} {W : Int → ByteArray} {v : Value} {ws : List ByteArray}
theorem LogIn.still (h : LogIn B w bl L d N homes ring W) (hb : Below w.heap.size w w') : LogIn B w' bl L d N homes ring W := ⟨h.up.still hb, h.homes, h.ring, h.newer, h.free⟩
theorem Txt.still (h : Txt B w bl L v ws) (hb : Below w.heap.size w w') : Txt B w' bl L v ws := ⟨(Keep.still hb).ownsRow h.row (fun _ _ e => e), h.apart⟩
theorem Txt.step (h : Txt B w bl L v ws) (hs : LogStep bl w L w' L') : Txt B w' bl L' v ws :=
  ⟨hs.keep.ownsRow h.row (fun q hq hf => h.apart q hq hf), fun q hq hf => (hs.own q hf).elim (h.apart q hq) (fun e => by have := (World.ownsRow.lt h.row q hq).2; omega)⟩
theorem Txt.made {u : World} (h : TextsAt w' u.heap.size v ws) (hl : LogAt u bl L) (hB : B ≤ u.heap.size) : Txt B w' bl L v ws :=
  ⟨ownsRow_base_a h hB, fun q hq hf => by have := hl.foot_lt hf; have := (World.ownsRow.lt h q hq).1; omega⟩
/-- a checkpoint of such a log -/
theorem LogIn.checkpoint (h : LogIn B w bl L d N homes ring W) (hN : N < 4611686018427387904) (hB : B ≤ w.heap.size) :
    Calls Tryz.prog 93 #[.pointer (some ⟨bl, 0, none⟩)] w fun e w' => e = .returned (.int .i64 0) ∧ ∃ L' d', LogIn B w' bl L' d' N homes ring W ∧ LogStep bl w L w' L' ∧ Below B w w' :=
  (checkpoint_any h.up hN).mono fun e w' ⟨L', d', hs, hb, hc⟩ => by
    obtain ⟨hn, hbl⟩ := hs.newer h.newer hB
    rcases hc with ⟨he, hu, _⟩ | ⟨_, hb2, _⟩
    · exact ⟨he, L', d', ⟨hu, hs.homes.trans h.homes, hs.ring.trans h.ring, hn, hb.trans h.free⟩, hs, hbl⟩
    · rw [h.free] at hb2; cases hb2
/-- a commit of such a log -/
theorem LogIn.commit (h : LogIn B w bl L d N homes ring (atL ws)) (hl : ws.length = homes) (hN : N < 4611686018427387904) (hB : B ≤ w.heap.size) {vl : Value} {ps : List Puts} (hv : ListsAt w w.heap.size vl ps) (hn : ps.flatten.length ≤ 1000000) (hl2 : ps.length ≤ 1000000)
    (hsz : ∀ x ∈ ps.flatten, x.2.size ≤ 9223372036854775807) :
    Calls Tryz.prog 55 #[.pointer (some ⟨bl, 0, none⟩), vl] w fun e w' => e = .returned (.int .i64 (cErr homes ring ps.flatten)) ∧ ∃ L' d', LogIn B w' bl L' d' (N + 1) homes ring (atL (refL ws ring ps.flatten)) ∧ LogStep bl w L w' L' ∧ Below B w w' :=
  (commit_any h.up hN hv hn hl2 hsz).mono fun e w' ⟨L', d', hs, hb, hc⟩ => by
    obtain ⟨hn, hbl⟩ := hs.newer h.newer hB
    have hh := hs.homes.trans h.homes
    rw [h.homes, h.ring] at hc
    rcases hc with ⟨h1, he, hu⟩ | ⟨h1, he, hu⟩ | ⟨_, _, hb2, _⟩
    · have e1 : refL ws ring ps.flatten = ws := by unfold refL; rw [hl, if_neg h1]
      rw [e1]
      exact ⟨he, L', d', ⟨hu, hh, hs.ring.trans h.ring, hn, hb.trans h.free⟩, hs, hbl⟩
    · refine ⟨by rw [h1]; exact he, L', d', ⟨hu.congr (fun k hk => ?_), hh, hs.ring.trans h.ring, hn, hb.trans h.free⟩, hs, hbl⟩
      rw [hh, ← hl] at hk
      exact (refL_at (by rw [hl]; exact h1) k hk).symm
    · rw [h.free] at hb2; cases hb2
end
theorem LogIn.keep {B : Nat} {w w' : World} {bl : Nat} {L : LogS} {d : Dk} {N homes ring : Nat} {W : Int → ByteArray} (h : LogIn B w bl L d N homes ring W) {S : Nat → Prop} (hk : Keep S w w') (hn : ∀ k, L.foot bl k → ¬ S k) : LogIn B w' bl L d N homes ring W :=
  ⟨⟨h.up.at_.keep hk hn, h.up.dk, h.up.lup, h.up.up, h.up.clean, h.up.dur, h.up.seq⟩, h.homes, h.ring, h.newer, h.free⟩
/-- what a log's homes hold behind a group -/
def comW (homes ring : Nat) (p : Puts) (W : Int → ByteArray) : Int → ByteArray := if cErr homes ring p = 0 then overG (fullG p) W else W
/-- such a log, whatever its homes hold, behind a group that fits -/
theorem LogIn.commitW {B : Nat} {w : World} {bl : Nat} {L : LogS} {d : Dk} {N homes ring : Nat} {W : Int → ByteArray} (h : LogIn B w bl L d N homes ring W) (hN : N < 4611686018427387904) (hB : B ≤ w.heap.size) {vl : Value} {ps : List Puts} (hv : ListsAt w w.heap.size vl ps) (hn : ps.flatten.length ≤ 1000000) (hl2 : ps.length ≤ 1000000)
    (hsz : ∀ x ∈ ps.flatten, x.2.size ≤ 9223372036854775807) :
    Calls Tryz.prog 55 #[.pointer (some ⟨bl, 0, none⟩), vl] w fun e w' => e = .returned (.int .i64 (cErr homes ring ps.flatten)) ∧ ∃ L' d', LogIn B w' bl L' d' (N + 1) homes ring (comW homes ring ps.flatten W) ∧ LogStep bl w L w' L' ∧ Below B w w' :=
  (commit_any h.up hN hv hn hl2 hsz).mono fun e w' ⟨L', d', hs, hb, hc⟩ => by
    unfold comW
    obtain ⟨hn, hbl⟩ := hs.newer h.newer hB
    have hh := hs.homes.trans h.homes
    rw [h.homes, h.ring] at hc
    rcases hc with ⟨h1, he, hu⟩ | ⟨h1, he, hu⟩ | ⟨_, _, hb2, _⟩
    · rw [if_neg h1]
      exact ⟨he, L', d', ⟨hu, hh, hs.ring.trans h.ring, hn, hb.trans h.free⟩, hs, hbl⟩
    · rw [if_pos h1, h1]
      exact ⟨he, L', d', ⟨hu, hh, hs.ring.trans h.ring, hn, hb.trans h.free⟩, hs, hbl⟩
    · rw [h.free] at hb2; cases hb2
end Go.Proofs.YtalgheocjnajlaaGreatDoor
