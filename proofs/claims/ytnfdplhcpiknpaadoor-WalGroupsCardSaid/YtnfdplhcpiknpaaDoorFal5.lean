/-
  THE LAWS of layer 5: a log whose disk may fall.
-/
import Derived.Test.YtnfdplhcpiknpaaDoorWRuns
namespace Go.Proofs.YtnfdplhcpiknpaaDoor
open Go.RowKit Go.MapKept
attribute [local go_sem] gives givesH
set_option maxRecDepth 100000

def Agr (homes : Nat) (V : Int → ByteArray) (ws : List ByteArray) : Prop := ∀ k : Nat, k < homes → V k = atL ws k
/-- a log of a law's own: up, or down, on a disk that may fall -/
structure Fl (B : Nat) (w : World) (bl : Nat) (L : LogS) (d : Dk) (N homes ring bd : Nat) (ws wm : List ByteArray) : Prop where
  homesE : L.homes = homes
  ringE : L.ring = ring
  bdE : L.bd = bd
  newer : Newer L bl B
  st : LogUp w bl L d N (atL ws) ∨ LogDn w bl L d N (fun V => Agr homes V ws ∨ Agr homes V wm)
section
variable {B : Nat} {w w' : World} {bl : Nat} {L L' : LogS} {d : Dk} {N homes ring bd : Nat} {ws wm : List ByteArray}
theorem Fl.at_ (h : Fl B w bl L d N homes ring bd ws wm) : LogAt w bl L := h.st.elim (fun h => h.at_) (fun h => h.at_)
theorem Fl.dk (h : Fl B w bl L d N homes ring bd ws wm) : DkOf L.D d := h.st.elim (fun h => h.dk) (fun h => h.dk)
theorem Fl.still (h : Fl B w bl L d N homes ring bd ws wm) (hb : Below w.heap.size w w') : Fl B w' bl L d N homes ring bd ws wm :=
  ⟨h.homesE, h.ringE, h.bdE, h.newer, h.st.imp (fun h => h.still hb) (fun h => h.still hb)⟩
theorem Fl.mono {N' : Nat} (h : Fl B w bl L d N homes ring bd ws wm) (hN : N ≤ N') : Fl B w bl L d N' homes ring bd ws wm :=
  ⟨h.homesE, h.ringE, h.bdE, h.newer, h.st.imp (fun h => h.mono hN) (fun h => ⟨h.at_, h.dk, h.ldn, h.dn, h.falls.mono hN (fun _ h => h)⟩)⟩
theorem Fl.up (h : Fl B w bl L d N homes ring bd ws wm) (hd : L.down = false) : LogUp w bl L d N (atL ws) := h.st.resolve_right (fun h => by rw [h.ldn] at hd; cases hd)
theorem Fl.dn (h : Fl B w bl L d N homes ring bd ws wm) (hd : L.down = true) : LogDn w bl L d N (fun V => Agr homes V ws ∨ Agr homes V wm) := h.st.resolve_left (fun h => by rw [h.lup] at hd; cases hd)
theorem Fl.falls (h : Fl B w bl L d N homes ring bd ws wm) : FallsTo d ring homes N (fun V => Agr homes V ws ∨ Agr homes V wm) := by
  rcases h.st with hu | hn
  · have hb := hu.bears
    rw [h.ringE, h.homesE] at hb
    exact (FallsTo.of_clean hu.clean hb).mono (Nat.le_refl _) (fun V hV => .inl (fun k _ => by rw [hV]))
  · have hf := hn.falls
    rw [h.ringE, h.homesE] at hf
    exact hf
/-- a commit -/
theorem Fl.commit (h : Fl B w bl L d N homes ring bd ws wm) (hd : L.down = false) (hl : ws.length = homes) (hN : N < 4611686018427387904) (hB : B ≤ w.heap.size) {vl : Value} {ps : List Puts} (hv : ListsAt w w.heap.size vl ps) (hn : ps.flatten.length ≤ 1000000) (hl2 : ps.length ≤ 1000000)
    (hsz : ∀ x ∈ ps.flatten, x.2.size ≤ 9223372036854775807) :
    Calls Tryd.prog 13 #[.pointer (some ⟨bl, 0, none⟩), vl] w fun e w' => ∃ c L' d', e = .returned (.int .i64 c) ∧ LogStep bl w L w' L' ∧ Below B w w' ∧
      ((c = cErr homes ring ps.flatten ∧ L'.down = false ∧ Fl B w' bl L' d' (N + 1) homes ring bd (refL ws ring ps.flatten) (refL ws ring ps.flatten)) ∨
       (c = 3 ∧ cErr homes ring ps.flatten = 0 ∧ L'.down = true ∧ Fl B w' bl L' d' (N + 1) homes ring bd ws (refL ws ring ps.flatten))) :=
  (commit_any (h.up hd) hN hv hn hl2 hsz).mono fun e w' ⟨L', d', hs, hb, hc⟩ => by
    obtain ⟨hn, hbl⟩ := hs.newer h.newer hB
    have hh := hs.homes.trans h.homesE
    have hr := hs.ring.trans h.ringE
    have hbd := hs.bd.trans h.bdE
    rw [h.homesE, h.ringE] at hc
    have hat : cErr homes ring ps.flatten = 0 → ∀ k : Nat, k < homes → overG (fullG ps.flatten) (atL ws) k = atL (refL ws ring ps.flatten) k := fun h0 k hk => (refL_at (by rw [hl]; exact h0) k (by rw [hl]; exact hk)).symm
    rcases hc with ⟨h1, he, hu⟩ | ⟨h1, he, hu⟩ | ⟨h1, he, _, hdn⟩
    · have e1 : refL ws ring ps.flatten = ws := by unfold refL; rw [hl, if_neg h1]
      rw [e1]
      exact ⟨_, L', d', he, hs, hbl, .inl ⟨rfl, hu.lup, hh, hr, hbd, hn, .inl hu⟩⟩
    · exact ⟨_, L', d', he, hs, hbl, .inl ⟨h1.symm, hu.lup, hh, hr, hbd, hn, .inl (hu.congr (fun k hk => hat h1 k (by rw [← hh]; exact hk)))⟩⟩
    · refine ⟨_, L', d', he, hs, hbl, .inr ⟨rfl, h1, hdn.ldn, hh, hr, hbd, hn, .inr ⟨hdn.at_, hdn.dk, hdn.ldn, hdn.dn, hdn.falls.mono (Nat.le_refl _) (fun V hV => ?_)⟩⟩⟩
      rcases hV with rfl | rfl
      · exact .inl (fun k _ => rfl)
      · exact .inr (fun k hk => hat h1 k hk)
/-- a checkpoint -/
theorem Fl.checkpoint (h : Fl B w bl L d N homes ring bd ws wm) (hN : N < 4611686018427387904) (hB : B ≤ w.heap.size) :
    Calls Tryd.prog 18 #[.pointer (some ⟨bl, 0, none⟩)] w fun e w' => ∃ c L' d', e = .returned (.int .i64 c) ∧ LogStep bl w L w' L' ∧ Below B w w' ∧ (c = 0 ∨ (c = 3 ∧ L'.down = true)) ∧ Fl B w' bl L' d' N homes ring bd ws wm := by
  cases hd : L.down with
  | true =>
    refine (checkpoint_down h.at_ hd).mono fun e w' ⟨he, hw⟩ => ?_
    subst hw
    exact ⟨3, L, d, he, LogStep.refl h.at_, Below.refl _ _, .inr ⟨rfl, hd⟩, h⟩
  | false =>
    refine (checkpoint_any (h.up hd) hN).mono fun e w' ⟨L', d', hs, hb, hc⟩ => ?_
    obtain ⟨hn, hbl⟩ := hs.newer h.newer hB
    have hh := hs.homes.trans h.homesE
    have hr := hs.ring.trans h.ringE
    have hbd := hs.bd.trans h.bdE
    rcases hc with ⟨he, hu, _⟩ | ⟨he, _, hdn⟩
    · exact ⟨0, L', d', he, hs, hbl, .inl rfl, hh, hr, hbd, hn, .inl hu⟩
    · exact ⟨3, L', d', he, hs, hbl, .inr ⟨rfl, hdn.ldn⟩, hh, hr, hbd, hn, .inr ⟨hdn.at_, hdn.dk, hdn.ldn, hdn.dn, hdn.falls.mono (Nat.le_refl _) (fun V hV => .inl (fun k _ => by rw [hV]))⟩⟩
/-- so many steps more -/
theorem Fl.fuel (h : Fl B w bl L d N homes ring bd ws wm) (n : Int) (hn : n ≤ 9223372036854775807) (hB : B ≤ w.heap.size) :
    Calls Tryd.prog 21 #[.pointer (some ⟨bd, 0, none⟩), .int .i64 n] w fun e w' => e = .returned (.tuple #[]) ∧ ∃ L', LogStep bl w L w' L' ∧ Below B w w' ∧ L'.down = L.down ∧ Fl B w' bl L' (d.setFuel n) N homes ring bd ws wm := by
  rw [← h.bdE]
  refine (diskFuel_any h.at_.disk h.dk n hn).mono fun e w' ⟨he, D', hs, hd⟩ => ⟨he, { L with D := D' }, ?_⟩
  have hst := h.at_.disk_step hs
  obtain ⟨hnw, hbl⟩ := hst.newer h.newer hB
  have hh := hst.homes.trans h.homesE
  refine ⟨hst, hbl, rfl, hh, h.ringE, rfl, hnw, ?_⟩
  rcases h.st with hu | hdn
  · obtain ⟨s, r, h1, h2⟩ := hu.dur
    refine .inl ⟨hst.at_, hd, hu.lup, hu.up, hu.clean, ⟨s, r, ?_, ?_⟩, hu.seq⟩
    · rw [hst.homes]; exact h1
    · rw [hst.homes]; exact h2
  · refine .inr ⟨hst.at_, hd, hdn.ldn, hdn.dn, ?_⟩
    rw [hst.homes]
    exact hdn.falls
end
/-- a log's disk between a fall and an opening -/
structure Felled (B : Nat) (w : World) (bl : Nat) (L : LogS) (d : Dk) (N homes ring bd : Nat) (W : Int → ByteArray) : Prop where
  at_ : LogAt w bl L
  dk : DkOf L.D d
  homesE : L.homes = homes
  ringE : L.ring = ring
  bdE : L.bd = bd
  newer : Newer L bl B
  up : d.down = false
  clean : d.writes = []
  bears : Bears d.firm ring homes N W
theorem Fl.fall {B : Nat} {w : World} {bl : Nat} {L : LogS} {d : Dk} {N homes ring bd : Nat} {ws wm : List ByteArray} (h : Fl B w bl L d N homes ring bd ws wm) (hB : B ≤ w.heap.size) {keep : List Bool} {v : Value} (hk : BoolsAt w B v keep) :
    Calls Tryd.prog 20 #[.pointer (some ⟨bd, 0, none⟩), v] w fun e w' => e = .returned (.tuple #[]) ∧ ∃ L' d' W, LogStep bl w L w' L' ∧ Below B w w' ∧ (Agr homes W ws ∨ Agr homes W wm) ∧ Felled B w' bl L' d' N homes ring bd W := by
  obtain ⟨a, b, off, cap, rfl, ha, hc⟩ := hk
  rw [← h.bdE]
  have hbf : ∀ (x : Nat), x < B → x ≠ L.D.bf := fun x hx e => by
    have := h.newer L.D.bf (.inr (.inr (.inr (.inl rfl))))
    omega
  refine (fall5_any h.at_ h.dk keep a b off cap (fun h0 => ⟨(ha h0).1, by have := (ha h0).2; omega, hbf b (ha h0).2⟩) hc).mono fun e w' ⟨he, D', hst, hd⟩ => ?_
  obtain ⟨W, hW, hb⟩ := fall_bears h.falls keep
  obtain ⟨hnw, hbl⟩ := hst.newer h.newer hB
  exact ⟨he, _, _, W, hst, hbl, hW, hst.at_, hd, hst.homes.trans h.homesE, h.ringE, rfl, hnw, rfl, rfl, hb⟩
theorem Felled.fuel {B : Nat} {w : World} {bl : Nat} {L : LogS} {d : Dk} {N homes ring bd : Nat} {W : Int → ByteArray} (h : Felled B w bl L d N homes ring bd W) (n : Int) (hn : n ≤ 9223372036854775807) (hB : B ≤ w.heap.size) :
    Calls Tryd.prog 21 #[.pointer (some ⟨bd, 0, none⟩), .int .i64 n] w fun e w' => e = .returned (.tuple #[]) ∧ ∃ L' d', LogStep bl w L w' L' ∧ Below B w w' ∧ Felled B w' bl L' d' N homes ring bd W := by
  rw [← h.bdE]
  refine (diskFuel_any h.at_.disk h.dk n hn).mono fun e w' ⟨he, D', hs, hd⟩ => ⟨he, { L with D := D' }, d.setFuel n, ?_⟩
  have hst := h.at_.disk_step hs
  obtain ⟨hnw, hbl⟩ := hst.newer h.newer hB
  exact ⟨hst, hbl, hst.at_, hd, hst.homes.trans h.homesE, h.ringE, rfl, hnw, h.up, h.clean, h.bears⟩
theorem Felled.open {B : Nat} {w : World} {bl : Nat} {L : LogS} {d : Dk} {N homes ring bd : Nat} {W : Int → ByteArray} (h : Felled B w bl L d N homes ring bd W) (hN : N < 4611686018427387904) (hB : B ≤ w.heap.size) (h1 : 1 ≤ homes) :
    Calls Tryd.prog 11 #[.pointer (some ⟨bd, 0, none⟩), .int .i64 ring] w fun e w' => ∃ bl' L', e = .returned (.tuple #[.pointer (some ⟨bl', 0, none⟩), .int .i64 0]) ∧ Open5 w w' bd L.D d ring N W bl' L' ∧ L'.homes = homes ∧ Newer L' bl' B ∧ Below B w w' := by
  have hr := h.at_.ring
  have hsz : L.D.size = ring + 1 + homes := by
    have e : L.homes = L.D.size - 1 - L.ring := rfl
    have e1 := h.homesE
    have e2 := h.ringE
    omega
  have hat : DiskAt w bd L.D := by rw [← h.bdE]; exact h.at_.disk
  refine (open5_any hat h.dk h.up h.clean ring (by rw [← h.ringE]; exact hr.1) (by rw [← h.ringE]; exact hr.2.1) hsz h1 hN h.bears).mono fun e w' ⟨bl', L', he, ho⟩ => ?_
  obtain ⟨hn, hb⟩ := ho.newer (B := B) (fun k hk => h.newer k (.inr (.inr (by rw [h.bdE]; exact hk)))) hB
  exact ⟨bl', L', he, ho, by rw [ho.homes, hsz]; omega, hn, hb⟩
theorem Txt.opened {B : Nat} {w w' : World} {bl bl' : Nat} {L L' : LogS} {d : Dk} {N ring bd : Nat} {W : Int → ByteArray} {v : Value} {ws : List ByteArray} (h : Txt B w bl L v ws) (hbd : L.bd = bd) (ho : Open5 w w' bd L.D d ring N W bl' L') : Txt B w' bl' L' v ws := by
  have hn : ∀ q, v.ownBlock = some q → ¬ L.D.foot bd q := fun q hq hf => h.apart q hq (.inr (.inr (by rw [hbd]; exact hf)))
  refine ⟨ho.keep.ownsRow h.row (fun q hq => hn q hq), fun q hq hf => ?_⟩
  rcases ho.own q hf with e | e
  · exact hn q hq e
  · have := (World.ownsRow.lt h.row q hq).2
    omega
end Go.Proofs.YtnfdplhcpiknpaaDoor
