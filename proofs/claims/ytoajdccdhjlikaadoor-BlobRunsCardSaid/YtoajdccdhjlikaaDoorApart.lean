/-
  RoomApart, walked.
-/
import Derived.Test.YtoajdccdhjlikaaDoorAwake7b
import Derived.Test.YtoajdccdhjlikaaDoorRoom9
namespace Go.Proofs.YtoajdccdhjlikaaDoor
open Go.RowKit Go.MapKept
set_option maxRecDepth 100000

/-- page 0 is ours: taken, of this text; number 3 is n -/
def Ours (w0 w : World) (br : Nat) (tx : ByteArray) (n c : Nat) : Prop :=
  ∃ R, RoomOn w0 w br R ∧ R.pages = 18 ∧ R.maps = 1 ∧ R.has 0 = true ∧ R.text 0 = tx ∧ R.root 3 = n ∧ R.T.puts.length ≤ c
theorem Ours.still {w0 w u : World} {br : Nat} {tx : ByteArray} {n c : Nat} (h : Ours w0 w br tx n c) (hb : Below w.heap.size w u) : Ours w0 u br tx n c := by
  obtain ⟨R, h1, r⟩ := h
  exact ⟨R, h1.still hb, r⟩
theorem Ours.mono {w0 w : World} {br : Nat} {tx : ByteArray} {n c c' : Nat} (h : Ours w0 w br tx n c) (hc : c ≤ c') : Ours w0 w br tx n c' := by
  obtain ⟨R, h1, h2, h3, h4, h5, h6, h7⟩ := h
  exact ⟨R, h1, h2, h3, h4, h5, h6, by omega⟩
theorem Ours.below {w0 w : World} {br : Nat} {tx : ByteArray} {n c : Nat} (h : Ours w0 w br tx n c) : Below w0.heap.size w0 w := by
  obtain ⟨R, h1, _⟩ := h
  exact h1.below
theorem same_views {R R' : RoomS} (hl : Like R R') (hp : R'.T.puts = R.T.puts) : (∀ q, R'.has q = R.has q) ∧ (∀ q, R'.text q = R.text q) ∧ ∀ k, R'.root k = R.root k := by
  have hh := home_same hl.f hp
  refine ⟨fun q => ?_, fun q => ?_, fun k => ?_⟩
  · unfold RoomS.has bitOf; rw [hh]
  · unfold RoomS.text; rw [hl.maps, hh]
  · unfold RoomS.root; rw [hh]
theorem Ours.alloc {w0 w : World} {br : Nat} {tx : ByteArray} {n c : Nat} (h : Ours w0 w br tx n c) (hc : c < 100000) :
    Calls Tryd.prog 16 #[.pointer (some ⟨br, 0, none⟩)] w fun e w' => ∃ r x : Int, e = .returned (.tuple #[.int .i64 r, .int .i64 x]) ∧ Ours w0 w' br tx n (c + 2) := by
  obtain ⟨R, h1, h2, h3, h4, h5, h6, h7⟩ := h
  refine (on_alloc_any h1 (by omega)).mono fun e w' ⟨r, x, R', he, hr, hl, ha⟩ => ⟨r, x, he, R', hr, hl.pages.trans h2, hl.maps.trans h3, ?_⟩
  rcases ha with rfl | ⟨p, hp, h0, ha⟩
  · exact ⟨h4, h5, h6, by omega⟩
  · have hp0 : p ≠ 0 := fun e => by rw [e, h4] at h0; cases h0
    obtain ⟨ex, p1, p2⟩ := ha.puts
    refine ⟨by rw [ha.has 0 (by omega), h4]; simp, ?_, by rw [ha.root]; exact h6, by rw [p1, List.length_append]; omega⟩
    rw [ha.text 0 (by omega), if_neg (fun e => hp0 e.symm)]; exact h5
theorem Ours.free {w0 w : World} {br : Nat} {tx : ByteArray} {n c : Nat} (h : Ours w0 w br tx n c) (hc : c < 100000) (i : Int) (hi : i ≠ 0) :
    Calls Tryd.prog 19 #[.pointer (some ⟨br, 0, none⟩), .int .i64 i] w fun e w' => ∃ x : Int, e = .returned (.int .i64 x) ∧ Ours w0 w' br tx n (c + 2) := by
  obtain ⟨R, h1, h2, h3, h4, h5, h6, h7⟩ := h
  refine (on_free_any h1 (by omega) i).mono fun e w' ⟨R', he, hr, hl, ha⟩ => ⟨_, he, R', hr, hl.pages.trans h2, hl.maps.trans h3, ?_⟩
  rcases ha with ⟨_, rfl⟩ | ⟨p, rfl, hp, h0, ha⟩
  · exact ⟨h4, h5, h6, by omega⟩
  · have hp0 : p ≠ 0 := fun e => hi (by rw [e]; rfl)
    obtain ⟨ex, p1, p2⟩ := ha.puts
    refine ⟨?_, by rw [ha.text 0 (by omega)]; exact h5, by rw [ha.root]; exact h6, by rw [p1, List.length_append]; omega⟩
    rw [ha.has 0 (by omega), h4, decide_eq_false (fun e => hp0 e.symm)]; rfl
theorem Ours.write {w0 w : World} {br : Nat} {tx : ByteArray} {n c : Nat} (h : Ours w0 w br tx n c) (hc : c < 100000) (i : Int) (hi : i ≠ 0) (s : ByteArray) (hs : s.size ≤ 9223372036854775807) :
    Calls Tryd.prog 17 #[.pointer (some ⟨br, 0, none⟩), .int .i64 i, .string s] w fun e w' => ∃ x : Int, e = .returned (.int .i64 x) ∧ Ours w0 w' br tx n (c + 2) := by
  obtain ⟨R, h1, h2, h3, h4, h5, h6, h7⟩ := h
  refine (on_write_any h1 (by omega) i s hs).mono fun e w' ⟨x, R', he, hr, hl, ha⟩ => ⟨x, he, R', hr, hl.pages.trans h2, hl.maps.trans h3, ?_⟩
  rcases ha with hp | ⟨p, rfl, hp, h0, ha⟩
  · obtain ⟨v1, v2, v3⟩ := same_views hl hp
    exact ⟨(v1 0).trans h4, (v2 0).trans h5, (v3 3).trans h6, by rw [hp]; omega⟩
  · have hp0 : p ≠ 0 := fun e => hi (by rw [e]; rfl)
    obtain ⟨ex, p1, p2⟩ := ha.puts
    refine ⟨(ha.has 0 (by omega)).trans h4, ?_, by rw [ha.root]; exact h6, by rw [p1, List.length_append]; omega⟩
    rw [ha.text 0 (by omega), if_neg (fun e => hp0 e.symm)]; exact h5
end Go.Proofs.YtoajdccdhjlikaaDoor
