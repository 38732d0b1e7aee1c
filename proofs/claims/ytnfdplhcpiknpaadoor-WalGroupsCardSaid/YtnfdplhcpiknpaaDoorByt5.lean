/-
  THE LAWS of layer 5: groups of one home, of one byte; a log without limit that falls.
-/
import Derived.Test.YtnfdplhcpiknpaaDoorFal5
namespace Go.Proofs.YtnfdplhcpiknpaaDoor
open Go.RowKit Go.MapKept
attribute [local go_sem] gives givesH
set_option maxRecDepth 100000

/-- a fall, and what the disk bears then -/
theorem LogIn.fall {B : Nat} {w : World} {bl : Nat} {L : LogS} {d : Dk} {N homes ring : Nat} {W : Int → ByteArray} (h : LogIn B w bl L d N homes ring W) (hB : B ≤ w.heap.size) (keep : List Bool) (a : Option Addr) (b off cap : Nat) (ha : 0 < keep.length → a = some ⟨b, off, none⟩ ∧ b < w.heap.size ∧ ¬ L.foot bl b)
    (hc : ∀ k, k < keep.length → w.cell? ⟨b, off + k, none⟩ = some (.bool (keep.getD k false))) :
    Calls Tryd.prog 20 #[.pointer (some ⟨L.bd, 0, none⟩), .slice a keep.length cap] w fun e w' => e = .returned (.tuple #[]) ∧ ∃ L', LogStep bl w L w' L' ∧ Below B w w' ∧ Felled B w' bl L' (d.fall keep) N homes ring L.bd W := by
  have hbe := h.up.bears
  rw [h.ring, h.homes] at hbe
  refine (fall5_any h.up.at_ h.up.dk keep a b off cap (fun h0 => ⟨(ha h0).1, (ha h0).2.1, fun e => (ha h0).2.2 (.inr (.inr (.inr (.inl e))))⟩) hc).mono fun e w' ⟨he, D', hst, hd⟩ => ?_
  obtain ⟨V, hV, hb⟩ := fall_bears (FallsTo.of_clean h.up.clean hbe) keep
  subst hV
  obtain ⟨hnw, hbl⟩ := hst.newer h.newer hB
  exact ⟨he, _, hst, hbl, hst.at_, hd, hst.homes.trans h.homes, h.ring, rfl, hnw, rfl, rfl, hb⟩
theorem one_err (ring : Nat) (hr : 3 ≤ ring) (c : Nat) (hc : c < 20) (s : ByteArray) (hs : s.size ≤ 512) : cErr 20 ring [((c : Int), s)] = 0 := by
  have hg : gErr 20 [((c : Int), s)] = 0 := by
    show (if (c : Int) < 0 ∨ ((20 : Nat) : Int) ≤ (c : Int) then (2 : Int) else if 512 < s.size then 5 else 0) = 0
    rw [if_neg (by omega), if_neg (by omega)]
  unfold cErr
  rw [if_neg (by rw [hg]; decide)]
  have hm : (metL [((c : Int), s)]).length = 1 := rfl
  rw [hm, if_neg (by show ¬ ring < secs 1 + 1; unfold secs; omega)]
def byteS (i : Nat) : ByteArray := ⟨#[UInt8.ofNat i]⟩
theorem byteS_conv (u : World) (b c : Nat) (hc : c < 256) (h : u.heap[b]? = some (.cells #[.int .u8 c] 5 (0, 0))) (cap : Nat) :
    (convert 45 9 (.slice (some ⟨b, 0, none⟩) 1 cap)).run Tryd.prog u = .ok (.string (byteS c)) u := by
  refine Lib.run_convert_whole (P := Tryd.prog) u 45 5 9 Tryd.underlying45 Tryd.underlying5 Tryd.underlying9 b 0 (byteS c) (fun i hi => ?_) cap
  have h1 : i = 0 := by have : (byteS c).size = 1 := rfl; omega
  subst h1
  have h2 : ((byteS c)[0]'hi).toNat = c := by
    show (UInt8.ofNat c).toNat = c
    simp
    omega
  rw [h2]
  simp [World.cell?, h]
/-- the three blocks of a put of one byte -/
def byteW (w : World) (a : Int) (c : Nat) : World := ((w.alloc (Obj.cells #[.int .u8 c] 5)).alloc (Obj.cells #[.int .i64 a, .string (byteS c)] 47)).alloc (Obj.cells #[.slice (some ⟨w.heap.size + 1, 0, none⟩) 1 1] 48)
theorem byteW_lists (w : World) (a : Int) (c : Nat) : ListsAt (byteW w a c) (byteW w a c).heap.size (.slice (some ⟨w.heap.size + 1 + 1, 0, none⟩) 1 1) [[(a, byteS c)]] ∧ Below w.heap.size w (byteW w a c) := by
  unfold byteW
  obtain ⟨n1, n2, n3, nb⟩ := new3 w (Obj.cells #[.int .u8 c] 5) (Obj.cells #[.int .i64 a, .string (byteS c)] 47) (Obj.cells #[.slice (some ⟨w.heap.size + 1, 0, none⟩) 1 1] 48)
  obtain ⟨w3, hw3⟩ : ∃ w3, ((w.alloc (Obj.cells #[.int .u8 c] 5)).alloc (Obj.cells #[.int .i64 a, .string (byteS c)] 47)).alloc (Obj.cells #[.slice (some ⟨w.heap.size + 1, 0, none⟩) 1 1] 48) = w3 := ⟨_, rfl⟩
  have hsz : w3.heap.size = w.heap.size + 3 := by rw [← hw3]; simp
  rw [hw3] at n1 n2 n3 nb ⊢
  refine ⟨.inr ⟨⟨w.heap.size + 1 + 1, 0, none⟩, w.heap.size + 1 + 1, 0, 1, fun _ => .slice (some ⟨w.heap.size + 1, 0, none⟩) 1 1, rfl, fun _ => ⟨rfl, by omega⟩, fun k p hp => ?_⟩, nb⟩
  have hk : k = 0 := by have := (List.getElem?_eq_some_iff.1 hp).1; simp at this; omega
  subst hk
  have hp2 : p = [(a, byteS c)] := by simpa using hp.symm
  subst hp2
  refine ⟨by simp [World.cell?, n3], .inr ⟨⟨w.heap.size + 1, 0, none⟩, w.heap.size + 1, 0, 1, rfl, fun _ => ⟨rfl, by omega⟩, fun k x hx => ?_⟩⟩
  have hk : k = 0 := by have := (List.getElem?_eq_some_iff.1 hx).1; simp at this; omega
  subst hk
  have hx2 : x = (a, byteS c) := by simpa using hx.symm
  subst hx2
  exact ⟨by simp [World.cell?, n2], by simp [World.cell?, n2]⟩
theorem overG_one (a : Int) (s : ByteArray) (W : Int → ByteArray) (j : Int) : overG (fullG [(a, s)]) W j = if j = a then fullS s else W j := by
  unfold overG fullG
  have h : lastOf [(a, s)] j = if j = a then some s else none := by
    by_cases hj : j = a
    · subst hj; rw [if_pos rfl]; simp [lastOf]
    · rw [if_neg hj]; simp [lastOf]; exact fun e => hj e.symm
  rw [h]
  by_cases hj : j = a
  · rw [if_pos hj, if_pos hj]; rfl
  · rw [if_neg hj, if_neg hj]; rfl
/-- a group of one byte -/
theorem LogIn.commitByte {B : Nat} {w : World} {bl : Nat} {L : LogS} {d : Dk} {N ring : Nat} {W : Int → ByteArray} (h : LogIn B w bl L d N 20 ring W) (hN : N < 4611686018427387904) (hB : B ≤ w.heap.size) (hr : 3 ≤ ring) (a c : Nat) (ha : a < 20) :
    Calls Tryd.prog 13 #[.pointer (some ⟨bl, 0, none⟩), .slice (some ⟨w.heap.size + 1 + 1, 0, none⟩) 1 1] (byteW w a c) fun e w' => e = .returned (.int .i64 0) ∧ ∃ L' d', LogIn B w' bl L' d' (N + 1) 20 ring (fun j => if j = (a : Int) then fullS (byteS c) else W j) ∧ LogStep bl (byteW w a c) L w' L' ∧ Below B w w' := by
  obtain ⟨hl, hb⟩ := byteW_lists w a c
  have hce := one_err ring hr a ha (byteS c) (by show (1 : Nat) ≤ 512; decide)
  refine ((h.still hb).commitW hN (Nat.le_trans hB hb.size) hl (by show (1 : Nat) ≤ _; decide) (by show (1 : Nat) ≤ _; decide) (fun x hx => ?_)).mono fun e w' ⟨he, L', d', h1, h2, h3⟩ => ?_
  · have hx2 : x = ((a : Int), byteS c) := by simpa using hx
    subst hx2
    show (1 : Nat) ≤ _
    decide
  · have e1 : [[((a : Int), byteS c)]].flatten = [((a : Int), byteS c)] := rfl
    rw [e1, hce] at he
    unfold comW at h1
    rw [e1, if_pos hce] at h1
    have e2 : overG (fullG [((a : Int), byteS c)]) W = (fun j => if j = (a : Int) then fullS (byteS c) else W j) := funext fun j => overG_one _ _ _ _
    rw [e2] at h1
    exact ⟨he, L', d', h1, h2, (hb.mono hB).trans h3⟩
end Go.Proofs.YtnfdplhcpiknpaaDoor
