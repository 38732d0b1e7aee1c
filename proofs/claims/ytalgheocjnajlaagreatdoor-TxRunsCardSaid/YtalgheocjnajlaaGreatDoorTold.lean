/-
  told, read, recover (of a log of noughts) and Open.
-/
import Derived.Test.YtalgheocjnajlaaGreatDoorLog
namespace Go.Proofs.YtalgheocjnajlaaGreatDoor
open Go.RowKit Go.MapKept
attribute [local go_sem] gives

def stepT (x : Nat) (c : UInt8) : Nat := x * 256 % 18446744073709551616 + c.toNat
def toldN (s : ByteArray) : Nat := s.data.toList.foldl stepT 0
theorem stepT_lt (x : Nat) (c : UInt8) : stepT x c < 18446744073709551616 := by unfold stepT; have := c.toNat_lt; omega
theorem foldT_lt (l : List UInt8) : l.foldl stepT 0 < 18446744073709551616 := by
  have h : ∀ (l : List UInt8) (x : Nat), x < 18446744073709551616 → l.foldl stepT x < 18446744073709551616 := by
    intro l
    induction l with
    | nil => intro x h; exact h
    | cons c l ih => intro x _; exact ih _ (stepT_lt x c)
  exact h l 0 (by decide)
theorem foldT_take (s : ByteArray) (k : Nat) (h : k < s.size) : (s.data.toList.take (k + 1)).foldl stepT 0 = stepT ((s.data.toList.take k).foldl stepT 0) s[k] := by
  have hl : k < s.data.toList.length := by simpa using h
  rw [List.take_succ_eq_append_getElem hl, List.foldl_append]
  rfl

theorem orT (x : Nat) (c : UInt8) : bits .or .u64 (IntKind.u64.wrap ((x : Int) * 256)) (c.toNat : Int) = ((stepT x c : Nat) : Int) := by
  have e1 : IntKind.u64.wrap ((x : Int) * 256) = ((x * 256 % 18446744073709551616 : Nat) : Int) := by rw [IntKind.wrap_u64]; omega
  have hc := c.toNat_lt
  rw [e1, bits_or_u64_nat _ _ (by omega) (by omega)]
  unfold stepT
  have e2 : x * 256 % 18446744073709551616 = (x % 72057594037927936) * 2 ^ 8 := by omega
  rw [e2, Nat.mul_comm, ← Nat.two_pow_add_eq_or_of_lt (by omega)]

set_option maxRecDepth 100000
set_option maxHeartbeats 800000 in
theorem told_any (s : ByteArray) (hs : s.size ≤ 9223372036854775807) (w : World) :
    Calls Tryz.prog 50 #[.string s] w fun e w' => e = .returned (.int .u64 (toldN s)) ∧ w = w' := by
  go_enter Tryz.func50, Tryz.ntmps50
  go_wp2
  go_loopw [3, 7] (fun z i wr => (∃ k : Nat, k ≤ s.size ∧ i = .int .i64 k ∧ z = .int .u64 ((s.data.toList.take k).foldl stepT 0 : Nat)) ∧ w = wr) (fun _ i _ => s.size - (intOf i).toNat)
  case atStart => exact ⟨⟨0, by omega, rfl, rfl⟩, rfl⟩
  case round =>
    obtain ⟨⟨k, hk, rfl, rfl⟩, rfl⟩ := hrel
    by_cases hlt : k < s.size
    · have HS := Lib.hid (foldT_take s k hlt)
      have ho := orT ((s.data.toList.take k).foldl stepT 0) s[k]
      generalize (s.data.toList.take k).foldl stepT 0 = z at *
      have hi0 : (0 : Int) ≤ (k : Int) := by omega
      have hi1 : (k : Int) < (s.size : Int) := by omega
      go_wp2
      refine ⟨⟨⟨k + 1, by omega, by go_num, ?_⟩, trivial⟩, by simp only [intOf]; omega⟩
      have hc := s[k].toNat_lt
      rw [HS.out, show IntKind.u64.wrap (s[k].toNat : Int) = (s[k].toNat : Int) by rw [IntKind.wrap_u64]; omega, ho]
    · obtain rfl : k = s.size := by omega
      have hsz : (s.data.toList.take s.size).foldl stepT 0 = toldN s := by
        rw [List.take_of_length_le (by simp)]; rfl
      rw [hsz]
      clear hsz
      generalize hz : toldN s = z at *
      have HZ := Lib.hid hz
      clear hz
      go_wp2
      go_ret
      exact ⟨by rw [HZ.out]; rfl, rfl⟩

/-- reading a place of the ring -/
theorem logRing_any {w : World} {bl : Nat} {L : LogS} (h : LogAt w bl L) (hdd : L.D.down = false) (at_ : Nat) (ha : at_ < 4611686018427387904) :
    Calls Tryz.prog 84 #[.pointer (some ⟨bl, 0, none⟩), .int .i64 at_] w fun e w' => e = .returned (.tuple #[.string (L.D.read (1 + (at_ % L.ring : Nat))), .int .i64 0]) ∧ Below w.heap.size w w' := by
  have hr := h.ring
  have hsz := h.disk.size
  have hm : at_ % L.ring < L.ring := Nat.mod_lt _ (by omega)
  have H4 := Lib.hid (fun u (hu : LogAt u bl L) => diskRead_any hu.disk (i := 1 + (at_ % L.ring : Nat)) (keyOk (by omega) (by omega)))
  have H5 := Lib.hid (logSay_any bl 0 (by decide))
  have ds : L.D.says (1 + (at_ % L.ring : Nat)) = .tuple #[.string (L.D.read (1 + (at_ % L.ring : Nat))), .int .i64 0] := by
    have hin : 0 ≤ 1 + ((at_ % L.ring : Nat) : Int) ∧ 1 + ((at_ % L.ring : Nat) : Int) < L.D.size := by omega
    unfold DiskS.says; rw [hdd, if_pos hin]; rfl
  rw [ds] at H4
  have e1 : (at_ : Int).tmod (L.ring : Int) = ((at_ % L.ring : Nat) : Int) := by rw [Int.tmod_eq_emod_of_nonneg (by omega)]; rfl
  have e2 : IntKind.i64.wrap ((at_ % L.ring : Nat) : Int) = ((at_ % L.ring : Nat) : Int) := wrapI (by omega) (by omega)
  have e3 : IntKind.i64.wrap (1 + ((at_ % L.ring : Nat) : Int)) = 1 + ((at_ % L.ring : Nat) : Int) := wrapI (by omega) (by omega)
  have e4 : ¬ (L.ring : Int) = 0 := by omega
  have e5 : ¬ L.ring = 0 := by omega
  have hring : (0 : Int) < L.ring := by omega
  generalize hp : 1 + ((at_ % L.ring : Nat) : Int) = place at *
  generalize L.D.read place = sd at *
  generalize at_ % L.ring = m at *
  obtain ⟨C, hC⟩ : ∃ C : World → Prop, ∀ u, C u ↔ Below (w).heap.size (w) u := ⟨fun u => Below (w).heap.size (w) u, fun _ => Iff.rfl⟩
  have F : ∀ u, C u → LogAt u bl L := fun u hu => by
    have hu := (hC u).1 hu
    exact h.still hu
  have step : ∀ u u', C u → Below u.heap.size u u' → C u' := fun u u' hu hb => (hC u').2 (((hC u).1 hu).trans (hb.mono ((hC u).1 hu).size))
  have HC := Lib.hid hC
  have FF := Lib.hid F
  clear hC F
  go_enter Tryz.func84, Tryz.ntmps84
  go_wp2
  refine wp_region_inv 16 C (by kernel_rfl) (by kernel_rfl) ((HC.out _).2 (Below.refl _ _).drew) ?_
  simp only [List.take_succ_cons, List.take_zero, List.drop_succ_cons, List.drop_zero]
  repeat
    first
    | (refine wpInv_plain rfl (fun K hK => ?_)
       apply Exists.intro
       refine ⟨fun u hu => ?_, ?_⟩
       · have HU := Lib.hid hu
         obtain ⟨c0, c1, c2, c3, c4, c5, c6, c7⟩ := lCells (FF.out u hu).cells
         clear hu
         go_simp
         first
           | exact ⟨HU.out, rfl⟩
           | (go_at_call 48; with_reducible refine (H4.out u (FF.out u HU.out)).mono ?_; rintro e w' ⟨rfl, hb⟩; exact ⟨rfl, step _ _ HU.out hb⟩)
       go_simp
       refine hK _ ?_
       clear hK K)
    | (refine wpInv_passed (by rfl) (fun K hK => ?_); go_simp; refine hK _ ?_; clear hK K)
    | (refine wpInv_wanted (by rfl) (fun K hK => ?_)
       apply Exists.intro
       refine ⟨fun u hu => ?_, ?_⟩
       · have HU := Lib.hid hu
         obtain ⟨c0, c1, c2, c3, c4, c5, c6, c7⟩ := lCells (FF.out u hu).cells
         clear hu
         go_simp
         first
           | exact ⟨HU.out, rfl⟩
           | (go_at_call 48; with_reducible refine (H4.out u (FF.out u HU.out)).mono ?_; rintro e w' ⟨rfl, hb⟩; exact ⟨rfl, step _ _ HU.out hb⟩)
       go_simp
       refine hK _ ?_
       clear hK K)
  refine wpInv_nil ?_
  intro w' hw'
  go_wp2_with (go_at_call 58; refine (H5.out _).mono ?_; rintro e w1 ⟨rfl, rfl⟩)
  go_ret2
  exact ⟨rfl, (HC.out _).1 hw'⟩

theorem zeros_at (n i : Nat) (h : i < n) : (zeros n).data.toList[i]? = some 0 := by
  simp [zeros, h]

set_option maxHeartbeats 400000 in
theorem recover_zeros {w : World} {bl : Nat} {L : LogS} (h : LogAt w bl L) (hdd : L.D.down = false) (hn : L.next < 4611686018427387904) (hz : L.D.read (1 + (L.next % L.ring : Nat)) = zeros 512) :
    Calls Tryz.prog 51 #[.pointer (some ⟨bl, 0, none⟩)] w fun e w' => e = .returned (.tuple #[.bool false, .int .i64 0]) ∧ Below w.heap.size w w' := by
  have H1 := Lib.hid (fun u (hu : LogAt u bl L) => logRing_any hu hdd L.next hn)
  rw [hz] at H1
  obtain ⟨c0, c1, c2, c3, c4, c5, c6, c7⟩ := lCells h.cells
  have hs : (zeros 512).size = 512 := zeros_size 512
  have hz0 : (zeros 512)[0]'(by rw [hs]; decide) = 0 := by simp [zeros, ByteArray.getElem_eq_getElem_data]
  generalize hzz : zeros 512 = z at *
  have l13 : 13 ≤ z.size := by omega
  have l0 : 0 < z.size := by omega
  have hx : ∀ a b, (z.extract a b).size ≤ 9223372036854775807 := fun a b => by rw [ByteArray.size_extract]; omega
  have H2 := Lib.hid (fun a b => told_any (z.extract a b) (hx a b))
  clear hx
  obtain ⟨C, hC⟩ : ∃ C : World → Prop, ∀ u, C u ↔ Below (w).heap.size (w) u := ⟨fun u => Below (w).heap.size (w) u, fun _ => Iff.rfl⟩
  have F : ∀ u, C u → LogAt u bl L := fun u hu => by
    have hu := (hC u).1 hu
    exact h.still hu
  have step : ∀ u u', C u → Below u.heap.size u u' → C u' := fun u u' hu hb => (hC u').2 (((hC u).1 hu).trans (hb.mono ((hC u).1 hu).size))
  have HC := Lib.hid hC
  have FF := Lib.hid F
  clear hC F
  go_enter Tryz.func51, Tryz.ntmps51
  go_wp2_with (first
    | (go_at_call 84; refine (H1.out _ h).mono ?_; rintro e w1 ⟨rfl, hb⟩)
    | (go_at_call 50; with_reducible refine (H2.out _ _ _).mono ?_; rintro e w2 ⟨rfl, rfl⟩))
  go_quiet (fail)
  go_wp2
  go_ret2
  exact ⟨rfl, hb.trans ⟨rfl, rfl, rfl, Nat.le_refl _, fun _ _ => rfl⟩⟩

end Go.Proofs.YtalgheocjnajlaaGreatDoor
