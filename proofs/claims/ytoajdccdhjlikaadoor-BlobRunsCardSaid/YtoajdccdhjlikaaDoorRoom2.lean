/-
  ROOMS (room): turn, free, Alloc.
-/
import Derived.Test.YtoajdccdhjlikaaDoorRoom1
import Derived.Test.YtoajdccdhjlikaaDoorBits
namespace Go.Proofs.YtoajdccdhjlikaaDoor
open Go.RowKit Go.MapKept
attribute [local go_sem] gives givesH
set_option maxRecDepth 100000

theorem TxAt.read_size {w : World} {bt : Nat} {T : TxS} (h : TxAt w bt T) (i : Int) : (T.read i).size = 512 := by
  unfold TxS.read
  by_cases hp : posns T.puts i = []
  · rw [seen_none _ _ _ hp]; exact h.log.size i
  · obtain ⟨hk, hpk⟩ := seen_last T.puts T.f i _ _ (List.dropLast_concat_getLast hp).symm
    exact (h.good _ (List.mem_of_getElem? hpk)).2.2
theorem RoomAt.home_size {w : World} {br : Nat} {R : RoomS} (h : RoomAt w br R) (i : Int) : (R.home i).size = 512 := h.tx.read_size i
theorem fullS_same (s : ByteArray) (h : s.size = 512) : fullS s = s := by
  unfold fullS
  rw [h]
  apply ByteArray.ext
  simp

theorem turn_any {w : World} {br : Nat} {R : RoomS} (h : RoomAt w br R) (hlen : R.T.puts.length < 1000000000000) (p : Nat) (hp : p < R.pages) :
    Calls Tryd.prog 53 #[.pointer (some ⟨br, 0, none⟩), .int .i64 p] w fun e w' => e = .returned (.int .i64 0) ∧ ∃ R', RoomStep br w R w' R' ∧
      R'.T.puts = R.T.puts ++ [(((1 + p / 4096 : Nat) : Int), xorAt (R.home (1 + p / 4096 : Nat)) (p % 4096 / 8) (2 ^ (p % 8)))] := by
  have hf := h.fit
  have hn := h.tx.log.small
  have hp2 : p < 1073741824 := by omega
  obtain ⟨H, hH⟩ : ∃ H, H = 1 + p / 4096 := ⟨_, rfl⟩
  obtain ⟨K, hK⟩ : ∃ K, K = p % 4096 / 8 := ⟨_, rfl⟩
  obtain ⟨M, hM⟩ : ∃ M, M = 2 ^ (p % 8) := ⟨_, rfl⟩
  have B := Lib.hid (fun w => bit_any p H K M hp2 hH hK hM w)
  have hHn : H < R.T.n := by omega
  have HM := Lib.hid (fun u (hu : RoomAt u br R) => home_in hu hHn)
  have hK5 : K < 512 := by omega
  rw [← hH, ← hK, ← hM]
  have hsz : (R.home H).size = 512 := h.home_size _
  have hM8 : M < 256 := by rw [hM]; exact pow8_lt p
  generalize hs : R.home H = s at *
  have HHs := Lib.hid hs
  have HR := Lib.hid h
  clear h hf hH hK hM hs
  go_enter Tryd.func53, Tryd.ntmps53
  go_wp2_with (first
    | (go_at_call 66; refine (B.out _).mono ?_; rintro e w1 ⟨rfl, hb1⟩
       have HR1 := Lib.hid (HR.out.still hb1)
       have HB1 := Lib.hid hb1
       clear hb1)
    | (go_at_call 57; refine (HM.out _ HR1.out).mono ?_; rintro e w2 ⟨rfl, hb2⟩
       have HR2 := Lib.hid (HR1.out.still hb2)
       have HB2 := Lib.hid hb2
       obtain ⟨c, w3, hcv, hb3, hz3, hc3, ⟨cs, hcs, hcl⟩, hcell⟩ := conv_bytes (P := Tryd.prog) w2 9 86 5 s Tryd.underlying9 Tryd.underlying86 Tryd.underlying5
       have hk3 := hcell K (by omega)
       rw [byteN_get] at hk3
       have f3 : w3.frozen? ⟨w2.heap.size, K, none⟩ = false := by simp [World.frozen?, hcs]; omega
       have hx := bits_xor_u8 (byteN s K) M (byteN_lt _ _) hM8
       have hK0 : (0 : Int) ≤ (K : Int) := by omega
       have hK1 : (K : Int) < 512 := by omega
       have HCs := Lib.hid hcs
       have HCell := Lib.hid hcell
       have HB3 := Lib.hid hb3
       have HZ3 := Lib.hid hz3
       rw [hsz] at hcv
       clear hb2 hcs hcell hb3 hz3))
  have hbW : Below w.heap.size w (w3.setCell ⟨w2.heap.size, K, none⟩ (.int .u8 (byteN s K ^^^ M : Nat))) := by
    have b2 := HB1.out.trans (HB2.out.mono HB1.out.size)
    have b3 := b2.trans (HB3.out.mono b2.size)
    exact b3.setCell (p := ⟨w2.heap.size, K, none⟩) b2.size _
  have hBy : Lib.Bytes (w3.setCell ⟨w2.heap.size, K, none⟩ (.int .u8 (byteN s K ^^^ M : Nat))) w2.heap.size 0 (xorAt s K M) := by
    intro i hi
    rw [xorAt_size] at hi
    rw [Nat.zero_add, byteN_get _ i (by rw [xorAt_size]; exact hi), byteN_xorAt _ _ _ _ hM8 (by omega)]
    by_cases hik : i = K
    · subst hik
      rw [if_pos rfl]
      exact World.cell?_setCell_same (h := hk3) ..
    · have hne : (⟨w2.heap.size, K, none⟩ : Addr) ≠ ⟨w2.heap.size, i, none⟩ := fun e => hik (by cases e; rfl)
      rw [if_neg hik, World.cell?_setCell_other (h := hne) .., HCell.out i hi, byteN_get]
  have HRW := Lib.hid (HR.out.still hbW)
  have HBW := Lib.hid hbW
  have HBy := Lib.hid hBy
  clear hbW hBy hcv hk3 f3 hx
  generalize w3.setCell ⟨w2.heap.size, K, none⟩ (.int .u8 (byteN s K ^^^ M : Nat)) = W at *
  have hx5 : (xorAt s K M).size = 512 := by rw [xorAt_size]; exact hsz
  have HW := Lib.hid (txWrite_ok (HRW.out.tx) hlen (i := (H : Int)) (by omega) (xorAt s K M) (by omega))
  rw [fullS_same _ hx5] at HW
  have HCV := Lib.hid (fun u (hu : Lib.Bytes u w2.heap.size 0 (xorAt s K M)) => Lib.run_convert_whole (P := Tryd.prog) u 86 5 9 Tryd.underlying86 Tryd.underlying5 Tryd.underlying9 w2.heap.size 0 (xorAt s K M) hu c)
  rw [hx5] at HCV
  generalize hs2 : xorAt s K M = s2 at *
  have HS2 := Lib.hid hs2
  clear hs2
  have hHn2 : (H : Int) < 65536 := by omega
  obtain ⟨S, hS⟩ : ∃ S : World → Prop, ∀ u, S u ↔ Keep (fun _ => False) (W) u := ⟨fun u => Keep (fun _ => False) (W) u, fun _ => Iff.rfl⟩
  have HS := Lib.hid hS
  clear hS
  refine wp_region_ord 7 [(0, true), (1, true), (2, true), (3, true), (4, true), (5, true), (6, true)] S (by kernel_rfl) (by kernel_rfl) ((HS.out _).2 (Keep.refl _ _).drew) ?_
  iterate 7
    first
      | (refine wpH_passed rfl (by rfl) (fun K hK => ?_); go_simp; refine hK _ ?_; clear hK K)
      | (first
           | refine wpH_read rfl rfl (fun K hK => ?_)
           | refine wpH_readw rfl (by rfl) (fun K hK => ?_)
         apply Exists.intro
         refine ⟨fun u hu => ?_, ?_⟩
         · have hu := (HS.out u).1 hu
           obtain ⟨⟨c0, c1, c2⟩, _⟩ := tCells (hu.at HRW.out.cells (fun e => e))
           have l1 := HCV.out u (fun i hi => (World.cell?_of_block (hu.block _ (World.block_lt_of_cell? _ _ (HBy.out i hi)) (fun e => e))).trans (HBy.out i hi))
           clear hu
           go_simp
           exact ⟨rfl, rfl⟩
         go_simp
         refine hK _ ?_
         clear hK K)
  refine wpH_nil ?_
  simp only [List.drop_succ_cons, List.drop_zero]
  have HWd := Lib.hid (txWrite_ok ((HRW.out.tx).keep (Keep.refl (fun _ => False) W).drew (fun _ _ e => e)) hlen (i := (H : Int)) (by omega) s2 (by omega))
  rw [fullS_same _ hx5] at HWd
  clear S HS HCV HBy HW
  go_wp2_with (go_at_call 54; refine (HWd.out).mono ?_; rintro e w5 ⟨rfl, T', hst, hpp⟩)
  go_ret
  refine ⟨rfl, R.turned T', ?_, by rw [HS2.out]; exact hpp⟩
  have hbd : Below w.heap.size w W.drew := HBW.out.drew
  exact (RoomStep.still HR.out hbd).trans ((HR.out.still hbd).step hst)
end Go.Proofs.YtoajdccdhjlikaaDoor
