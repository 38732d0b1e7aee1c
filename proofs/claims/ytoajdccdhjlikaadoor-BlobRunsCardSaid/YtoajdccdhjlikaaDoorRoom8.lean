/-
  ROOMS (room): SetRoot.
-/
import Derived.Test.YtoajdccdhjlikaaDoorRoom7
namespace Go.Proofs.YtoajdccdhjlikaaDoor
open Go.RowKit Go.MapKept
attribute [local go_sem] gives givesH
set_option maxRecDepth 100000

/-- the first j of a number's eight bytes, the greatest first -/
def be (n j : Nat) : List UInt8 := (List.range j).map (fun t => UInt8.ofNat (n / 2 ^ (56 - 8 * t) % 256))
theorem be_succ (n j : Nat) : be n (j + 1) = be n j ++ [UInt8.ofNat (n / 2 ^ (56 - 8 * j) % 256)] := by
  unfold be
  rw [List.range_succ, List.map_append]
  rfl
theorem be_length (n j : Nat) : (be n j).length = j := by unfold be; simp
theorem byteCells_snoc (l : List UInt8) (c : UInt8) : Lib.byteCells (l ++ [c]) = Lib.byteCells l ++ [.int .u8 (c.toNat : Int)] := by simp [Lib.byteCells]
theorem isB_drew {B b : Nat} {bs : List Value} {w : World} (h : IsB B b bs w) : IsB B b bs w.drew :=
  h.imp (fun ⟨a, v, hb, ho, hn⟩ => ⟨a, v, hb, ho.drew, hn⟩) (fun ⟨a, v, hb, ho, hn⟩ => ⟨a, v, hb, ho.drew, hn⟩)
theorem strCells_eq (s : ByteArray) : Lib.strCells s = Lib.byteCells s.data.toList := by simp [Lib.strCells, Lib.byteCells]
theorem byteCells_append (a b : List UInt8) : Lib.byteCells (a ++ b) = Lib.byteCells a ++ Lib.byteCells b := by simp [Lib.byteCells]
theorem Keep.over {B : Nat} {w w' : World} (h : Below B w w') : Keep (fun k => B ≤ k) w w' := ⟨h.os, h.tape, h.output, h.size, fun k _ hn => h.block k (by omega)⟩
/-- home 0 with another number at place k -/
def setRootS (s : ByteArray) (k n : Nat) : ByteArray := ⟨((s.extract 0 (8 * k)).data.toList ++ be n 8 ++ (s.extract (8 * k + 8) s.size).data.toList).toArray⟩

theorem ext_len (s : ByteArray) (a b : Nat) (h : b ≤ s.size) : (s.extract a b).data.toList.length = b - a := by
  have : (s.extract a b).size = b - a := by rw [ByteArray.size_extract]; omega
  rw [← this, Array.length_toList]
  rfl
theorem setRootS_size {s : ByteArray} (hs : s.size = 512) {k : Nat} (hk : k < 16) (n : Nat) : (setRootS s k n).size = 512 := by
  show ((s.extract 0 (8 * k)).data.toList ++ be n 8 ++ (s.extract (8 * k + 8) s.size).data.toList).toArray.size = 512
  rw [List.size_toArray, List.length_append, List.length_append, ext_len _ _ _ (by omega), ext_len _ _ _ (Nat.le_refl _), be_length]
  omega

set_option maxHeartbeats 2000000 in
theorem setRoot_any {w : World} {br : Nat} {R : RoomS} (h : RoomAt w br R) (hlen : R.T.puts.length < 1000000000000) (k : Nat) (hk : k < 16) (n : Nat) (hn : n < 18446744073709551616) :
    Calls Tryd.prog 18 #[.pointer (some ⟨br, 0, none⟩), .int .i64 k, .int .u64 n] w fun e w' => e = .returned (.int .i64 0) ∧ ∃ R', RoomStep br w R w' R' ∧
      R'.T.puts = R.T.puts ++ [(((0 : Nat) : Int), setRootS (R.home 0) k n)] := by
  have HM := Lib.hid (home_in h h.pos)
  have hsz : (R.home ((0 : Nat) : Int)).size = 512 := h.home_size _
  have e1 : decide ((k : Int) < 0) = false := by simp
  have e2 : decide ((16 : Int) ≤ (k : Int)) = false := by simp; omega
  have hg : R.home 0 = R.home ((0 : Nat) : Int) := rfl
  rw [hg]
  generalize hs : R.home ((0 : Nat) : Int) = s at *
  obtain ⟨q, hq⟩ : ∃ q, q = 8 * k := ⟨_, rfl⟩
  have e5 : (8 : Int) * (k : Int) = (q : Int) := by omega
  have e6 : (q : Int) + 8 = ((q + 8 : Nat) : Int) := by omega
  have hq0 : (0 : Int) ≤ (q : Int) := by omega
  have hq1 : (q : Int) ≤ 120 := by omega
  have hk16 : (k : Int) < 16 := by omega
  have HR := Lib.hid h
  have HQ := Lib.hid hq
  have HS0 := Lib.hid hs
  have HN := Lib.hid hn
  clear h hg hq hs hn e6
  go_enter Tryd.func18, Tryd.ntmps18
  go_wp2_with (fail)
  refine (HM.out).mono ?_
  rintro e w1 ⟨rfl, hb1⟩
  have HB1 := Lib.hid hb1
  clear hb1
  have hf0 : IsB w1.heap.size w1.heap.size [] (w1.alloc (.cells #[.pointer none, .slice none 0 0] 105)) := Lib.fresh_isBuilder _ _ w1
  have A1 := Lib.hid (writeString_any hf0 (by simp) (s.extract 0 q) (by rw [ByteArray.size_extract]; simp; omega))
  clear hf0
  go_wp2_with (fail)
  refine (A1.out).mono ?_
  rintro e w2 ⟨rfl, hi2, hb2, ho2⟩
  have hbb : Below w1.heap.size w1 w2 := ((Below.refl _ _).alloc (Nat.le_refl _) _).trans (hb2.mono (Nat.le_refl _))
  have HI2 := Lib.hid hi2
  have HB2 := Lib.hid hbb
  clear hi2 hb2 ho2 hbb
  go_wp2
  go_loopw [10] (fun i wr => ∃ j : Nat, j ≤ 8 ∧ i = .int .i64 (56 - 8 * (j : Int)) ∧ IsB w1.heap.size w1.heap.size (Lib.strCells (s.extract 0 q) ++ Lib.byteCells (be n j)) wr ∧ Below w1.heap.size w1 wr) (fun i _ => (intOf i + 16).toNat)
  case atStart => exact ⟨0, by omega, rfl, by have := HI2.out; simpa [be, Lib.byteCells] using this, HB2.out⟩
  case round =>
    obtain ⟨j, hj, rfl, hib, hbj⟩ := hrel
    have HIB := Lib.hid hib
    have HBJ := Lib.hid hbj
    clear hib hbj
    by_cases hlt : j < 8
    · obtain ⟨sh, hsh⟩ : ∃ sh : Nat, (56 : Int) - 8 * (j : Int) = (sh : Int) := ⟨56 - 8 * j, by omega⟩
      rw [hsh]
      have hshn : sh = 56 - 8 * j := by omega
      have f1 : decide ((0 : Int) ≤ (sh : Int)) = true := by simp
      have hsh56 : sh ≤ 56 := by omega
      have HSH := Lib.hid hsh
      have HSN := Lib.hid hshn
      clear hsh hshn
      have hcl : (Lib.strCells (s.extract 0 q) ++ Lib.byteCells (be n j)).length ≤ 1000 := by
        rw [List.length_append, Lib.strCells_length, ByteArray.size_extract]
        simp [Lib.byteCells, be_length]
        omega
      have A2 := Lib.hid (writeByte_any HIB.out (Nat.le_trans (Nat.le_refl _) HBJ.out.size) (by omega) ((n : Int) / 2 ^ sh % 256))
      have hce : ((n : Int) / 2 ^ sh % 256) = ((UInt8.ofNat (n / 2 ^ sh % 256)).toNat : Int) := by
        have h1 : (n / 2 ^ sh % 256) < 256 := Nat.mod_lt _ (by decide)
        have h2 : (UInt8.ofNat (n / 2 ^ sh % 256)).toNat = n / 2 ^ sh % 256 := by simp
        rw [h2]
        simp
      have HCE := Lib.hid hce
      clear hcl hce
      go_wp2_with (fail)
      refine (A2.out).mono ?_
      rintro e w3 ⟨rfl, hi3, hb3, ho3⟩
      rw [HCE.out, List.append_assoc, ← byteCells_snoc] at hi3
      have hi4 : IsB w1.heap.size w1.heap.size (Lib.strCells (s.extract 0 q) ++ Lib.byteCells (be n (j + 1))) w3 := by
        rw [be_succ, ← HSN.out]; exact hi3
      have HI4 := Lib.hid hi4
      have HB4 := Lib.hid (HBJ.out.trans hb3)
      clear hi3 hi4 hb3 ho3
      go_wp2
      go_roundw
      case rel => exact ⟨j + 1, by omega, by have := HSH.out; congr 1; omega, HI4.out, HB4.out⟩
      case measure => simp [intOf]; omega
    · obtain rfl : j = 8 := by omega
      rw [show (56 : Int) - 8 * ((8 : Nat) : Int) = -8 by omega]
      have hcl : (Lib.strCells (s.extract 0 q) ++ Lib.byteCells (be n 8)).length ≤ 1000 := by
        rw [List.length_append, Lib.strCells_length, ByteArray.size_extract]
        simp [Lib.byteCells, be_length]
        omega
      have A3 := Lib.hid (writeString_any HIB.out (Nat.le_trans (Nat.le_refl _) HBJ.out.size) (s.extract (q + 8) 512) (by rw [ByteArray.size_extract]; omega))
      have e7 : (q : Int) + 8 = ((q + 8 : Nat) : Int) := by omega
      clear hcl e7
      go_wp2_with (fail)
      refine (A3.out).mono ?_
      rintro e w4 ⟨rfl, hi4, hb4, ho4⟩
      rw [strCells_eq, strCells_eq, ← byteCells_append, ← byteCells_append] at hi4
      have hl2 : setRootS s k n = ⟨((s.extract 0 q).data.toList ++ be n 8 ++ (s.extract (q + 8) 512).data.toList).toArray⟩ := by
        unfold setRootS
        rw [← HQ.out, hsz]
      generalize (s.extract 0 q).data.toList ++ be n 8 ++ (s.extract (q + 8) 512).data.toList = l at *
      have HL2 := Lib.hid hl2
      have HI5 := Lib.hid (isB_drew hi4)
      have hbw : Below w1.heap.size w1 w4 := HBJ.out.trans hb4
      have HBW := Lib.hid hbw
      have HRW := Lib.hid (HR.out.still (HB1.out.trans (hbw.mono HB1.out.size)))
      have HSt := Lib.hid (fun (hB : w1.heap.size ≤ w4.drew.heap.size) => Tryd.Builder_String_any_k w1.heap.size w1.heap.size l w4.drew (Lib.IsBuilderF.of HI5.out) hB)
      clear hi4 hb4 ho4 hbw hl2
      go_wp2
      obtain ⟨S, hS⟩ : ∃ S : World → Prop, ∀ u, S u ↔ Keep (fun k => w1.heap.size ≤ k) (w4) u := ⟨fun u => Keep (fun k => w1.heap.size ≤ k) (w4) u, fun _ => Iff.rfl⟩
      have HS := Lib.hid hS
      clear hS
      refine wp_region_ord 5 [(0, true), (1, true), (2, true), (3, true), (4, false)] S (by kernel_rfl) (by kernel_rfl) ((HS.out _).2 (Keep.refl _ _).drew) ?_
      iterate 4
        first
          | (refine wpH_passed rfl (by rfl) (fun K hK => ?_); go_simp; refine hK _ ?_; clear hK K)
          | (first
               | refine wpH_read rfl rfl (fun K hK => ?_)
               | refine wpH_readw rfl (by rfl) (fun K hK => ?_)
             apply Exists.intro
             refine ⟨fun u hu => ?_, ?_⟩
             · have hu := (HS.out u).1 hu
               obtain ⟨⟨c0, c1, c2⟩, _⟩ := tCells (hu.at HRW.out.cells (fun e => by have h1 := HB1.out.size; have h2 := (Array.getElem?_eq_some_iff.1 HR.out.cells).1; omega))
               clear hu
               go_simp
               exact ⟨rfl, rfl⟩
             go_simp
             refine hK _ ?_
             clear hK K)
      refine wpH_do rfl rfl (fun K hK => ?_)
      go_simp
      go_at_call 60
      refine (HSt.out (Nat.le_trans HBW.out.size (Nat.le_refl _))).mono ?_
      rintro e u5 ⟨rfl, hi5, hb5, ho5⟩
      have HB5 := Lib.hid (HBW.out.drew.trans hb5)
      refine hK _ _ ((HS.out _).2 ((Keep.refl _ _).drew.trans (Keep.over hb5) (fun _ _ h => h))) ?_
      clear hK K hi5 hb5 ho5
      refine wpH_nil ?_
      simp only [List.drop_succ_cons, List.drop_zero]
      clear S HS
      have hl5 : (⟨l.toArray⟩ : ByteArray).size = 512 := by rw [← HL2.out]; exact setRootS_size hsz hk n
      have hbu : Below w.heap.size w u5 := HB1.out.trans (HB5.out.mono HB1.out.size)
      have HU := Lib.hid (HR.out.still hbu)
      have HW := Lib.hid (txWrite_ok HU.out.tx hlen (i := 0) ⟨by omega, by have := HU.out.pos; omega⟩ ⟨l.toArray⟩ (by omega))
      rw [fullS_same _ hl5] at HW
      have HBU := Lib.hid hbu
      clear hbu hl5
      go_wp2_with (go_at_call 54; refine (HW.out).mono ?_; rintro e w6 ⟨rfl, T', hst, hpp⟩)
      go_ret
      exact ⟨rfl, R.turned T', (RoomStep.still HR.out HBU.out).trans (HU.out.step hst), by rw [HL2.out]; exact hpp⟩
end Go.Proofs.YtoajdccdhjlikaaDoor
