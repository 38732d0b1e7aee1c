/-
  awake of layer 8; BlobPages.
-/
import Derived.Test.YtoajdccdhjlikaaDoorBlob4
import Derived.Laws.OwnMore
import Derived.Laws.MakeOwn
namespace Go.Proofs.YtoajdccdhjlikaaDoor
open Go.RowKit Go.MapKept
attribute [local go_sem] gives givesH
set_option maxRecDepth 100000

/-- make([]byte, n) -/
theorem mk_bytes (n : Nat) (hn : n ≤ 281474976710656) (w : World) :
    (Instr.makeSlice 86 (.int .i64 n) (.int .i64 n)).run Tryd.prog w = .ok (.slice (some ⟨w.heap.size, 0, none⟩) n n) (w.alloc (.cells (madeCells #[.int .u8 0] n) 5)) ∧
      ∀ k, k < n → (w.alloc (.cells (madeCells #[.int .u8 0] n) 5)).cell? ⟨w.heap.size, k, none⟩ = some (.int .u8 0) := by
  obtain ⟨i0, hi, hz0, hz1, hz2⟩ := info_parts infoU8
  refine ⟨?_, fun k hk => ?_⟩
  · have hr := run_make (P := Tryd.prog) w 86 5 i0 (.int .u8 0) Tryd.underlying86 hi hz0 .i64 .i64 n n (by omega) (Int.le_refl _) (by rw [hz2]; omega) (by omega)
    rw [hz1, Int.toNat_natCast, Nat.mul_one] at hr
    exact hr
  · rw [Lib.cell_of_heap (heap_alloc_new w _)]
    simp [madeCells, hk]
    rw [Nat.mod_one]; rfl
theorem bytes_zeros {w : World} {b n : Nat} (h : ∀ k, k < n → w.cell? ⟨b, k, none⟩ = some (.int .u8 0)) : Lib.Bytes w b 0 (zeros n) := by
  intro i hi
  rw [zeros_size] at hi
  rw [Nat.zero_add, byteN_get _ i (by rw [zeros_size]; exact hi), byteN_zeros, h i hi]
  rfl
theorem Took.used {R R1 : RoomS} {ps : List Nat} (h : Took R R1 ps) (hle : R.pages ≤ R.maps * 4096) (hm : R1.maps = R.maps) : R1.used = R.used + ps.length := by
  unfold RoomS.used
  rw [hm, ← cnt_mem ps R.has (R.maps * 4096) h.nodup (fun p hp => by have := (h.new p hp).1; omega) (fun p hp => (h.new p hp).2)]
  exact cnt_congr h.has
theorem Gone.used {R R1 : RoomS} {ps : List Nat} (h : Gone R R1 ps) (hle : R.pages ≤ R.maps * 4096) (hm : R1.maps = R.maps) (hd : ps.Nodup) (hp : ∀ p ∈ ps, p < R.pages ∧ R.has p = true) : R1.used + ps.length = R.used := by
  unfold RoomS.used
  rw [hm, ← cnt_drop ps R.has (R.maps * 4096) hd (fun p hm => by have := (hp p hm).1; omega) (fun p hm => (hp p hm).2)]
  congr 1
  exact cnt_congr h.has
theorem Fresh.used {R : RoomS} {n : Nat} (h : Fresh R n) : R.used = 0 := by
  unfold RoomS.used
  rw [cnt_congr (g := fun _ => false) (fun q _ => h.has q), cnt_none]
theorem RoomOn.step2 {w0 w w' : World} {br : Nat} {R R' : RoomS} (h : RoomOn w0 w br R) (hs : RoomStep br w R w' R') : RoomOn w0 w' br R' := (h.step hs).1
/-- the text of awake -/
def s8 : ByteArray := zeros 507 ++ ⟨#[120]⟩
theorem s8_size : s8.size = 508 := by unfold s8; rw [ByteArray.size_append, zeros_size]; rfl
theorem pagesB_508 : pagesB 508 = 2 := by decide
set_option maxHeartbeats 2000000 in
theorem awake8_any (w : World) : Calls Tryd.prog 22 #[] w fun e w' => e = .returned (.bool true) ∧ Below w.heap.size w w' := by
  have HW := Lib.hid (wide_view 10 (by omega) (by omega) w)
  have hmk : ∀ u, (Instr.makeSlice 86 (.int .i64 507) (.int .i64 507)).run Tryd.prog u = .ok (.slice (some ⟨u.heap.size, 0, none⟩) 507 507) (u.alloc (.cells (madeCells #[.int .u8 0] 507) 5)) ∧
      ∀ k, k < 507 → (u.alloc (.cells (madeCells #[.int .u8 0] 507) 5)).cell? ⟨u.heap.size, k, none⟩ = some (.int .u8 0) := fun u => mk_bytes 507 (by omega) u
  have HMk := Lib.hid hmk
  clear hmk
  have HCv := Lib.hid (fun u b (hu : Lib.Bytes u b 0 (zeros 507)) c => by
    have := Lib.run_convert_whole (P := Tryd.prog) u 86 5 9 Tryd.underlying86 Tryd.underlying5 Tryd.underlying9 b 0 (zeros 507) hu c
    rw [zeros_size] at this
    exact this)
  have hcat : ∀ u, (Op.stringOp .add (zeros 507) ⟨#[120]⟩).run Tryd.prog u = .ok (.string s8) u := fun u => run_string_add_sum (P := Tryd.prog) u (zeros 507) ⟨#[120]⟩ (by rw [zeros_size]; decide)
  have HCat := Lib.hid hcat
  clear hcat
  go_enter Tryd.func22, Tryd.ntmps22
  go_wp2_with (first
    | (go_at_call 13; refine (HW.out).mono ?_; rintro e w2 ⟨bd, bl, rfl, hv, hb2⟩
       have HV := Lib.hid (begin_fresh hv)
       have HB2 := Lib.hid hb2
       clear hv hb2)
    | (go_at_call 15; refine (HV.out).mono ?_; rintro e w3 ⟨bt, T, rfl, hT, hA, ho, hb3⟩
       have HO := Lib.hid (of_fresh hA (by omega) hT)
       have HB3 := Lib.hid (HB2.out.trans (hb3.mono HB2.out.size))
       have HOw := Lib.hid ho
       clear hT hA ho hb3)
    | (go_at_call 14; refine (HO.out).mono ?_; rintro e w4 ⟨br, R0, rfl, hA, hF, ho, hb4⟩
       have H0 : RoomOn w w4 br R0 := ⟨hA, HB3.out.trans (hb4.mono HB3.out.size), fun k hk => Nat.le_trans HB2.out.size (HOw.out k (ho k hk))⟩
       have HOn := Lib.hid H0
       have HF := Lib.hid hF
       have l1 := (HMk.out w4).1
       have l2 := HCv.out _ _ (bytes_zeros (HMk.out w4).2)
       have l3 := HCat.out
       have hb5 : Below w4.heap.size w4 (w4.alloc (.cells (madeCells #[.int .u8 0] 507) 5)) := (Below.refl _ _).alloc (Nat.le_refl _) _
       have H1 := H0.still hb5
       have hP := putP_any H1.at_ (by rw [hF.puts]; decide) s8 (by rw [s8_size]; decide)
       have HP := Lib.hid hP
       have HOn := Lib.hid H1
       have HF := Lib.hid hF
       clear hA hF ho hb4 H0 hb5 H1 hP))
  refine (HP.out).mono ?_
  rintro e w5 (⟨R1, ps, rfl, hst, htook, hb, a, ha, hal⟩ | ⟨R1, rfl, hst, hc, _⟩)
  · have hpl : ps.length = 2 := by rw [hb.len, s8_size]; exact pagesB_508
    have hpg0 : R0.pages ≤ R0.maps * 4096 := HOn.out.at_.pages_le
    have hu1 : R1.used = 2 := by rw [htook.used hpg0 hst.maps, HF.out.used, hpl]
    have h1 : RoomOn w w5 br R1 := HOn.out.step2 hst
    have s8s : s8.size ≤ 131072 := by rw [s8_size]; decide
    have HG := Lib.hid (get_ok h1.at_ hb s8s)
    have HU := Lib.hid (fun u (hu : RoomOn w u br R1) => on_used hu)
    rw [hu1] at HU
    have hal2 : R1.T.puts.length ≤ 6 := by
      rw [ha, List.length_append, HF.out.puts]
      rw [s8_size, pagesB_508] at hal
      simpa using hal
    have HD := Lib.hid (fun u (hu : RoomOn w u br R1) => drop_ok hu.at_ (by omega) hb s8s)
    have HU2 := Lib.hid (fun u R2 (hu : RoomOn w u br R2) (hg : Gone R1 R2 ps) (hm : R2.maps = R1.maps) => by
      have h2 := hg.used h1.at_.pages_le hm hb.nodup hb.pages
      have h3 : R2.used = 0 := by omega
      have := on_used hu
      rw [h3] at this
      exact this)
    have H1 := Lib.hid h1
    generalize ps.getD 0 0 = p0 at *
    clear hpl hpg0 hu1 h1 s8s hst htook hb ha hal hal2 l1 l2 l3
    generalize s8 = ss at *
    go_wp2_with (first
      | (go_at_call 28; refine (HG.out).mono ?_; rintro e w6 ⟨rfl, hb6⟩
         have HO6 := Lib.hid (H1.out.still hb6)
         clear hb6)
      | (go_at_call 27; have _t := HO6; refine (HU.out _ HO6.out).mono ?_; rintro e w7 ⟨rfl, ho7⟩
         have HO7 := Lib.hid ho7
         clear ho7 HO6)
      | (go_at_call 29; refine (HD.out _ HO7.out).mono ?_; rintro e w8 ⟨rfl, R2, hst2, hg2, a2, ha2, hal2⟩
         have HU3 := Lib.hid (HU2.out _ R2 (HO7.out.step2 hst2) hg2 hst2.maps)
         clear hst2 hg2 ha2 hal2)
      | (go_at_call 27; refine (HU3.out).mono ?_; rintro e w9 ⟨rfl, ho9⟩
         have HO9 := Lib.hid ho9
         clear ho9))
    go_ret
    exact ⟨rfl, HO9.out.below⟩
  · exfalso
    have hpg : R0.pages = 8 := by rw [HF.out.pages]; exact pagesOf_10
    rw [s8_size, pagesB_508, hpg, cnt_congr (g := fun _ => false) (fun q _ => HF.out.has q), cnt_none] at hc
    omega
end Go.Proofs.YtoajdccdhjlikaaDoor
