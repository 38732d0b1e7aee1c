/-
  text of layer 8; BlobBig, walked.
-/
import Derived.Test.YtoajdccdhjlikaaDoorBPages
namespace Go.Proofs.YtoajdccdhjlikaaDoor
open Go.RowKit Go.MapKept
set_option maxRecDepth 100000

theorem bsize_of (l : List UInt8) : (⟨l.toArray⟩ : ByteArray).size = l.length := by show l.toArray.size = _; simp
/-- a row of n bytes of the call's own, nothing else turned -/
def ByteRow (w : World) (n : Nat) (wr : World) : Prop :=
  (∃ l : List UInt8, l.length = n ∧ wr.heap[w.heap.size]? = some (.cells (l.map (fun c => Value.int .u8 (c.toNat : Int))).toArray 5 (0, 0))) ∧ Below w.heap.size w wr
theorem ByteRow.set {w wr : World} {n k : Nat} (h : ByteRow w n wr) (c : Int) (h0 : 0 ≤ c) (h1 : c < 256) : ByteRow w n (wr.setCell ⟨w.heap.size, k, none⟩ (.int .u8 c)) := by
  obtain ⟨⟨l, hl, hg⟩, hb⟩ := h
  refine ⟨⟨l.set k (UInt8.ofNat c.toNat), by simp [hl], ?_⟩, hb.setCell (p := ⟨w.heap.size, k, none⟩) (Nat.le_refl _) _⟩
  have e : max c 0 % 256 = c := by omega
  simp [World.setCell, Array.getElem?_modify, hg, List.map_set, e]
theorem ByteRow.cell {w wr : World} {n k : Nat} (h : ByteRow w n wr) (hk : k < n) : (∃ v, wr.cell? ⟨w.heap.size, k, none⟩ = some v) ∧ wr.frozen? ⟨w.heap.size, k, none⟩ = false := by
  obtain ⟨⟨l, hl, hg⟩, hb⟩ := h
  refine ⟨⟨.int .u8 ((l[k]'(by omega)).toNat : Int), ?_⟩, ?_⟩
  · rw [Lib.cell_of_heap hg]
    simp [hl, hk]
  · simp [World.frozen?, hg]
theorem ByteRow.bytes {w wr : World} {n : Nat} (h : ByteRow w n wr) : ∃ s : ByteArray, s.size = n ∧ Lib.Bytes wr w.heap.size 0 s := by
  obtain ⟨⟨l, hl, hg⟩, hb⟩ := h
  refine ⟨⟨l.toArray⟩, by rw [← hl]; exact bsize_of l, fun i hi => ?_⟩
  have hi2 : i < l.length := by rw [← bsize_of l]; exact hi
  rw [Nat.zero_add, Lib.cell_of_heap hg]
  simp [hi2]
  rfl
theorem ByteRow.made (w : World) (n : Nat) : ByteRow w n (w.alloc (.cells (madeCells #[.int .u8 0] n) 5)) := by
  refine ⟨⟨List.replicate n 0, by simp, ?_⟩, (Below.refl _ _).alloc (Nat.le_refl _) _⟩
  rw [heap_alloc_new]
  have e : madeCells #[.int .u8 0] n = ((List.replicate n (0 : UInt8)).map (fun c => Value.int .u8 (c.toNat : Int))).toArray := by
    apply Array.ext
    · simp [size_madeCells]
    · intro i h1 h2
      simp [madeCells]
      rw [Nat.mod_one]; rfl
  rw [e]
def SomeText (n : Nat) (w : World) (e : Ending) (w' : World) : Prop := ∃ s : ByteArray, s.size = n ∧ e = .returned (.string s) ∧ Below w.heap.size w w'
set_option maxHeartbeats 1000000 in
theorem text_any (n : Nat) (hn : n ≤ 1000000) (c : Int) (hc0 : 0 ≤ c) (hc1 : c < 256) (w : World) :
    Calls Tryd.prog 25 #[.int .i64 n, .int .u8 c] w (SomeText n w) := by
  obtain ⟨l1, _⟩ := mk_bytes n (by omega) w
  have HB := Lib.hid (ByteRow.made w n)
  go_enter Tryd.func25, Tryd.ntmps25
  go_wp2
  go_loopw [1, 11] (fun t i wr => ∃ (k : Nat) (z : Int), k ≤ n ∧ i = .int .i64 k ∧ t = .int .u8 z ∧ 0 ≤ z ∧ z < 256 ∧ ByteRow w n wr) (fun _ i _ => n - (intOf i).toNat)
  case atStart => exact ⟨0, c, by omega, rfl, rfl, hc0, hc1, HB.out⟩
  case round =>
    obtain ⟨k, z, hk, rfl, rfl, hz0, hz1, hrow⟩ := hrel
    by_cases hlt : k < n
    · have g1 : decide (k < n) = true := by simpa using hlt
      obtain ⟨⟨v, q1⟩, q2⟩ := hrow.cell hlt
      have HR := Lib.hid (hrow.set (k := k) z hz0 hz1)
      have hk0 : (0 : Int) ≤ (k : Int) := by omega
      have hk1 : (k : Int) < (n : Int) := by omega
      clear hrow
      go_wp2
      refine ⟨⟨k + 1, (z * 5 % 256 + 7) % 256, by omega, by go_num, rfl, by omega, by omega, HR.out⟩, by simp only [intOf]; omega⟩
    · obtain rfl : k = n := by omega
      have g1 : decide (k < k) = false := by simp
      obtain ⟨s, hs, hby⟩ := hrow.bytes
      have l2 := fun u (hu : Lib.Bytes u w.heap.size 0 s) c => Lib.run_convert_whole (P := Tryd.prog) u 86 5 9 Tryd.underlying86 Tryd.underlying5 Tryd.underlying9 w.heap.size 0 s hu c
      have l3 := l2 _ hby k
      rw [hs] at l3
      have HB2 := Lib.hid hrow.2
      have HS := Lib.hid hs
      clear l2 hrow hs hby l1
      go_wp2
      go_ret
      exact ⟨s, HS.out, rfl, HB2.out⟩
theorem pagesOf_270 : (pagesOf 270).toNat = 268 := by decide
theorem wf_i8 {z : Int} (h : (Lit.int .i8 z).wf = true) : -128 ≤ z ∧ z ≤ 127 := by
  have h2 : (decide (-128 ≤ z) && decide (z ≤ 127)) = true := h
  simpa using h2
set_option maxHeartbeats 4000000 in
theorem big_walk (more : Int) (hw : (Lit.int .i8 more).wf = true) (w : World) :
    Calls Tryd.prog 5 #[.int .i8 more] w fun e w' => e = .returned (.bool true) ∧ Below w.heap.size w w' := by
  obtain ⟨hm0, hm1⟩ := wf_i8 hw
  obtain ⟨n, hn⟩ : ∃ n : Nat, 131072 + more = (n : Int) := ⟨(131072 + more).toNat, by omega⟩
  have HA := Lib.hid (awake8_any w)
  have HW := Lib.hid (fun u => wide_view 270 (by omega) (by omega) u)
  have HT := Lib.hid (fun u => text_any n (by omega) 1 (by omega) (by omega) u)
  have w1 : IntKind.i64.wrap more = more := wrapI (by omega) (by omega)
  have HN := Lib.hid hn
  have hn2 : 131072 + more = (n : Int) := hn
  clear hw hn
  go_enter Tryd.func5, Tryd.ntmps5
  go_wp2_with (first
    | (go_at_call 22; refine (HA.out).mono ?_; rintro e w1 ⟨rfl, hb1⟩
       have HB1 := Lib.hid hb1
       clear hb1)
    | (go_at_call 13; refine (HW.out _).mono ?_; rintro e w2 ⟨bd, bl, rfl, hv, hb2⟩
       have HV := Lib.hid (begin_fresh hv)
       have HB2 := Lib.hid (HB1.out.trans (hb2.mono HB1.out.size))
       clear hv hb2)
    | (go_at_call 15; refine (HV.out).mono ?_; rintro e w3 ⟨bt, T, rfl, hT, hA, ho, hb3⟩
       have HO := Lib.hid (of_fresh hA (by omega) hT)
       have HB3 := Lib.hid (HB2.out.trans (hb3.mono HB2.out.size))
       have HOw := Lib.hid ho
       clear hT hA ho hb3)
    | (go_at_call 14; refine (HO.out).mono ?_; rintro e w4 ⟨br, R0, rfl, hA, hF, ho, hb4⟩
       have H0 : RoomOn w w4 br R0 := ⟨hA, HB3.out.trans (hb4.mono HB3.out.size), fun k hk => Nat.le_trans HB2.out.size (HOw.out k (ho k hk))⟩
       have HOn := Lib.hid H0
       have HF := Lib.hid hF
       clear hA hF ho hb4 H0)
    | (go_at_call 25; refine (HT.out _).mono ?_; rintro e w5 ⟨s, hs, rfl, hb5⟩
       have HOn5 := Lib.hid (HOn.out.still hb5)
       have HS := Lib.hid hs
       clear hb5 hs))
  have hpg : R0.pages = 268 := by rw [HF.out.pages]; exact pagesOf_270
  have hl0 : R0.T.puts.length = 0 := by rw [HF.out.puts]; rfl
  by_cases hpos : 0 < more
  · have g1 : decide (0 < more) = true := by simpa using hpos
    have HP := Lib.hid (putP_big HOn5.out.at_ s (by have := HS.out; omega))
    have HU := Lib.hid (fun u (hu : RoomOn w u br R0) => on_used hu)
    rw [HF.out.used] at HU
    clear hpg hl0 hpos
    go_wp2_with (first
      | (go_at_call 26; refine (HP.out).mono ?_; rintro e w6 ⟨rfl, hb6⟩
         have HO6 := Lib.hid (HOn5.out.still hb6)
         clear hb6)
      | (go_at_call 27; refine (HU.out _ HO6.out).mono ?_; rintro e w7 ⟨rfl, ho7⟩
         have HO7 := Lib.hid ho7
         clear ho7))
    go_ret
    exact ⟨rfl, HO7.out.below⟩
  · have g1 : decide (0 < more) = false := by simpa using hpos
    have hsz : s.size ≤ 131072 := by have := HS.out; omega
    have HP := Lib.hid (putP_any HOn5.out.at_ (by omega) s hsz)
    have hpb := pagesB_le s.size hsz
    have HSz := Lib.hid hsz
    clear hpos hsz
    go_wp2_with (fail)
    refine (HP.out).mono ?_
    rintro e w6 (⟨R1, ps, rfl, hst, htook, hb, a, ha, hal⟩ | ⟨R1, rfl, hst, hc, _⟩)
    · have hpl : ps.length = pagesB s.size := hb.len
      have hpg0 : R0.pages ≤ R0.maps * 4096 := HOn.out.at_.pages_le
      have hu1 : R1.used = pagesB s.size := by rw [htook.used hpg0 hst.maps, HF.out.used, hpl]; omega
      have h1 : RoomOn w w6 br R1 := HOn5.out.step2 hst
      have HU := Lib.hid (fun u (hu : RoomOn w u br R1) => on_used hu)
      rw [hu1] at HU
      have HG := Lib.hid (fun u (hu : RoomOn w u br R1) => get_ok hu.at_ hb HSz.out)
      have hal2 : R1.T.puts.length ≤ 800 := by
        rw [ha, List.length_append]
        omega
      have HD := Lib.hid (fun u (hu : RoomOn w u br R1) => drop_ok hu.at_ (by omega) hb HSz.out)
      have HRf := Lib.hid (fun u => (ref8Pages s.size (by have := HSz.out; omega) u))
      rw [pagesI_nat] at HRf
      have H1 := Lib.hid h1
      generalize ps.getD 0 0 = p0 at *
      generalize pagesB s.size = pb at *
      clear hpl hpg0 hu1 h1 hst htook hb ha hal hal2 hpg hl0
      go_wp2_with (first
        | (go_at_call 27; refine (HU.out _ H1.out).mono ?_; rintro e w7 ⟨rfl, ho7⟩
           have HO7 := Lib.hid ho7
           clear ho7)
        | (go_at_call 28; refine (HG.out _ HO7.out).mono ?_; rintro e w8 ⟨rfl, hb8⟩
           have HO8 := Lib.hid (HO7.out.still hb8)
           clear hb8)
        | (go_at_call 24; refine (HRf.out _).mono ?_; rintro e w9 ⟨rfl, rfl⟩)
        | (go_at_call 29; refine (HD.out _ HO8.out).mono ?_; rintro e w10 ⟨rfl, R2, hst2, hg2, a2, ha2, hal2⟩
           have HO10 := Lib.hid (HO8.out.step2 hst2)
           clear hst2 hg2 ha2 hal2))
      go_ret
      exact ⟨rfl, HO10.out.below⟩
    · exfalso
      rw [hpg, cnt_congr (g := fun _ => false) (fun q _ => HF.out.has q), cnt_none] at hc
      omega
end Go.Proofs.YtoajdccdhjlikaaDoor
