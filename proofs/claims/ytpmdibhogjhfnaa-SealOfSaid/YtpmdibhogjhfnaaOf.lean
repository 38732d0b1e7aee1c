/-
  SealOf: for every text of at most 3000 bytes the seal is the reference's, and a text four bytes of which are turned by the bytes of a number that is not 0 has another check sum. Longer texts: the law answers true at once. No condition.
-/
import Derived.Test.YtpmdibhogjhfnaaJoins
import Derived.Test.YtpmdibhogjhfnaaTurnK
namespace Go.Proofs.Ytpmdibhogjhfnaa
open Go.RowKit
section
attribute [local go_sem] gives

theorem bits_xor_u8 (a b : Nat) (ha : a < 256) (hb : b < 256) : bits .xor .u8 a b = ((a ^^^ b : Nat) : Int) := by
  have ha' : a % 2 ^ IntKind.u8.bits = a := Nat.mod_eq_of_lt ha
  have hb' : b % 2 ^ IntKind.u8.bits = b := Nat.mod_eq_of_lt hb
  have hx : a ^^^ b < 256 := Nat.xor_lt_two_pow (n := 8) ha hb
  simp only [bits, BitVec.ofInt_natCast, BitVec.toNat_xor, BitVec.toNat_ofNat, ha', hb']
  exact wraps_u8 _ (Int.natCast_nonneg _) (by omega)
theorem of_facts (s : ByteArray) (hs : s.size ≤ 3000) : ∃ x1 x2 x4 : Int,
    (∀ w, Calls Try.prog 9 #[.string s] w fun e w' => e = .returned (.agg #[.int .i64 x1, .int .i64 x2, .int .u32 (crc.check (bl s) : Nat), .int .i64 x4]) ∧ Below w.heap.size w w') ∧
    (∀ w, Calls Try.prog 10 #[.string s] w fun e w' => e = .returned (.agg #[.int .i64 x1, .int .i64 x2, .int .u32 (crc.check (bl s) : Nat), .int .i64 x4]) ∧ Below w.heap.size w w') :=
  ⟨_, _, _, of_seal s (by omega), refOf_seal s (by omega)⟩

/-- region 6, alike in both walks: x is the reference's -/
theorem conv_below (w : World) (s : ByteArray) (e : TypeId) : Below w.heap.size w (Lib.bytesWorld w e s) :=
  ⟨rfl, rfl, rfl, by rw [Lib.bytesWorld_size]; omega, fun k hk => Lib.bytesWorld_at_old w e s k hk⟩
theorem conv_bytes (w : World) (s : ByteArray) (e : TypeId) : Lib.Bytes (Lib.bytesWorld w e s) w.heap.size 0 s := by
  intro i hi
  rw [Nat.zero_add, Lib.bytesWorld_cell w e s i hi]
  have : s.data.toList.getD i 0 = s[i] := by
    rw [List.getD_eq_getElem?_getD, List.getElem?_eq_getElem (by simpa using hi)]; rfl
  rw [this]
theorem conv_loose (w : World) (s : ByteArray) (e : TypeId) (j : Nat) (hj : j < s.size) : (Lib.bytesWorld w e s).frozen? ⟨w.heap.size, j, none⟩ = false := by
  simp only [World.frozen?, Lib.bytesWorld_at_new]
  have : s.size ≤ (Lib.bytesCells w e s).size := by simp [Lib.bytesCells]
  simp; omega

set_option maxHeartbeats 1600000 in
theorem of_long (s : ByteArray) (h : 3000 < s.size) (i y : Int) (w : World) :
    Calls Try.prog 3 #[.string s, .int .i64 i, .int .u32 y] w fun e w' => e = .returned (.bool true) ∧ Below w.heap.size w w' := by
  have hl : (3000 : Int) < (s.size : Int) := by omega
  go_enter Try.func3, Try.ntmps3
  go_wp2_with (go_at_call 8; refine (awake_any _).mono ?_; rintro e w1 ⟨rfl, hw1⟩)
  go_ret
  exact ⟨rfl, hw1⟩

set_option maxHeartbeats 1600000 in
theorem of_walk (s : ByteArray) (hs : s.size ≤ 3000) (i y : Int) (hy : 0 ≤ y ∧ y < 4294967296) (hi : -9223372036854775808 ≤ i ∧ i < 9223372036854775808) (w : World) :
    Calls Try.prog 3 #[.string s, .int .i64 i, .int .u32 y] w fun e w' => e = .returned (.bool true) ∧ Below w.heap.size w w' := by
  obtain ⟨x1, x2, x4, h1, h2⟩ := of_facts s hs
  have H1 := Lib.hid h1
  have H2 := Lib.hid h2
  clear h1 h2
  generalize hxc : ((crc.check (bl s) : Nat) : Int) = xc at *
  have HXC := Lib.hid hxc
  clear hxc
  have hl : (s.size : Int) ≤ (3000 : Int) := by omega
  have hl3 : decide ((3000 : Int) < (s.size : Int)) = false := by simp; omega
  go_enter Try.func3, Try.ntmps3
  go_wp2_with (first
    | (go_at_call 8; refine (awake_any _).mono ?_; rintro e w1 ⟨rfl, hw1⟩)
    | (go_at_call 9; with_reducible refine (H1.out _).mono ?_; rintro e w2 ⟨rfl, hw2⟩))
  have h1 := heap_alloc_new w2 (Obj.cells #[.int .i64 x1, .int .i64 x2, .int .u32 xc, .int .i64 x4] 25)
  have hbel : Below w.heap.size w (w2.alloc (Obj.cells #[.int .i64 x1, .int .i64 x2, .int .u32 xc, .int .i64 x4] 25)) :=
    (hw1.trans (hw2.mono hw1.size)).alloc (by have := hw1.size; have := hw2.size; omega) _
  have hl1 : w2.heap.size < (w2.alloc (Obj.cells #[.int .i64 x1, .int .i64 x2, .int .u32 xc, .int .i64 x4] 25)).heap.size := by simp
  have hl0 : w.heap.size ≤ w2.heap.size := by have := hw1.size; have := hw2.size; omega
  clear hw1 hw2
  generalize w2.alloc (Obj.cells #[.int .i64 x1, .int .i64 x2, .int .u32 xc, .int .i64 x4] 25) = W at *
  generalize w2.heap.size = xb at *
  obtain ⟨C, hC⟩ : ∃ C : World → Prop, ∀ u, C u ↔ Below W.heap.size W u := ⟨fun u => Below W.heap.size W u, fun _ => Iff.rfl⟩
  have F : ∀ u, C u → u.heap[xb]? = some (Obj.cells #[.int .i64 x1, .int .i64 x2, .int .u32 xc, .int .i64 x4] 25) :=
    fun u hu => (((hC u).1 hu).block _ hl1).trans h1
  have step : ∀ u u', C u → Below u.heap.size u u' → C u' := fun u u' hu hb => (hC u').2 (((hC u).1 hu).trans (hb.mono ((hC u).1 hu).size))
  have HC := Lib.hid hC
  have FF := Lib.hid F
  clear hC F h1
  refine wp_region_inv 3 C (by kernel_rfl) (by kernel_rfl) ((HC.out _).2 (Below.refl _ _).drew) ?_
  simp only [List.take_succ_cons, List.take_zero, List.drop_succ_cons, List.drop_zero]
  repeat
    (first | refine wpInv_plain rfl (fun K hK => ?_) | refine wpInv_wanted (by rfl) (fun K hK => ?_)
     apply Exists.intro
     refine ⟨fun u hu => ?_, ?_⟩
     · have HU := Lib.hid hu
       have f1 := FF.out u hu
       clear hu
       obtain ⟨⟨c1, c2, c3, c4⟩, d1, d2, d3, d4⟩ := cells4Of f1
       clear f1 d1 d2 d3 d4
       go_simp
       first
         | exact ⟨HU.out, rfl⟩
         | (go_at_call 10; with_reducible refine (H2.out _).mono ?_; rintro e w' ⟨rfl, hb⟩; exact ⟨rfl, step _ _ HU.out hb⟩)
     go_simp
     refine hK _ ?_
     clear hK K)
  refine wpInv_nil ?_
  intro w' hw'
  have f1 := FF.out w' hw'
  have hb := hbel.trans (((HC.out _).1 hw').mono hbel.size)
  have hlw : xb < w'.heap.size := (Array.getElem?_eq_some_iff.1 f1).1
  clear hw' HC FF hbel step hl1
  have F1 := Lib.hid f1
  clear f1
  by_cases hout : i < 0 ∨ (s.size : Int) - 4 < i ∨ y = 0
  · by_cases hi0 : i < 0
    · go_wp2
      go_ret
      exact ⟨rfl, hb⟩
    · by_cases hi1 : (s.size : Int) - 4 < i
      · go_wp2
        go_ret
        exact ⟨rfl, hb⟩
      · have hy0 : y = 0 := by omega
        subst hy0
        go_wp2
        go_ret
        exact ⟨rfl, hb⟩
  · have hi0 : 0 ≤ i := by omega
    have hi1 : i ≤ (s.size : Int) - 4 := by omega
    obtain ⟨n, rfl⟩ := Int.eq_ofNat_of_zero_le hi0
    obtain ⟨Y, rfl⟩ := Int.eq_ofNat_of_zero_le hy.1
    have hY : Y < 4294967296 := by omega
    have hY0 : ((Y : Int) == 0) = false := by rw [beq_eq_false_iff_ne]; omega
    have hn : n + 4 ≤ s.size := by omega
    have hconv := fun w => Lib.run_convert_string_bytes (P := Try.prog) w 9 27 5 s Try.underlying9 Try.underlying27 Try.underlying5
    clear hout
    have hd1 : decide ((n : Int) < 0) = false := by simp
    have hd2 : decide ((s.size : Int) - 4 < (n : Int)) = false := by simp; omega
    go_wp2
    have hbel : Below w.heap.size w (Lib.bytesWorld w' 5 s) := hb.trans ((conv_below w' s _).mono hb.size)
    have h1 : (Lib.bytesWorld w' 5 s).heap[xb]? = some (Obj.cells #[.int .i64 x1, .int .i64 x2, .int .u32 xc, .int .i64 x4] 25) := (Lib.bytesWorld_at_old w' _ s xb hlw).trans F1.out
    have h2 := conv_bytes w' s 5
    have h3 := conv_loose w' s 5
    have hwb : w.heap.size ≤ w'.heap.size := hb.size
    clear hb hd1 hd2 hconv
    generalize grownCap w' s.size 0 5 = cap at *
    generalize Lib.bytesWorld w' 5 s = W1 at *
    generalize w'.heap.size = bb at *
    go_loopw [36] (fun x wr => ∃ k : Nat, k ≤ 4 ∧ x = .int .i64 k ∧ Lib.Bytes wr bb 0 (turnK s n Y k) ∧ (∀ j, j < s.size → wr.frozen? ⟨bb, j, none⟩ = false) ∧
      wr.heap[xb]? = some (Obj.cells #[.int .i64 x1, .int .i64 x2, .int .u32 xc, .int .i64 x4] 25) ∧ Below w.heap.size w wr) (fun x _ => 4 - (intOf x).toNat)
    case atStart => exact ⟨0, by omega, rfl, h2, h3, h1, hbel⟩
    case round =>
      obtain ⟨k, hk, rfl, hby, hfr, hx, hbl⟩ := hrel
      by_cases hk4 : k < 4
      · have hnk : n + k < s.size := by omega
        have hc := hby (n + k) (by rw [turnK_size]; exact hnk)
        rw [Nat.zero_add] at hc
        have hfz := hfr (n + k) hnk
        have hgd : ((turnK s n Y k)[n + k]'(by rw [turnK_size]; exact hnk)).toNat = (s.data.toList.getD (n + k) 0).toNat := by
          have h1 := turnK_far s n Y k (n + k) (by omega)
          rw [List.getD_eq_getElem?_getD, List.getElem?_eq_getElem (by rw [Array.length_toList, turnK_dsize]; exact hnk)] at h1
          rw [← h1]; rfl
        rw [hgd] at hc
        have HBY := Lib.hid hby
        have HFR := Lib.hid hfr
        have HX := Lib.hid hx
        clear hby hfr hx h1 h2 h3 hbel
        have hi0 : (0 : Int) ≤ (n : Int) + (k : Int) := by omega
        have hi1 : (n : Int) + (k : Int) < (s.size : Int) := by omega
        have hb0 : (s.data.toList.getD (n + k) 0).toNat < 256 := UInt8.toNat_lt _
        have HN := Lib.hid (bytes_next (w := wr) (b := bb) (i := n) (y := Y) (k := k) (s := s) HBY.out (by rw [hc]; rfl))
        clear hgd
        generalize (s.data.toList.getD (n + k) 0).toNat = c at *
        have HXO := Lib.hid (bits_xor_u8 c (Y / 2 ^ (8 * k) % 256) hb0 (Nat.mod_lt _ (by decide)))
        go_wp2
        go_region
        go_wp2
        rw [show ((Y : Int) / 2 ^ (8 * k) % 256) = ((Y / 2 ^ (8 * k) % 256 : Nat) : Int) by simp, HXO.out]
        refine ⟨⟨k + 1, by omega, by go_num, HN.out, fun j hj => ?_, ?_, (hbl.setCell hwb _).drew⟩, by simp only [intOf]; omega⟩
        · show (wr.setCell _ _).frozen? _ = false
          rw [World.frozen?_setCell]; exact HFR.out j hj
        · exact (Below.heap_setCell _ _ _ _ (by simp only; omega)).trans HX.out
      · obtain rfl : k = 4 := by omega
        clear h1 h2 h3 hbel hfr
        have hne := turnK_check s n Y hn hY (by simpa using hY0)
        have hsz := turnK_size s n Y 4
        have h4 := of_seal (turnK s n Y 4) (by rw [hsz]; omega)
        have hconv := fun u (hu : Lib.Bytes u bb 0 (turnK s n Y 4)) => Lib.run_convert_whole (P := Try.prog) u 27 5 9 Try.underlying27 Try.underlying5 Try.underlying9 bb 0 (turnK s n Y 4) hu cap
        rw [hsz] at hconv
        generalize turnK s n Y 4 = t at *
        rw [sealL] at h4
        unfold sealV at h4
        have hne2 : (((crc.check (bl t) : Nat) : Int) != xc) = true := by rw [← HXC.out]; simp; omega
        generalize ((crc.check (bl t) : Nat) : Int) = tc at *
        generalize (gs (bl t)).1 = t1 at *
        generalize (gs (bl t)).2 = t2 at *
        generalize (((bl t).length : Nat) : Int) = t3 at *
        have H4 := Lib.hid h4
        have HCV := Lib.hid hconv
        clear h4 hconv hne hsz
        go_wp2
        obtain ⟨C, hC⟩ : ∃ C : World → Prop, ∀ u, C u ↔ Below wr.heap.size wr u := ⟨fun u => Below wr.heap.size wr u, fun _ => Iff.rfl⟩
        have hl1 : xb < wr.heap.size := (Array.getElem?_eq_some_iff.1 hx).1
        have F : ∀ u, C u → u.heap[xb]? = some (Obj.cells #[.int .i64 x1, .int .i64 x2, .int .u32 xc, .int .i64 x4] 25) ∧ Lib.Bytes u bb 0 t := fun u hu => by
          have hu := (hC u).1 hu
          refine ⟨(hu.block _ hl1).trans hx, fun j hj => ?_⟩
          have := hby j hj
          rw [hu.cell (World.block_lt_of_cell? wr _ this)]
          exact this
        have step : ∀ u u', C u → Below u.heap.size u u' → C u' := fun u u' hu hb => (hC u').2 (((hC u).1 hu).trans (hb.mono ((hC u).1 hu).size))
        have HC := Lib.hid hC
        have FF := Lib.hid F
        clear hC F hx hby
        refine wp_region_inv 7 C (by kernel_rfl) (by kernel_rfl) ((HC.out _).2 (Below.refl _ _).drew) ?_
        simp only [List.take_succ_cons, List.take_zero, List.drop_succ_cons, List.drop_zero]
        repeat
          (first | refine wpInv_plain rfl (fun K hK => ?_) | refine wpInv_wanted (by rfl) (fun K hK => ?_)
           apply Exists.intro
           refine ⟨fun u hu => ?_, ?_⟩
           · have HU := Lib.hid hu
             obtain ⟨f1, f2⟩ := FF.out u hu
             clear hu
             obtain ⟨⟨c1, c2, c3, c4⟩, d1, d2, d3, d4⟩ := cells4Of f1
             have hcv := HCV.out u f2
             clear f1 f2 d1 d2 d3 d4
             go_simp
             first
               | exact ⟨HU.out, rfl⟩
               | (go_at_call 9; with_reducible refine (H4.out _).mono ?_; rintro e w' ⟨rfl, hb⟩; exact ⟨rfl, step _ _ HU.out hb⟩)
           go_simp
           refine hK _ ?_
           clear hK K)
        refine wpInv_nil ?_
        intro u hu
        have hb := hbl.trans (((HC.out _).1 hu).mono hbl.size)
        go_wp2
        go_ret
        exact ⟨rfl, hb⟩
end

open Go.ChangeShapes Go.WideShapes Go.ChangeAt
open Go.ChangeMaps (open_string)
set_option maxRecDepth 100000 in
theorem of_lifted (os : Os) (started : os.Started) (H : Type) (enc : TypeId × Value → H) :
    ReturnsInHanded {} Try.checked os 3 .any (Rows.sealOfSpec.pre6 enc Try.prog Try.f3 Rows.sealOfRow.domain false) (Rows.sealOfSpec.post enc Try.prog Try.f3 false true false false) := by
  refine returnsInHanded_of_change (C := Try.checked) Try.own started (by kernel_rfl) Try.func3
    (ChangeSpec.witness6 (enc := enc) (C := Try.checked) false ⟨#[], #[.string .empty, .int .i64 0, .int .u32 0], []⟩ 8 (by kernel_rfl) (by kernel_rfl) (by kernel_rfl) (by kernel_rfl)) ?_
  intro W base args ds gs before hval0 hW _ _
  have hval : ∀ (j : Nat) t v, Try.f3.params[j]? = some t → args[j]? = some v → Value.okWide Try.prog W .any base t v := hval0
  have hW' := hW
  obtain ⟨p, q, hA0, hV, rfl, hfz, hnd⟩ := hW
  have hA : DataW.TrodAll enc Try.prog W 0 (fun _ => true) true Try.f3.params.toList args.toList ds p := hA0
  rw [Try.params3] at hA hval
  obtain ⟨v0, v1, v2, d0, d1, d2, p0, p1, p2, hargs, rfl, rfl, h0, h1, h2⟩ := trodAll_three hA
  obtain rfl : args = #[v0, v1, v2] := by cases args; simp_all
  obtain ⟨rfl, rfl⟩ := trodVars_none hV
  obtain ⟨s, hv0, _, _, hs0⟩ := open_string Try.underlying9 (hval 0 9 v0 rfl rfl) h0
  obtain ⟨i, hv1, _, _, w1⟩ := open_int Try.underlying3 (hval 1 3 v1 rfl rfl) h1
  obtain ⟨y, hv2, _, _, w2⟩ := open_int Try.underlying22 (hval 2 22 v2 rfl rfl) h2
  subst hv0 hv1 hv2
  have b1 := bounds_i64 w1
  have b2 := bounds_u32 w2
  clear hA0 hval0
  simp only [List.append_nil, List.append_assoc] at hW'
  have hwalk : Calls Try.prog 3 #[.string s, .int .i64 i, .int .u32 y] W fun e w' => e = .returned (.bool true) ∧ Below W.heap.size W w' := by
    by_cases h : s.size ≤ 3000
    · exact of_walk s h i y (by omega) (by omega) W
    · exact of_long s (by omega) i y W
  refine hwalk.mono fun e W' ⟨he, hb⟩ => ?_
  subst he
  exact ⟨_, rfl, law_post3 Try.params3 rfl rfl rfl hW' h0 h1 h2 (by kernel_rfl) (of_decide_eq_true (by kernel_rfl)) (by kernel_rfl) (of_decide_eq_true (by kernel_rfl)) (by kernel_rfl) (of_decide_eq_true (by kernel_rfl)) hb⟩

theorem sealOf_holds : Rows.SealOfSaid :=
  OpenClaim.holds_of_wide 3 Try.f3 rfl rfl rfl rfl rfl rfl rfl ⟨rfl, rfl, rfl, rfl, rfl⟩ rfl rfl rfl rfl rfl (by kernel_rfl) Try.func3 (by kernel_rfl)
    (of_decide_eq_true (by kernel_rfl)) (by unfold Func.isWrapper; first | (rw [if_pos (by decide +kernel)]; kernel_rfl) | (rw [if_neg (by decide +kernel)]; exact ⟨rfl, rfl⟩))
    (fun os started H enc _ => of_lifted os started H enc)
end Go.Proofs.Ytpmdibhogjhfnaa
