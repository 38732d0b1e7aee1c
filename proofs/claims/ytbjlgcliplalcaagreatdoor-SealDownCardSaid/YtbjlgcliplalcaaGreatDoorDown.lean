/-
  WITHOUT A STORE: the calls that a nil store, a nil room answer.
-/
import Derived.Test.YtbjlgcliplalcaaGreatDoorAwake
import Derived.Test.YtbjlgcliplalcaaGreatDoorShell
namespace Go.Proofs.YtbjlgcliplalcaaGreatDoor
open Go.RowKit
set_option maxRecDepth 100000

theorem first_nil (n : Int) (w : World) : Calls Tryz.prog 27 #[.pointer none, .int .i64 n] w fun e w' => e = .returned (.tuple #[.slice none 0 0, .int .i64 3]) ∧ w = w' := by
  go_enter Tryz.func27, Tryz.ntmps27
  go_wp2
  go_ret2
  exact ⟨rfl, rfl⟩

theorem home_nil (n : Int) (w : World) : Calls Tryz.prog 52 #[.pointer none, .int .i64 n] w fun e w' => e = .returned (.tuple #[.string ByteArray.empty, .int .i64 3]) ∧ w = w' := by
  go_enter Tryz.func52, Tryz.ntmps52
  go_wp2
  go_ret2
  exact ⟨rfl, rfl⟩

theorem dead_nil (w : World) : Calls Tryz.prog 51 #[.pointer none] w fun e w' => e = .returned (.bool true) ∧ w = w' := by
  have H := Lib.hid (fun n w => home_nil n w)
  go_enter Tryz.func51, Tryz.ntmps51
  go_wp2_with (go_at_call 52; refine (H.out _ _).mono ?_; rintro e w1 ⟨rfl, rfl⟩)
  go_ret
  exact ⟨rfl, rfl⟩

theorem used_nil (w : World) : Calls Tryz.prog 33 #[.pointer none] w fun e w' => e = .returned (.tuple #[.int .i64 0, .int .i64 3]) ∧ w = w' := by
  have H := Lib.hid (fun w => dead_nil w)
  go_enter Tryz.func33, Tryz.ntmps33
  go_wp2_with (go_at_call 51; refine (H.out _).mono ?_; rintro e w1 ⟨rfl, rfl⟩)
  go_ret2
  exact ⟨rfl, rfl⟩

theorem up_nil (w : World) : Calls Tryz.prog 69 #[.pointer none] w fun e w' => e = .returned (.int .i64 3) ∧ w = w' := by
  have H := Lib.hid (fun w => used_nil w)
  go_enter Tryz.func69, Tryz.ntmps69
  go_wp2_with (go_at_call 33; refine (H.out _).mono ?_; rintro e w1 ⟨rfl, rfl⟩)
  go_ret
  exact ⟨rfl, rfl⟩

theorem waits_nil (w : World) : Calls Tryz.prog 11 #[.pointer none] w fun e w' => e = .returned (.tuple #[.int .i64 0, .int .i64 3]) ∧ w = w' := by
  have H := Lib.hid (fun n w => first_nil n w)
  go_enter Tryz.func11, Tryz.ntmps11
  go_wp2_with (go_at_call 27; refine (H.out _ _).mono ?_; rintro e w1 ⟨rfl, rfl⟩)
  go_ret2
  exact ⟨rfl, rfl⟩

abbrev sealO : Obj := Obj.cells #[.int .i64 0, .int .i64 0, .int .u32 0, .int .i64 0] 26
theorem recipe_nil (v : Value) (w : World) : Calls Tryz.prog 5 #[.pointer none, v] w fun e w' => e = .returned (.tuple #[.agg #[.int .i64 0, .int .i64 0, .int .u32 0, .int .i64 0], .int .i64 3]) ∧ w.alloc sealO = w' := by
  have H := Lib.hid (fun w => waits_nil w)
  go_enter Tryz.func5, Tryz.ntmps5
  go_wp2_with (go_at_call 11; refine (H.out _).mono ?_; rintro e w1 ⟨rfl, rfl⟩)
  exact bodyPost_ret (v := .tuple #[.agg #[.int .i64 0, .int .i64 0, .int .u32 0, .int .i64 0], .int .i64 3]) (by simp [results, Tryz.results5, go_sem]) rfl ⟨rfl, rfl⟩


abbrev bucketO : Obj := Obj.cells #[.string ⟨#[]⟩, .int .i64 0, .int .u64 0, .bool false, .string ⟨#[]⟩, .int .u64 0] 74
theorem find_nil (s : ByteArray) (w : World) : Calls Tryz.prog 44 #[.pointer none, .string s] w fun e w' => e = .returned (.tuple #[.agg #[.string ⟨#[]⟩, .int .i64 0, .int .u64 0, .bool false, .string ⟨#[]⟩, .int .u64 0], .int .i64 3]) ∧ w.alloc bucketO = w' := by
  have H := Lib.hid (fun w => up_nil w)
  go_enter Tryz.func44, Tryz.ntmps44
  go_wp2_with (go_at_call 69; refine (H.out _).mono ?_; rintro e w1 ⟨rfl, rfl⟩)
  exact bodyPost_ret (v := .tuple #[.agg #[.string ⟨#[]⟩, .int .i64 0, .int .u64 0, .bool false, .string ⟨#[]⟩, .int .u64 0], .int .i64 3]) (by simp [results, Tryz.results44, go_sem]) rfl ⟨rfl, rfl⟩

theorem bcell {W w1 : World} (hb : Below W.heap.size W w1) : (∀ b o, b < W.heap.size → w1.cell? ⟨b, o, none⟩ = W.cell? ⟨b, o, none⟩) ∧ (∀ b o, b < W.heap.size → w1.frozen? ⟨b, o, none⟩ = W.frozen? ⟨b, o, none⟩) :=
  ⟨fun b o h => hb.cell (p := ⟨b, o, none⟩) h, fun b o h => hb.frozen (p := ⟨b, o, none⟩) h⟩

theorem there_nil (s t : ByteArray) (w : World) : Calls Tryz.prog 30 #[.pointer none, .string s, .string t] w fun e w' => e = .returned (.tuple #[.agg #[.string ⟨#[]⟩, .int .i64 0, .int .u64 0, .bool false, .string ⟨#[]⟩, .int .u64 0], .int .i64 3]) ∧ ((w.alloc bucketO).alloc bucketO).alloc bucketO = w' := by
  have H := Lib.hid (fun s w => find_nil s w)
  go_enter Tryz.func30, Tryz.ntmps30
  go_wp2_with (go_at_call 44; refine (H.out _ _).mono ?_; rintro e w1 ⟨rfl, rfl⟩)
  exact bodyPost_ret (v := .tuple #[.agg #[.string ⟨#[]⟩, .int .i64 0, .int .u64 0, .bool false, .string ⟨#[]⟩, .int .u64 0], .int .i64 3]) (by simp [results, Tryz.results30, go_sem]) rfl ⟨rfl, rfl⟩

abbrev versionO : Obj := Obj.cells #[.string ⟨#[]⟩, .string ⟨#[]⟩, .int .u64 0, .bool false, .bool false, .int .u64 0, .int .i64 0, .int .i64 0] 44
abbrev five (w : World) : World := ((((w.alloc versionO).alloc bucketO).alloc bucketO).alloc bucketO).alloc bucketO
theorem five_below (w : World) : Below w.heap.size w (five w) :=
  (((((Below.refl _ _).alloc (Nat.le_refl _) _).alloc (by simp) _).alloc (by simp; omega) _).alloc (by simp; omega) _).alloc (by simp; omega) _
theorem vfind_nil (s t : ByteArray) (n : Int) (w : World) : Calls Tryz.prog 14 #[.pointer none, .string s, .string t, .int .u64 n] w fun e w' => e = .returned (.tuple #[.agg #[.string ⟨#[]⟩, .string ⟨#[]⟩, .int .u64 0, .bool false, .bool false, .int .u64 0, .int .i64 0, .int .i64 0], .int .i64 3]) ∧ ((((w.alloc versionO).alloc bucketO).alloc bucketO).alloc bucketO).alloc bucketO = w' := by
  have H := Lib.hid (fun s t w => there_nil s t w)
  go_enter Tryz.func14, Tryz.ntmps14
  go_wp2_with (go_at_call 30; refine (H.out _ _ _).mono ?_; rintro e w1 ⟨rfl, rfl⟩)
  exact bodyPost_ret (v := .tuple #[.agg #[.string ⟨#[]⟩, .string ⟨#[]⟩, .int .u64 0, .bool false, .bool false, .int .u64 0, .int .i64 0, .int .i64 0], .int .i64 3]) (by simp [results, Tryz.results14, go_sem]) rfl ⟨rfl, rfl⟩

theorem version_nil (v : Value) (s t : ByteArray) (n : Int) (w : World) : Calls Tryz.prog 6 #[.pointer none, v, .string s, .string t, .int .u64 n] w fun e w' => e = .returned (.tuple #[.agg #[.int .i64 0, .int .i64 0, .int .u32 0, .int .i64 0], .int .i64 3]) ∧ Below w.heap.size w w' := by
  have H := Lib.hid (fun s t n w => vfind_nil s t n w)
  go_enter Tryz.func6, Tryz.ntmps6
  go_wp2_with (go_at_call 14; refine (H.out _ _ _ _).mono ?_; rintro e w1 ⟨rfl, rfl⟩)
  refine bodyPost_ret (v := .tuple #[.agg #[.int .i64 0, .int .i64 0, .int .u32 0, .int .i64 0], .int .i64 3]) (by simp [results, Tryz.results6, go_sem]) rfl ⟨rfl, ?_⟩
  exact ((((((((Below.refl _ _).alloc (Nat.le_refl _) _).alloc (by simp) _).alloc (by simp; omega) _).alloc (by simp; omega) _).alloc (by simp; omega) _).alloc (by simp; omega) _).alloc (by simp; omega) _)

theorem down_walk (v : Value) (w : World) : Calls Tryz.prog 3 #[v] w fun e w' => e = .returned (.bool true) ∧ Below w.heap.size w w' := by
  have H1 := Lib.hid (fun w => awake_any w)
  have H2 := Lib.hid (fun v w => recipe_nil v w)
  have H3 := Lib.hid (fun v s t n w => version_nil v s t n w)
  go_enter Tryz.func3, Tryz.ntmps3
  go_wp2_with (first
    | (go_at_call 4; refine (H1.out _).mono ?_; rintro e w1 ⟨rfl, hb1⟩)
    | (go_at_call 5; refine (H2.out _ _).mono ?_; rintro e w2 ⟨rfl, rfl⟩)
    | (go_at_call 6; refine (H3.out _ _ _ _ _).mono ?_; rintro e w3 ⟨rfl, hb3⟩; obtain ⟨hc, hf⟩ := bcell hb3; have hz : w1.heap.size + 1 < w3.heap.size := by have := hb3.size; simp at this; omega))
  go_ret
  refine ⟨rfl, ?_⟩
  have hbb : Below w.heap.size w ((w1.alloc sealO).alloc sealO) := (hb1.alloc hb1.size _).alloc (by have := hb1.size; simp; omega) _
  exact (hbb.trans (hb3.mono hbb.size)).alloc (Nat.le_trans hbb.size hb3.size) _
end Go.Proofs.YtbjlgcliplalcaaGreatDoor
