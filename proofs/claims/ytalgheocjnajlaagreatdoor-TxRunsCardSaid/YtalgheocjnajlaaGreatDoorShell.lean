/-
  THE SHELL OF A LAW'S PROOF: a call that answers true and leaves below the old heap all as it was meets the post of a row whose specification is 'true; the input reads as it did'. By the number of parameters.
-/
import Derived.Test.YtalgheocjnajlaaGreatDoorRows
import Derived.WalkKit
import Derived.ProofKit
import Derived.OpenShut
namespace Go.Proofs.YtalgheocjnajlaaGreatDoor
open Go.ChangeShapes Go.WideShapes Go.ChangeAt Go.RowKit

theorem Tryz.own : ownKnob Tryz.prog.godebug = none := by kernel_rfl
theorem Tryz.laidOut : laidOutB Tryz.prog = true := by kernel_rfl

theorem law_post1 {H : Type} {enc : TypeId × Value → H} {f : Func} {s : ChangeSpec} {fresh handsOn : Bool} {W W' : World} {t0 : TypeId} {v0 : Value} {d0 : DataW H} {p0 : List MemPlace}
    (hf : f.params = #[t0]) (hr : f.resultTypes = #[4]) (hvars : s.vars = []) (hs : s.fn H ([d0] ++ []) = { results := [.lit (.bool true)], args := [d0] })
    (hW : DataW.Whole enc Tryz.prog f.params.toList s.vars false W (#[v0] : Array Value).toList [d0] [] p0) (h0 : DataW.Trod enc Tryz.prog W 0 (fun _ => true) true t0 v0 d0 p0)
    (r0 : Tryz.prog.readableRec t0 = true) (z0 : t0 < Tryz.prog.types.size) (hb : Below W.heap.size W W') :
    s.post enc Tryz.prog f false fresh handsOn false W #[v0] (.bool true) W' := by
  have hlt := hW.lt
  refine ⟨_, _, _, [], p0, [], hW, ?_, ?_, ?_, hb.frame _, fun h => by cases h⟩
  · rw [hs, hr]; exact trodAll_mk1 (shut_bool Tryz.underlying4 _)
  · rw [hs, hf]; exact trodAll_mk1 (Below.trod Tryz.laidOut r0 z0 h0 hb (fun x hx => hlt x hx))
  · rw [hs, hvars]; rfl
theorem law_post2 {H : Type} {enc : TypeId × Value → H} {f : Func} {s : ChangeSpec} {fresh handsOn : Bool} {W W' : World} {t0 t1 : TypeId} {v0 v1 : Value} {d0 d1 : DataW H} {p0 p1 : List MemPlace}
    (hf : f.params = #[t0, t1]) (hr : f.resultTypes = #[4]) (hvars : s.vars = []) (hs : s.fn H ([d0, d1] ++ []) = { results := [.lit (.bool true)], args := [d0, d1] })
    (hW : DataW.Whole enc Tryz.prog f.params.toList s.vars false W (#[v0, v1] : Array Value).toList [d0, d1] [] (p0 ++ p1)) (h0 : DataW.Trod enc Tryz.prog W 0 (fun _ => true) true t0 v0 d0 p0) (h1 : DataW.Trod enc Tryz.prog W 0 (fun _ => true) true t1 v1 d1 p1)
    (r0 : Tryz.prog.readableRec t0 = true) (z0 : t0 < Tryz.prog.types.size) (r1 : Tryz.prog.readableRec t1 = true) (z1 : t1 < Tryz.prog.types.size) (hb : Below W.heap.size W W') :
    s.post enc Tryz.prog f false fresh handsOn false W #[v0, v1] (.bool true) W' := by
  have hlt := hW.lt
  refine ⟨_, _, _, [], p0 ++ p1, [], hW, ?_, ?_, ?_, hb.frame _, fun h => by cases h⟩
  · rw [hs, hr]; exact trodAll_mk1 (shut_bool Tryz.underlying4 _)
  · rw [hs, hf]; exact trodAll_mk2 (Below.trod Tryz.laidOut r0 z0 h0 hb (fun x hx => hlt x (List.mem_append_left _ hx))) (Below.trod Tryz.laidOut r1 z1 h1 hb (fun x hx => hlt x (List.mem_append_right _ hx)))
  · rw [hs, hvars]; rfl
theorem law_post3 {H : Type} {enc : TypeId × Value → H} {f : Func} {s : ChangeSpec} {fresh handsOn : Bool} {W W' : World} {t0 t1 t2 : TypeId} {v0 v1 v2 : Value} {d0 d1 d2 : DataW H} {p0 p1 p2 : List MemPlace}
    (hf : f.params = #[t0, t1, t2]) (hr : f.resultTypes = #[4]) (hvars : s.vars = []) (hs : s.fn H ([d0, d1, d2] ++ []) = { results := [.lit (.bool true)], args := [d0, d1, d2] })
    (hW : DataW.Whole enc Tryz.prog f.params.toList s.vars false W (#[v0, v1, v2] : Array Value).toList [d0, d1, d2] [] (p0 ++ (p1 ++ p2))) (h0 : DataW.Trod enc Tryz.prog W 0 (fun _ => true) true t0 v0 d0 p0) (h1 : DataW.Trod enc Tryz.prog W 0 (fun _ => true) true t1 v1 d1 p1)
    (h2 : DataW.Trod enc Tryz.prog W 0 (fun _ => true) true t2 v2 d2 p2)
    (r0 : Tryz.prog.readableRec t0 = true) (z0 : t0 < Tryz.prog.types.size) (r1 : Tryz.prog.readableRec t1 = true) (z1 : t1 < Tryz.prog.types.size) (r2 : Tryz.prog.readableRec t2 = true) (z2 : t2 < Tryz.prog.types.size) (hb : Below W.heap.size W W') :
    s.post enc Tryz.prog f false fresh handsOn false W #[v0, v1, v2] (.bool true) W' := by
  have hlt := hW.lt
  refine ⟨_, _, _, [], p0 ++ (p1 ++ p2), [], hW, ?_, ?_, ?_, hb.frame _, fun h => by cases h⟩
  · rw [hs, hr]; exact trodAll_mk1 (shut_bool Tryz.underlying4 _)
  · rw [hs, hf]; exact trodAll_mk3 (Below.trod Tryz.laidOut r0 z0 h0 hb (fun x hx => hlt x (List.mem_append_left _ hx))) (Below.trod Tryz.laidOut r1 z1 h1 hb (fun x hx => hlt x (List.mem_append_right _ (List.mem_append_left _ hx)))) (Below.trod Tryz.laidOut r2 z2 h2 hb (fun x hx => hlt x (List.mem_append_right _ (List.mem_append_right _ hx))))
  · rw [hs, hvars]; rfl
end Go.Proofs.YtalgheocjnajlaaGreatDoor
