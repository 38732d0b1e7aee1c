/-
  ListingTells: what is told of a bucket, or the error, is the document's.
-/
import Derived.Test.YtaokjeokpifjgaaGreatDoorM9
import Derived.Test.YtaokjeokpifjgaaGreatDoorCards
import Derived.Test.YtaokjeokpifjgaaGreatDoorTie
import Derived.Deep.DeepHandedRow
import Derived.Lib.LaidTab
import Derived.Lib.SmallJoins
set_option maxRecDepth 100000
set_option maxHeartbeats 4000000
namespace Go.Proofs.YtaokjeokpifjgaaGreatDoor.listingTells
open Go.ChangeShapes Go.WideShapes Go.ChangeAt Go.RowKit Go.Joins
theorem zV6(H:Type)(enc:TypeId×Value→H)(W:World)(base:Nat)(args:Array Value)(ds gs:List (DataW H))(before:List MemPlace)(hval0:∀(j:Nat)t v,Tryz.f4.params[j]? =some t→args[j]? =some v→Value.okWide Tryz.prog W .any base t v)(hW:DataW.Whole enc Tryz.prog Tryz.f4.params.toList Rows.listingTellsSpec.vars false W args.toList ds gs before)(hsh:W.ShapedOpen Tryz.prog):Calls Tryz.prog 4 args W fun e W'=>∃v,e= .returned v∧Rows.listingTellsSpec.post enc Tryz.prog Tryz.f4 false true false false W args v W':=by
 have hval:∀(j:Nat)t v,Tryz.f4.params[j]? =some t→args[j]? =some v→Value.okWide Tryz.prog W .any base t v:=hval0
 have hW':=hW
 obtain⟨p,q,hA0,hV,rfl,hfz,hnd⟩:=hW
 have hA:DataW.TrodAll enc Tryz.prog W 0 (fun _=>true) true Tryz.f4.params.toList args.toList ds p:=hA0
 rw[Tryz.params4]at hA hval
 obtain⟨v0,v1,d0,d1,p0,p1,hargs,rfl,rfl,h0,h1⟩:=trodAll_two hA
 obtain rfl:args= #[v0,v1]:=by cases args;simp_all
 obtain⟨rfl,rfl⟩:=trodVars_none hV
 obtain⟨A0,hL0⟩:=zDl (hval 0 47 v0 rfl rfl) h0
 obtain⟨b1,q1,e1,l1,t1,hv1⟩:=zNy (hval 1 49 v1 rfl rfl) h1
 subst hv1
 clear hA0 hval0
 simp only[List.append_nil]at hW'
 refine(zVk W (zKV hsh) hL0).mono fun e W'⟨he,hb⟩=> ?_
 subst he
 exact⟨_,rfl,zL4 Tryz.params4 rfl rfl rfl hW' h0 h1 (by kernel_rfl) (of_decide_eq_true (by kernel_rfl)) (by kernel_rfl) (of_decide_eq_true (by kernel_rfl)) hb⟩
def acceptRow:List Int:=[128,191,160,191,128,159,144,191,128,143,0,0,0,0,0,0,0,0,0,0,0,0,0,0,0,0,0,0,0,0,0,0]
noncomputable def zVS(os:Os):World:=let w0:=World.holding Tryz.prog os ⟨#[],#[],[]⟩;let put(h:Array Obj)(g:Nat)(cs:Array Value):Array Obj:=h.modify g fun| .cells _ t frozen=>.cells cs t frozen|o=>o;let h1:=put w0.heap 2 (acceptRow.map fun z=>Value.int .u8 z).toArray;let h2:=put h1 1 (Go.Pinned.utf8FirstZ.map fun(z:Nat)=>Value.int .u8 (z:Int)).toArray;{w0 with heap:=h2}
theorem zV7(os:Os):laidMet Tryz.prog Rows.listingTellsRow.laid ((zVS os).forCall (fun _ _=>0) ⟨#[],#[.slice none 0 0,.agg #[.string .empty,.string .empty,.string .empty,.int .i64 0,.string .empty]],[]⟩).memory:=laidMet_of_run' 8 (by kernel_rfl) (by kernel_rfl)
theorem reads(os:Os){H:Type}(enc:TypeId×Value→H):∃places,DataW.whole enc Tryz.prog ((zVS os).forCall (fun _ _=>0) ⟨#[],#[.slice none 0 0,.agg #[.string .empty,.string .empty,.string .empty,.int .i64 0,.string .empty]],[]⟩).memory Tryz.f4.params.toList Rows.listingTellsSpec.vars false (#[.slice none 0 0,.agg #[.string .empty,.string .empty,.string .empty,.int .i64 0,.string .empty]]:Array Value).toList 8=some ([.nil,.agg [.lit (.string []),.lit (.string []),.lit (.string []),.lit (.int .i64 0),.lit (.string [])]],[],places):=⟨[],by kernel_rfl⟩
theorem lifted (os : Os) (started : os.Started) (H : Type) (enc : TypeId × Value → H) (F : Stop.Interp) :
    ReturnsInHanded {} Tryz.checked os 4 .any ((OpenSpec.ofChange Rows.listingTellsSpec).preRow enc Tryz.prog Tryz.f4 Rows.listingTellsRow.domain false Rows.listingTellsRow.laid) (((OpenSpec.ofChange Rows.listingTellsSpec).at F).post enc Tryz.prog Tryz.f4 false true false false) := by
  obtain ⟨places, hx⟩ := reads os enc
  refine returnsInHanded_of_row (C := Tryz.checked) (s := OpenSpec.ofChange Rows.listingTellsSpec) Tryz.own started (by kernel_rfl) Tryz.func4
    (witness_row_at (enc := enc) (C := Tryz.checked) false (zVS os) #[.slice none 0 0, .agg #[.string .empty, .string .empty, .string .empty, .int .i64 0, .string .empty]] rfl (by kernel_rfl) (by kernel_rfl) (by kernel_rfl)
      (OpenSpec.preRow_of_cond 8 hx (by kernel_rfl) (fun k hk => by cases hk) (by kernel_rfl) (zV7 os))) ?_
  intro W base args ds gs before hval hW _ _ _ _ hsh _
  exact zV6 H enc W base args ds gs before hval hW hsh
theorem closed:joinedFacts Tryz.prog 4 Tryz.f4 (OpenSpec.ofChange Rows.listingTellsSpec).bare Rows.listingTellsRow=true:=by
 unfold joinedFacts
 simp only[Bool.and_eq_true]
 and_intros
 all_goals(as_aux_lemma=>kernel_rfl)
theorem wrapper:Tryz.f4.isWrapper Tryz.prog Rows.listingTellsRow.wrapper Rows.listingTellsRow.mainSum:=by
 unfold Func.isWrapper
 first|(rw[if_pos (by decide+kernel)];kernel_rfl)|(rw[if_neg (by decide+kernel)];exact⟨rfl,rfl⟩)
theorem named:Tryz.prog.funcNamed "cooperage/cooperagelaw16.ListingTells" =some 4:=by
 kernel_rfl
theorem origin:Tryz.f4.isInstance Tryz.prog Rows.listingTellsRow.origin Rows.listingTellsRow.targs:=of_decide_eq_true (by kernel_rfl)
theorem said:Rows.ListingTellsSaid:=OpenClaim.holds_of_cond 4 Tryz.f4 rfl rfl rfl rfl rfl rfl rfl ⟨rfl,rfl,rfl,rfl,rfl⟩ rfl rfl rfl rfl rfl named Tryz.func4 closed origin wrapper (fun os started H enc _ F=>by rw[OpenClaim.pre_eq_preRow];exact lifted os started H enc F)
theorem plain(f:FuncId)(fn:Func)(hf:Tryz.pinned.checked.prog.funcNamed "cooperage/cooperagelaw16.ListingTells" =some f)(hfn:Tryz.pinned.checked.prog.funcs[f]? =some fn):true=Tryz.pinned.checked.prog.looks []∧∀(j:Nat)t,fn.params[j]? =some t→Tryz.pinned.checked.prog.wantsStandIn t=false:=by
 obtain rfl:f=4:=Option.some.inj ((show Tryz.prog.funcNamed "cooperage/cooperagelaw16.ListingTells" =some 4 by kernel_rfl).symm.trans hf)|>.symm
 obtain rfl:fn=Tryz.f4:=(Option.some.inj (Tryz.func4.symm.trans hfn)).symm
 refine⟨by kernel_rfl,fun j t ht=> ?_⟩
 rw[Tryz.params4]at ht
 have hm:=Array.mem_of_getElem? ht
 simp only[List.mem_toArray,List.mem_cons,List.not_mem_nil,or_false]at hm
 rcases hm with rfl|rfl
 ·exact(show Tryz.prog.wantsStandIn 47=false by kernel_rfl)
 ·exact(show Tryz.prog.wantsStandIn 49=false by kernel_rfl)
theorem listingTells_holds:Rows.ListingTellsCardSaid:=Claim7.holds_tied_plain_at .later [] _ _ _ _ said (fun _ h=>by cases h) (by kernel_rfl) (fun _ h=>by cases h) listingTells_row_tie rfl ⟨rfl,rfl⟩ (by kernel_rfl) rfl plain (by kernel_rfl)
end Go.Proofs.YtaokjeokpifjgaaGreatDoor.listingTells
