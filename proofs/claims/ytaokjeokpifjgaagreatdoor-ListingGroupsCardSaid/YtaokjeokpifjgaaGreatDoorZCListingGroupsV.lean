/-
  ListingGroups: of what is told with a delimiter no entry has it behind the prefix; each group ends with it and has it there alone; each item that is not told as an entry begins with exactly one group.
-/
import Derived.Test.YtaokjeokpifjgaaGreatDoorSCListingGroupsV
import Derived.Test.YtaokjeokpifjgaaGreatDoorCards
import Derived.Test.YtaokjeokpifjgaaGreatDoorTie
import Derived.Deep.DeepHandedRow
import Derived.Lib.LaidTab
import Derived.Lib.SmallJoins
set_option maxRecDepth 100000
set_option maxHeartbeats 4000000
namespace Go.Proofs.YtaokjeokpifjgaaGreatDoor.listingGroups
open Go.ChangeShapes Go.WideShapes Go.ChangeAt Go.RowKit Go.Joins
theorem contract(H:Type)(enc:TypeId×Value→H)(W:World)(base:Nat)(args:Array Value)(ds gs:List (DataW H))(before:List MemPlace)(hval0:∀(j:Nat)t v,Tryz.f7.params[j]? =some t→args[j]? =some v→Value.okWide Tryz.prog W .any base t v)(hW:DataW.Whole enc Tryz.prog Tryz.f7.params.toList Rows.listingGroupsSpec.vars false W args.toList ds gs before)(hsh:W.ShapedOpen Tryz.prog):Calls Tryz.prog 7 args W fun e W'=>∃v,e= .returned v∧Rows.listingGroupsSpec.post enc Tryz.prog Tryz.f7 false true false false W args v W':=by
 have hval:=hval0
 have hW':=hW
 obtain⟨p,q,hA0,hV,rfl,hfz,hnd⟩:=hW
 have hA:DataW.TrodAll enc Tryz.prog W 0 (fun _=>true) true Tryz.f7.params.toList args.toList ds p:=hA0
 rw[Tryz.params7]at hA hval
 obtain⟨v0,v1,v2,d0,d1,d2,p0,p1,p2,hargs,rfl,rfl,h0,h1,h2⟩:=trodAll_three hA
 obtain rfl:args= #[v0,v1,v2]:=by cases args;simp_all
 obtain⟨rfl,rfl⟩:=trodVars_none hV
 obtain⟨A0,hL0⟩:=zDl (hval 0 47 v0 rfl rfl) h0
 obtain⟨a1,hv1,_,_,_⟩:=Go.ChangeMaps.open_string Tryz.underlying9 (hval 1 9 v1 rfl rfl) h1
 subst hv1
 obtain⟨a2,hv2,_,_,_⟩:=Go.ChangeMaps.open_string Tryz.underlying9 (hval 2 9 v2 rfl rfl) h2
 subst hv2
 clear hA0 hval0
 simp only[List.append_nil,Qa]at hW'
 refine(zUx W (zKV hsh) hL0).mono fun e W'⟨he,hb⟩=> ?_
 subst he
 exact⟨_,rfl,zL5 Tryz.params7 rfl rfl rfl hW' h0 h1 h2 (by kernel_rfl) (of_decide_eq_true (by kernel_rfl)) (by kernel_rfl) (of_decide_eq_true (by kernel_rfl)) (by kernel_rfl) (of_decide_eq_true (by kernel_rfl)) hb⟩
def acceptRow:List Int:=[128,191,160,191,128,159,144,191,128,143,0,0,0,0,0,0,0,0,0,0,0,0,0,0,0,0,0,0,0,0,0,0]
noncomputable def laidWorld(os:Os):World:=let w0:=World.holding Tryz.prog os ⟨#[],#[],[]⟩;let put(h:Array Obj)(g:Nat)(cs:Array Value):Array Obj:=h.modify g fun| .cells _ t frozen=>.cells cs t frozen|o=>o;let h1:=put w0.heap 2 (acceptRow.map fun z=>Value.int .u8 z).toArray;let h2:=put h1 1 (Go.Pinned.utf8FirstZ.map fun(z:Nat)=>Value.int .u8 (z:Int)).toArray;{w0 with heap:=h2}
theorem laid_met(os:Os):laidMet Tryz.prog Rows.listingGroupsRow.laid ((laidWorld os).forCall (fun _ _=>0) ⟨#[],#[.slice none 0 0,.string .empty,.string .empty],[]⟩).memory:=laidMet_of_run' 8 (by kernel_rfl) (by kernel_rfl)
theorem reads(os:Os){H:Type}(enc:TypeId×Value→H):∃places,DataW.whole enc Tryz.prog ((laidWorld os).forCall (fun _ _=>0) ⟨#[],#[.slice none 0 0,.string .empty,.string .empty],[]⟩).memory Tryz.f7.params.toList Rows.listingGroupsSpec.vars false (#[.slice none 0 0,.string .empty,.string .empty]:Array Value).toList 8=some ([.nil,.lit (.string []),.lit (.string [])],[],places):=⟨[],by kernel_rfl⟩
theorem lifted (os : Os) (started : os.Started) (H : Type) (enc : TypeId × Value → H) (F : Stop.Interp) :
    ReturnsInHanded {} Tryz.checked os 7 .any ((OpenSpec.ofChange Rows.listingGroupsSpec).preRow enc Tryz.prog Tryz.f7 Rows.listingGroupsRow.domain false Rows.listingGroupsRow.laid) (((OpenSpec.ofChange Rows.listingGroupsSpec).at F).post enc Tryz.prog Tryz.f7 false true false false) := by
  obtain ⟨places, hx⟩ := reads os enc
  refine returnsInHanded_of_row (C := Tryz.checked) (s := OpenSpec.ofChange Rows.listingGroupsSpec) Tryz.own started (by kernel_rfl) Tryz.func7
    (witness_row_at (enc := enc) (C := Tryz.checked) false (laidWorld os) #[.slice none 0 0, .string .empty, .string .empty] rfl (by kernel_rfl) (by kernel_rfl) (by kernel_rfl)
      (OpenSpec.preRow_of_cond 8 hx (by kernel_rfl) (fun k hk => by cases hk) (by kernel_rfl) (laid_met os))) ?_
  intro W base args ds gs before hval hW _ _ _ _ hsh _
  exact contract H enc W base args ds gs before hval hW hsh
theorem closed:joinedFacts Tryz.prog 7 Tryz.f7 (OpenSpec.ofChange Rows.listingGroupsSpec).bare Rows.listingGroupsRow=true:=by
 unfold joinedFacts
 simp only[Bool.and_eq_true]
 and_intros
 all_goals(as_aux_lemma=>kernel_rfl)
theorem wrapper:Tryz.f7.isWrapper Tryz.prog Rows.listingGroupsRow.wrapper Rows.listingGroupsRow.mainSum:=by
 unfold Func.isWrapper
 first|(rw[if_pos (by decide+kernel)];kernel_rfl)|(rw[if_neg (by decide+kernel)];exact⟨rfl,rfl⟩)
theorem named:Tryz.prog.funcNamed "cooperage/cooperagelaw16.ListingGroups" =some 7:=by
 kernel_rfl
theorem origin:Tryz.f7.isInstance Tryz.prog Rows.listingGroupsRow.origin Rows.listingGroupsRow.targs:=of_decide_eq_true (by kernel_rfl)
theorem said:Rows.ListingGroupsSaid:=OpenClaim.holds_of_cond 7 Tryz.f7 rfl rfl rfl rfl rfl rfl rfl ⟨rfl,rfl,rfl,rfl,rfl⟩ rfl rfl rfl rfl rfl named Tryz.func7 closed origin wrapper (fun os started H enc _ F=>by rw[OpenClaim.pre_eq_preRow];exact lifted os started H enc F)
theorem plain(f:FuncId)(fn:Func)(hf:Tryz.pinned.checked.prog.funcNamed "cooperage/cooperagelaw16.ListingGroups" =some f)(hfn:Tryz.pinned.checked.prog.funcs[f]? =some fn):true=Tryz.pinned.checked.prog.looks []∧∀(j:Nat)t,fn.params[j]? =some t→Tryz.pinned.checked.prog.wantsStandIn t=false:=by
 obtain rfl:f=7:=Option.some.inj ((show Tryz.prog.funcNamed "cooperage/cooperagelaw16.ListingGroups" =some 7 by kernel_rfl).symm.trans hf)|>.symm
 obtain rfl:fn=Tryz.f7:=(Option.some.inj (Tryz.func7.symm.trans hfn)).symm
 refine⟨by kernel_rfl,fun j t ht=> ?_⟩
 rw[Tryz.params7]at ht
 have hm:=Array.mem_of_getElem? ht
 simp only[List.mem_toArray,List.mem_cons,List.not_mem_nil,or_false]at hm
 rcases hm with rfl|rfl|rfl
 ·exact(show Tryz.prog.wantsStandIn 47=false by kernel_rfl)
 ·exact(show Tryz.prog.wantsStandIn 9=false by kernel_rfl)
 ·exact(show Tryz.prog.wantsStandIn 9=false by kernel_rfl)
theorem listingGroups_holds:Rows.ListingGroupsCardSaid:=Claim7.holds_tied_plain_at .later [] _ _ _ _ said (fun _ h=>by cases h) (by kernel_rfl) (fun _ h=>by cases h) listingGroups_row_tie rfl ⟨rfl,rfl⟩ (by kernel_rfl) rfl plain (by kernel_rfl)
end Go.Proofs.YtaokjeokpifjgaaGreatDoor.listingGroups
